import Derived.Test.YtpddngcgajjacaaL29O
set_option linter.unusedSimpArgs false
set_option linter.unusedVariables false
namespace Go.Proofs.Ytpddngcgajjacaa
open Go.Zz


theorem QR.get {n0 : Nat} {H : Hp} {x : AV} {ps : List Pkt} (h : QR n0 H x ps) (hne : ps ≠ []) : ∃ f g rest, x = .sref f g 0 3 ps.length none ∧ n0 ≤ f ∧ Zz.look H f g = some (pcells ps ++ rest) := by
  rcases h with ⟨_, h⟩ | ⟨f, _, h, _⟩ | h
  · exact absurd h hne
  · exact absurd h hne
  · exact h

theorem SS.know2 {n0 k : Nat} {H M : Hp} {C : List AV} {F : List (Nat × List AV)} {f b : AV} {fs bs : List Pkt} (h : SS n0 k H M C F f b fs bs) {c0 c1 : List AV} : SS n0 k H (M ++ [some (Blk.mk 0 c0), some (Blk.mk 0 c1)]) C ((M.length, c0) :: (M.length + 1, c1) :: F) f b fs bs := by
  have h0 := h.know (R := [some (Blk.mk 0 c0), some (Blk.mk 0 c1)]) (j := 0) (c := c0) rfl
  have h1 := h.know (R := [some (Blk.mk 0 c0), some (Blk.mk 0 c1)]) (j := 1) (c := c1) rfl
  refine ⟨h1.c, h1.nk, fun e he => ?_, h1.hf, h1.hb, h1.apart, h1.same, h1.kn⟩
  simp only [List.mem_cons] at he
  rcases he with rfl | he
  · exact h0.fr (M.length + 0, c0) (by simp)
  · exact h1.fr e (by simpa using he)

set_option maxRecDepth 20000 in
set_option maxHeartbeats 1000000 in
theorem rstep1 {H : Hp} {L : List (Option ALoop)} {n0 hd s : Nat} {X : RunSt} {bs : List Int} {q g f b bd : AV} (hR : RR n0 H bs X hd q g f b) (hn0 : n0 ≤ H.length) (hbd : IntS bd bs) (hsm : Sm X) (hs63 : s < 9223372036854775808) (hbl : bs.length ≤ 1000) (e8 : s % 8 = 1) :
    WF Gq (.func 38 [] []) [.agg [.int .i64 X.seq, q, g, f, b, .int .i64 (hd : Nat)], bd, .int .i64 (s : Nat)] ⟨H, L⟩ fun y m' => Done n0 H L bs (stepM X s) y m' := by
  by_cases h0 : X.forth = []
  · have hX : stepM X s = X := by
      have e1 : stepM X s = arriveM X (s / 8) false := by unfold stepM; simp only [e8]
      rw [e1]
      unfold arriveM
      rw [h0, takeAt_nil]
      cases X
      simp only at h0
      subst h0
      rfl
    have hz0 : ((X.forth.length : Int) == 0) = true := by rw [h0]; rfl
    generalize hk : H.length = k
    have hS : SS n0 k H (H ++ [some (Blk.mk 0 [.int .i64 X.seq, q, g, f, b, .int .i64 (hd : Nat)]), some (Blk.mk 0 [.int .i64 0, .snil, .snil, .snil, .snil, .int .i64 0])]) [.int .i64 X.seq, q, g, f, b, .int .i64 (hd : Nat)] [(k + 1, [.int .i64 0, .snil, .snil, .snil, .snil, .int .i64 0])] f b X.forth X.back := by
      refine ⟨by rw [← hk]; exact look2.1, ⟨fun e => ?_, fun e => ?_⟩, fun e he => ?_, hR.hf.app _, hR.hb.app _, hR.apart, (Same.app _).weaken hn0 (fun _ _ h => h), by omega⟩
      · have := hR.hf.own e; omega
      · have := hR.hb.own e; omega
      · simp only [List.mem_cons, List.not_mem_nil, or_false] at he
        subst he
        exact ⟨by rw [← hk]; exact look2.2, fun e => by have := hR.hf.own e; simp only at this; omega, fun e => by have := hR.hb.own e; simp only at this; omega, by simp⟩
    have h80 : ((8 : Int) = 0) = False := by simp
    have hrem : Int.tmod (s : Int) 8 = 1 := by
      have e1 : Int.tmod (s : Int) 8 = ((s % 8 : Nat) : Int) := rfl
      rw [e1, e8]
      rfl
    have hquo : IntKind.wrap .i64 (Int.tdiv (s : Int) 8) = ((s / 8 : Nat) : Int) := by
      have e : Int.tdiv (s : Int) 8 = ((s / 8 : Nat) : Int) := rfl
      rw [e, wrap_id (by omega) (by omega)]
    have hqc := hR.hq.cells
    have hgc := hR.hg.cells
    have hfc := hR.hf.cells
    have hbc := hR.hb.cells
    simp only [AV.cells] at hqc hgc hfc hbc
    have h1 := hsm.seq
    have h2 := hsm.queue
    have h3 := hsm.got
    have h4 := hsm.forth
    have h5 := hsm.back
    refine WF.fn rfl (fn_of Try.func38 cir38) (by show 3 ≤ 135; decide) ?_
    unfold ir38
    simp only [padTo, List.replicate, List.nil_append, List.append_nil, List.cons_append]
    refine WC.seq (WC.region ?_)
    repeat (first
      | (refine WO.yes rfl ?_)
      | (refine WO.no rfl ?_; simp only [pt])
      | (refine WO.op (by intro; simp only [go_sem, fillP, over, cut, nilCheckAV]; rfl) ?_; simp only [pt])
      | (refine WO.op (by intro; exact ev_lenS rfl) ?_; simp only [pt])
      | (refine WO.opN (by intro; simp only [go_sem, storeAt, Option.bind_eq_bind, over, setBlk, cut]; rfl) ?_))
    simp only [List.append_assoc, List.cons_append, List.nil_append, List.length_append, List.length_cons, List.length_nil, Nat.zero_add, hk]
    refine WO.nil ?_
    simp only [Then]
    generalize H ++ [some (Blk.mk 0 [.int .i64 X.seq, q, g, f, b, .int .i64 (hd : Nat)]), some (Blk.mk 0 [.int .i64 0, .snil, .snil, .snil, .snil, .int .i64 0])] = M at hS ⊢
    refine WC.seq (WC.region ?_)
    repeat (first
      | (refine WO.yes rfl ?_)
      | (refine WO.no rfl ?_; simp only [pt])
      | (refine WO.op (by intro; simp only [go_sem, fillP, over, cut, nilCheckAV, h80, hrem]; rfl) ?_; simp only [pt])
      | (refine WO.op (by intro; exact ev_lenS rfl) ?_; simp only [pt])
      | (refine WO.opN (by intro; simp only [go_sem, storeAt, Option.bind_eq_bind, over, setBlk, cut, h80, hrem]; rfl) ?_))
    refine WO.nil ?_
    simp only [Then]
    refine WC.seq (WC.seq (WC.region ?_))
    repeat (first
      | (refine WO.yes rfl ?_)
      | (refine WO.no rfl ?_; simp only [pt])
      | (refine WO.op (by intro; simp only [go_sem, fillP, over, cut, nilCheckAV]; rfl) ?_; simp only [pt])
      | (refine WO.op (by intro; exact ev_lenS rfl) ?_; simp only [pt])
      | (refine WO.opN (by intro; simp only [go_sem, storeAt, Option.bind_eq_bind, over, setBlk, cut]; rfl) ?_))
    refine WO.nil ?_
    simp only [Then]
    refine WC.no rfl (WC.skip ?_)
    simp only [Then]
    refine WC.seq (WC.seq (WC.region ?_))
    repeat (first
      | (refine WO.yes rfl ?_)
      | (refine WO.no rfl ?_; simp only [pt])
      | (refine WO.op (by intro; simp only [go_sem, fillP, over, cut, nilCheckAV]; rfl) ?_; simp only [pt])
      | (refine WO.op (by intro; exact ev_lenS rfl) ?_; simp only [pt])
      | (refine WO.opN (by intro; simp only [go_sem, storeAt, Option.bind_eq_bind, over, setBlk, cut]; rfl) ?_))
    refine WO.nil ?_
    simp only [Then]
    refine WC.no rfl (WC.skip ?_)
    simp only [Then]
    refine WC.seq (WC.seq (WC.region ?_))
    repeat (first
      | (refine WO.yes rfl ?_)
      | (refine WO.no rfl ?_; simp only [pt])
      | (refine WO.op (by intro; simp only [go_sem, fillP, over, cut, nilCheckAV]; rfl) ?_; simp only [pt])
      | (refine WO.op (by intro; exact ev_lenS rfl) ?_; simp only [pt])
      | (refine WO.opN (by intro; simp only [go_sem, storeAt, Option.bind_eq_bind, over, setBlk, cut]; rfl) ?_))
    refine WO.nil ?_
    simp only [Then]
    refine WC.yes rfl (WC.seq (WC.seq (WC.region ?_)))
    have hC := hS.c
    repeat (first
      | (refine WO.yes rfl ?_)
      | (refine WO.no rfl ?_; simp only [pt])
      | (refine WO.op (by intro; simp only [go_sem, fillP, over, cut, nilCheckAV, hC]; rfl) ?_; simp only [pt])
      | (refine WO.op (by intro; exact ev_lenS rfl) ?_; simp only [pt])
      | (refine WO.opN (by intro; simp only [go_sem, storeAt, Option.bind_eq_bind, over, setBlk, cut, hC]; rfl) ?_))
    refine WO.op (by intro; exact ev_lenS (n := X.forth.length) (by simp only [go_sem]; exact hR.hf.len)) ?_
    simp only [pt]
    repeat (first
      | (refine WO.yes rfl ?_)
      | (refine WO.no rfl ?_; simp only [pt])
      | (refine WO.op (by intro; simp only [go_sem, fillP, over, cut, nilCheckAV, hz0]; rfl) ?_; simp only [pt])
      | (refine WO.op (by intro; exact ev_lenS rfl) ?_; simp only [pt])
      | (refine WO.opN (by intro; simp only [go_sem, storeAt, Option.bind_eq_bind, over, setBlk, cut, hz0]; rfl) ?_))
    refine WO.nil ?_
    simp only [Then]
    refine WC.yes (by simp only [go_sem, hz0]) ?_
    refine WC.seq (WC.region ?_)
    have hC := hS.c
    have hz := hS.at (j := k + 1) (c := [.int .i64 0, .snil, .snil, .snil, .snil, .int .i64 0]) (by simp)
    have hlt := look_lt hz
    repeat (first
      | (refine WO.yes rfl ?_)
      | (refine WO.no rfl ?_; simp only [pt])
      | (refine WO.op (by intro; simp only [go_sem, fillP, over, cut, nilCheckAV, hC, hz]; rfl) ?_; simp only [pt])
      | (refine WO.op (by intro; exact ev_lenS rfl) ?_; simp only [pt])
      | (refine WO.opN (by intro; simp only [go_sem, storeAt, Option.bind_eq_bind, over, setBlk, cut, hC, hz]; rfl) ?_))
    simp only [List.take, List.drop, List.nil_append, List.append_nil, List.cons_append, List.length_cons, List.length_nil, Nat.zero_add, Nat.reduceAdd, setBlk]
    refine WO.nil ?_
    simp only [Then]
    refine WC.ret ⟨[.agg [.int .i64 X.seq, q, g, f, b, .int .i64 (hd : Nat)]], ?_, ?_⟩
    · simp only [evRes, gt, look_set hlt, Option.bind_some, loadCs, if_true, cut, Option.map_some]
      rfl
    · rw [hX]
      exact SS.fin (X' := X) (c := [.int .i64 0, .snil, .snil, .snil, .snil, .int .i64 0]) hS (by simp) _ hR.hq hR.hg hR.left hR.hdle

  · have hpos : 0 < X.forth.length := List.length_pos_iff.2 h0
    have hi : s / 8 % X.forth.length < X.forth.length := Nat.mod_lt _ hpos
    have hz0 : ((X.forth.length : Int) == 0) = false := by simp; exact h0
    have hn0' : ((X.forth.length : Int) = 0) = False := by simp; exact h0
    have hmod : Int.tmod ((s / 8 : Nat) : Int) (X.forth.length : Int) = ((s / 8 % X.forth.length : Nat) : Int) := rfl
    have hta : takeAt X.forth (s / 8) false = (some X.forth[s / 8 % X.forth.length], (X.forth.eraseIdx (s / 8 % X.forth.length))) := by
      unfold takeAt
      rw [List.getElem?_eq_getElem hi]
      rfl
    have hcell : ∀ rest, ((pcells X.forth ++ rest).drop ((s / 8 % X.forth.length) * 3)).take 3 = pk X.forth[s / 8 % X.forth.length] := fun rest => pcells_at hi
    generalize hpp : X.forth[s / 8 % X.forth.length] = p at hta hcell
    have hX : stepM X s = { X with forth := (X.forth.eraseIdx (s / 8 % X.forth.length)), got := (takeM X.got p).1, back := X.back ++ [(takeM X.got p).2] } := by
      have e1 : stepM X s = arriveM X (s / 8) false := by unfold stepM; simp only [e8]
      rw [e1]
      unfold arriveM
      rw [hta]
    obtain ⟨v, hv, huse⟩ := rtake_eq (p := p) hR.hg (by have := hsm.got; omega)
    generalize (takeM X.got p).1 = got' at hX hv
    generalize (takeM X.got p).2 = ack at hX huse
    obtain ⟨aa, asq, ab⟩ := ack
    have hvc := hv.cells
    simp only [AV.cells] at hvc
    obtain ⟨pa, psq, pb⟩ := p
    simp only [pk] at hcell huse
    generalize hk : H.length = k
    have hS : SS n0 k H (H ++ [some (Blk.mk 0 [.int .i64 X.seq, q, g, f, b, .int .i64 (hd : Nat)]), some (Blk.mk 0 [.int .i64 0, .snil, .snil, .snil, .snil, .int .i64 0])]) [.int .i64 X.seq, q, g, f, b, .int .i64 (hd : Nat)] [(k + 1, [.int .i64 0, .snil, .snil, .snil, .snil, .int .i64 0])] f b X.forth X.back := by
      refine ⟨by rw [← hk]; exact look2.1, ⟨fun e => ?_, fun e => ?_⟩, fun e he => ?_, hR.hf.app _, hR.hb.app _, hR.apart, (Same.app _).weaken hn0 (fun _ _ h => h), by omega⟩
      · have := hR.hf.own e; omega
      · have := hR.hb.own e; omega
      · simp only [List.mem_cons, List.not_mem_nil, or_false] at he
        subst he
        exact ⟨by rw [← hk]; exact look2.2, fun e => by have := hR.hf.own e; simp only at this; omega, fun e => by have := hR.hb.own e; simp only at this; omega, by simp⟩
    have h80 : ((8 : Int) = 0) = False := by simp
    have hrem : Int.tmod (s : Int) 8 = 1 := by
      have e1 : Int.tmod (s : Int) 8 = ((s % 8 : Nat) : Int) := rfl
      rw [e1, e8]
      rfl
    have hquo : IntKind.wrap .i64 (Int.tdiv (s : Int) 8) = ((s / 8 : Nat) : Int) := by
      have e : Int.tdiv (s : Int) 8 = ((s / 8 : Nat) : Int) := rfl
      rw [e, wrap_id (by omega) (by omega)]
    have hqc := hR.hq.cells
    have hgc := hR.hg.cells
    have hfc := hR.hf.cells
    have hbc := hR.hb.cells
    simp only [AV.cells] at hqc hgc hfc hbc
    have h1 := hsm.seq
    have h2 := hsm.queue
    have h3 := hsm.got
    have h4 := hsm.forth
    have h5 := hsm.back
    refine WF.fn rfl (fn_of Try.func38 cir38) (by show 3 ≤ 135; decide) ?_
    unfold ir38
    simp only [padTo, List.replicate, List.nil_append, List.append_nil, List.cons_append]
    refine WC.seq (WC.region ?_)
    repeat (first
      | (refine WO.yes rfl ?_)
      | (refine WO.no rfl ?_; simp only [pt])
      | (refine WO.op (by intro; simp only [go_sem, fillP, over, cut, nilCheckAV]; rfl) ?_; simp only [pt])
      | (refine WO.op (by intro; exact ev_lenS rfl) ?_; simp only [pt])
      | (refine WO.opN (by intro; simp only [go_sem, storeAt, Option.bind_eq_bind, over, setBlk, cut]; rfl) ?_))
    simp only [List.append_assoc, List.cons_append, List.nil_append, List.length_append, List.length_cons, List.length_nil, Nat.zero_add, hk]
    refine WO.nil ?_
    simp only [Then]
    generalize H ++ [some (Blk.mk 0 [.int .i64 X.seq, q, g, f, b, .int .i64 (hd : Nat)]), some (Blk.mk 0 [.int .i64 0, .snil, .snil, .snil, .snil, .int .i64 0])] = M at hS ⊢
    refine WC.seq (WC.region ?_)
    repeat (first
      | (refine WO.yes rfl ?_)
      | (refine WO.no rfl ?_; simp only [pt])
      | (refine WO.op (by intro; simp only [go_sem, fillP, over, cut, nilCheckAV, h80, hrem]; rfl) ?_; simp only [pt])
      | (refine WO.op (by intro; exact ev_lenS rfl) ?_; simp only [pt])
      | (refine WO.opN (by intro; simp only [go_sem, storeAt, Option.bind_eq_bind, over, setBlk, cut, h80, hrem]; rfl) ?_))
    refine WO.nil ?_
    simp only [Then]
    refine WC.seq (WC.seq (WC.region ?_))
    repeat (first
      | (refine WO.yes rfl ?_)
      | (refine WO.no rfl ?_; simp only [pt])
      | (refine WO.op (by intro; simp only [go_sem, fillP, over, cut, nilCheckAV]; rfl) ?_; simp only [pt])
      | (refine WO.op (by intro; exact ev_lenS rfl) ?_; simp only [pt])
      | (refine WO.opN (by intro; simp only [go_sem, storeAt, Option.bind_eq_bind, over, setBlk, cut]; rfl) ?_))
    refine WO.nil ?_
    simp only [Then]
    refine WC.no rfl (WC.skip ?_)
    simp only [Then]
    refine WC.seq (WC.seq (WC.region ?_))
    repeat (first
      | (refine WO.yes rfl ?_)
      | (refine WO.no rfl ?_; simp only [pt])
      | (refine WO.op (by intro; simp only [go_sem, fillP, over, cut, nilCheckAV]; rfl) ?_; simp only [pt])
      | (refine WO.op (by intro; exact ev_lenS rfl) ?_; simp only [pt])
      | (refine WO.opN (by intro; simp only [go_sem, storeAt, Option.bind_eq_bind, over, setBlk, cut]; rfl) ?_))
    refine WO.nil ?_
    simp only [Then]
    refine WC.no rfl (WC.skip ?_)
    simp only [Then]
    refine WC.seq (WC.seq (WC.region ?_))
    repeat (first
      | (refine WO.yes rfl ?_)
      | (refine WO.no rfl ?_; simp only [pt])
      | (refine WO.op (by intro; simp only [go_sem, fillP, over, cut, nilCheckAV]; rfl) ?_; simp only [pt])
      | (refine WO.op (by intro; exact ev_lenS rfl) ?_; simp only [pt])
      | (refine WO.opN (by intro; simp only [go_sem, storeAt, Option.bind_eq_bind, over, setBlk, cut]; rfl) ?_))
    refine WO.nil ?_
    simp only [Then]
    refine WC.yes rfl (WC.seq (WC.seq (WC.region ?_)))
    have hC := hS.c
    repeat (first
      | (refine WO.yes rfl ?_)
      | (refine WO.no rfl ?_; simp only [pt])
      | (refine WO.op (by intro; simp only [go_sem, fillP, over, cut, nilCheckAV, hC]; rfl) ?_; simp only [pt])
      | (refine WO.op (by intro; exact ev_lenS rfl) ?_; simp only [pt])
      | (refine WO.opN (by intro; simp only [go_sem, storeAt, Option.bind_eq_bind, over, setBlk, cut, hC]; rfl) ?_))
    refine WO.op (by intro; exact ev_lenS (n := X.forth.length) (by simp only [go_sem]; exact hR.hf.len)) ?_
    simp only [pt]
    repeat (first
      | (refine WO.yes rfl ?_)
      | (refine WO.no rfl ?_; simp only [pt])
      | (refine WO.op (by intro; simp only [go_sem, fillP, over, cut, nilCheckAV, hz0]; rfl) ?_; simp only [pt])
      | (refine WO.op (by intro; exact ev_lenS rfl) ?_; simp only [pt])
      | (refine WO.opN (by intro; simp only [go_sem, storeAt, Option.bind_eq_bind, over, setBlk, cut, hz0]; rfl) ?_))
    refine WO.nil ?_
    simp only [Then]
    refine WC.no (by simp only [go_sem, hz0]) (WC.skip ?_)
    simp only [Then]
    obtain ⟨ff, gg, rest, hfe, hfn, hl⟩ := hS.hf.get h0
    have hlenl : (s / 8 % X.forth.length) * 3 + 3 ≤ (pcells X.forth ++ rest).length := by rw [List.length_append, pcells_len]; omega
    have hidx : indexAddrAV 3 f (.int .i64 ((s / 8 % X.forth.length : Nat) : Int)) = some (.pref ff gg ((s / 8 % X.forth.length) * 3)) := by
      rw [hfe]
      simp only [indexAddrAV, if_true, idx]
      rw [if_pos ⟨by omega, by omega⟩]
      simp only [Option.map_some, Int.toNat_natCast, Nat.zero_add]
    have hld : loadAV M true 3 (.pref ff gg ((s / 8 % X.forth.length) * 3)) = some (.agg [.bool pa, .int .i64 psq, .int .i64 pb]) := by
      simp only [loadAV, hl, Option.bind_some, loadCs, if_true, cut]
      rw [if_pos hlenl, hcell]
      rfl
    refine WC.seq (WC.region ?_)
    repeat (first
      | (refine WO.yes rfl ?_)
      | (refine WO.no rfl ?_; simp only [pt])
      | (refine WO.op (by intro; simp only [go_sem, fillP, over, cut, nilCheckAV, hC, hquo, h80]; rfl) ?_; simp only [pt])
      | (refine WO.op (by intro; exact ev_lenS rfl) ?_; simp only [pt])
      | (refine WO.opN (by intro; simp only [go_sem, storeAt, Option.bind_eq_bind, over, setBlk, cut, hC, hquo, h80]; rfl) ?_))
    refine WO.op (by intro; exact ev_lenS (n := X.forth.length) (by simp only [go_sem]; exact hS.hf.len)) ?_
    simp only [pt]
    repeat (first
      | (refine WO.yes rfl ?_)
      | (refine WO.no rfl ?_; simp only [pt])
      | (refine WO.op (by intro; simp only [go_sem, fillP, over, cut, nilCheckAV, hn0', hmod]; rfl) ?_; simp only [pt])
      | (refine WO.op (by intro; exact ev_lenS rfl) ?_; simp only [pt])
      | (refine WO.opN (by intro; simp only [go_sem, storeAt, Option.bind_eq_bind, over, setBlk, cut, hn0', hmod]; rfl) ?_))
    refine WO.nil ?_
    simp only [Then]
    refine WC.seq (WC.region ?_)
    repeat (first
      | (refine WO.yes rfl ?_)
      | (refine WO.no rfl ?_; simp only [pt])
      | (refine WO.op (by intro; simp only [go_sem, fillP, over, cut, nilCheckAV, hC]; rfl) ?_; simp only [pt])
      | (refine WO.op (by intro; exact ev_lenS rfl) ?_; simp only [pt])
      | (refine WO.opN (by intro; simp only [go_sem, storeAt, Option.bind_eq_bind, over, setBlk, cut, hC]; rfl) ?_))
    refine WO.op (by intro; rw [ev_indexAddr]; exact (congrArg (Option.map _) hidx).trans rfl) ?_
    simp only [pt]
    refine WO.op (by intro; rw [ev_load]; exact (congrArg (Option.map _) hld).trans rfl) ?_
    simp only [pt]
    have hlA : ∀ R, Zz.look (M ++ R) ff gg = some (pcells X.forth ++ rest) := fun R => by rw [look_left (look_lt hl)]; exact hl
    have hS1 := hS.know (R := [some (Blk.mk 0 [.bool pa, .int .i64 psq, .int .i64 pb])]) (j := 0) (c := [.bool pa, .int .i64 psq, .int .i64 pb]) rfl
    have hl1 := hlA [some (Blk.mk 0 [.bool pa, .int .i64 psq, .int .i64 pb])]
    have a0 : Zz.look (M ++ [some (Blk.mk 0 [.bool false, .int .i64 0, .int .i64 0])]) M.length 0 = some [.bool false, .int .i64 0, .int .i64 0] := by rw [look_right0]; rfl
    have a2 : ∀ x y, (M ++ [x]).set M.length y = M ++ [y] := fun x y => by rw [List.set_append_right (h := Nat.le_refl _)]; simp
    repeat (first
      | (refine WO.yes rfl ?_)
      | (refine WO.no rfl ?_; simp only [pt])
      | (refine WO.op (by intro; simp only [go_sem, fillP, over, cut, nilCheckAV, a0]; rfl) ?_; simp only [pt])
      | (refine WO.op (by intro; exact ev_lenS rfl) ?_; simp only [pt])
      | (refine WO.opN (by intro; simp only [go_sem, storeAt, Option.bind_eq_bind, over, setBlk, cut, a0]; rfl) ?_))
    simp only [List.take, List.drop, List.nil_append, List.append_nil, List.cons_append, List.length_cons, List.length_nil, Nat.zero_add, Nat.reduceAdd, setBlk]
    simp only [a2]
    refine WO.nil ?_
    simp only [Then]
    generalize hm : M.length = m at hS1 ⊢
    generalize M ++ [some (Blk.mk 0 [.bool pa, .int .i64 psq, .int .i64 pb])] = M1 at hS1 hl1 ⊢
    have hS := hS1
    have hC := hS.c
    refine WC.seq (WC.seq (WC.region ?_))
    repeat (first
      | (refine WO.yes rfl ?_)
      | (refine WO.no rfl ?_; simp only [pt])
      | (refine WO.op (by intro; simp only [go_sem, fillP, over, cut, nilCheckAV]; rfl) ?_; simp only [pt])
      | (refine WO.op (by intro; exact ev_lenS rfl) ?_; simp only [pt])
      | (refine WO.opN (by intro; simp only [go_sem, storeAt, Option.bind_eq_bind, over, setBlk, cut]; rfl) ?_))
    refine WO.nil ?_
    simp only [Then]
    refine WC.yes rfl (WC.region ?_)
    repeat (first
      | (refine WO.yes rfl ?_)
      | (refine WO.no rfl ?_; simp only [pt])
      | (refine WO.op (by intro; simp only [go_sem, fillP, over, cut, nilCheckAV, hC, hfe]; rfl) ?_; simp only [pt])
      | (refine WO.op (by intro; exact ev_lenS rfl) ?_; simp only [pt])
      | (refine WO.opN (by intro; simp only [go_sem, storeAt, Option.bind_eq_bind, over, setBlk, cut, hC, hfe]; rfl) ?_))
    refine WO.call rfl (by simp only [go_sem, List.map, hfe]) ((without_run (Γ := Gq) (L := L) rfl (fn_of Try.func44 cir44) hl1 hi (by have := hsm.forth; omega)).mono ?_)
    rintro y' ⟨M2, L2⟩ ⟨rfl, hsm2, hq2⟩
    have hS := hS.newF hq2 hsm2
    have hC := hS.c
    have hyc := hq2.cells
    simp only [AV.cells] at hyc
    simp only [pt]
    repeat (first
      | (refine WO.yes rfl ?_)
      | (refine WO.no rfl ?_; simp only [pt])
      | (refine WO.op (by intro; simp only [go_sem, fillP, over, cut, nilCheckAV, hC, hyc]; rfl) ?_; simp only [pt])
      | (refine WO.op (by intro; exact ev_lenS rfl) ?_; simp only [pt])
      | (refine WO.opN (by intro; simp only [go_sem, storeAt, Option.bind_eq_bind, over, setBlk, cut, hC, hyc]; rfl) ?_))
    simp only [List.take, List.drop, List.nil_append, List.append_nil, List.cons_append, List.length_cons, List.length_nil, Nat.zero_add, Nat.reduceAdd, setBlk]
    refine WO.nil ?_
    simp only [Then]
    have hS2 := hS.turn [.int .i64 X.seq, q, g, y', b, .int .i64 (hd : Nat)]
    generalize M2.set k (some ⟨0, [.int .i64 X.seq, q, g, y', b, .int .i64 (hd : Nat)]⟩) = M3 at hS2 ⊢
    have hS := hS2
    have hC := hS.c
    have hP := hS.at (j := m + 0) (c := [.bool pa, .int .i64 psq, .int .i64 pb]) (by simp)
    simp only [Nat.add_zero] at hP
    refine WC.seq (WC.seq (WC.region ?_))
    repeat (first
      | (refine WO.yes rfl ?_)
      | (refine WO.no rfl ?_; simp only [pt])
      | (refine WO.op (by intro; simp only [go_sem, fillP, over, cut, nilCheckAV]; rfl) ?_; simp only [pt])
      | (refine WO.op (by intro; exact ev_lenS rfl) ?_; simp only [pt])
      | (refine WO.opN (by intro; simp only [go_sem, storeAt, Option.bind_eq_bind, over, setBlk, cut]; rfl) ?_))
    refine WO.nil ?_
    simp only [Then]
    refine WC.yes rfl (WC.seq (WC.region ?_))
    repeat (first
      | (refine WO.yes rfl ?_)
      | (refine WO.no rfl ?_; simp only [pt])
      | (refine WO.op (by intro; simp only [go_sem, fillP, over, cut, nilCheckAV, hC, hP]; rfl) ?_; simp only [pt])
      | (refine WO.op (by intro; exact ev_lenS rfl) ?_; simp only [pt])
      | (refine WO.opN (by intro; simp only [go_sem, storeAt, Option.bind_eq_bind, over, setBlk, cut, hC, hP]; rfl) ?_))
    refine WO.call rfl rfl (WF.spec rfl (huse _) ?_)
    simp only [pt]
    generalize hm2 : M3.length = m2
    have b0 : Zz.look (M3 ++ [some (Blk.mk 0 [.snil]), some (Blk.mk 0 [.bool false, .int .i64 0, .int .i64 0])]) m2 0 = some [.snil] := by rw [← hm2]; exact look2.1
    have t0 : ∀ x y z, (M3 ++ [x, y]).set m2 z = M3 ++ [z, y] := fun x y z => by rw [← hm2]; exact set2.1
    have b1 : ∀ x, Zz.look (M3 ++ [x, some (Blk.mk 0 [.bool false, .int .i64 0, .int .i64 0])]) (m2 + 1) 0 = some [.bool false, .int .i64 0, .int .i64 0] := fun x => by rw [← hm2]; exact look2.2
    have t1 : ∀ x y z, (M3 ++ [x, y]).set (m2 + 1) z = M3 ++ [x, z] := fun x y z => by rw [← hm2]; exact set2.2
    repeat (first
      | (refine WO.yes rfl ?_)
      | (refine WO.no rfl ?_; simp only [pt])
      | (refine WO.op (by intro; simp only [go_sem, fillP, over, cut, nilCheckAV, hvc]; rfl) ?_; simp only [pt])
      | (refine WO.op (by intro; exact ev_lenS rfl) ?_; simp only [pt])
      | (refine WO.opN (by intro; simp only [go_sem, storeAt, Option.bind_eq_bind, over, setBlk, cut, hvc]; rfl) ?_))
    try simp only [List.append_assoc, List.cons_append, List.nil_append, List.length_append, List.length_cons, List.length_nil, Nat.zero_add, hm2]
    repeat (first
      | (refine WO.yes rfl ?_)
      | (refine WO.no rfl ?_; simp only [pt])
      | (refine WO.op (by intro; simp only [go_sem, fillP, over, cut, nilCheckAV, b0, hvc]; rfl) ?_; simp only [pt])
      | (refine WO.op (by intro; exact ev_lenS rfl) ?_; simp only [pt])
      | (refine WO.opN (by intro; simp only [go_sem, storeAt, Option.bind_eq_bind, over, setBlk, cut, b0, hvc]; rfl) ?_))
    try simp only [List.take, List.drop, List.nil_append, List.append_nil, List.cons_append, List.length_cons, List.length_nil, Nat.zero_add, Nat.reduceAdd, setBlk]
    try simp only [t0]
    repeat (first
      | (refine WO.yes rfl ?_)
      | (refine WO.no rfl ?_; simp only [pt])
      | (refine WO.op (by intro; simp only [go_sem, fillP, over, cut, nilCheckAV, b1]; rfl) ?_; simp only [pt])
      | (refine WO.op (by intro; exact ev_lenS rfl) ?_; simp only [pt])
      | (refine WO.opN (by intro; simp only [go_sem, storeAt, Option.bind_eq_bind, over, setBlk, cut, b1]; rfl) ?_))
    try simp only [List.take, List.drop, List.nil_append, List.append_nil, List.cons_append, List.length_cons, List.length_nil, Nat.zero_add, Nat.reduceAdd, setBlk]
    try simp only [t1]
    repeat (first
      | (refine WO.yes rfl ?_)
      | (refine WO.no rfl ?_; simp only [pt])
      | (refine WO.op (by intro; simp only [go_sem, fillP, over, cut, nilCheckAV]; rfl) ?_; simp only [pt])
      | (refine WO.op (by intro; exact ev_lenS rfl) ?_; simp only [pt])
      | (refine WO.opN (by intro; simp only [go_sem, storeAt, Option.bind_eq_bind, over, setBlk, cut]; rfl) ?_))
    refine WO.nil ?_
    simp only [Then]
    have hSa := hS.know2 (c0 := [v]) (c1 := [.bool aa, .int .i64 asq, .int .i64 ab])
    rw [hm2] at hSa
    generalize M3 ++ [some (Blk.mk 0 [v]), some (Blk.mk 0 [.bool aa, .int .i64 asq, .int .i64 ab])] = M4 at hSa ⊢
    have hS := hSa
    have hC := hS.c
    have hV := hS.at (j := m2) (c := [v]) (by simp)
    refine WC.seq (WC.region ?_)
    repeat (first
      | (refine WO.yes rfl ?_)
      | (refine WO.no rfl ?_; simp only [pt])
      | (refine WO.op (by intro; simp only [go_sem, fillP, over, cut, nilCheckAV, hC, hV, hvc]; rfl) ?_; simp only [pt])
      | (refine WO.op (by intro; exact ev_lenS rfl) ?_; simp only [pt])
      | (refine WO.opN (by intro; simp only [go_sem, storeAt, Option.bind_eq_bind, over, setBlk, cut, hC, hV, hvc]; rfl) ?_))
    simp only [List.take, List.drop, List.nil_append, List.append_nil, List.cons_append, List.length_cons, List.length_nil, Nat.zero_add, Nat.reduceAdd, setBlk]
    refine WO.nil ?_
    simp only [Then]
    have hSb := hS.turn [.int .i64 X.seq, q, v, y', b, .int .i64 (hd : Nat)]
    generalize M4.set k (some ⟨0, [.int .i64 X.seq, q, v, y', b, .int .i64 (hd : Nat)]⟩) = M5 at hSb ⊢
    have hS := hSb
    have hC := hS.c
    have hA := hS.at (j := m2 + 1) (c := [.bool aa, .int .i64 asq, .int .i64 ab]) (by simp)
    have hS6 := hS.app [some (Blk.mk 0 [.bool aa, .int .i64 asq, .int .i64 ab])]
    obtain ⟨b', M7, happ, qb, ob, sb⟩ := qr_app (L := _) (x := .sref M5.length 0 0 3 1 (some 1)) (qs := [(aa, asq, ab)]) hS6.hb hS6.lenM.1 (by have := hsm.back; simp; omega) rfl (by simp only [scells, if_true, look_right0]; rfl)
    have hS7 := hS6.appB qb ob sb
    have hC7 := hS7.c
    have hb7 := qb.cells
    simp only [AV.cells] at hb7
    refine WC.region ?_
    repeat (first
      | (refine WO.yes rfl ?_)
      | (refine WO.no rfl ?_; simp only [pt])
      | (refine WO.op (by intro; simp only [go_sem, fillP, over, cut, nilCheckAV, hC, hA]; rfl) ?_; simp only [pt])
      | (refine WO.op (by intro; exact ev_lenS rfl) ?_; simp only [pt])
      | (refine WO.opN (by intro; simp only [go_sem, storeAt, Option.bind_eq_bind, over, setBlk, cut, hC, hA]; rfl) ?_))
    try simp only [List.take, List.drop, List.nil_append, List.append_nil, List.cons_append, List.length_cons, List.length_nil, Nat.zero_add, Nat.reduceAdd, setBlk]
    refine WO.op (by intro; rw [ev_append]; exact happ) ?_
    simp only [pt]
    repeat (first
      | (refine WO.yes rfl ?_)
      | (refine WO.no rfl ?_; simp only [pt])
      | (refine WO.op (by intro; simp only [go_sem, fillP, over, cut, nilCheckAV, hC7, hb7]; rfl) ?_; simp only [pt])
      | (refine WO.op (by intro; exact ev_lenS rfl) ?_; simp only [pt])
      | (refine WO.opN (by intro; simp only [go_sem, storeAt, Option.bind_eq_bind, over, setBlk, cut, hC7, hb7]; rfl) ?_))
    simp only [List.take, List.drop, List.nil_append, List.append_nil, List.cons_append, List.length_cons, List.length_nil, Nat.zero_add, Nat.reduceAdd, setBlk]
    refine WO.nil ?_
    simp only [Then]
    have hS8 := hS7.turn [.int .i64 X.seq, q, v, y', b', .int .i64 (hd : Nat)]
    generalize M7.set k (some ⟨0, [.int .i64 X.seq, q, v, y', b', .int .i64 (hd : Nat)]⟩) = M8 at hS8 ⊢
    have hS := hS8
    refine WC.seq (WC.region ?_)
    have hC := hS.c
    have hz := hS.at (j := k + 1) (c := [.int .i64 0, .snil, .snil, .snil, .snil, .int .i64 0]) (by simp)
    have hlt := look_lt hz
    repeat (first
      | (refine WO.yes rfl ?_)
      | (refine WO.no rfl ?_; simp only [pt])
      | (refine WO.op (by intro; simp only [go_sem, fillP, over, cut, nilCheckAV, hC, hz]; rfl) ?_; simp only [pt])
      | (refine WO.op (by intro; exact ev_lenS rfl) ?_; simp only [pt])
      | (refine WO.opN (by intro; simp only [go_sem, storeAt, Option.bind_eq_bind, over, setBlk, cut, hC, hz]; rfl) ?_))
    simp only [List.take, List.drop, List.nil_append, List.append_nil, List.cons_append, List.length_cons, List.length_nil, Nat.zero_add, Nat.reduceAdd, setBlk]
    refine WO.nil ?_
    simp only [Then]
    refine WC.ret ⟨[.agg [.int .i64 X.seq, q, v, y', b', .int .i64 (hd : Nat)]], ?_, ?_⟩
    · simp only [evRes, gt, look_set hlt, Option.bind_some, loadCs, if_true, cut, Option.map_some]
      rfl
    · rw [hX]
      exact SS.fin (X' := { X with forth := (X.forth.eraseIdx (s / 8 % X.forth.length)), got := got', back := X.back ++ [(aa, asq, ab)] }) (c := [.int .i64 0, .snil, .snil, .snil, .snil, .int .i64 0]) hS (by simp) _ hR.hq hv hR.left hR.hdle


set_option maxRecDepth 20000 in
set_option maxHeartbeats 1000000 in
theorem rstep2 {H : Hp} {L : List (Option ALoop)} {n0 hd s : Nat} {X : RunSt} {bs : List Int} {q g f b bd : AV} (hR : RR n0 H bs X hd q g f b) (hn0 : n0 ≤ H.length) (hbd : IntS bd bs) (hsm : Sm X) (hs63 : s < 9223372036854775808) (hbl : bs.length ≤ 1000) (e8 : s % 8 = 2) :
    WF Gq (.func 38 [] []) [.agg [.int .i64 X.seq, q, g, f, b, .int .i64 (hd : Nat)], bd, .int .i64 (s : Nat)] ⟨H, L⟩ fun y m' => Done n0 H L bs (stepM X s) y m' := by
  by_cases h0 : X.forth = []
  · have hX : stepM X s = X := by
      have e1 : stepM X s = arriveM X (s / 8) true := by unfold stepM; simp only [e8]
      rw [e1]
      unfold arriveM
      rw [h0, takeAt_nil]
      cases X
      simp only at h0
      subst h0
      rfl
    have hz0 : ((X.forth.length : Int) == 0) = true := by rw [h0]; rfl
    generalize hk : H.length = k
    have hS : SS n0 k H (H ++ [some (Blk.mk 0 [.int .i64 X.seq, q, g, f, b, .int .i64 (hd : Nat)]), some (Blk.mk 0 [.int .i64 0, .snil, .snil, .snil, .snil, .int .i64 0])]) [.int .i64 X.seq, q, g, f, b, .int .i64 (hd : Nat)] [(k + 1, [.int .i64 0, .snil, .snil, .snil, .snil, .int .i64 0])] f b X.forth X.back := by
      refine ⟨by rw [← hk]; exact look2.1, ⟨fun e => ?_, fun e => ?_⟩, fun e he => ?_, hR.hf.app _, hR.hb.app _, hR.apart, (Same.app _).weaken hn0 (fun _ _ h => h), by omega⟩
      · have := hR.hf.own e; omega
      · have := hR.hb.own e; omega
      · simp only [List.mem_cons, List.not_mem_nil, or_false] at he
        subst he
        exact ⟨by rw [← hk]; exact look2.2, fun e => by have := hR.hf.own e; simp only at this; omega, fun e => by have := hR.hb.own e; simp only at this; omega, by simp⟩
    have h80 : ((8 : Int) = 0) = False := by simp
    have hrem : Int.tmod (s : Int) 8 = 2 := by
      have e1 : Int.tmod (s : Int) 8 = ((s % 8 : Nat) : Int) := rfl
      rw [e1, e8]
      rfl
    have hquo : IntKind.wrap .i64 (Int.tdiv (s : Int) 8) = ((s / 8 : Nat) : Int) := by
      have e : Int.tdiv (s : Int) 8 = ((s / 8 : Nat) : Int) := rfl
      rw [e, wrap_id (by omega) (by omega)]
    have hqc := hR.hq.cells
    have hgc := hR.hg.cells
    have hfc := hR.hf.cells
    have hbc := hR.hb.cells
    simp only [AV.cells] at hqc hgc hfc hbc
    have h1 := hsm.seq
    have h2 := hsm.queue
    have h3 := hsm.got
    have h4 := hsm.forth
    have h5 := hsm.back
    refine WF.fn rfl (fn_of Try.func38 cir38) (by show 3 ≤ 135; decide) ?_
    unfold ir38
    simp only [padTo, List.replicate, List.nil_append, List.append_nil, List.cons_append]
    refine WC.seq (WC.region ?_)
    repeat (first
      | (refine WO.yes rfl ?_)
      | (refine WO.no rfl ?_; simp only [pt])
      | (refine WO.op (by intro; simp only [go_sem, fillP, over, cut, nilCheckAV]; rfl) ?_; simp only [pt])
      | (refine WO.op (by intro; exact ev_lenS rfl) ?_; simp only [pt])
      | (refine WO.opN (by intro; simp only [go_sem, storeAt, Option.bind_eq_bind, over, setBlk, cut]; rfl) ?_))
    simp only [List.append_assoc, List.cons_append, List.nil_append, List.length_append, List.length_cons, List.length_nil, Nat.zero_add, hk]
    refine WO.nil ?_
    simp only [Then]
    generalize H ++ [some (Blk.mk 0 [.int .i64 X.seq, q, g, f, b, .int .i64 (hd : Nat)]), some (Blk.mk 0 [.int .i64 0, .snil, .snil, .snil, .snil, .int .i64 0])] = M at hS ⊢
    refine WC.seq (WC.region ?_)
    repeat (first
      | (refine WO.yes rfl ?_)
      | (refine WO.no rfl ?_; simp only [pt])
      | (refine WO.op (by intro; simp only [go_sem, fillP, over, cut, nilCheckAV, h80, hrem]; rfl) ?_; simp only [pt])
      | (refine WO.op (by intro; exact ev_lenS rfl) ?_; simp only [pt])
      | (refine WO.opN (by intro; simp only [go_sem, storeAt, Option.bind_eq_bind, over, setBlk, cut, h80, hrem]; rfl) ?_))
    refine WO.nil ?_
    simp only [Then]
    refine WC.seq (WC.seq (WC.region ?_))
    repeat (first
      | (refine WO.yes rfl ?_)
      | (refine WO.no rfl ?_; simp only [pt])
      | (refine WO.op (by intro; simp only [go_sem, fillP, over, cut, nilCheckAV]; rfl) ?_; simp only [pt])
      | (refine WO.op (by intro; exact ev_lenS rfl) ?_; simp only [pt])
      | (refine WO.opN (by intro; simp only [go_sem, storeAt, Option.bind_eq_bind, over, setBlk, cut]; rfl) ?_))
    refine WO.nil ?_
    simp only [Then]
    refine WC.no rfl (WC.skip ?_)
    simp only [Then]
    refine WC.seq (WC.seq (WC.region ?_))
    repeat (first
      | (refine WO.yes rfl ?_)
      | (refine WO.no rfl ?_; simp only [pt])
      | (refine WO.op (by intro; simp only [go_sem, fillP, over, cut, nilCheckAV]; rfl) ?_; simp only [pt])
      | (refine WO.op (by intro; exact ev_lenS rfl) ?_; simp only [pt])
      | (refine WO.opN (by intro; simp only [go_sem, storeAt, Option.bind_eq_bind, over, setBlk, cut]; rfl) ?_))
    refine WO.nil ?_
    simp only [Then]
    refine WC.no rfl (WC.skip ?_)
    simp only [Then]
    refine WC.seq (WC.seq (WC.region ?_))
    repeat (first
      | (refine WO.yes rfl ?_)
      | (refine WO.no rfl ?_; simp only [pt])
      | (refine WO.op (by intro; simp only [go_sem, fillP, over, cut, nilCheckAV]; rfl) ?_; simp only [pt])
      | (refine WO.op (by intro; exact ev_lenS rfl) ?_; simp only [pt])
      | (refine WO.opN (by intro; simp only [go_sem, storeAt, Option.bind_eq_bind, over, setBlk, cut]; rfl) ?_))
    refine WO.nil ?_
    simp only [Then]
    refine WC.yes rfl (WC.seq (WC.seq (WC.region ?_)))
    have hC := hS.c
    repeat (first
      | (refine WO.yes rfl ?_)
      | (refine WO.no rfl ?_; simp only [pt])
      | (refine WO.op (by intro; simp only [go_sem, fillP, over, cut, nilCheckAV, hC]; rfl) ?_; simp only [pt])
      | (refine WO.op (by intro; exact ev_lenS rfl) ?_; simp only [pt])
      | (refine WO.opN (by intro; simp only [go_sem, storeAt, Option.bind_eq_bind, over, setBlk, cut, hC]; rfl) ?_))
    refine WO.op (by intro; exact ev_lenS (n := X.forth.length) (by simp only [go_sem]; exact hR.hf.len)) ?_
    simp only [pt]
    repeat (first
      | (refine WO.yes rfl ?_)
      | (refine WO.no rfl ?_; simp only [pt])
      | (refine WO.op (by intro; simp only [go_sem, fillP, over, cut, nilCheckAV, hz0]; rfl) ?_; simp only [pt])
      | (refine WO.op (by intro; exact ev_lenS rfl) ?_; simp only [pt])
      | (refine WO.opN (by intro; simp only [go_sem, storeAt, Option.bind_eq_bind, over, setBlk, cut, hz0]; rfl) ?_))
    refine WO.nil ?_
    simp only [Then]
    refine WC.yes (by simp only [go_sem, hz0]) ?_
    refine WC.seq (WC.region ?_)
    have hC := hS.c
    have hz := hS.at (j := k + 1) (c := [.int .i64 0, .snil, .snil, .snil, .snil, .int .i64 0]) (by simp)
    have hlt := look_lt hz
    repeat (first
      | (refine WO.yes rfl ?_)
      | (refine WO.no rfl ?_; simp only [pt])
      | (refine WO.op (by intro; simp only [go_sem, fillP, over, cut, nilCheckAV, hC, hz]; rfl) ?_; simp only [pt])
      | (refine WO.op (by intro; exact ev_lenS rfl) ?_; simp only [pt])
      | (refine WO.opN (by intro; simp only [go_sem, storeAt, Option.bind_eq_bind, over, setBlk, cut, hC, hz]; rfl) ?_))
    simp only [List.take, List.drop, List.nil_append, List.append_nil, List.cons_append, List.length_cons, List.length_nil, Nat.zero_add, Nat.reduceAdd, setBlk]
    refine WO.nil ?_
    simp only [Then]
    refine WC.ret ⟨[.agg [.int .i64 X.seq, q, g, f, b, .int .i64 (hd : Nat)]], ?_, ?_⟩
    · simp only [evRes, gt, look_set hlt, Option.bind_some, loadCs, if_true, cut, Option.map_some]
      rfl
    · rw [hX]
      exact SS.fin (X' := X) (c := [.int .i64 0, .snil, .snil, .snil, .snil, .int .i64 0]) hS (by simp) _ hR.hq hR.hg hR.left hR.hdle

  · have hpos : 0 < X.forth.length := List.length_pos_iff.2 h0
    have hi : s / 8 % X.forth.length < X.forth.length := Nat.mod_lt _ hpos
    have hz0 : ((X.forth.length : Int) == 0) = false := by simp; exact h0
    have hn0' : ((X.forth.length : Int) = 0) = False := by simp; exact h0
    have hmod : Int.tmod ((s / 8 : Nat) : Int) (X.forth.length : Int) = ((s / 8 % X.forth.length : Nat) : Int) := rfl
    have hta : takeAt X.forth (s / 8) true = (some X.forth[s / 8 % X.forth.length], X.forth) := by
      unfold takeAt
      rw [List.getElem?_eq_getElem hi]
      rfl
    have hcell : ∀ rest, ((pcells X.forth ++ rest).drop ((s / 8 % X.forth.length) * 3)).take 3 = pk X.forth[s / 8 % X.forth.length] := fun rest => pcells_at hi
    generalize hpp : X.forth[s / 8 % X.forth.length] = p at hta hcell
    have hX : stepM X s = { X with forth := X.forth, got := (takeM X.got p).1, back := X.back ++ [(takeM X.got p).2] } := by
      have e1 : stepM X s = arriveM X (s / 8) true := by unfold stepM; simp only [e8]
      rw [e1]
      unfold arriveM
      rw [hta]
    obtain ⟨v, hv, huse⟩ := rtake_eq (p := p) hR.hg (by have := hsm.got; omega)
    generalize (takeM X.got p).1 = got' at hX hv
    generalize (takeM X.got p).2 = ack at hX huse
    obtain ⟨aa, asq, ab⟩ := ack
    have hvc := hv.cells
    simp only [AV.cells] at hvc
    obtain ⟨pa, psq, pb⟩ := p
    simp only [pk] at hcell huse
    generalize hk : H.length = k
    have hS : SS n0 k H (H ++ [some (Blk.mk 0 [.int .i64 X.seq, q, g, f, b, .int .i64 (hd : Nat)]), some (Blk.mk 0 [.int .i64 0, .snil, .snil, .snil, .snil, .int .i64 0])]) [.int .i64 X.seq, q, g, f, b, .int .i64 (hd : Nat)] [(k + 1, [.int .i64 0, .snil, .snil, .snil, .snil, .int .i64 0])] f b X.forth X.back := by
      refine ⟨by rw [← hk]; exact look2.1, ⟨fun e => ?_, fun e => ?_⟩, fun e he => ?_, hR.hf.app _, hR.hb.app _, hR.apart, (Same.app _).weaken hn0 (fun _ _ h => h), by omega⟩
      · have := hR.hf.own e; omega
      · have := hR.hb.own e; omega
      · simp only [List.mem_cons, List.not_mem_nil, or_false] at he
        subst he
        exact ⟨by rw [← hk]; exact look2.2, fun e => by have := hR.hf.own e; simp only at this; omega, fun e => by have := hR.hb.own e; simp only at this; omega, by simp⟩
    have h80 : ((8 : Int) = 0) = False := by simp
    have hrem : Int.tmod (s : Int) 8 = 2 := by
      have e1 : Int.tmod (s : Int) 8 = ((s % 8 : Nat) : Int) := rfl
      rw [e1, e8]
      rfl
    have hquo : IntKind.wrap .i64 (Int.tdiv (s : Int) 8) = ((s / 8 : Nat) : Int) := by
      have e : Int.tdiv (s : Int) 8 = ((s / 8 : Nat) : Int) := rfl
      rw [e, wrap_id (by omega) (by omega)]
    have hqc := hR.hq.cells
    have hgc := hR.hg.cells
    have hfc := hR.hf.cells
    have hbc := hR.hb.cells
    simp only [AV.cells] at hqc hgc hfc hbc
    have h1 := hsm.seq
    have h2 := hsm.queue
    have h3 := hsm.got
    have h4 := hsm.forth
    have h5 := hsm.back
    refine WF.fn rfl (fn_of Try.func38 cir38) (by show 3 ≤ 135; decide) ?_
    unfold ir38
    simp only [padTo, List.replicate, List.nil_append, List.append_nil, List.cons_append]
    refine WC.seq (WC.region ?_)
    repeat (first
      | (refine WO.yes rfl ?_)
      | (refine WO.no rfl ?_; simp only [pt])
      | (refine WO.op (by intro; simp only [go_sem, fillP, over, cut, nilCheckAV]; rfl) ?_; simp only [pt])
      | (refine WO.op (by intro; exact ev_lenS rfl) ?_; simp only [pt])
      | (refine WO.opN (by intro; simp only [go_sem, storeAt, Option.bind_eq_bind, over, setBlk, cut]; rfl) ?_))
    simp only [List.append_assoc, List.cons_append, List.nil_append, List.length_append, List.length_cons, List.length_nil, Nat.zero_add, hk]
    refine WO.nil ?_
    simp only [Then]
    generalize H ++ [some (Blk.mk 0 [.int .i64 X.seq, q, g, f, b, .int .i64 (hd : Nat)]), some (Blk.mk 0 [.int .i64 0, .snil, .snil, .snil, .snil, .int .i64 0])] = M at hS ⊢
    refine WC.seq (WC.region ?_)
    repeat (first
      | (refine WO.yes rfl ?_)
      | (refine WO.no rfl ?_; simp only [pt])
      | (refine WO.op (by intro; simp only [go_sem, fillP, over, cut, nilCheckAV, h80, hrem]; rfl) ?_; simp only [pt])
      | (refine WO.op (by intro; exact ev_lenS rfl) ?_; simp only [pt])
      | (refine WO.opN (by intro; simp only [go_sem, storeAt, Option.bind_eq_bind, over, setBlk, cut, h80, hrem]; rfl) ?_))
    refine WO.nil ?_
    simp only [Then]
    refine WC.seq (WC.seq (WC.region ?_))
    repeat (first
      | (refine WO.yes rfl ?_)
      | (refine WO.no rfl ?_; simp only [pt])
      | (refine WO.op (by intro; simp only [go_sem, fillP, over, cut, nilCheckAV]; rfl) ?_; simp only [pt])
      | (refine WO.op (by intro; exact ev_lenS rfl) ?_; simp only [pt])
      | (refine WO.opN (by intro; simp only [go_sem, storeAt, Option.bind_eq_bind, over, setBlk, cut]; rfl) ?_))
    refine WO.nil ?_
    simp only [Then]
    refine WC.no rfl (WC.skip ?_)
    simp only [Then]
    refine WC.seq (WC.seq (WC.region ?_))
    repeat (first
      | (refine WO.yes rfl ?_)
      | (refine WO.no rfl ?_; simp only [pt])
      | (refine WO.op (by intro; simp only [go_sem, fillP, over, cut, nilCheckAV]; rfl) ?_; simp only [pt])
      | (refine WO.op (by intro; exact ev_lenS rfl) ?_; simp only [pt])
      | (refine WO.opN (by intro; simp only [go_sem, storeAt, Option.bind_eq_bind, over, setBlk, cut]; rfl) ?_))
    refine WO.nil ?_
    simp only [Then]
    refine WC.no rfl (WC.skip ?_)
    simp only [Then]
    refine WC.seq (WC.seq (WC.region ?_))
    repeat (first
      | (refine WO.yes rfl ?_)
      | (refine WO.no rfl ?_; simp only [pt])
      | (refine WO.op (by intro; simp only [go_sem, fillP, over, cut, nilCheckAV]; rfl) ?_; simp only [pt])
      | (refine WO.op (by intro; exact ev_lenS rfl) ?_; simp only [pt])
      | (refine WO.opN (by intro; simp only [go_sem, storeAt, Option.bind_eq_bind, over, setBlk, cut]; rfl) ?_))
    refine WO.nil ?_
    simp only [Then]
    refine WC.yes rfl (WC.seq (WC.seq (WC.region ?_)))
    have hC := hS.c
    repeat (first
      | (refine WO.yes rfl ?_)
      | (refine WO.no rfl ?_; simp only [pt])
      | (refine WO.op (by intro; simp only [go_sem, fillP, over, cut, nilCheckAV, hC]; rfl) ?_; simp only [pt])
      | (refine WO.op (by intro; exact ev_lenS rfl) ?_; simp only [pt])
      | (refine WO.opN (by intro; simp only [go_sem, storeAt, Option.bind_eq_bind, over, setBlk, cut, hC]; rfl) ?_))
    refine WO.op (by intro; exact ev_lenS (n := X.forth.length) (by simp only [go_sem]; exact hR.hf.len)) ?_
    simp only [pt]
    repeat (first
      | (refine WO.yes rfl ?_)
      | (refine WO.no rfl ?_; simp only [pt])
      | (refine WO.op (by intro; simp only [go_sem, fillP, over, cut, nilCheckAV, hz0]; rfl) ?_; simp only [pt])
      | (refine WO.op (by intro; exact ev_lenS rfl) ?_; simp only [pt])
      | (refine WO.opN (by intro; simp only [go_sem, storeAt, Option.bind_eq_bind, over, setBlk, cut, hz0]; rfl) ?_))
    refine WO.nil ?_
    simp only [Then]
    refine WC.no (by simp only [go_sem, hz0]) (WC.skip ?_)
    simp only [Then]
    obtain ⟨ff, gg, rest, hfe, hfn, hl⟩ := hS.hf.get h0
    have hlenl : (s / 8 % X.forth.length) * 3 + 3 ≤ (pcells X.forth ++ rest).length := by rw [List.length_append, pcells_len]; omega
    have hidx : indexAddrAV 3 f (.int .i64 ((s / 8 % X.forth.length : Nat) : Int)) = some (.pref ff gg ((s / 8 % X.forth.length) * 3)) := by
      rw [hfe]
      simp only [indexAddrAV, if_true, idx]
      rw [if_pos ⟨by omega, by omega⟩]
      simp only [Option.map_some, Int.toNat_natCast, Nat.zero_add]
    have hld : loadAV M true 3 (.pref ff gg ((s / 8 % X.forth.length) * 3)) = some (.agg [.bool pa, .int .i64 psq, .int .i64 pb]) := by
      simp only [loadAV, hl, Option.bind_some, loadCs, if_true, cut]
      rw [if_pos hlenl, hcell]
      rfl
    refine WC.seq (WC.region ?_)
    repeat (first
      | (refine WO.yes rfl ?_)
      | (refine WO.no rfl ?_; simp only [pt])
      | (refine WO.op (by intro; simp only [go_sem, fillP, over, cut, nilCheckAV, hC, hquo, h80]; rfl) ?_; simp only [pt])
      | (refine WO.op (by intro; exact ev_lenS rfl) ?_; simp only [pt])
      | (refine WO.opN (by intro; simp only [go_sem, storeAt, Option.bind_eq_bind, over, setBlk, cut, hC, hquo, h80]; rfl) ?_))
    refine WO.op (by intro; exact ev_lenS (n := X.forth.length) (by simp only [go_sem]; exact hS.hf.len)) ?_
    simp only [pt]
    repeat (first
      | (refine WO.yes rfl ?_)
      | (refine WO.no rfl ?_; simp only [pt])
      | (refine WO.op (by intro; simp only [go_sem, fillP, over, cut, nilCheckAV, hn0', hmod]; rfl) ?_; simp only [pt])
      | (refine WO.op (by intro; exact ev_lenS rfl) ?_; simp only [pt])
      | (refine WO.opN (by intro; simp only [go_sem, storeAt, Option.bind_eq_bind, over, setBlk, cut, hn0', hmod]; rfl) ?_))
    refine WO.nil ?_
    simp only [Then]
    refine WC.seq (WC.region ?_)
    repeat (first
      | (refine WO.yes rfl ?_)
      | (refine WO.no rfl ?_; simp only [pt])
      | (refine WO.op (by intro; simp only [go_sem, fillP, over, cut, nilCheckAV, hC]; rfl) ?_; simp only [pt])
      | (refine WO.op (by intro; exact ev_lenS rfl) ?_; simp only [pt])
      | (refine WO.opN (by intro; simp only [go_sem, storeAt, Option.bind_eq_bind, over, setBlk, cut, hC]; rfl) ?_))
    refine WO.op (by intro; rw [ev_indexAddr]; exact (congrArg (Option.map _) hidx).trans rfl) ?_
    simp only [pt]
    refine WO.op (by intro; rw [ev_load]; exact (congrArg (Option.map _) hld).trans rfl) ?_
    simp only [pt]
    have hlA : ∀ R, Zz.look (M ++ R) ff gg = some (pcells X.forth ++ rest) := fun R => by rw [look_left (look_lt hl)]; exact hl
    have hS1 := hS.know (R := [some (Blk.mk 0 [.bool pa, .int .i64 psq, .int .i64 pb])]) (j := 0) (c := [.bool pa, .int .i64 psq, .int .i64 pb]) rfl
    have hl1 := hlA [some (Blk.mk 0 [.bool pa, .int .i64 psq, .int .i64 pb])]
    have a0 : Zz.look (M ++ [some (Blk.mk 0 [.bool false, .int .i64 0, .int .i64 0])]) M.length 0 = some [.bool false, .int .i64 0, .int .i64 0] := by rw [look_right0]; rfl
    have a2 : ∀ x y, (M ++ [x]).set M.length y = M ++ [y] := fun x y => by rw [List.set_append_right (h := Nat.le_refl _)]; simp
    repeat (first
      | (refine WO.yes rfl ?_)
      | (refine WO.no rfl ?_; simp only [pt])
      | (refine WO.op (by intro; simp only [go_sem, fillP, over, cut, nilCheckAV, a0]; rfl) ?_; simp only [pt])
      | (refine WO.op (by intro; exact ev_lenS rfl) ?_; simp only [pt])
      | (refine WO.opN (by intro; simp only [go_sem, storeAt, Option.bind_eq_bind, over, setBlk, cut, a0]; rfl) ?_))
    simp only [List.take, List.drop, List.nil_append, List.append_nil, List.cons_append, List.length_cons, List.length_nil, Nat.zero_add, Nat.reduceAdd, setBlk]
    simp only [a2]
    refine WO.nil ?_
    simp only [Then]
    generalize hm : M.length = m at hS1 ⊢
    generalize M ++ [some (Blk.mk 0 [.bool pa, .int .i64 psq, .int .i64 pb])] = M1 at hS1 hl1 ⊢
    have hS := hS1
    have hC := hS.c
    refine WC.seq (WC.seq (WC.region ?_))
    repeat (first
      | (refine WO.yes rfl ?_)
      | (refine WO.no rfl ?_; simp only [pt])
      | (refine WO.op (by intro; simp only [go_sem, fillP, over, cut, nilCheckAV]; rfl) ?_; simp only [pt])
      | (refine WO.op (by intro; exact ev_lenS rfl) ?_; simp only [pt])
      | (refine WO.opN (by intro; simp only [go_sem, storeAt, Option.bind_eq_bind, over, setBlk, cut]; rfl) ?_))
    refine WO.nil ?_
    simp only [Then]
    refine WC.no rfl (WC.skip ?_)
    simp only [Then]
    have hP := hS.at (j := m + 0) (c := [.bool pa, .int .i64 psq, .int .i64 pb]) (by simp)
    simp only [Nat.add_zero] at hP
    refine WC.seq (WC.seq (WC.region ?_))
    repeat (first
      | (refine WO.yes rfl ?_)
      | (refine WO.no rfl ?_; simp only [pt])
      | (refine WO.op (by intro; simp only [go_sem, fillP, over, cut, nilCheckAV]; rfl) ?_; simp only [pt])
      | (refine WO.op (by intro; exact ev_lenS rfl) ?_; simp only [pt])
      | (refine WO.opN (by intro; simp only [go_sem, storeAt, Option.bind_eq_bind, over, setBlk, cut]; rfl) ?_))
    refine WO.nil ?_
    simp only [Then]
    refine WC.yes rfl (WC.seq (WC.region ?_))
    repeat (first
      | (refine WO.yes rfl ?_)
      | (refine WO.no rfl ?_; simp only [pt])
      | (refine WO.op (by intro; simp only [go_sem, fillP, over, cut, nilCheckAV, hC, hP]; rfl) ?_; simp only [pt])
      | (refine WO.op (by intro; exact ev_lenS rfl) ?_; simp only [pt])
      | (refine WO.opN (by intro; simp only [go_sem, storeAt, Option.bind_eq_bind, over, setBlk, cut, hC, hP]; rfl) ?_))
    refine WO.call rfl rfl (WF.spec rfl (huse _) ?_)
    simp only [pt]
    generalize hm2 : M1.length = m2
    have b0 : Zz.look (M1 ++ [some (Blk.mk 0 [.snil]), some (Blk.mk 0 [.bool false, .int .i64 0, .int .i64 0])]) m2 0 = some [.snil] := by rw [← hm2]; exact look2.1
    have t0 : ∀ x y z, (M1 ++ [x, y]).set m2 z = M1 ++ [z, y] := fun x y z => by rw [← hm2]; exact set2.1
    have b1 : ∀ x, Zz.look (M1 ++ [x, some (Blk.mk 0 [.bool false, .int .i64 0, .int .i64 0])]) (m2 + 1) 0 = some [.bool false, .int .i64 0, .int .i64 0] := fun x => by rw [← hm2]; exact look2.2
    have t1 : ∀ x y z, (M1 ++ [x, y]).set (m2 + 1) z = M1 ++ [x, z] := fun x y z => by rw [← hm2]; exact set2.2
    repeat (first
      | (refine WO.yes rfl ?_)
      | (refine WO.no rfl ?_; simp only [pt])
      | (refine WO.op (by intro; simp only [go_sem, fillP, over, cut, nilCheckAV, hvc]; rfl) ?_; simp only [pt])
      | (refine WO.op (by intro; exact ev_lenS rfl) ?_; simp only [pt])
      | (refine WO.opN (by intro; simp only [go_sem, storeAt, Option.bind_eq_bind, over, setBlk, cut, hvc]; rfl) ?_))
    try simp only [List.append_assoc, List.cons_append, List.nil_append, List.length_append, List.length_cons, List.length_nil, Nat.zero_add, hm2]
    repeat (first
      | (refine WO.yes rfl ?_)
      | (refine WO.no rfl ?_; simp only [pt])
      | (refine WO.op (by intro; simp only [go_sem, fillP, over, cut, nilCheckAV, b0, hvc]; rfl) ?_; simp only [pt])
      | (refine WO.op (by intro; exact ev_lenS rfl) ?_; simp only [pt])
      | (refine WO.opN (by intro; simp only [go_sem, storeAt, Option.bind_eq_bind, over, setBlk, cut, b0, hvc]; rfl) ?_))
    try simp only [List.take, List.drop, List.nil_append, List.append_nil, List.cons_append, List.length_cons, List.length_nil, Nat.zero_add, Nat.reduceAdd, setBlk]
    try simp only [t0]
    repeat (first
      | (refine WO.yes rfl ?_)
      | (refine WO.no rfl ?_; simp only [pt])
      | (refine WO.op (by intro; simp only [go_sem, fillP, over, cut, nilCheckAV, b1]; rfl) ?_; simp only [pt])
      | (refine WO.op (by intro; exact ev_lenS rfl) ?_; simp only [pt])
      | (refine WO.opN (by intro; simp only [go_sem, storeAt, Option.bind_eq_bind, over, setBlk, cut, b1]; rfl) ?_))
    try simp only [List.take, List.drop, List.nil_append, List.append_nil, List.cons_append, List.length_cons, List.length_nil, Nat.zero_add, Nat.reduceAdd, setBlk]
    try simp only [t1]
    repeat (first
      | (refine WO.yes rfl ?_)
      | (refine WO.no rfl ?_; simp only [pt])
      | (refine WO.op (by intro; simp only [go_sem, fillP, over, cut, nilCheckAV]; rfl) ?_; simp only [pt])
      | (refine WO.op (by intro; exact ev_lenS rfl) ?_; simp only [pt])
      | (refine WO.opN (by intro; simp only [go_sem, storeAt, Option.bind_eq_bind, over, setBlk, cut]; rfl) ?_))
    refine WO.nil ?_
    simp only [Then]
    have hSa := hS.know2 (c0 := [v]) (c1 := [.bool aa, .int .i64 asq, .int .i64 ab])
    rw [hm2] at hSa
    generalize M1 ++ [some (Blk.mk 0 [v]), some (Blk.mk 0 [.bool aa, .int .i64 asq, .int .i64 ab])] = M4 at hSa ⊢
    have hS := hSa
    have hC := hS.c
    have hV := hS.at (j := m2) (c := [v]) (by simp)
    refine WC.seq (WC.region ?_)
    repeat (first
      | (refine WO.yes rfl ?_)
      | (refine WO.no rfl ?_; simp only [pt])
      | (refine WO.op (by intro; simp only [go_sem, fillP, over, cut, nilCheckAV, hC, hV, hvc]; rfl) ?_; simp only [pt])
      | (refine WO.op (by intro; exact ev_lenS rfl) ?_; simp only [pt])
      | (refine WO.opN (by intro; simp only [go_sem, storeAt, Option.bind_eq_bind, over, setBlk, cut, hC, hV, hvc]; rfl) ?_))
    simp only [List.take, List.drop, List.nil_append, List.append_nil, List.cons_append, List.length_cons, List.length_nil, Nat.zero_add, Nat.reduceAdd, setBlk]
    refine WO.nil ?_
    simp only [Then]
    have hSb := hS.turn [.int .i64 X.seq, q, v, f, b, .int .i64 (hd : Nat)]
    generalize M4.set k (some ⟨0, [.int .i64 X.seq, q, v, f, b, .int .i64 (hd : Nat)]⟩) = M5 at hSb ⊢
    have hS := hSb
    have hC := hS.c
    have hA := hS.at (j := m2 + 1) (c := [.bool aa, .int .i64 asq, .int .i64 ab]) (by simp)
    have hS6 := hS.app [some (Blk.mk 0 [.bool aa, .int .i64 asq, .int .i64 ab])]
    obtain ⟨b', M7, happ, qb, ob, sb⟩ := qr_app (L := _) (x := .sref M5.length 0 0 3 1 (some 1)) (qs := [(aa, asq, ab)]) hS6.hb hS6.lenM.1 (by have := hsm.back; simp; omega) rfl (by simp only [scells, if_true, look_right0]; rfl)
    have hS7 := hS6.appB qb ob sb
    have hC7 := hS7.c
    have hb7 := qb.cells
    simp only [AV.cells] at hb7
    refine WC.region ?_
    repeat (first
      | (refine WO.yes rfl ?_)
      | (refine WO.no rfl ?_; simp only [pt])
      | (refine WO.op (by intro; simp only [go_sem, fillP, over, cut, nilCheckAV, hC, hA]; rfl) ?_; simp only [pt])
      | (refine WO.op (by intro; exact ev_lenS rfl) ?_; simp only [pt])
      | (refine WO.opN (by intro; simp only [go_sem, storeAt, Option.bind_eq_bind, over, setBlk, cut, hC, hA]; rfl) ?_))
    try simp only [List.take, List.drop, List.nil_append, List.append_nil, List.cons_append, List.length_cons, List.length_nil, Nat.zero_add, Nat.reduceAdd, setBlk]
    refine WO.op (by intro; rw [ev_append]; exact happ) ?_
    simp only [pt]
    repeat (first
      | (refine WO.yes rfl ?_)
      | (refine WO.no rfl ?_; simp only [pt])
      | (refine WO.op (by intro; simp only [go_sem, fillP, over, cut, nilCheckAV, hC7, hb7]; rfl) ?_; simp only [pt])
      | (refine WO.op (by intro; exact ev_lenS rfl) ?_; simp only [pt])
      | (refine WO.opN (by intro; simp only [go_sem, storeAt, Option.bind_eq_bind, over, setBlk, cut, hC7, hb7]; rfl) ?_))
    simp only [List.take, List.drop, List.nil_append, List.append_nil, List.cons_append, List.length_cons, List.length_nil, Nat.zero_add, Nat.reduceAdd, setBlk]
    refine WO.nil ?_
    simp only [Then]
    have hS8 := hS7.turn [.int .i64 X.seq, q, v, f, b', .int .i64 (hd : Nat)]
    generalize M7.set k (some ⟨0, [.int .i64 X.seq, q, v, f, b', .int .i64 (hd : Nat)]⟩) = M8 at hS8 ⊢
    have hS := hS8
    refine WC.seq (WC.region ?_)
    have hC := hS.c
    have hz := hS.at (j := k + 1) (c := [.int .i64 0, .snil, .snil, .snil, .snil, .int .i64 0]) (by simp)
    have hlt := look_lt hz
    repeat (first
      | (refine WO.yes rfl ?_)
      | (refine WO.no rfl ?_; simp only [pt])
      | (refine WO.op (by intro; simp only [go_sem, fillP, over, cut, nilCheckAV, hC, hz]; rfl) ?_; simp only [pt])
      | (refine WO.op (by intro; exact ev_lenS rfl) ?_; simp only [pt])
      | (refine WO.opN (by intro; simp only [go_sem, storeAt, Option.bind_eq_bind, over, setBlk, cut, hC, hz]; rfl) ?_))
    simp only [List.take, List.drop, List.nil_append, List.append_nil, List.cons_append, List.length_cons, List.length_nil, Nat.zero_add, Nat.reduceAdd, setBlk]
    refine WO.nil ?_
    simp only [Then]
    refine WC.ret ⟨[.agg [.int .i64 X.seq, q, v, f, b', .int .i64 (hd : Nat)]], ?_, ?_⟩
    · simp only [evRes, gt, look_set hlt, Option.bind_some, loadCs, if_true, cut, Option.map_some]
      rfl
    · rw [hX]
      exact SS.fin (X' := { X with forth := X.forth, got := got', back := X.back ++ [(aa, asq, ab)] }) (c := [.int .i64 0, .snil, .snil, .snil, .snil, .int .i64 0]) hS (by simp) _ hR.hq hv hR.left hR.hdle


set_option maxRecDepth 20000 in
set_option maxHeartbeats 1000000 in
theorem rstep3 {H : Hp} {L : List (Option ALoop)} {n0 hd s : Nat} {X : RunSt} {bs : List Int} {q g f b bd : AV} (hR : RR n0 H bs X hd q g f b) (hn0 : n0 ≤ H.length) (hbd : IntS bd bs) (hsm : Sm X) (hs63 : s < 9223372036854775808) (hbl : bs.length ≤ 1000) (e8 : s % 8 = 3) :
    WF Gq (.func 38 [] []) [.agg [.int .i64 X.seq, q, g, f, b, .int .i64 (hd : Nat)], bd, .int .i64 (s : Nat)] ⟨H, L⟩ fun y m' => Done n0 H L bs (stepM X s) y m' := by
  by_cases h0 : X.forth = []
  · have hX : stepM X s = X := by
      have e1 : stepM X s = { X with forth := (takeAt X.forth (s / 8) false).2 } := by unfold stepM; simp only [e8]
      rw [e1, h0, takeAt_nil]
      cases X
      simp only at h0
      subst h0
      rfl
    have hz0 : ((X.forth.length : Int) == 0) = true := by rw [h0]; rfl
    generalize hk : H.length = k
    have hS : SS n0 k H (H ++ [some (Blk.mk 0 [.int .i64 X.seq, q, g, f, b, .int .i64 (hd : Nat)]), some (Blk.mk 0 [.int .i64 0, .snil, .snil, .snil, .snil, .int .i64 0])]) [.int .i64 X.seq, q, g, f, b, .int .i64 (hd : Nat)] [(k + 1, [.int .i64 0, .snil, .snil, .snil, .snil, .int .i64 0])] f b X.forth X.back := by
      refine ⟨by rw [← hk]; exact look2.1, ⟨fun e => ?_, fun e => ?_⟩, fun e he => ?_, hR.hf.app _, hR.hb.app _, hR.apart, (Same.app _).weaken hn0 (fun _ _ h => h), by omega⟩
      · have := hR.hf.own e; omega
      · have := hR.hb.own e; omega
      · simp only [List.mem_cons, List.not_mem_nil, or_false] at he
        subst he
        exact ⟨by rw [← hk]; exact look2.2, fun e => by have := hR.hf.own e; simp only at this; omega, fun e => by have := hR.hb.own e; simp only at this; omega, by simp⟩
    have h80 : ((8 : Int) = 0) = False := by simp
    have hrem : Int.tmod (s : Int) 8 = 3 := by
      have e1 : Int.tmod (s : Int) 8 = ((s % 8 : Nat) : Int) := rfl
      rw [e1, e8]
      rfl
    have hquo : IntKind.wrap .i64 (Int.tdiv (s : Int) 8) = ((s / 8 : Nat) : Int) := by
      have e : Int.tdiv (s : Int) 8 = ((s / 8 : Nat) : Int) := rfl
      rw [e, wrap_id (by omega) (by omega)]
    have hqc := hR.hq.cells
    have hgc := hR.hg.cells
    have hfc := hR.hf.cells
    have hbc := hR.hb.cells
    simp only [AV.cells] at hqc hgc hfc hbc
    have h1 := hsm.seq
    have h2 := hsm.queue
    have h3 := hsm.got
    have h4 := hsm.forth
    have h5 := hsm.back
    refine WF.fn rfl (fn_of Try.func38 cir38) (by show 3 ≤ 135; decide) ?_
    unfold ir38
    simp only [padTo, List.replicate, List.nil_append, List.append_nil, List.cons_append]
    refine WC.seq (WC.region ?_)
    repeat (first
      | (refine WO.yes rfl ?_)
      | (refine WO.no rfl ?_; simp only [pt])
      | (refine WO.op (by intro; simp only [go_sem, fillP, over, cut, nilCheckAV]; rfl) ?_; simp only [pt])
      | (refine WO.op (by intro; exact ev_lenS rfl) ?_; simp only [pt])
      | (refine WO.opN (by intro; simp only [go_sem, storeAt, Option.bind_eq_bind, over, setBlk, cut]; rfl) ?_))
    simp only [List.append_assoc, List.cons_append, List.nil_append, List.length_append, List.length_cons, List.length_nil, Nat.zero_add, hk]
    refine WO.nil ?_
    simp only [Then]
    generalize H ++ [some (Blk.mk 0 [.int .i64 X.seq, q, g, f, b, .int .i64 (hd : Nat)]), some (Blk.mk 0 [.int .i64 0, .snil, .snil, .snil, .snil, .int .i64 0])] = M at hS ⊢
    refine WC.seq (WC.region ?_)
    repeat (first
      | (refine WO.yes rfl ?_)
      | (refine WO.no rfl ?_; simp only [pt])
      | (refine WO.op (by intro; simp only [go_sem, fillP, over, cut, nilCheckAV, h80, hrem]; rfl) ?_; simp only [pt])
      | (refine WO.op (by intro; exact ev_lenS rfl) ?_; simp only [pt])
      | (refine WO.opN (by intro; simp only [go_sem, storeAt, Option.bind_eq_bind, over, setBlk, cut, h80, hrem]; rfl) ?_))
    refine WO.nil ?_
    simp only [Then]
    refine WC.seq (WC.seq (WC.region ?_))
    repeat (first
      | (refine WO.yes rfl ?_)
      | (refine WO.no rfl ?_; simp only [pt])
      | (refine WO.op (by intro; simp only [go_sem, fillP, over, cut, nilCheckAV]; rfl) ?_; simp only [pt])
      | (refine WO.op (by intro; exact ev_lenS rfl) ?_; simp only [pt])
      | (refine WO.opN (by intro; simp only [go_sem, storeAt, Option.bind_eq_bind, over, setBlk, cut]; rfl) ?_))
    refine WO.nil ?_
    simp only [Then]
    refine WC.no rfl (WC.skip ?_)
    simp only [Then]
    refine WC.seq (WC.seq (WC.region ?_))
    repeat (first
      | (refine WO.yes rfl ?_)
      | (refine WO.no rfl ?_; simp only [pt])
      | (refine WO.op (by intro; simp only [go_sem, fillP, over, cut, nilCheckAV]; rfl) ?_; simp only [pt])
      | (refine WO.op (by intro; exact ev_lenS rfl) ?_; simp only [pt])
      | (refine WO.opN (by intro; simp only [go_sem, storeAt, Option.bind_eq_bind, over, setBlk, cut]; rfl) ?_))
    refine WO.nil ?_
    simp only [Then]
    refine WC.no rfl (WC.skip ?_)
    simp only [Then]
    refine WC.seq (WC.seq (WC.region ?_))
    repeat (first
      | (refine WO.yes rfl ?_)
      | (refine WO.no rfl ?_; simp only [pt])
      | (refine WO.op (by intro; simp only [go_sem, fillP, over, cut, nilCheckAV]; rfl) ?_; simp only [pt])
      | (refine WO.op (by intro; exact ev_lenS rfl) ?_; simp only [pt])
      | (refine WO.opN (by intro; simp only [go_sem, storeAt, Option.bind_eq_bind, over, setBlk, cut]; rfl) ?_))
    refine WO.nil ?_
    simp only [Then]
    refine WC.yes rfl (WC.seq (WC.seq (WC.region ?_)))
    have hC := hS.c
    repeat (first
      | (refine WO.yes rfl ?_)
      | (refine WO.no rfl ?_; simp only [pt])
      | (refine WO.op (by intro; simp only [go_sem, fillP, over, cut, nilCheckAV, hC]; rfl) ?_; simp only [pt])
      | (refine WO.op (by intro; exact ev_lenS rfl) ?_; simp only [pt])
      | (refine WO.opN (by intro; simp only [go_sem, storeAt, Option.bind_eq_bind, over, setBlk, cut, hC]; rfl) ?_))
    refine WO.op (by intro; exact ev_lenS (n := X.forth.length) (by simp only [go_sem]; exact hR.hf.len)) ?_
    simp only [pt]
    repeat (first
      | (refine WO.yes rfl ?_)
      | (refine WO.no rfl ?_; simp only [pt])
      | (refine WO.op (by intro; simp only [go_sem, fillP, over, cut, nilCheckAV, hz0]; rfl) ?_; simp only [pt])
      | (refine WO.op (by intro; exact ev_lenS rfl) ?_; simp only [pt])
      | (refine WO.opN (by intro; simp only [go_sem, storeAt, Option.bind_eq_bind, over, setBlk, cut, hz0]; rfl) ?_))
    refine WO.nil ?_
    simp only [Then]
    refine WC.yes (by simp only [go_sem, hz0]) ?_
    refine WC.seq (WC.region ?_)
    have hC := hS.c
    have hz := hS.at (j := k + 1) (c := [.int .i64 0, .snil, .snil, .snil, .snil, .int .i64 0]) (by simp)
    have hlt := look_lt hz
    repeat (first
      | (refine WO.yes rfl ?_)
      | (refine WO.no rfl ?_; simp only [pt])
      | (refine WO.op (by intro; simp only [go_sem, fillP, over, cut, nilCheckAV, hC, hz]; rfl) ?_; simp only [pt])
      | (refine WO.op (by intro; exact ev_lenS rfl) ?_; simp only [pt])
      | (refine WO.opN (by intro; simp only [go_sem, storeAt, Option.bind_eq_bind, over, setBlk, cut, hC, hz]; rfl) ?_))
    simp only [List.take, List.drop, List.nil_append, List.append_nil, List.cons_append, List.length_cons, List.length_nil, Nat.zero_add, Nat.reduceAdd, setBlk]
    refine WO.nil ?_
    simp only [Then]
    refine WC.ret ⟨[.agg [.int .i64 X.seq, q, g, f, b, .int .i64 (hd : Nat)]], ?_, ?_⟩
    · simp only [evRes, gt, look_set hlt, Option.bind_some, loadCs, if_true, cut, Option.map_some]
      rfl
    · rw [hX]
      exact SS.fin (X' := X) (c := [.int .i64 0, .snil, .snil, .snil, .snil, .int .i64 0]) hS (by simp) _ hR.hq hR.hg hR.left hR.hdle

  · have hpos : 0 < X.forth.length := List.length_pos_iff.2 h0
    have hi : s / 8 % X.forth.length < X.forth.length := Nat.mod_lt _ hpos
    have hz0 : ((X.forth.length : Int) == 0) = false := by simp; exact h0
    have hn0' : ((X.forth.length : Int) = 0) = False := by simp; exact h0
    have hmod : Int.tmod ((s / 8 : Nat) : Int) (X.forth.length : Int) = ((s / 8 % X.forth.length : Nat) : Int) := rfl
    have hta : takeAt X.forth (s / 8) false = (some X.forth[s / 8 % X.forth.length], (X.forth.eraseIdx (s / 8 % X.forth.length))) := by
      unfold takeAt
      rw [List.getElem?_eq_getElem hi]
      rfl
    have hcell : ∀ rest, ((pcells X.forth ++ rest).drop ((s / 8 % X.forth.length) * 3)).take 3 = pk X.forth[s / 8 % X.forth.length] := fun rest => pcells_at hi
    generalize hpp : X.forth[s / 8 % X.forth.length] = p at hta hcell
    have hX : stepM X s = { X with forth := (X.forth.eraseIdx (s / 8 % X.forth.length)) } := by
      have e1 : stepM X s = { X with forth := (takeAt X.forth (s / 8) false).2 } := by unfold stepM; simp only [e8]
      rw [e1, hta]
    obtain ⟨pa, psq, pb⟩ := p
    simp only [pk] at hcell
    generalize hk : H.length = k
    have hS : SS n0 k H (H ++ [some (Blk.mk 0 [.int .i64 X.seq, q, g, f, b, .int .i64 (hd : Nat)]), some (Blk.mk 0 [.int .i64 0, .snil, .snil, .snil, .snil, .int .i64 0])]) [.int .i64 X.seq, q, g, f, b, .int .i64 (hd : Nat)] [(k + 1, [.int .i64 0, .snil, .snil, .snil, .snil, .int .i64 0])] f b X.forth X.back := by
      refine ⟨by rw [← hk]; exact look2.1, ⟨fun e => ?_, fun e => ?_⟩, fun e he => ?_, hR.hf.app _, hR.hb.app _, hR.apart, (Same.app _).weaken hn0 (fun _ _ h => h), by omega⟩
      · have := hR.hf.own e; omega
      · have := hR.hb.own e; omega
      · simp only [List.mem_cons, List.not_mem_nil, or_false] at he
        subst he
        exact ⟨by rw [← hk]; exact look2.2, fun e => by have := hR.hf.own e; simp only at this; omega, fun e => by have := hR.hb.own e; simp only at this; omega, by simp⟩
    have h80 : ((8 : Int) = 0) = False := by simp
    have hrem : Int.tmod (s : Int) 8 = 3 := by
      have e1 : Int.tmod (s : Int) 8 = ((s % 8 : Nat) : Int) := rfl
      rw [e1, e8]
      rfl
    have hquo : IntKind.wrap .i64 (Int.tdiv (s : Int) 8) = ((s / 8 : Nat) : Int) := by
      have e : Int.tdiv (s : Int) 8 = ((s / 8 : Nat) : Int) := rfl
      rw [e, wrap_id (by omega) (by omega)]
    have hqc := hR.hq.cells
    have hgc := hR.hg.cells
    have hfc := hR.hf.cells
    have hbc := hR.hb.cells
    simp only [AV.cells] at hqc hgc hfc hbc
    have h1 := hsm.seq
    have h2 := hsm.queue
    have h3 := hsm.got
    have h4 := hsm.forth
    have h5 := hsm.back
    refine WF.fn rfl (fn_of Try.func38 cir38) (by show 3 ≤ 135; decide) ?_
    unfold ir38
    simp only [padTo, List.replicate, List.nil_append, List.append_nil, List.cons_append]
    refine WC.seq (WC.region ?_)
    repeat (first
      | (refine WO.yes rfl ?_)
      | (refine WO.no rfl ?_; simp only [pt])
      | (refine WO.op (by intro; simp only [go_sem, fillP, over, cut, nilCheckAV]; rfl) ?_; simp only [pt])
      | (refine WO.op (by intro; exact ev_lenS rfl) ?_; simp only [pt])
      | (refine WO.opN (by intro; simp only [go_sem, storeAt, Option.bind_eq_bind, over, setBlk, cut]; rfl) ?_))
    simp only [List.append_assoc, List.cons_append, List.nil_append, List.length_append, List.length_cons, List.length_nil, Nat.zero_add, hk]
    refine WO.nil ?_
    simp only [Then]
    generalize H ++ [some (Blk.mk 0 [.int .i64 X.seq, q, g, f, b, .int .i64 (hd : Nat)]), some (Blk.mk 0 [.int .i64 0, .snil, .snil, .snil, .snil, .int .i64 0])] = M at hS ⊢
    refine WC.seq (WC.region ?_)
    repeat (first
      | (refine WO.yes rfl ?_)
      | (refine WO.no rfl ?_; simp only [pt])
      | (refine WO.op (by intro; simp only [go_sem, fillP, over, cut, nilCheckAV, h80, hrem]; rfl) ?_; simp only [pt])
      | (refine WO.op (by intro; exact ev_lenS rfl) ?_; simp only [pt])
      | (refine WO.opN (by intro; simp only [go_sem, storeAt, Option.bind_eq_bind, over, setBlk, cut, h80, hrem]; rfl) ?_))
    refine WO.nil ?_
    simp only [Then]
    refine WC.seq (WC.seq (WC.region ?_))
    repeat (first
      | (refine WO.yes rfl ?_)
      | (refine WO.no rfl ?_; simp only [pt])
      | (refine WO.op (by intro; simp only [go_sem, fillP, over, cut, nilCheckAV]; rfl) ?_; simp only [pt])
      | (refine WO.op (by intro; exact ev_lenS rfl) ?_; simp only [pt])
      | (refine WO.opN (by intro; simp only [go_sem, storeAt, Option.bind_eq_bind, over, setBlk, cut]; rfl) ?_))
    refine WO.nil ?_
    simp only [Then]
    refine WC.no rfl (WC.skip ?_)
    simp only [Then]
    refine WC.seq (WC.seq (WC.region ?_))
    repeat (first
      | (refine WO.yes rfl ?_)
      | (refine WO.no rfl ?_; simp only [pt])
      | (refine WO.op (by intro; simp only [go_sem, fillP, over, cut, nilCheckAV]; rfl) ?_; simp only [pt])
      | (refine WO.op (by intro; exact ev_lenS rfl) ?_; simp only [pt])
      | (refine WO.opN (by intro; simp only [go_sem, storeAt, Option.bind_eq_bind, over, setBlk, cut]; rfl) ?_))
    refine WO.nil ?_
    simp only [Then]
    refine WC.no rfl (WC.skip ?_)
    simp only [Then]
    refine WC.seq (WC.seq (WC.region ?_))
    repeat (first
      | (refine WO.yes rfl ?_)
      | (refine WO.no rfl ?_; simp only [pt])
      | (refine WO.op (by intro; simp only [go_sem, fillP, over, cut, nilCheckAV]; rfl) ?_; simp only [pt])
      | (refine WO.op (by intro; exact ev_lenS rfl) ?_; simp only [pt])
      | (refine WO.opN (by intro; simp only [go_sem, storeAt, Option.bind_eq_bind, over, setBlk, cut]; rfl) ?_))
    refine WO.nil ?_
    simp only [Then]
    refine WC.yes rfl (WC.seq (WC.seq (WC.region ?_)))
    have hC := hS.c
    repeat (first
      | (refine WO.yes rfl ?_)
      | (refine WO.no rfl ?_; simp only [pt])
      | (refine WO.op (by intro; simp only [go_sem, fillP, over, cut, nilCheckAV, hC]; rfl) ?_; simp only [pt])
      | (refine WO.op (by intro; exact ev_lenS rfl) ?_; simp only [pt])
      | (refine WO.opN (by intro; simp only [go_sem, storeAt, Option.bind_eq_bind, over, setBlk, cut, hC]; rfl) ?_))
    refine WO.op (by intro; exact ev_lenS (n := X.forth.length) (by simp only [go_sem]; exact hR.hf.len)) ?_
    simp only [pt]
    repeat (first
      | (refine WO.yes rfl ?_)
      | (refine WO.no rfl ?_; simp only [pt])
      | (refine WO.op (by intro; simp only [go_sem, fillP, over, cut, nilCheckAV, hz0]; rfl) ?_; simp only [pt])
      | (refine WO.op (by intro; exact ev_lenS rfl) ?_; simp only [pt])
      | (refine WO.opN (by intro; simp only [go_sem, storeAt, Option.bind_eq_bind, over, setBlk, cut, hz0]; rfl) ?_))
    refine WO.nil ?_
    simp only [Then]
    refine WC.no (by simp only [go_sem, hz0]) (WC.skip ?_)
    simp only [Then]
    obtain ⟨ff, gg, rest, hfe, hfn, hl⟩ := hS.hf.get h0
    have hlenl : (s / 8 % X.forth.length) * 3 + 3 ≤ (pcells X.forth ++ rest).length := by rw [List.length_append, pcells_len]; omega
    have hidx : indexAddrAV 3 f (.int .i64 ((s / 8 % X.forth.length : Nat) : Int)) = some (.pref ff gg ((s / 8 % X.forth.length) * 3)) := by
      rw [hfe]
      simp only [indexAddrAV, if_true, idx]
      rw [if_pos ⟨by omega, by omega⟩]
      simp only [Option.map_some, Int.toNat_natCast, Nat.zero_add]
    have hld : loadAV M true 3 (.pref ff gg ((s / 8 % X.forth.length) * 3)) = some (.agg [.bool pa, .int .i64 psq, .int .i64 pb]) := by
      simp only [loadAV, hl, Option.bind_some, loadCs, if_true, cut]
      rw [if_pos hlenl, hcell]
      rfl
    refine WC.seq (WC.region ?_)
    repeat (first
      | (refine WO.yes rfl ?_)
      | (refine WO.no rfl ?_; simp only [pt])
      | (refine WO.op (by intro; simp only [go_sem, fillP, over, cut, nilCheckAV, hC, hquo, h80]; rfl) ?_; simp only [pt])
      | (refine WO.op (by intro; exact ev_lenS rfl) ?_; simp only [pt])
      | (refine WO.opN (by intro; simp only [go_sem, storeAt, Option.bind_eq_bind, over, setBlk, cut, hC, hquo, h80]; rfl) ?_))
    refine WO.op (by intro; exact ev_lenS (n := X.forth.length) (by simp only [go_sem]; exact hS.hf.len)) ?_
    simp only [pt]
    repeat (first
      | (refine WO.yes rfl ?_)
      | (refine WO.no rfl ?_; simp only [pt])
      | (refine WO.op (by intro; simp only [go_sem, fillP, over, cut, nilCheckAV, hn0', hmod]; rfl) ?_; simp only [pt])
      | (refine WO.op (by intro; exact ev_lenS rfl) ?_; simp only [pt])
      | (refine WO.opN (by intro; simp only [go_sem, storeAt, Option.bind_eq_bind, over, setBlk, cut, hn0', hmod]; rfl) ?_))
    refine WO.nil ?_
    simp only [Then]
    refine WC.seq (WC.region ?_)
    repeat (first
      | (refine WO.yes rfl ?_)
      | (refine WO.no rfl ?_; simp only [pt])
      | (refine WO.op (by intro; simp only [go_sem, fillP, over, cut, nilCheckAV, hC]; rfl) ?_; simp only [pt])
      | (refine WO.op (by intro; exact ev_lenS rfl) ?_; simp only [pt])
      | (refine WO.opN (by intro; simp only [go_sem, storeAt, Option.bind_eq_bind, over, setBlk, cut, hC]; rfl) ?_))
    refine WO.op (by intro; rw [ev_indexAddr]; exact (congrArg (Option.map _) hidx).trans rfl) ?_
    simp only [pt]
    refine WO.op (by intro; rw [ev_load]; exact (congrArg (Option.map _) hld).trans rfl) ?_
    simp only [pt]
    have hlA : ∀ R, Zz.look (M ++ R) ff gg = some (pcells X.forth ++ rest) := fun R => by rw [look_left (look_lt hl)]; exact hl
    have hS1 := hS.know (R := [some (Blk.mk 0 [.bool pa, .int .i64 psq, .int .i64 pb])]) (j := 0) (c := [.bool pa, .int .i64 psq, .int .i64 pb]) rfl
    have hl1 := hlA [some (Blk.mk 0 [.bool pa, .int .i64 psq, .int .i64 pb])]
    have a0 : Zz.look (M ++ [some (Blk.mk 0 [.bool false, .int .i64 0, .int .i64 0])]) M.length 0 = some [.bool false, .int .i64 0, .int .i64 0] := by rw [look_right0]; rfl
    have a2 : ∀ x y, (M ++ [x]).set M.length y = M ++ [y] := fun x y => by rw [List.set_append_right (h := Nat.le_refl _)]; simp
    repeat (first
      | (refine WO.yes rfl ?_)
      | (refine WO.no rfl ?_; simp only [pt])
      | (refine WO.op (by intro; simp only [go_sem, fillP, over, cut, nilCheckAV, a0]; rfl) ?_; simp only [pt])
      | (refine WO.op (by intro; exact ev_lenS rfl) ?_; simp only [pt])
      | (refine WO.opN (by intro; simp only [go_sem, storeAt, Option.bind_eq_bind, over, setBlk, cut, a0]; rfl) ?_))
    simp only [List.take, List.drop, List.nil_append, List.append_nil, List.cons_append, List.length_cons, List.length_nil, Nat.zero_add, Nat.reduceAdd, setBlk]
    simp only [a2]
    refine WO.nil ?_
    simp only [Then]
    generalize hm : M.length = m at hS1 ⊢
    generalize M ++ [some (Blk.mk 0 [.bool pa, .int .i64 psq, .int .i64 pb])] = M1 at hS1 hl1 ⊢
    have hS := hS1
    have hC := hS.c
    refine WC.seq (WC.seq (WC.region ?_))
    repeat (first
      | (refine WO.yes rfl ?_)
      | (refine WO.no rfl ?_; simp only [pt])
      | (refine WO.op (by intro; simp only [go_sem, fillP, over, cut, nilCheckAV]; rfl) ?_; simp only [pt])
      | (refine WO.op (by intro; exact ev_lenS rfl) ?_; simp only [pt])
      | (refine WO.opN (by intro; simp only [go_sem, storeAt, Option.bind_eq_bind, over, setBlk, cut]; rfl) ?_))
    refine WO.nil ?_
    simp only [Then]
    refine WC.yes rfl (WC.region ?_)
    repeat (first
      | (refine WO.yes rfl ?_)
      | (refine WO.no rfl ?_; simp only [pt])
      | (refine WO.op (by intro; simp only [go_sem, fillP, over, cut, nilCheckAV, hC, hfe]; rfl) ?_; simp only [pt])
      | (refine WO.op (by intro; exact ev_lenS rfl) ?_; simp only [pt])
      | (refine WO.opN (by intro; simp only [go_sem, storeAt, Option.bind_eq_bind, over, setBlk, cut, hC, hfe]; rfl) ?_))
    refine WO.call rfl (by simp only [go_sem, List.map, hfe]) ((without_run (Γ := Gq) (L := L) rfl (fn_of Try.func44 cir44) hl1 hi (by have := hsm.forth; omega)).mono ?_)
    rintro y' ⟨M2, L2⟩ ⟨rfl, hsm2, hq2⟩
    have hS := hS.newF hq2 hsm2
    have hC := hS.c
    have hyc := hq2.cells
    simp only [AV.cells] at hyc
    simp only [pt]
    repeat (first
      | (refine WO.yes rfl ?_)
      | (refine WO.no rfl ?_; simp only [pt])
      | (refine WO.op (by intro; simp only [go_sem, fillP, over, cut, nilCheckAV, hC, hyc]; rfl) ?_; simp only [pt])
      | (refine WO.op (by intro; exact ev_lenS rfl) ?_; simp only [pt])
      | (refine WO.opN (by intro; simp only [go_sem, storeAt, Option.bind_eq_bind, over, setBlk, cut, hC, hyc]; rfl) ?_))
    simp only [List.take, List.drop, List.nil_append, List.append_nil, List.cons_append, List.length_cons, List.length_nil, Nat.zero_add, Nat.reduceAdd, setBlk]
    refine WO.nil ?_
    simp only [Then]
    have hS2 := hS.turn [.int .i64 X.seq, q, g, y', b, .int .i64 (hd : Nat)]
    generalize M2.set k (some ⟨0, [.int .i64 X.seq, q, g, y', b, .int .i64 (hd : Nat)]⟩) = M3 at hS2 ⊢
    have hS := hS2
    have hC := hS.c
    have hP := hS.at (j := m + 0) (c := [.bool pa, .int .i64 psq, .int .i64 pb]) (by simp)
    simp only [Nat.add_zero] at hP
    refine WC.seq (WC.seq (WC.region ?_))
    repeat (first
      | (refine WO.yes rfl ?_)
      | (refine WO.no rfl ?_; simp only [pt])
      | (refine WO.op (by intro; simp only [go_sem, fillP, over, cut, nilCheckAV]; rfl) ?_; simp only [pt])
      | (refine WO.op (by intro; exact ev_lenS rfl) ?_; simp only [pt])
      | (refine WO.opN (by intro; simp only [go_sem, storeAt, Option.bind_eq_bind, over, setBlk, cut]; rfl) ?_))
    refine WO.nil ?_
    simp only [Then]
    refine WC.no rfl (WC.skip ?_)
    simp only [Then]
    refine WC.seq (WC.region ?_)
    have hC := hS.c
    have hz := hS.at (j := k + 1) (c := [.int .i64 0, .snil, .snil, .snil, .snil, .int .i64 0]) (by simp)
    have hlt := look_lt hz
    repeat (first
      | (refine WO.yes rfl ?_)
      | (refine WO.no rfl ?_; simp only [pt])
      | (refine WO.op (by intro; simp only [go_sem, fillP, over, cut, nilCheckAV, hC, hz]; rfl) ?_; simp only [pt])
      | (refine WO.op (by intro; exact ev_lenS rfl) ?_; simp only [pt])
      | (refine WO.opN (by intro; simp only [go_sem, storeAt, Option.bind_eq_bind, over, setBlk, cut, hC, hz]; rfl) ?_))
    simp only [List.take, List.drop, List.nil_append, List.append_nil, List.cons_append, List.length_cons, List.length_nil, Nat.zero_add, Nat.reduceAdd, setBlk]
    refine WO.nil ?_
    simp only [Then]
    refine WC.ret ⟨[.agg [.int .i64 X.seq, q, g, y', b, .int .i64 (hd : Nat)]], ?_, ?_⟩
    · simp only [evRes, gt, look_set hlt, Option.bind_some, loadCs, if_true, cut, Option.map_some]
      rfl
    · rw [hX]
      exact SS.fin (X' := { X with forth := (X.forth.eraseIdx (s / 8 % X.forth.length)) }) (c := [.int .i64 0, .snil, .snil, .snil, .snil, .int .i64 0]) hS (by simp) _ hR.hq hR.hg hR.left hR.hdle


set_option maxRecDepth 20000 in
set_option maxHeartbeats 1000000 in
theorem rstep4 {H : Hp} {L : List (Option ALoop)} {n0 hd s : Nat} {X : RunSt} {bs : List Int} {q g f b bd : AV} (hR : RR n0 H bs X hd q g f b) (hn0 : n0 ≤ H.length) (hbd : IntS bd bs) (hsm : Sm X) (hs63 : s < 9223372036854775808) (hbl : bs.length ≤ 1000) (e8 : s % 8 = 4) :
    WF Gq (.func 38 [] []) [.agg [.int .i64 X.seq, q, g, f, b, .int .i64 (hd : Nat)], bd, .int .i64 (s : Nat)] ⟨H, L⟩ fun y m' => Done n0 H L bs (stepM X s) y m' := by
  by_cases h0 : X.back = []
  · have hX : stepM X s = X := by
      have e1 : stepM X s = answerM X (s / 8) false := by unfold stepM; simp only [e8]
      rw [e1]
      unfold answerM
      rw [h0, takeAt_nil]
      cases X
      simp only at h0
      subst h0
      rfl
    have hz0 : ((X.back.length : Int) == 0) = true := by rw [h0]; rfl
    generalize hk : H.length = k
    have hS : SS n0 k H (H ++ [some (Blk.mk 0 [.int .i64 X.seq, q, g, f, b, .int .i64 (hd : Nat)]), some (Blk.mk 0 [.int .i64 0, .snil, .snil, .snil, .snil, .int .i64 0])]) [.int .i64 X.seq, q, g, f, b, .int .i64 (hd : Nat)] [(k + 1, [.int .i64 0, .snil, .snil, .snil, .snil, .int .i64 0])] f b X.forth X.back := by
      refine ⟨by rw [← hk]; exact look2.1, ⟨fun e => ?_, fun e => ?_⟩, fun e he => ?_, hR.hf.app _, hR.hb.app _, hR.apart, (Same.app _).weaken hn0 (fun _ _ h => h), by omega⟩
      · have := hR.hf.own e; omega
      · have := hR.hb.own e; omega
      · simp only [List.mem_cons, List.not_mem_nil, or_false] at he
        subst he
        exact ⟨by rw [← hk]; exact look2.2, fun e => by have := hR.hf.own e; simp only at this; omega, fun e => by have := hR.hb.own e; simp only at this; omega, by simp⟩
    have h80 : ((8 : Int) = 0) = False := by simp
    have hrem : Int.tmod (s : Int) 8 = 4 := by
      have e1 : Int.tmod (s : Int) 8 = ((s % 8 : Nat) : Int) := rfl
      rw [e1, e8]
      rfl
    have hquo : IntKind.wrap .i64 (Int.tdiv (s : Int) 8) = ((s / 8 : Nat) : Int) := by
      have e : Int.tdiv (s : Int) 8 = ((s / 8 : Nat) : Int) := rfl
      rw [e, wrap_id (by omega) (by omega)]
    have hqc := hR.hq.cells
    have hgc := hR.hg.cells
    have hfc := hR.hf.cells
    have hbc := hR.hb.cells
    simp only [AV.cells] at hqc hgc hfc hbc
    have h1 := hsm.seq
    have h2 := hsm.queue
    have h3 := hsm.got
    have h4 := hsm.forth
    have h5 := hsm.back
    refine WF.fn rfl (fn_of Try.func38 cir38) (by show 3 ≤ 135; decide) ?_
    unfold ir38
    simp only [padTo, List.replicate, List.nil_append, List.append_nil, List.cons_append]
    refine WC.seq (WC.region ?_)
    repeat (first
      | (refine WO.yes rfl ?_)
      | (refine WO.no rfl ?_; simp only [pt])
      | (refine WO.op (by intro; simp only [go_sem, fillP, over, cut, nilCheckAV]; rfl) ?_; simp only [pt])
      | (refine WO.op (by intro; exact ev_lenS rfl) ?_; simp only [pt])
      | (refine WO.opN (by intro; simp only [go_sem, storeAt, Option.bind_eq_bind, over, setBlk, cut]; rfl) ?_))
    simp only [List.append_assoc, List.cons_append, List.nil_append, List.length_append, List.length_cons, List.length_nil, Nat.zero_add, hk]
    refine WO.nil ?_
    simp only [Then]
    generalize H ++ [some (Blk.mk 0 [.int .i64 X.seq, q, g, f, b, .int .i64 (hd : Nat)]), some (Blk.mk 0 [.int .i64 0, .snil, .snil, .snil, .snil, .int .i64 0])] = M at hS ⊢
    refine WC.seq (WC.region ?_)
    repeat (first
      | (refine WO.yes rfl ?_)
      | (refine WO.no rfl ?_; simp only [pt])
      | (refine WO.op (by intro; simp only [go_sem, fillP, over, cut, nilCheckAV, h80, hrem]; rfl) ?_; simp only [pt])
      | (refine WO.op (by intro; exact ev_lenS rfl) ?_; simp only [pt])
      | (refine WO.opN (by intro; simp only [go_sem, storeAt, Option.bind_eq_bind, over, setBlk, cut, h80, hrem]; rfl) ?_))
    refine WO.nil ?_
    simp only [Then]
    refine WC.seq (WC.seq (WC.region ?_))
    repeat (first
      | (refine WO.yes rfl ?_)
      | (refine WO.no rfl ?_; simp only [pt])
      | (refine WO.op (by intro; simp only [go_sem, fillP, over, cut, nilCheckAV]; rfl) ?_; simp only [pt])
      | (refine WO.op (by intro; exact ev_lenS rfl) ?_; simp only [pt])
      | (refine WO.opN (by intro; simp only [go_sem, storeAt, Option.bind_eq_bind, over, setBlk, cut]; rfl) ?_))
    refine WO.nil ?_
    simp only [Then]
    refine WC.no rfl (WC.skip ?_)
    simp only [Then]
    refine WC.seq (WC.seq (WC.region ?_))
    repeat (first
      | (refine WO.yes rfl ?_)
      | (refine WO.no rfl ?_; simp only [pt])
      | (refine WO.op (by intro; simp only [go_sem, fillP, over, cut, nilCheckAV]; rfl) ?_; simp only [pt])
      | (refine WO.op (by intro; exact ev_lenS rfl) ?_; simp only [pt])
      | (refine WO.opN (by intro; simp only [go_sem, storeAt, Option.bind_eq_bind, over, setBlk, cut]; rfl) ?_))
    refine WO.nil ?_
    simp only [Then]
    refine WC.no rfl (WC.skip ?_)
    simp only [Then]
    refine WC.seq (WC.seq (WC.region ?_))
    repeat (first
      | (refine WO.yes rfl ?_)
      | (refine WO.no rfl ?_; simp only [pt])
      | (refine WO.op (by intro; simp only [go_sem, fillP, over, cut, nilCheckAV]; rfl) ?_; simp only [pt])
      | (refine WO.op (by intro; exact ev_lenS rfl) ?_; simp only [pt])
      | (refine WO.opN (by intro; simp only [go_sem, storeAt, Option.bind_eq_bind, over, setBlk, cut]; rfl) ?_))
    refine WO.nil ?_
    simp only [Then]
    refine WC.no rfl (WC.skip ?_)
    simp only [Then]
    refine WC.seq (WC.seq (WC.region ?_))
    have hC := hS.c
    repeat (first
      | (refine WO.yes rfl ?_)
      | (refine WO.no rfl ?_; simp only [pt])
      | (refine WO.op (by intro; simp only [go_sem, fillP, over, cut, nilCheckAV, hC]; rfl) ?_; simp only [pt])
      | (refine WO.op (by intro; exact ev_lenS rfl) ?_; simp only [pt])
      | (refine WO.opN (by intro; simp only [go_sem, storeAt, Option.bind_eq_bind, over, setBlk, cut, hC]; rfl) ?_))
    refine WO.op (by intro; exact ev_lenS (n := X.back.length) (by simp only [go_sem]; exact hR.hb.len)) ?_
    simp only [pt]
    repeat (first
      | (refine WO.yes rfl ?_)
      | (refine WO.no rfl ?_; simp only [pt])
      | (refine WO.op (by intro; simp only [go_sem, fillP, over, cut, nilCheckAV, hz0]; rfl) ?_; simp only [pt])
      | (refine WO.op (by intro; exact ev_lenS rfl) ?_; simp only [pt])
      | (refine WO.opN (by intro; simp only [go_sem, storeAt, Option.bind_eq_bind, over, setBlk, cut, hz0]; rfl) ?_))
    refine WO.nil ?_
    simp only [Then]
    refine WC.yes (by simp only [go_sem, hz0]) ?_
    refine WC.seq (WC.region ?_)
    have hC := hS.c
    have hz := hS.at (j := k + 1) (c := [.int .i64 0, .snil, .snil, .snil, .snil, .int .i64 0]) (by simp)
    have hlt := look_lt hz
    repeat (first
      | (refine WO.yes rfl ?_)
      | (refine WO.no rfl ?_; simp only [pt])
      | (refine WO.op (by intro; simp only [go_sem, fillP, over, cut, nilCheckAV, hC, hz]; rfl) ?_; simp only [pt])
      | (refine WO.op (by intro; exact ev_lenS rfl) ?_; simp only [pt])
      | (refine WO.opN (by intro; simp only [go_sem, storeAt, Option.bind_eq_bind, over, setBlk, cut, hC, hz]; rfl) ?_))
    simp only [List.take, List.drop, List.nil_append, List.append_nil, List.cons_append, List.length_cons, List.length_nil, Nat.zero_add, Nat.reduceAdd, setBlk]
    refine WO.nil ?_
    simp only [Then]
    refine WC.ret ⟨[.agg [.int .i64 X.seq, q, g, f, b, .int .i64 (hd : Nat)]], ?_, ?_⟩
    · simp only [evRes, gt, look_set hlt, Option.bind_some, loadCs, if_true, cut, Option.map_some]
      rfl
    · rw [hX]
      exact SS.fin (X' := X) (c := [.int .i64 0, .snil, .snil, .snil, .snil, .int .i64 0]) hS (by simp) _ hR.hq hR.hg hR.left hR.hdle

  · have hpos : 0 < X.back.length := List.length_pos_iff.2 h0
    have hi : s / 8 % X.back.length < X.back.length := Nat.mod_lt _ hpos
    have hz0 : ((X.back.length : Int) == 0) = false := by simp; exact h0
    have hn0' : ((X.back.length : Int) = 0) = False := by simp; exact h0
    have hmod : Int.tmod ((s / 8 : Nat) : Int) (X.back.length : Int) = ((s / 8 % X.back.length : Nat) : Int) := rfl
    have hta : takeAt X.back (s / 8) false = (some X.back[s / 8 % X.back.length], (X.back.eraseIdx (s / 8 % X.back.length))) := by
      unfold takeAt
      rw [List.getElem?_eq_getElem hi]
      rfl
    have hack : I64 X.back[s / 8 % X.back.length].2.1 := hsm.acks _ (List.getElem_mem hi)
    have hcell : ∀ rest, ((pcells X.back ++ rest).drop ((s / 8 % X.back.length) * 3)).take 3 = pk X.back[s / 8 % X.back.length] := fun rest => pcells_at hi
    generalize hpp : X.back[s / 8 % X.back.length] = p at hta hcell hack
    have hX : stepM X s = { X with back := (X.back.eraseIdx (s / 8 % X.back.length)), seq := (hearM X.seq X.queue p).1, queue := (hearM X.seq X.queue p).2 } := by
      have e1 : stepM X s = answerM X (s / 8) false := by unfold stepM; simp only [e8]
      rw [e1]
      unfold answerM
      rw [hta]
    obtain ⟨v, hv, huse⟩ := rhear_eq (p := p) hR.hq hsm.seq hack (by have := hsm.queue; omega)
    generalize (hearM X.seq X.queue p).1 = seq' at hX huse
    generalize (hearM X.seq X.queue p).2 = queue' at hX hv
    have hvc := hv.cells
    simp only [AV.cells] at hvc
    obtain ⟨pa, psq, pb⟩ := p
    simp only [pk] at hcell huse
    generalize hk : H.length = k
    have hS : SS n0 k H (H ++ [some (Blk.mk 0 [.int .i64 X.seq, q, g, f, b, .int .i64 (hd : Nat)]), some (Blk.mk 0 [.int .i64 0, .snil, .snil, .snil, .snil, .int .i64 0])]) [.int .i64 X.seq, q, g, f, b, .int .i64 (hd : Nat)] [(k + 1, [.int .i64 0, .snil, .snil, .snil, .snil, .int .i64 0])] f b X.forth X.back := by
      refine ⟨by rw [← hk]; exact look2.1, ⟨fun e => ?_, fun e => ?_⟩, fun e he => ?_, hR.hf.app _, hR.hb.app _, hR.apart, (Same.app _).weaken hn0 (fun _ _ h => h), by omega⟩
      · have := hR.hf.own e; omega
      · have := hR.hb.own e; omega
      · simp only [List.mem_cons, List.not_mem_nil, or_false] at he
        subst he
        exact ⟨by rw [← hk]; exact look2.2, fun e => by have := hR.hf.own e; simp only at this; omega, fun e => by have := hR.hb.own e; simp only at this; omega, by simp⟩
    have h80 : ((8 : Int) = 0) = False := by simp
    have hrem : Int.tmod (s : Int) 8 = 4 := by
      have e1 : Int.tmod (s : Int) 8 = ((s % 8 : Nat) : Int) := rfl
      rw [e1, e8]
      rfl
    have hquo : IntKind.wrap .i64 (Int.tdiv (s : Int) 8) = ((s / 8 : Nat) : Int) := by
      have e : Int.tdiv (s : Int) 8 = ((s / 8 : Nat) : Int) := rfl
      rw [e, wrap_id (by omega) (by omega)]
    have hqc := hR.hq.cells
    have hgc := hR.hg.cells
    have hfc := hR.hf.cells
    have hbc := hR.hb.cells
    simp only [AV.cells] at hqc hgc hfc hbc
    have h1 := hsm.seq
    have h2 := hsm.queue
    have h3 := hsm.got
    have h4 := hsm.forth
    have h5 := hsm.back
    refine WF.fn rfl (fn_of Try.func38 cir38) (by show 3 ≤ 135; decide) ?_
    unfold ir38
    simp only [padTo, List.replicate, List.nil_append, List.append_nil, List.cons_append]
    refine WC.seq (WC.region ?_)
    repeat (first
      | (refine WO.yes rfl ?_)
      | (refine WO.no rfl ?_; simp only [pt])
      | (refine WO.op (by intro; simp only [go_sem, fillP, over, cut, nilCheckAV]; rfl) ?_; simp only [pt])
      | (refine WO.op (by intro; exact ev_lenS rfl) ?_; simp only [pt])
      | (refine WO.opN (by intro; simp only [go_sem, storeAt, Option.bind_eq_bind, over, setBlk, cut]; rfl) ?_))
    simp only [List.append_assoc, List.cons_append, List.nil_append, List.length_append, List.length_cons, List.length_nil, Nat.zero_add, hk]
    refine WO.nil ?_
    simp only [Then]
    generalize H ++ [some (Blk.mk 0 [.int .i64 X.seq, q, g, f, b, .int .i64 (hd : Nat)]), some (Blk.mk 0 [.int .i64 0, .snil, .snil, .snil, .snil, .int .i64 0])] = M at hS ⊢
    refine WC.seq (WC.region ?_)
    repeat (first
      | (refine WO.yes rfl ?_)
      | (refine WO.no rfl ?_; simp only [pt])
      | (refine WO.op (by intro; simp only [go_sem, fillP, over, cut, nilCheckAV, h80, hrem]; rfl) ?_; simp only [pt])
      | (refine WO.op (by intro; exact ev_lenS rfl) ?_; simp only [pt])
      | (refine WO.opN (by intro; simp only [go_sem, storeAt, Option.bind_eq_bind, over, setBlk, cut, h80, hrem]; rfl) ?_))
    refine WO.nil ?_
    simp only [Then]
    refine WC.seq (WC.seq (WC.region ?_))
    repeat (first
      | (refine WO.yes rfl ?_)
      | (refine WO.no rfl ?_; simp only [pt])
      | (refine WO.op (by intro; simp only [go_sem, fillP, over, cut, nilCheckAV]; rfl) ?_; simp only [pt])
      | (refine WO.op (by intro; exact ev_lenS rfl) ?_; simp only [pt])
      | (refine WO.opN (by intro; simp only [go_sem, storeAt, Option.bind_eq_bind, over, setBlk, cut]; rfl) ?_))
    refine WO.nil ?_
    simp only [Then]
    refine WC.no rfl (WC.skip ?_)
    simp only [Then]
    refine WC.seq (WC.seq (WC.region ?_))
    repeat (first
      | (refine WO.yes rfl ?_)
      | (refine WO.no rfl ?_; simp only [pt])
      | (refine WO.op (by intro; simp only [go_sem, fillP, over, cut, nilCheckAV]; rfl) ?_; simp only [pt])
      | (refine WO.op (by intro; exact ev_lenS rfl) ?_; simp only [pt])
      | (refine WO.opN (by intro; simp only [go_sem, storeAt, Option.bind_eq_bind, over, setBlk, cut]; rfl) ?_))
    refine WO.nil ?_
    simp only [Then]
    refine WC.no rfl (WC.skip ?_)
    simp only [Then]
    refine WC.seq (WC.seq (WC.region ?_))
    repeat (first
      | (refine WO.yes rfl ?_)
      | (refine WO.no rfl ?_; simp only [pt])
      | (refine WO.op (by intro; simp only [go_sem, fillP, over, cut, nilCheckAV]; rfl) ?_; simp only [pt])
      | (refine WO.op (by intro; exact ev_lenS rfl) ?_; simp only [pt])
      | (refine WO.opN (by intro; simp only [go_sem, storeAt, Option.bind_eq_bind, over, setBlk, cut]; rfl) ?_))
    refine WO.nil ?_
    simp only [Then]
    refine WC.no rfl (WC.skip ?_)
    simp only [Then]
    refine WC.seq (WC.seq (WC.region ?_))
    have hC := hS.c
    repeat (first
      | (refine WO.yes rfl ?_)
      | (refine WO.no rfl ?_; simp only [pt])
      | (refine WO.op (by intro; simp only [go_sem, fillP, over, cut, nilCheckAV, hC]; rfl) ?_; simp only [pt])
      | (refine WO.op (by intro; exact ev_lenS rfl) ?_; simp only [pt])
      | (refine WO.opN (by intro; simp only [go_sem, storeAt, Option.bind_eq_bind, over, setBlk, cut, hC]; rfl) ?_))
    refine WO.op (by intro; exact ev_lenS (n := X.back.length) (by simp only [go_sem]; exact hR.hb.len)) ?_
    simp only [pt]
    repeat (first
      | (refine WO.yes rfl ?_)
      | (refine WO.no rfl ?_; simp only [pt])
      | (refine WO.op (by intro; simp only [go_sem, fillP, over, cut, nilCheckAV, hz0]; rfl) ?_; simp only [pt])
      | (refine WO.op (by intro; exact ev_lenS rfl) ?_; simp only [pt])
      | (refine WO.opN (by intro; simp only [go_sem, storeAt, Option.bind_eq_bind, over, setBlk, cut, hz0]; rfl) ?_))
    refine WO.nil ?_
    simp only [Then]
    refine WC.no (by simp only [go_sem, hz0]) (WC.skip ?_)
    simp only [Then]
    obtain ⟨ff, gg, rest, hfe, hfn, hl⟩ := hS.hb.get h0
    have hlenl : (s / 8 % X.back.length) * 3 + 3 ≤ (pcells X.back ++ rest).length := by rw [List.length_append, pcells_len]; omega
    have hidx : indexAddrAV 3 b (.int .i64 ((s / 8 % X.back.length : Nat) : Int)) = some (.pref ff gg ((s / 8 % X.back.length) * 3)) := by
      rw [hfe]
      simp only [indexAddrAV, if_true, idx]
      rw [if_pos ⟨by omega, by omega⟩]
      simp only [Option.map_some, Int.toNat_natCast, Nat.zero_add]
    have hld : loadAV M true 3 (.pref ff gg ((s / 8 % X.back.length) * 3)) = some (.agg [.bool pa, .int .i64 psq, .int .i64 pb]) := by
      simp only [loadAV, hl, Option.bind_some, loadCs, if_true, cut]
      rw [if_pos hlenl, hcell]
      rfl
    refine WC.seq (WC.region ?_)
    repeat (first
      | (refine WO.yes rfl ?_)
      | (refine WO.no rfl ?_; simp only [pt])
      | (refine WO.op (by intro; simp only [go_sem, fillP, over, cut, nilCheckAV, hC, hquo, h80]; rfl) ?_; simp only [pt])
      | (refine WO.op (by intro; exact ev_lenS rfl) ?_; simp only [pt])
      | (refine WO.opN (by intro; simp only [go_sem, storeAt, Option.bind_eq_bind, over, setBlk, cut, hC, hquo, h80]; rfl) ?_))
    refine WO.op (by intro; exact ev_lenS (n := X.back.length) (by simp only [go_sem]; exact hS.hb.len)) ?_
    simp only [pt]
    repeat (first
      | (refine WO.yes rfl ?_)
      | (refine WO.no rfl ?_; simp only [pt])
      | (refine WO.op (by intro; simp only [go_sem, fillP, over, cut, nilCheckAV, hn0', hmod]; rfl) ?_; simp only [pt])
      | (refine WO.op (by intro; exact ev_lenS rfl) ?_; simp only [pt])
      | (refine WO.opN (by intro; simp only [go_sem, storeAt, Option.bind_eq_bind, over, setBlk, cut, hn0', hmod]; rfl) ?_))
    refine WO.nil ?_
    simp only [Then]
    refine WC.seq (WC.region ?_)
    repeat (first
      | (refine WO.yes rfl ?_)
      | (refine WO.no rfl ?_; simp only [pt])
      | (refine WO.op (by intro; simp only [go_sem, fillP, over, cut, nilCheckAV, hC]; rfl) ?_; simp only [pt])
      | (refine WO.op (by intro; exact ev_lenS rfl) ?_; simp only [pt])
      | (refine WO.opN (by intro; simp only [go_sem, storeAt, Option.bind_eq_bind, over, setBlk, cut, hC]; rfl) ?_))
    refine WO.op (by intro; rw [ev_indexAddr]; exact (congrArg (Option.map _) hidx).trans rfl) ?_
    simp only [pt]
    refine WO.op (by intro; rw [ev_load]; exact (congrArg (Option.map _) hld).trans rfl) ?_
    simp only [pt]
    have hlA : ∀ R, Zz.look (M ++ R) ff gg = some (pcells X.back ++ rest) := fun R => by rw [look_left (look_lt hl)]; exact hl
    have hS1 := hS.know (R := [some (Blk.mk 0 [.bool pa, .int .i64 psq, .int .i64 pb])]) (j := 0) (c := [.bool pa, .int .i64 psq, .int .i64 pb]) rfl
    have hl1 := hlA [some (Blk.mk 0 [.bool pa, .int .i64 psq, .int .i64 pb])]
    have a0 : Zz.look (M ++ [some (Blk.mk 0 [.bool false, .int .i64 0, .int .i64 0])]) M.length 0 = some [.bool false, .int .i64 0, .int .i64 0] := by rw [look_right0]; rfl
    have a2 : ∀ x y, (M ++ [x]).set M.length y = M ++ [y] := fun x y => by rw [List.set_append_right (h := Nat.le_refl _)]; simp
    repeat (first
      | (refine WO.yes rfl ?_)
      | (refine WO.no rfl ?_; simp only [pt])
      | (refine WO.op (by intro; simp only [go_sem, fillP, over, cut, nilCheckAV, a0]; rfl) ?_; simp only [pt])
      | (refine WO.op (by intro; exact ev_lenS rfl) ?_; simp only [pt])
      | (refine WO.opN (by intro; simp only [go_sem, storeAt, Option.bind_eq_bind, over, setBlk, cut, a0]; rfl) ?_))
    simp only [List.take, List.drop, List.nil_append, List.append_nil, List.cons_append, List.length_cons, List.length_nil, Nat.zero_add, Nat.reduceAdd, setBlk]
    simp only [a2]
    refine WO.nil ?_
    simp only [Then]
    generalize hm : M.length = m at hS1 ⊢
    generalize M ++ [some (Blk.mk 0 [.bool pa, .int .i64 psq, .int .i64 pb])] = M1 at hS1 hl1 ⊢
    have hS := hS1
    have hC := hS.c
    refine WC.seq (WC.seq (WC.region ?_))
    repeat (first
      | (refine WO.yes rfl ?_)
      | (refine WO.no rfl ?_; simp only [pt])
      | (refine WO.op (by intro; simp only [go_sem, fillP, over, cut, nilCheckAV]; rfl) ?_; simp only [pt])
      | (refine WO.op (by intro; exact ev_lenS rfl) ?_; simp only [pt])
      | (refine WO.opN (by intro; simp only [go_sem, storeAt, Option.bind_eq_bind, over, setBlk, cut]; rfl) ?_))
    refine WO.nil ?_
    simp only [Then]
    refine WC.yes rfl (WC.region ?_)
    repeat (first
      | (refine WO.yes rfl ?_)
      | (refine WO.no rfl ?_; simp only [pt])
      | (refine WO.op (by intro; simp only [go_sem, fillP, over, cut, nilCheckAV, hC, hfe]; rfl) ?_; simp only [pt])
      | (refine WO.op (by intro; exact ev_lenS rfl) ?_; simp only [pt])
      | (refine WO.opN (by intro; simp only [go_sem, storeAt, Option.bind_eq_bind, over, setBlk, cut, hC, hfe]; rfl) ?_))
    refine WO.call rfl (by simp only [go_sem, List.map, hfe]) ((without_run (Γ := Gq) (L := L) rfl (fn_of Try.func44 cir44) hl1 hi (by have := hsm.back; omega)).mono ?_)
    rintro y' ⟨M2, L2⟩ ⟨rfl, hsm2, hq2⟩
    have hS := hS.newB hq2 hsm2
    have hC := hS.c
    have hyc := hq2.cells
    simp only [AV.cells] at hyc
    simp only [pt]
    repeat (first
      | (refine WO.yes rfl ?_)
      | (refine WO.no rfl ?_; simp only [pt])
      | (refine WO.op (by intro; simp only [go_sem, fillP, over, cut, nilCheckAV, hC, hyc]; rfl) ?_; simp only [pt])
      | (refine WO.op (by intro; exact ev_lenS rfl) ?_; simp only [pt])
      | (refine WO.opN (by intro; simp only [go_sem, storeAt, Option.bind_eq_bind, over, setBlk, cut, hC, hyc]; rfl) ?_))
    simp only [List.take, List.drop, List.nil_append, List.append_nil, List.cons_append, List.length_cons, List.length_nil, Nat.zero_add, Nat.reduceAdd, setBlk]
    refine WO.nil ?_
    simp only [Then]
    have hS2 := hS.turn [.int .i64 X.seq, q, g, f, y', .int .i64 (hd : Nat)]
    generalize M2.set k (some ⟨0, [.int .i64 X.seq, q, g, f, y', .int .i64 (hd : Nat)]⟩) = M3 at hS2 ⊢
    have hS := hS2
    have hC := hS.c
    have hP := hS.at (j := m + 0) (c := [.bool pa, .int .i64 psq, .int .i64 pb]) (by simp)
    simp only [Nat.add_zero] at hP
    refine WC.seq (WC.seq (WC.region ?_))
    repeat (first
      | (refine WO.yes rfl ?_)
      | (refine WO.no rfl ?_; simp only [pt])
      | (refine WO.op (by intro; simp only [go_sem, fillP, over, cut, nilCheckAV]; rfl) ?_; simp only [pt])
      | (refine WO.op (by intro; exact ev_lenS rfl) ?_; simp only [pt])
      | (refine WO.opN (by intro; simp only [go_sem, storeAt, Option.bind_eq_bind, over, setBlk, cut]; rfl) ?_))
    refine WO.nil ?_
    simp only [Then]
    refine WC.yes rfl (WC.region ?_)
    repeat (first
      | (refine WO.yes rfl ?_)
      | (refine WO.no rfl ?_; simp only [pt])
      | (refine WO.op (by intro; simp only [go_sem, fillP, over, cut, nilCheckAV, hC, hP]; rfl) ?_; simp only [pt])
      | (refine WO.op (by intro; exact ev_lenS rfl) ?_; simp only [pt])
      | (refine WO.opN (by intro; simp only [go_sem, storeAt, Option.bind_eq_bind, over, setBlk, cut, hC, hP]; rfl) ?_))
    refine WO.call rfl rfl (WF.spec rfl (huse _) ?_)
    simp only [pt]
    repeat (first
      | (refine WO.yes rfl ?_)
      | (refine WO.no rfl ?_; simp only [pt])
      | (refine WO.op (by intro; simp only [go_sem, fillP, over, cut, nilCheckAV, hC, hvc]; rfl) ?_; simp only [pt])
      | (refine WO.op (by intro; exact ev_lenS rfl) ?_; simp only [pt])
      | (refine WO.opN (by intro; simp only [go_sem, storeAt, Option.bind_eq_bind, over, setBlk, cut, hC, hvc]; rfl) ?_))
    simp only [List.take, List.drop, List.nil_append, List.append_nil, List.cons_append, List.length_cons, List.length_nil, Nat.zero_add, Nat.reduceAdd, setBlk]
    refine WO.nil ?_
    simp only [Then]
    have hS8 := hS.turn [.int .i64 seq', v, g, f, y', .int .i64 (hd : Nat)]
    generalize M3.set k (some ⟨0, [.int .i64 seq', v, g, f, y', .int .i64 (hd : Nat)]⟩) = M8 at hS8 ⊢
    have hS := hS8
    refine WC.seq (WC.region ?_)
    have hC := hS.c
    have hz := hS.at (j := k + 1) (c := [.int .i64 0, .snil, .snil, .snil, .snil, .int .i64 0]) (by simp)
    have hlt := look_lt hz
    repeat (first
      | (refine WO.yes rfl ?_)
      | (refine WO.no rfl ?_; simp only [pt])
      | (refine WO.op (by intro; simp only [go_sem, fillP, over, cut, nilCheckAV, hC, hz]; rfl) ?_; simp only [pt])
      | (refine WO.op (by intro; exact ev_lenS rfl) ?_; simp only [pt])
      | (refine WO.opN (by intro; simp only [go_sem, storeAt, Option.bind_eq_bind, over, setBlk, cut, hC, hz]; rfl) ?_))
    simp only [List.take, List.drop, List.nil_append, List.append_nil, List.cons_append, List.length_cons, List.length_nil, Nat.zero_add, Nat.reduceAdd, setBlk]
    refine WO.nil ?_
    simp only [Then]
    refine WC.ret ⟨[.agg [.int .i64 seq', v, g, f, y', .int .i64 (hd : Nat)]], ?_, ?_⟩
    · simp only [evRes, gt, look_set hlt, Option.bind_some, loadCs, if_true, cut, Option.map_some]
      rfl
    · rw [hX]
      exact SS.fin (X' := { X with back := (X.back.eraseIdx (s / 8 % X.back.length)), seq := seq', queue := queue' }) (c := [.int .i64 0, .snil, .snil, .snil, .snil, .int .i64 0]) hS (by simp) _ hv hR.hg hR.left hR.hdle


set_option maxRecDepth 20000 in
set_option maxHeartbeats 1000000 in
theorem rstep5 {H : Hp} {L : List (Option ALoop)} {n0 hd s : Nat} {X : RunSt} {bs : List Int} {q g f b bd : AV} (hR : RR n0 H bs X hd q g f b) (hn0 : n0 ≤ H.length) (hbd : IntS bd bs) (hsm : Sm X) (hs63 : s < 9223372036854775808) (hbl : bs.length ≤ 1000) (e8 : s % 8 = 5) :
    WF Gq (.func 38 [] []) [.agg [.int .i64 X.seq, q, g, f, b, .int .i64 (hd : Nat)], bd, .int .i64 (s : Nat)] ⟨H, L⟩ fun y m' => Done n0 H L bs (stepM X s) y m' := by
  by_cases h0 : X.back = []
  · have hX : stepM X s = X := by
      have e1 : stepM X s = answerM X (s / 8) true := by unfold stepM; simp only [e8]
      rw [e1]
      unfold answerM
      rw [h0, takeAt_nil]
      cases X
      simp only at h0
      subst h0
      rfl
    have hz0 : ((X.back.length : Int) == 0) = true := by rw [h0]; rfl
    generalize hk : H.length = k
    have hS : SS n0 k H (H ++ [some (Blk.mk 0 [.int .i64 X.seq, q, g, f, b, .int .i64 (hd : Nat)]), some (Blk.mk 0 [.int .i64 0, .snil, .snil, .snil, .snil, .int .i64 0])]) [.int .i64 X.seq, q, g, f, b, .int .i64 (hd : Nat)] [(k + 1, [.int .i64 0, .snil, .snil, .snil, .snil, .int .i64 0])] f b X.forth X.back := by
      refine ⟨by rw [← hk]; exact look2.1, ⟨fun e => ?_, fun e => ?_⟩, fun e he => ?_, hR.hf.app _, hR.hb.app _, hR.apart, (Same.app _).weaken hn0 (fun _ _ h => h), by omega⟩
      · have := hR.hf.own e; omega
      · have := hR.hb.own e; omega
      · simp only [List.mem_cons, List.not_mem_nil, or_false] at he
        subst he
        exact ⟨by rw [← hk]; exact look2.2, fun e => by have := hR.hf.own e; simp only at this; omega, fun e => by have := hR.hb.own e; simp only at this; omega, by simp⟩
    have h80 : ((8 : Int) = 0) = False := by simp
    have hrem : Int.tmod (s : Int) 8 = 5 := by
      have e1 : Int.tmod (s : Int) 8 = ((s % 8 : Nat) : Int) := rfl
      rw [e1, e8]
      rfl
    have hquo : IntKind.wrap .i64 (Int.tdiv (s : Int) 8) = ((s / 8 : Nat) : Int) := by
      have e : Int.tdiv (s : Int) 8 = ((s / 8 : Nat) : Int) := rfl
      rw [e, wrap_id (by omega) (by omega)]
    have hqc := hR.hq.cells
    have hgc := hR.hg.cells
    have hfc := hR.hf.cells
    have hbc := hR.hb.cells
    simp only [AV.cells] at hqc hgc hfc hbc
    have h1 := hsm.seq
    have h2 := hsm.queue
    have h3 := hsm.got
    have h4 := hsm.forth
    have h5 := hsm.back
    refine WF.fn rfl (fn_of Try.func38 cir38) (by show 3 ≤ 135; decide) ?_
    unfold ir38
    simp only [padTo, List.replicate, List.nil_append, List.append_nil, List.cons_append]
    refine WC.seq (WC.region ?_)
    repeat (first
      | (refine WO.yes rfl ?_)
      | (refine WO.no rfl ?_; simp only [pt])
      | (refine WO.op (by intro; simp only [go_sem, fillP, over, cut, nilCheckAV]; rfl) ?_; simp only [pt])
      | (refine WO.op (by intro; exact ev_lenS rfl) ?_; simp only [pt])
      | (refine WO.opN (by intro; simp only [go_sem, storeAt, Option.bind_eq_bind, over, setBlk, cut]; rfl) ?_))
    simp only [List.append_assoc, List.cons_append, List.nil_append, List.length_append, List.length_cons, List.length_nil, Nat.zero_add, hk]
    refine WO.nil ?_
    simp only [Then]
    generalize H ++ [some (Blk.mk 0 [.int .i64 X.seq, q, g, f, b, .int .i64 (hd : Nat)]), some (Blk.mk 0 [.int .i64 0, .snil, .snil, .snil, .snil, .int .i64 0])] = M at hS ⊢
    refine WC.seq (WC.region ?_)
    repeat (first
      | (refine WO.yes rfl ?_)
      | (refine WO.no rfl ?_; simp only [pt])
      | (refine WO.op (by intro; simp only [go_sem, fillP, over, cut, nilCheckAV, h80, hrem]; rfl) ?_; simp only [pt])
      | (refine WO.op (by intro; exact ev_lenS rfl) ?_; simp only [pt])
      | (refine WO.opN (by intro; simp only [go_sem, storeAt, Option.bind_eq_bind, over, setBlk, cut, h80, hrem]; rfl) ?_))
    refine WO.nil ?_
    simp only [Then]
    refine WC.seq (WC.seq (WC.region ?_))
    repeat (first
      | (refine WO.yes rfl ?_)
      | (refine WO.no rfl ?_; simp only [pt])
      | (refine WO.op (by intro; simp only [go_sem, fillP, over, cut, nilCheckAV]; rfl) ?_; simp only [pt])
      | (refine WO.op (by intro; exact ev_lenS rfl) ?_; simp only [pt])
      | (refine WO.opN (by intro; simp only [go_sem, storeAt, Option.bind_eq_bind, over, setBlk, cut]; rfl) ?_))
    refine WO.nil ?_
    simp only [Then]
    refine WC.no rfl (WC.skip ?_)
    simp only [Then]
    refine WC.seq (WC.seq (WC.region ?_))
    repeat (first
      | (refine WO.yes rfl ?_)
      | (refine WO.no rfl ?_; simp only [pt])
      | (refine WO.op (by intro; simp only [go_sem, fillP, over, cut, nilCheckAV]; rfl) ?_; simp only [pt])
      | (refine WO.op (by intro; exact ev_lenS rfl) ?_; simp only [pt])
      | (refine WO.opN (by intro; simp only [go_sem, storeAt, Option.bind_eq_bind, over, setBlk, cut]; rfl) ?_))
    refine WO.nil ?_
    simp only [Then]
    refine WC.no rfl (WC.skip ?_)
    simp only [Then]
    refine WC.seq (WC.seq (WC.region ?_))
    repeat (first
      | (refine WO.yes rfl ?_)
      | (refine WO.no rfl ?_; simp only [pt])
      | (refine WO.op (by intro; simp only [go_sem, fillP, over, cut, nilCheckAV]; rfl) ?_; simp only [pt])
      | (refine WO.op (by intro; exact ev_lenS rfl) ?_; simp only [pt])
      | (refine WO.opN (by intro; simp only [go_sem, storeAt, Option.bind_eq_bind, over, setBlk, cut]; rfl) ?_))
    refine WO.nil ?_
    simp only [Then]
    refine WC.no rfl (WC.skip ?_)
    simp only [Then]
    refine WC.seq (WC.seq (WC.region ?_))
    have hC := hS.c
    repeat (first
      | (refine WO.yes rfl ?_)
      | (refine WO.no rfl ?_; simp only [pt])
      | (refine WO.op (by intro; simp only [go_sem, fillP, over, cut, nilCheckAV, hC]; rfl) ?_; simp only [pt])
      | (refine WO.op (by intro; exact ev_lenS rfl) ?_; simp only [pt])
      | (refine WO.opN (by intro; simp only [go_sem, storeAt, Option.bind_eq_bind, over, setBlk, cut, hC]; rfl) ?_))
    refine WO.op (by intro; exact ev_lenS (n := X.back.length) (by simp only [go_sem]; exact hR.hb.len)) ?_
    simp only [pt]
    repeat (first
      | (refine WO.yes rfl ?_)
      | (refine WO.no rfl ?_; simp only [pt])
      | (refine WO.op (by intro; simp only [go_sem, fillP, over, cut, nilCheckAV, hz0]; rfl) ?_; simp only [pt])
      | (refine WO.op (by intro; exact ev_lenS rfl) ?_; simp only [pt])
      | (refine WO.opN (by intro; simp only [go_sem, storeAt, Option.bind_eq_bind, over, setBlk, cut, hz0]; rfl) ?_))
    refine WO.nil ?_
    simp only [Then]
    refine WC.yes (by simp only [go_sem, hz0]) ?_
    refine WC.seq (WC.region ?_)
    have hC := hS.c
    have hz := hS.at (j := k + 1) (c := [.int .i64 0, .snil, .snil, .snil, .snil, .int .i64 0]) (by simp)
    have hlt := look_lt hz
    repeat (first
      | (refine WO.yes rfl ?_)
      | (refine WO.no rfl ?_; simp only [pt])
      | (refine WO.op (by intro; simp only [go_sem, fillP, over, cut, nilCheckAV, hC, hz]; rfl) ?_; simp only [pt])
      | (refine WO.op (by intro; exact ev_lenS rfl) ?_; simp only [pt])
      | (refine WO.opN (by intro; simp only [go_sem, storeAt, Option.bind_eq_bind, over, setBlk, cut, hC, hz]; rfl) ?_))
    simp only [List.take, List.drop, List.nil_append, List.append_nil, List.cons_append, List.length_cons, List.length_nil, Nat.zero_add, Nat.reduceAdd, setBlk]
    refine WO.nil ?_
    simp only [Then]
    refine WC.ret ⟨[.agg [.int .i64 X.seq, q, g, f, b, .int .i64 (hd : Nat)]], ?_, ?_⟩
    · simp only [evRes, gt, look_set hlt, Option.bind_some, loadCs, if_true, cut, Option.map_some]
      rfl
    · rw [hX]
      exact SS.fin (X' := X) (c := [.int .i64 0, .snil, .snil, .snil, .snil, .int .i64 0]) hS (by simp) _ hR.hq hR.hg hR.left hR.hdle

  · have hpos : 0 < X.back.length := List.length_pos_iff.2 h0
    have hi : s / 8 % X.back.length < X.back.length := Nat.mod_lt _ hpos
    have hz0 : ((X.back.length : Int) == 0) = false := by simp; exact h0
    have hn0' : ((X.back.length : Int) = 0) = False := by simp; exact h0
    have hmod : Int.tmod ((s / 8 : Nat) : Int) (X.back.length : Int) = ((s / 8 % X.back.length : Nat) : Int) := rfl
    have hta : takeAt X.back (s / 8) true = (some X.back[s / 8 % X.back.length], X.back) := by
      unfold takeAt
      rw [List.getElem?_eq_getElem hi]
      rfl
    have hack : I64 X.back[s / 8 % X.back.length].2.1 := hsm.acks _ (List.getElem_mem hi)
    have hcell : ∀ rest, ((pcells X.back ++ rest).drop ((s / 8 % X.back.length) * 3)).take 3 = pk X.back[s / 8 % X.back.length] := fun rest => pcells_at hi
    generalize hpp : X.back[s / 8 % X.back.length] = p at hta hcell hack
    have hX : stepM X s = { X with back := X.back, seq := (hearM X.seq X.queue p).1, queue := (hearM X.seq X.queue p).2 } := by
      have e1 : stepM X s = answerM X (s / 8) true := by unfold stepM; simp only [e8]
      rw [e1]
      unfold answerM
      rw [hta]
    obtain ⟨v, hv, huse⟩ := rhear_eq (p := p) hR.hq hsm.seq hack (by have := hsm.queue; omega)
    generalize (hearM X.seq X.queue p).1 = seq' at hX huse
    generalize (hearM X.seq X.queue p).2 = queue' at hX hv
    have hvc := hv.cells
    simp only [AV.cells] at hvc
    obtain ⟨pa, psq, pb⟩ := p
    simp only [pk] at hcell huse
    generalize hk : H.length = k
    have hS : SS n0 k H (H ++ [some (Blk.mk 0 [.int .i64 X.seq, q, g, f, b, .int .i64 (hd : Nat)]), some (Blk.mk 0 [.int .i64 0, .snil, .snil, .snil, .snil, .int .i64 0])]) [.int .i64 X.seq, q, g, f, b, .int .i64 (hd : Nat)] [(k + 1, [.int .i64 0, .snil, .snil, .snil, .snil, .int .i64 0])] f b X.forth X.back := by
      refine ⟨by rw [← hk]; exact look2.1, ⟨fun e => ?_, fun e => ?_⟩, fun e he => ?_, hR.hf.app _, hR.hb.app _, hR.apart, (Same.app _).weaken hn0 (fun _ _ h => h), by omega⟩
      · have := hR.hf.own e; omega
      · have := hR.hb.own e; omega
      · simp only [List.mem_cons, List.not_mem_nil, or_false] at he
        subst he
        exact ⟨by rw [← hk]; exact look2.2, fun e => by have := hR.hf.own e; simp only at this; omega, fun e => by have := hR.hb.own e; simp only at this; omega, by simp⟩
    have h80 : ((8 : Int) = 0) = False := by simp
    have hrem : Int.tmod (s : Int) 8 = 5 := by
      have e1 : Int.tmod (s : Int) 8 = ((s % 8 : Nat) : Int) := rfl
      rw [e1, e8]
      rfl
    have hquo : IntKind.wrap .i64 (Int.tdiv (s : Int) 8) = ((s / 8 : Nat) : Int) := by
      have e : Int.tdiv (s : Int) 8 = ((s / 8 : Nat) : Int) := rfl
      rw [e, wrap_id (by omega) (by omega)]
    have hqc := hR.hq.cells
    have hgc := hR.hg.cells
    have hfc := hR.hf.cells
    have hbc := hR.hb.cells
    simp only [AV.cells] at hqc hgc hfc hbc
    have h1 := hsm.seq
    have h2 := hsm.queue
    have h3 := hsm.got
    have h4 := hsm.forth
    have h5 := hsm.back
    refine WF.fn rfl (fn_of Try.func38 cir38) (by show 3 ≤ 135; decide) ?_
    unfold ir38
    simp only [padTo, List.replicate, List.nil_append, List.append_nil, List.cons_append]
    refine WC.seq (WC.region ?_)
    repeat (first
      | (refine WO.yes rfl ?_)
      | (refine WO.no rfl ?_; simp only [pt])
      | (refine WO.op (by intro; simp only [go_sem, fillP, over, cut, nilCheckAV]; rfl) ?_; simp only [pt])
      | (refine WO.op (by intro; exact ev_lenS rfl) ?_; simp only [pt])
      | (refine WO.opN (by intro; simp only [go_sem, storeAt, Option.bind_eq_bind, over, setBlk, cut]; rfl) ?_))
    simp only [List.append_assoc, List.cons_append, List.nil_append, List.length_append, List.length_cons, List.length_nil, Nat.zero_add, hk]
    refine WO.nil ?_
    simp only [Then]
    generalize H ++ [some (Blk.mk 0 [.int .i64 X.seq, q, g, f, b, .int .i64 (hd : Nat)]), some (Blk.mk 0 [.int .i64 0, .snil, .snil, .snil, .snil, .int .i64 0])] = M at hS ⊢
    refine WC.seq (WC.region ?_)
    repeat (first
      | (refine WO.yes rfl ?_)
      | (refine WO.no rfl ?_; simp only [pt])
      | (refine WO.op (by intro; simp only [go_sem, fillP, over, cut, nilCheckAV, h80, hrem]; rfl) ?_; simp only [pt])
      | (refine WO.op (by intro; exact ev_lenS rfl) ?_; simp only [pt])
      | (refine WO.opN (by intro; simp only [go_sem, storeAt, Option.bind_eq_bind, over, setBlk, cut, h80, hrem]; rfl) ?_))
    refine WO.nil ?_
    simp only [Then]
    refine WC.seq (WC.seq (WC.region ?_))
    repeat (first
      | (refine WO.yes rfl ?_)
      | (refine WO.no rfl ?_; simp only [pt])
      | (refine WO.op (by intro; simp only [go_sem, fillP, over, cut, nilCheckAV]; rfl) ?_; simp only [pt])
      | (refine WO.op (by intro; exact ev_lenS rfl) ?_; simp only [pt])
      | (refine WO.opN (by intro; simp only [go_sem, storeAt, Option.bind_eq_bind, over, setBlk, cut]; rfl) ?_))
    refine WO.nil ?_
    simp only [Then]
    refine WC.no rfl (WC.skip ?_)
    simp only [Then]
    refine WC.seq (WC.seq (WC.region ?_))
    repeat (first
      | (refine WO.yes rfl ?_)
      | (refine WO.no rfl ?_; simp only [pt])
      | (refine WO.op (by intro; simp only [go_sem, fillP, over, cut, nilCheckAV]; rfl) ?_; simp only [pt])
      | (refine WO.op (by intro; exact ev_lenS rfl) ?_; simp only [pt])
      | (refine WO.opN (by intro; simp only [go_sem, storeAt, Option.bind_eq_bind, over, setBlk, cut]; rfl) ?_))
    refine WO.nil ?_
    simp only [Then]
    refine WC.no rfl (WC.skip ?_)
    simp only [Then]
    refine WC.seq (WC.seq (WC.region ?_))
    repeat (first
      | (refine WO.yes rfl ?_)
      | (refine WO.no rfl ?_; simp only [pt])
      | (refine WO.op (by intro; simp only [go_sem, fillP, over, cut, nilCheckAV]; rfl) ?_; simp only [pt])
      | (refine WO.op (by intro; exact ev_lenS rfl) ?_; simp only [pt])
      | (refine WO.opN (by intro; simp only [go_sem, storeAt, Option.bind_eq_bind, over, setBlk, cut]; rfl) ?_))
    refine WO.nil ?_
    simp only [Then]
    refine WC.no rfl (WC.skip ?_)
    simp only [Then]
    refine WC.seq (WC.seq (WC.region ?_))
    have hC := hS.c
    repeat (first
      | (refine WO.yes rfl ?_)
      | (refine WO.no rfl ?_; simp only [pt])
      | (refine WO.op (by intro; simp only [go_sem, fillP, over, cut, nilCheckAV, hC]; rfl) ?_; simp only [pt])
      | (refine WO.op (by intro; exact ev_lenS rfl) ?_; simp only [pt])
      | (refine WO.opN (by intro; simp only [go_sem, storeAt, Option.bind_eq_bind, over, setBlk, cut, hC]; rfl) ?_))
    refine WO.op (by intro; exact ev_lenS (n := X.back.length) (by simp only [go_sem]; exact hR.hb.len)) ?_
    simp only [pt]
    repeat (first
      | (refine WO.yes rfl ?_)
      | (refine WO.no rfl ?_; simp only [pt])
      | (refine WO.op (by intro; simp only [go_sem, fillP, over, cut, nilCheckAV, hz0]; rfl) ?_; simp only [pt])
      | (refine WO.op (by intro; exact ev_lenS rfl) ?_; simp only [pt])
      | (refine WO.opN (by intro; simp only [go_sem, storeAt, Option.bind_eq_bind, over, setBlk, cut, hz0]; rfl) ?_))
    refine WO.nil ?_
    simp only [Then]
    refine WC.no (by simp only [go_sem, hz0]) (WC.skip ?_)
    simp only [Then]
    obtain ⟨ff, gg, rest, hfe, hfn, hl⟩ := hS.hb.get h0
    have hlenl : (s / 8 % X.back.length) * 3 + 3 ≤ (pcells X.back ++ rest).length := by rw [List.length_append, pcells_len]; omega
    have hidx : indexAddrAV 3 b (.int .i64 ((s / 8 % X.back.length : Nat) : Int)) = some (.pref ff gg ((s / 8 % X.back.length) * 3)) := by
      rw [hfe]
      simp only [indexAddrAV, if_true, idx]
      rw [if_pos ⟨by omega, by omega⟩]
      simp only [Option.map_some, Int.toNat_natCast, Nat.zero_add]
    have hld : loadAV M true 3 (.pref ff gg ((s / 8 % X.back.length) * 3)) = some (.agg [.bool pa, .int .i64 psq, .int .i64 pb]) := by
      simp only [loadAV, hl, Option.bind_some, loadCs, if_true, cut]
      rw [if_pos hlenl, hcell]
      rfl
    refine WC.seq (WC.region ?_)
    repeat (first
      | (refine WO.yes rfl ?_)
      | (refine WO.no rfl ?_; simp only [pt])
      | (refine WO.op (by intro; simp only [go_sem, fillP, over, cut, nilCheckAV, hC, hquo, h80]; rfl) ?_; simp only [pt])
      | (refine WO.op (by intro; exact ev_lenS rfl) ?_; simp only [pt])
      | (refine WO.opN (by intro; simp only [go_sem, storeAt, Option.bind_eq_bind, over, setBlk, cut, hC, hquo, h80]; rfl) ?_))
    refine WO.op (by intro; exact ev_lenS (n := X.back.length) (by simp only [go_sem]; exact hS.hb.len)) ?_
    simp only [pt]
    repeat (first
      | (refine WO.yes rfl ?_)
      | (refine WO.no rfl ?_; simp only [pt])
      | (refine WO.op (by intro; simp only [go_sem, fillP, over, cut, nilCheckAV, hn0', hmod]; rfl) ?_; simp only [pt])
      | (refine WO.op (by intro; exact ev_lenS rfl) ?_; simp only [pt])
      | (refine WO.opN (by intro; simp only [go_sem, storeAt, Option.bind_eq_bind, over, setBlk, cut, hn0', hmod]; rfl) ?_))
    refine WO.nil ?_
    simp only [Then]
    refine WC.seq (WC.region ?_)
    repeat (first
      | (refine WO.yes rfl ?_)
      | (refine WO.no rfl ?_; simp only [pt])
      | (refine WO.op (by intro; simp only [go_sem, fillP, over, cut, nilCheckAV, hC]; rfl) ?_; simp only [pt])
      | (refine WO.op (by intro; exact ev_lenS rfl) ?_; simp only [pt])
      | (refine WO.opN (by intro; simp only [go_sem, storeAt, Option.bind_eq_bind, over, setBlk, cut, hC]; rfl) ?_))
    refine WO.op (by intro; rw [ev_indexAddr]; exact (congrArg (Option.map _) hidx).trans rfl) ?_
    simp only [pt]
    refine WO.op (by intro; rw [ev_load]; exact (congrArg (Option.map _) hld).trans rfl) ?_
    simp only [pt]
    have hlA : ∀ R, Zz.look (M ++ R) ff gg = some (pcells X.back ++ rest) := fun R => by rw [look_left (look_lt hl)]; exact hl
    have hS1 := hS.know (R := [some (Blk.mk 0 [.bool pa, .int .i64 psq, .int .i64 pb])]) (j := 0) (c := [.bool pa, .int .i64 psq, .int .i64 pb]) rfl
    have hl1 := hlA [some (Blk.mk 0 [.bool pa, .int .i64 psq, .int .i64 pb])]
    have a0 : Zz.look (M ++ [some (Blk.mk 0 [.bool false, .int .i64 0, .int .i64 0])]) M.length 0 = some [.bool false, .int .i64 0, .int .i64 0] := by rw [look_right0]; rfl
    have a2 : ∀ x y, (M ++ [x]).set M.length y = M ++ [y] := fun x y => by rw [List.set_append_right (h := Nat.le_refl _)]; simp
    repeat (first
      | (refine WO.yes rfl ?_)
      | (refine WO.no rfl ?_; simp only [pt])
      | (refine WO.op (by intro; simp only [go_sem, fillP, over, cut, nilCheckAV, a0]; rfl) ?_; simp only [pt])
      | (refine WO.op (by intro; exact ev_lenS rfl) ?_; simp only [pt])
      | (refine WO.opN (by intro; simp only [go_sem, storeAt, Option.bind_eq_bind, over, setBlk, cut, a0]; rfl) ?_))
    simp only [List.take, List.drop, List.nil_append, List.append_nil, List.cons_append, List.length_cons, List.length_nil, Nat.zero_add, Nat.reduceAdd, setBlk]
    simp only [a2]
    refine WO.nil ?_
    simp only [Then]
    generalize hm : M.length = m at hS1 ⊢
    generalize M ++ [some (Blk.mk 0 [.bool pa, .int .i64 psq, .int .i64 pb])] = M1 at hS1 hl1 ⊢
    have hS := hS1
    have hC := hS.c
    refine WC.seq (WC.seq (WC.region ?_))
    repeat (first
      | (refine WO.yes rfl ?_)
      | (refine WO.no rfl ?_; simp only [pt])
      | (refine WO.op (by intro; simp only [go_sem, fillP, over, cut, nilCheckAV]; rfl) ?_; simp only [pt])
      | (refine WO.op (by intro; exact ev_lenS rfl) ?_; simp only [pt])
      | (refine WO.opN (by intro; simp only [go_sem, storeAt, Option.bind_eq_bind, over, setBlk, cut]; rfl) ?_))
    refine WO.nil ?_
    simp only [Then]
    refine WC.no rfl (WC.skip ?_)
    simp only [Then]
    have hP := hS.at (j := m + 0) (c := [.bool pa, .int .i64 psq, .int .i64 pb]) (by simp)
    simp only [Nat.add_zero] at hP
    refine WC.seq (WC.seq (WC.region ?_))
    repeat (first
      | (refine WO.yes rfl ?_)
      | (refine WO.no rfl ?_; simp only [pt])
      | (refine WO.op (by intro; simp only [go_sem, fillP, over, cut, nilCheckAV]; rfl) ?_; simp only [pt])
      | (refine WO.op (by intro; exact ev_lenS rfl) ?_; simp only [pt])
      | (refine WO.opN (by intro; simp only [go_sem, storeAt, Option.bind_eq_bind, over, setBlk, cut]; rfl) ?_))
    refine WO.nil ?_
    simp only [Then]
    refine WC.yes rfl (WC.region ?_)
    repeat (first
      | (refine WO.yes rfl ?_)
      | (refine WO.no rfl ?_; simp only [pt])
      | (refine WO.op (by intro; simp only [go_sem, fillP, over, cut, nilCheckAV, hC, hP]; rfl) ?_; simp only [pt])
      | (refine WO.op (by intro; exact ev_lenS rfl) ?_; simp only [pt])
      | (refine WO.opN (by intro; simp only [go_sem, storeAt, Option.bind_eq_bind, over, setBlk, cut, hC, hP]; rfl) ?_))
    refine WO.call rfl rfl (WF.spec rfl (huse _) ?_)
    simp only [pt]
    repeat (first
      | (refine WO.yes rfl ?_)
      | (refine WO.no rfl ?_; simp only [pt])
      | (refine WO.op (by intro; simp only [go_sem, fillP, over, cut, nilCheckAV, hC, hvc]; rfl) ?_; simp only [pt])
      | (refine WO.op (by intro; exact ev_lenS rfl) ?_; simp only [pt])
      | (refine WO.opN (by intro; simp only [go_sem, storeAt, Option.bind_eq_bind, over, setBlk, cut, hC, hvc]; rfl) ?_))
    simp only [List.take, List.drop, List.nil_append, List.append_nil, List.cons_append, List.length_cons, List.length_nil, Nat.zero_add, Nat.reduceAdd, setBlk]
    refine WO.nil ?_
    simp only [Then]
    have hS8 := hS.turn [.int .i64 seq', v, g, f, b, .int .i64 (hd : Nat)]
    generalize M1.set k (some ⟨0, [.int .i64 seq', v, g, f, b, .int .i64 (hd : Nat)]⟩) = M8 at hS8 ⊢
    have hS := hS8
    refine WC.seq (WC.region ?_)
    have hC := hS.c
    have hz := hS.at (j := k + 1) (c := [.int .i64 0, .snil, .snil, .snil, .snil, .int .i64 0]) (by simp)
    have hlt := look_lt hz
    repeat (first
      | (refine WO.yes rfl ?_)
      | (refine WO.no rfl ?_; simp only [pt])
      | (refine WO.op (by intro; simp only [go_sem, fillP, over, cut, nilCheckAV, hC, hz]; rfl) ?_; simp only [pt])
      | (refine WO.op (by intro; exact ev_lenS rfl) ?_; simp only [pt])
      | (refine WO.opN (by intro; simp only [go_sem, storeAt, Option.bind_eq_bind, over, setBlk, cut, hC, hz]; rfl) ?_))
    simp only [List.take, List.drop, List.nil_append, List.append_nil, List.cons_append, List.length_cons, List.length_nil, Nat.zero_add, Nat.reduceAdd, setBlk]
    refine WO.nil ?_
    simp only [Then]
    refine WC.ret ⟨[.agg [.int .i64 seq', v, g, f, b, .int .i64 (hd : Nat)]], ?_, ?_⟩
    · simp only [evRes, gt, look_set hlt, Option.bind_some, loadCs, if_true, cut, Option.map_some]
      rfl
    · rw [hX]
      exact SS.fin (X' := { X with back := X.back, seq := seq', queue := queue' }) (c := [.int .i64 0, .snil, .snil, .snil, .snil, .int .i64 0]) hS (by simp) _ hv hR.hg hR.left hR.hdle


set_option maxRecDepth 20000 in
set_option maxHeartbeats 1000000 in
theorem rstep6 {H : Hp} {L : List (Option ALoop)} {n0 hd s : Nat} {X : RunSt} {bs : List Int} {q g f b bd : AV} (hR : RR n0 H bs X hd q g f b) (hn0 : n0 ≤ H.length) (hbd : IntS bd bs) (hsm : Sm X) (hs63 : s < 9223372036854775808) (hbl : bs.length ≤ 1000) (e8 : s % 8 = 6) :
    WF Gq (.func 38 [] []) [.agg [.int .i64 X.seq, q, g, f, b, .int .i64 (hd : Nat)], bd, .int .i64 (s : Nat)] ⟨H, L⟩ fun y m' => Done n0 H L bs (stepM X s) y m' := by
  by_cases h0 : X.back = []
  · have hX : stepM X s = X := by
      have e1 : stepM X s = { X with back := (takeAt X.back (s / 8) false).2 } := by unfold stepM; simp only [e8]
      rw [e1, h0, takeAt_nil]
      cases X
      simp only at h0
      subst h0
      rfl
    have hz0 : ((X.back.length : Int) == 0) = true := by rw [h0]; rfl
    generalize hk : H.length = k
    have hS : SS n0 k H (H ++ [some (Blk.mk 0 [.int .i64 X.seq, q, g, f, b, .int .i64 (hd : Nat)]), some (Blk.mk 0 [.int .i64 0, .snil, .snil, .snil, .snil, .int .i64 0])]) [.int .i64 X.seq, q, g, f, b, .int .i64 (hd : Nat)] [(k + 1, [.int .i64 0, .snil, .snil, .snil, .snil, .int .i64 0])] f b X.forth X.back := by
      refine ⟨by rw [← hk]; exact look2.1, ⟨fun e => ?_, fun e => ?_⟩, fun e he => ?_, hR.hf.app _, hR.hb.app _, hR.apart, (Same.app _).weaken hn0 (fun _ _ h => h), by omega⟩
      · have := hR.hf.own e; omega
      · have := hR.hb.own e; omega
      · simp only [List.mem_cons, List.not_mem_nil, or_false] at he
        subst he
        exact ⟨by rw [← hk]; exact look2.2, fun e => by have := hR.hf.own e; simp only at this; omega, fun e => by have := hR.hb.own e; simp only at this; omega, by simp⟩
    have h80 : ((8 : Int) = 0) = False := by simp
    have hrem : Int.tmod (s : Int) 8 = 6 := by
      have e1 : Int.tmod (s : Int) 8 = ((s % 8 : Nat) : Int) := rfl
      rw [e1, e8]
      rfl
    have hquo : IntKind.wrap .i64 (Int.tdiv (s : Int) 8) = ((s / 8 : Nat) : Int) := by
      have e : Int.tdiv (s : Int) 8 = ((s / 8 : Nat) : Int) := rfl
      rw [e, wrap_id (by omega) (by omega)]
    have hqc := hR.hq.cells
    have hgc := hR.hg.cells
    have hfc := hR.hf.cells
    have hbc := hR.hb.cells
    simp only [AV.cells] at hqc hgc hfc hbc
    have h1 := hsm.seq
    have h2 := hsm.queue
    have h3 := hsm.got
    have h4 := hsm.forth
    have h5 := hsm.back
    refine WF.fn rfl (fn_of Try.func38 cir38) (by show 3 ≤ 135; decide) ?_
    unfold ir38
    simp only [padTo, List.replicate, List.nil_append, List.append_nil, List.cons_append]
    refine WC.seq (WC.region ?_)
    repeat (first
      | (refine WO.yes rfl ?_)
      | (refine WO.no rfl ?_; simp only [pt])
      | (refine WO.op (by intro; simp only [go_sem, fillP, over, cut, nilCheckAV]; rfl) ?_; simp only [pt])
      | (refine WO.op (by intro; exact ev_lenS rfl) ?_; simp only [pt])
      | (refine WO.opN (by intro; simp only [go_sem, storeAt, Option.bind_eq_bind, over, setBlk, cut]; rfl) ?_))
    simp only [List.append_assoc, List.cons_append, List.nil_append, List.length_append, List.length_cons, List.length_nil, Nat.zero_add, hk]
    refine WO.nil ?_
    simp only [Then]
    generalize H ++ [some (Blk.mk 0 [.int .i64 X.seq, q, g, f, b, .int .i64 (hd : Nat)]), some (Blk.mk 0 [.int .i64 0, .snil, .snil, .snil, .snil, .int .i64 0])] = M at hS ⊢
    refine WC.seq (WC.region ?_)
    repeat (first
      | (refine WO.yes rfl ?_)
      | (refine WO.no rfl ?_; simp only [pt])
      | (refine WO.op (by intro; simp only [go_sem, fillP, over, cut, nilCheckAV, h80, hrem]; rfl) ?_; simp only [pt])
      | (refine WO.op (by intro; exact ev_lenS rfl) ?_; simp only [pt])
      | (refine WO.opN (by intro; simp only [go_sem, storeAt, Option.bind_eq_bind, over, setBlk, cut, h80, hrem]; rfl) ?_))
    refine WO.nil ?_
    simp only [Then]
    refine WC.seq (WC.seq (WC.region ?_))
    repeat (first
      | (refine WO.yes rfl ?_)
      | (refine WO.no rfl ?_; simp only [pt])
      | (refine WO.op (by intro; simp only [go_sem, fillP, over, cut, nilCheckAV]; rfl) ?_; simp only [pt])
      | (refine WO.op (by intro; exact ev_lenS rfl) ?_; simp only [pt])
      | (refine WO.opN (by intro; simp only [go_sem, storeAt, Option.bind_eq_bind, over, setBlk, cut]; rfl) ?_))
    refine WO.nil ?_
    simp only [Then]
    refine WC.no rfl (WC.skip ?_)
    simp only [Then]
    refine WC.seq (WC.seq (WC.region ?_))
    repeat (first
      | (refine WO.yes rfl ?_)
      | (refine WO.no rfl ?_; simp only [pt])
      | (refine WO.op (by intro; simp only [go_sem, fillP, over, cut, nilCheckAV]; rfl) ?_; simp only [pt])
      | (refine WO.op (by intro; exact ev_lenS rfl) ?_; simp only [pt])
      | (refine WO.opN (by intro; simp only [go_sem, storeAt, Option.bind_eq_bind, over, setBlk, cut]; rfl) ?_))
    refine WO.nil ?_
    simp only [Then]
    refine WC.no rfl (WC.skip ?_)
    simp only [Then]
    refine WC.seq (WC.seq (WC.region ?_))
    repeat (first
      | (refine WO.yes rfl ?_)
      | (refine WO.no rfl ?_; simp only [pt])
      | (refine WO.op (by intro; simp only [go_sem, fillP, over, cut, nilCheckAV]; rfl) ?_; simp only [pt])
      | (refine WO.op (by intro; exact ev_lenS rfl) ?_; simp only [pt])
      | (refine WO.opN (by intro; simp only [go_sem, storeAt, Option.bind_eq_bind, over, setBlk, cut]; rfl) ?_))
    refine WO.nil ?_
    simp only [Then]
    refine WC.no rfl (WC.skip ?_)
    simp only [Then]
    refine WC.seq (WC.seq (WC.region ?_))
    have hC := hS.c
    repeat (first
      | (refine WO.yes rfl ?_)
      | (refine WO.no rfl ?_; simp only [pt])
      | (refine WO.op (by intro; simp only [go_sem, fillP, over, cut, nilCheckAV, hC]; rfl) ?_; simp only [pt])
      | (refine WO.op (by intro; exact ev_lenS rfl) ?_; simp only [pt])
      | (refine WO.opN (by intro; simp only [go_sem, storeAt, Option.bind_eq_bind, over, setBlk, cut, hC]; rfl) ?_))
    refine WO.op (by intro; exact ev_lenS (n := X.back.length) (by simp only [go_sem]; exact hR.hb.len)) ?_
    simp only [pt]
    repeat (first
      | (refine WO.yes rfl ?_)
      | (refine WO.no rfl ?_; simp only [pt])
      | (refine WO.op (by intro; simp only [go_sem, fillP, over, cut, nilCheckAV, hz0]; rfl) ?_; simp only [pt])
      | (refine WO.op (by intro; exact ev_lenS rfl) ?_; simp only [pt])
      | (refine WO.opN (by intro; simp only [go_sem, storeAt, Option.bind_eq_bind, over, setBlk, cut, hz0]; rfl) ?_))
    refine WO.nil ?_
    simp only [Then]
    refine WC.yes (by simp only [go_sem, hz0]) ?_
    refine WC.seq (WC.region ?_)
    have hC := hS.c
    have hz := hS.at (j := k + 1) (c := [.int .i64 0, .snil, .snil, .snil, .snil, .int .i64 0]) (by simp)
    have hlt := look_lt hz
    repeat (first
      | (refine WO.yes rfl ?_)
      | (refine WO.no rfl ?_; simp only [pt])
      | (refine WO.op (by intro; simp only [go_sem, fillP, over, cut, nilCheckAV, hC, hz]; rfl) ?_; simp only [pt])
      | (refine WO.op (by intro; exact ev_lenS rfl) ?_; simp only [pt])
      | (refine WO.opN (by intro; simp only [go_sem, storeAt, Option.bind_eq_bind, over, setBlk, cut, hC, hz]; rfl) ?_))
    simp only [List.take, List.drop, List.nil_append, List.append_nil, List.cons_append, List.length_cons, List.length_nil, Nat.zero_add, Nat.reduceAdd, setBlk]
    refine WO.nil ?_
    simp only [Then]
    refine WC.ret ⟨[.agg [.int .i64 X.seq, q, g, f, b, .int .i64 (hd : Nat)]], ?_, ?_⟩
    · simp only [evRes, gt, look_set hlt, Option.bind_some, loadCs, if_true, cut, Option.map_some]
      rfl
    · rw [hX]
      exact SS.fin (X' := X) (c := [.int .i64 0, .snil, .snil, .snil, .snil, .int .i64 0]) hS (by simp) _ hR.hq hR.hg hR.left hR.hdle

  · have hpos : 0 < X.back.length := List.length_pos_iff.2 h0
    have hi : s / 8 % X.back.length < X.back.length := Nat.mod_lt _ hpos
    have hz0 : ((X.back.length : Int) == 0) = false := by simp; exact h0
    have hn0' : ((X.back.length : Int) = 0) = False := by simp; exact h0
    have hmod : Int.tmod ((s / 8 : Nat) : Int) (X.back.length : Int) = ((s / 8 % X.back.length : Nat) : Int) := rfl
    have hta : takeAt X.back (s / 8) false = (some X.back[s / 8 % X.back.length], (X.back.eraseIdx (s / 8 % X.back.length))) := by
      unfold takeAt
      rw [List.getElem?_eq_getElem hi]
      rfl
    have hack : I64 X.back[s / 8 % X.back.length].2.1 := hsm.acks _ (List.getElem_mem hi)
    have hcell : ∀ rest, ((pcells X.back ++ rest).drop ((s / 8 % X.back.length) * 3)).take 3 = pk X.back[s / 8 % X.back.length] := fun rest => pcells_at hi
    generalize hpp : X.back[s / 8 % X.back.length] = p at hta hcell hack
    have hX : stepM X s = { X with back := (X.back.eraseIdx (s / 8 % X.back.length)) } := by
      have e1 : stepM X s = { X with back := (takeAt X.back (s / 8) false).2 } := by unfold stepM; simp only [e8]
      rw [e1, hta]
    obtain ⟨pa, psq, pb⟩ := p
    simp only [pk] at hcell
    generalize hk : H.length = k
    have hS : SS n0 k H (H ++ [some (Blk.mk 0 [.int .i64 X.seq, q, g, f, b, .int .i64 (hd : Nat)]), some (Blk.mk 0 [.int .i64 0, .snil, .snil, .snil, .snil, .int .i64 0])]) [.int .i64 X.seq, q, g, f, b, .int .i64 (hd : Nat)] [(k + 1, [.int .i64 0, .snil, .snil, .snil, .snil, .int .i64 0])] f b X.forth X.back := by
      refine ⟨by rw [← hk]; exact look2.1, ⟨fun e => ?_, fun e => ?_⟩, fun e he => ?_, hR.hf.app _, hR.hb.app _, hR.apart, (Same.app _).weaken hn0 (fun _ _ h => h), by omega⟩
      · have := hR.hf.own e; omega
      · have := hR.hb.own e; omega
      · simp only [List.mem_cons, List.not_mem_nil, or_false] at he
        subst he
        exact ⟨by rw [← hk]; exact look2.2, fun e => by have := hR.hf.own e; simp only at this; omega, fun e => by have := hR.hb.own e; simp only at this; omega, by simp⟩
    have h80 : ((8 : Int) = 0) = False := by simp
    have hrem : Int.tmod (s : Int) 8 = 6 := by
      have e1 : Int.tmod (s : Int) 8 = ((s % 8 : Nat) : Int) := rfl
      rw [e1, e8]
      rfl
    have hquo : IntKind.wrap .i64 (Int.tdiv (s : Int) 8) = ((s / 8 : Nat) : Int) := by
      have e : Int.tdiv (s : Int) 8 = ((s / 8 : Nat) : Int) := rfl
      rw [e, wrap_id (by omega) (by omega)]
    have hqc := hR.hq.cells
    have hgc := hR.hg.cells
    have hfc := hR.hf.cells
    have hbc := hR.hb.cells
    simp only [AV.cells] at hqc hgc hfc hbc
    have h1 := hsm.seq
    have h2 := hsm.queue
    have h3 := hsm.got
    have h4 := hsm.forth
    have h5 := hsm.back
    refine WF.fn rfl (fn_of Try.func38 cir38) (by show 3 ≤ 135; decide) ?_
    unfold ir38
    simp only [padTo, List.replicate, List.nil_append, List.append_nil, List.cons_append]
    refine WC.seq (WC.region ?_)
    repeat (first
      | (refine WO.yes rfl ?_)
      | (refine WO.no rfl ?_; simp only [pt])
      | (refine WO.op (by intro; simp only [go_sem, fillP, over, cut, nilCheckAV]; rfl) ?_; simp only [pt])
      | (refine WO.op (by intro; exact ev_lenS rfl) ?_; simp only [pt])
      | (refine WO.opN (by intro; simp only [go_sem, storeAt, Option.bind_eq_bind, over, setBlk, cut]; rfl) ?_))
    simp only [List.append_assoc, List.cons_append, List.nil_append, List.length_append, List.length_cons, List.length_nil, Nat.zero_add, hk]
    refine WO.nil ?_
    simp only [Then]
    generalize H ++ [some (Blk.mk 0 [.int .i64 X.seq, q, g, f, b, .int .i64 (hd : Nat)]), some (Blk.mk 0 [.int .i64 0, .snil, .snil, .snil, .snil, .int .i64 0])] = M at hS ⊢
    refine WC.seq (WC.region ?_)
    repeat (first
      | (refine WO.yes rfl ?_)
      | (refine WO.no rfl ?_; simp only [pt])
      | (refine WO.op (by intro; simp only [go_sem, fillP, over, cut, nilCheckAV, h80, hrem]; rfl) ?_; simp only [pt])
      | (refine WO.op (by intro; exact ev_lenS rfl) ?_; simp only [pt])
      | (refine WO.opN (by intro; simp only [go_sem, storeAt, Option.bind_eq_bind, over, setBlk, cut, h80, hrem]; rfl) ?_))
    refine WO.nil ?_
    simp only [Then]
    refine WC.seq (WC.seq (WC.region ?_))
    repeat (first
      | (refine WO.yes rfl ?_)
      | (refine WO.no rfl ?_; simp only [pt])
      | (refine WO.op (by intro; simp only [go_sem, fillP, over, cut, nilCheckAV]; rfl) ?_; simp only [pt])
      | (refine WO.op (by intro; exact ev_lenS rfl) ?_; simp only [pt])
      | (refine WO.opN (by intro; simp only [go_sem, storeAt, Option.bind_eq_bind, over, setBlk, cut]; rfl) ?_))
    refine WO.nil ?_
    simp only [Then]
    refine WC.no rfl (WC.skip ?_)
    simp only [Then]
    refine WC.seq (WC.seq (WC.region ?_))
    repeat (first
      | (refine WO.yes rfl ?_)
      | (refine WO.no rfl ?_; simp only [pt])
      | (refine WO.op (by intro; simp only [go_sem, fillP, over, cut, nilCheckAV]; rfl) ?_; simp only [pt])
      | (refine WO.op (by intro; exact ev_lenS rfl) ?_; simp only [pt])
      | (refine WO.opN (by intro; simp only [go_sem, storeAt, Option.bind_eq_bind, over, setBlk, cut]; rfl) ?_))
    refine WO.nil ?_
    simp only [Then]
    refine WC.no rfl (WC.skip ?_)
    simp only [Then]
    refine WC.seq (WC.seq (WC.region ?_))
    repeat (first
      | (refine WO.yes rfl ?_)
      | (refine WO.no rfl ?_; simp only [pt])
      | (refine WO.op (by intro; simp only [go_sem, fillP, over, cut, nilCheckAV]; rfl) ?_; simp only [pt])
      | (refine WO.op (by intro; exact ev_lenS rfl) ?_; simp only [pt])
      | (refine WO.opN (by intro; simp only [go_sem, storeAt, Option.bind_eq_bind, over, setBlk, cut]; rfl) ?_))
    refine WO.nil ?_
    simp only [Then]
    refine WC.no rfl (WC.skip ?_)
    simp only [Then]
    refine WC.seq (WC.seq (WC.region ?_))
    have hC := hS.c
    repeat (first
      | (refine WO.yes rfl ?_)
      | (refine WO.no rfl ?_; simp only [pt])
      | (refine WO.op (by intro; simp only [go_sem, fillP, over, cut, nilCheckAV, hC]; rfl) ?_; simp only [pt])
      | (refine WO.op (by intro; exact ev_lenS rfl) ?_; simp only [pt])
      | (refine WO.opN (by intro; simp only [go_sem, storeAt, Option.bind_eq_bind, over, setBlk, cut, hC]; rfl) ?_))
    refine WO.op (by intro; exact ev_lenS (n := X.back.length) (by simp only [go_sem]; exact hR.hb.len)) ?_
    simp only [pt]
    repeat (first
      | (refine WO.yes rfl ?_)
      | (refine WO.no rfl ?_; simp only [pt])
      | (refine WO.op (by intro; simp only [go_sem, fillP, over, cut, nilCheckAV, hz0]; rfl) ?_; simp only [pt])
      | (refine WO.op (by intro; exact ev_lenS rfl) ?_; simp only [pt])
      | (refine WO.opN (by intro; simp only [go_sem, storeAt, Option.bind_eq_bind, over, setBlk, cut, hz0]; rfl) ?_))
    refine WO.nil ?_
    simp only [Then]
    refine WC.no (by simp only [go_sem, hz0]) (WC.skip ?_)
    simp only [Then]
    obtain ⟨ff, gg, rest, hfe, hfn, hl⟩ := hS.hb.get h0
    have hlenl : (s / 8 % X.back.length) * 3 + 3 ≤ (pcells X.back ++ rest).length := by rw [List.length_append, pcells_len]; omega
    have hidx : indexAddrAV 3 b (.int .i64 ((s / 8 % X.back.length : Nat) : Int)) = some (.pref ff gg ((s / 8 % X.back.length) * 3)) := by
      rw [hfe]
      simp only [indexAddrAV, if_true, idx]
      rw [if_pos ⟨by omega, by omega⟩]
      simp only [Option.map_some, Int.toNat_natCast, Nat.zero_add]
    have hld : loadAV M true 3 (.pref ff gg ((s / 8 % X.back.length) * 3)) = some (.agg [.bool pa, .int .i64 psq, .int .i64 pb]) := by
      simp only [loadAV, hl, Option.bind_some, loadCs, if_true, cut]
      rw [if_pos hlenl, hcell]
      rfl
    refine WC.seq (WC.region ?_)
    repeat (first
      | (refine WO.yes rfl ?_)
      | (refine WO.no rfl ?_; simp only [pt])
      | (refine WO.op (by intro; simp only [go_sem, fillP, over, cut, nilCheckAV, hC, hquo, h80]; rfl) ?_; simp only [pt])
      | (refine WO.op (by intro; exact ev_lenS rfl) ?_; simp only [pt])
      | (refine WO.opN (by intro; simp only [go_sem, storeAt, Option.bind_eq_bind, over, setBlk, cut, hC, hquo, h80]; rfl) ?_))
    refine WO.op (by intro; exact ev_lenS (n := X.back.length) (by simp only [go_sem]; exact hS.hb.len)) ?_
    simp only [pt]
    repeat (first
      | (refine WO.yes rfl ?_)
      | (refine WO.no rfl ?_; simp only [pt])
      | (refine WO.op (by intro; simp only [go_sem, fillP, over, cut, nilCheckAV, hn0', hmod]; rfl) ?_; simp only [pt])
      | (refine WO.op (by intro; exact ev_lenS rfl) ?_; simp only [pt])
      | (refine WO.opN (by intro; simp only [go_sem, storeAt, Option.bind_eq_bind, over, setBlk, cut, hn0', hmod]; rfl) ?_))
    refine WO.nil ?_
    simp only [Then]
    refine WC.seq (WC.region ?_)
    repeat (first
      | (refine WO.yes rfl ?_)
      | (refine WO.no rfl ?_; simp only [pt])
      | (refine WO.op (by intro; simp only [go_sem, fillP, over, cut, nilCheckAV, hC]; rfl) ?_; simp only [pt])
      | (refine WO.op (by intro; exact ev_lenS rfl) ?_; simp only [pt])
      | (refine WO.opN (by intro; simp only [go_sem, storeAt, Option.bind_eq_bind, over, setBlk, cut, hC]; rfl) ?_))
    refine WO.op (by intro; rw [ev_indexAddr]; exact (congrArg (Option.map _) hidx).trans rfl) ?_
    simp only [pt]
    refine WO.op (by intro; rw [ev_load]; exact (congrArg (Option.map _) hld).trans rfl) ?_
    simp only [pt]
    have hlA : ∀ R, Zz.look (M ++ R) ff gg = some (pcells X.back ++ rest) := fun R => by rw [look_left (look_lt hl)]; exact hl
    have hS1 := hS.know (R := [some (Blk.mk 0 [.bool pa, .int .i64 psq, .int .i64 pb])]) (j := 0) (c := [.bool pa, .int .i64 psq, .int .i64 pb]) rfl
    have hl1 := hlA [some (Blk.mk 0 [.bool pa, .int .i64 psq, .int .i64 pb])]
    have a0 : Zz.look (M ++ [some (Blk.mk 0 [.bool false, .int .i64 0, .int .i64 0])]) M.length 0 = some [.bool false, .int .i64 0, .int .i64 0] := by rw [look_right0]; rfl
    have a2 : ∀ x y, (M ++ [x]).set M.length y = M ++ [y] := fun x y => by rw [List.set_append_right (h := Nat.le_refl _)]; simp
    repeat (first
      | (refine WO.yes rfl ?_)
      | (refine WO.no rfl ?_; simp only [pt])
      | (refine WO.op (by intro; simp only [go_sem, fillP, over, cut, nilCheckAV, a0]; rfl) ?_; simp only [pt])
      | (refine WO.op (by intro; exact ev_lenS rfl) ?_; simp only [pt])
      | (refine WO.opN (by intro; simp only [go_sem, storeAt, Option.bind_eq_bind, over, setBlk, cut, a0]; rfl) ?_))
    simp only [List.take, List.drop, List.nil_append, List.append_nil, List.cons_append, List.length_cons, List.length_nil, Nat.zero_add, Nat.reduceAdd, setBlk]
    simp only [a2]
    refine WO.nil ?_
    simp only [Then]
    generalize hm : M.length = m at hS1 ⊢
    generalize M ++ [some (Blk.mk 0 [.bool pa, .int .i64 psq, .int .i64 pb])] = M1 at hS1 hl1 ⊢
    have hS := hS1
    have hC := hS.c
    refine WC.seq (WC.seq (WC.region ?_))
    repeat (first
      | (refine WO.yes rfl ?_)
      | (refine WO.no rfl ?_; simp only [pt])
      | (refine WO.op (by intro; simp only [go_sem, fillP, over, cut, nilCheckAV]; rfl) ?_; simp only [pt])
      | (refine WO.op (by intro; exact ev_lenS rfl) ?_; simp only [pt])
      | (refine WO.opN (by intro; simp only [go_sem, storeAt, Option.bind_eq_bind, over, setBlk, cut]; rfl) ?_))
    refine WO.nil ?_
    simp only [Then]
    refine WC.yes rfl (WC.region ?_)
    repeat (first
      | (refine WO.yes rfl ?_)
      | (refine WO.no rfl ?_; simp only [pt])
      | (refine WO.op (by intro; simp only [go_sem, fillP, over, cut, nilCheckAV, hC, hfe]; rfl) ?_; simp only [pt])
      | (refine WO.op (by intro; exact ev_lenS rfl) ?_; simp only [pt])
      | (refine WO.opN (by intro; simp only [go_sem, storeAt, Option.bind_eq_bind, over, setBlk, cut, hC, hfe]; rfl) ?_))
    refine WO.call rfl (by simp only [go_sem, List.map, hfe]) ((without_run (Γ := Gq) (L := L) rfl (fn_of Try.func44 cir44) hl1 hi (by have := hsm.back; omega)).mono ?_)
    rintro y' ⟨M2, L2⟩ ⟨rfl, hsm2, hq2⟩
    have hS := hS.newB hq2 hsm2
    have hC := hS.c
    have hyc := hq2.cells
    simp only [AV.cells] at hyc
    simp only [pt]
    repeat (first
      | (refine WO.yes rfl ?_)
      | (refine WO.no rfl ?_; simp only [pt])
      | (refine WO.op (by intro; simp only [go_sem, fillP, over, cut, nilCheckAV, hC, hyc]; rfl) ?_; simp only [pt])
      | (refine WO.op (by intro; exact ev_lenS rfl) ?_; simp only [pt])
      | (refine WO.opN (by intro; simp only [go_sem, storeAt, Option.bind_eq_bind, over, setBlk, cut, hC, hyc]; rfl) ?_))
    simp only [List.take, List.drop, List.nil_append, List.append_nil, List.cons_append, List.length_cons, List.length_nil, Nat.zero_add, Nat.reduceAdd, setBlk]
    refine WO.nil ?_
    simp only [Then]
    have hS2 := hS.turn [.int .i64 X.seq, q, g, f, y', .int .i64 (hd : Nat)]
    generalize M2.set k (some ⟨0, [.int .i64 X.seq, q, g, f, y', .int .i64 (hd : Nat)]⟩) = M3 at hS2 ⊢
    have hS := hS2
    have hC := hS.c
    have hP := hS.at (j := m + 0) (c := [.bool pa, .int .i64 psq, .int .i64 pb]) (by simp)
    simp only [Nat.add_zero] at hP
    refine WC.seq (WC.seq (WC.region ?_))
    repeat (first
      | (refine WO.yes rfl ?_)
      | (refine WO.no rfl ?_; simp only [pt])
      | (refine WO.op (by intro; simp only [go_sem, fillP, over, cut, nilCheckAV]; rfl) ?_; simp only [pt])
      | (refine WO.op (by intro; exact ev_lenS rfl) ?_; simp only [pt])
      | (refine WO.opN (by intro; simp only [go_sem, storeAt, Option.bind_eq_bind, over, setBlk, cut]; rfl) ?_))
    refine WO.nil ?_
    simp only [Then]
    refine WC.no rfl (WC.skip ?_)
    simp only [Then]
    refine WC.seq (WC.region ?_)
    have hC := hS.c
    have hz := hS.at (j := k + 1) (c := [.int .i64 0, .snil, .snil, .snil, .snil, .int .i64 0]) (by simp)
    have hlt := look_lt hz
    repeat (first
      | (refine WO.yes rfl ?_)
      | (refine WO.no rfl ?_; simp only [pt])
      | (refine WO.op (by intro; simp only [go_sem, fillP, over, cut, nilCheckAV, hC, hz]; rfl) ?_; simp only [pt])
      | (refine WO.op (by intro; exact ev_lenS rfl) ?_; simp only [pt])
      | (refine WO.opN (by intro; simp only [go_sem, storeAt, Option.bind_eq_bind, over, setBlk, cut, hC, hz]; rfl) ?_))
    simp only [List.take, List.drop, List.nil_append, List.append_nil, List.cons_append, List.length_cons, List.length_nil, Nat.zero_add, Nat.reduceAdd, setBlk]
    refine WO.nil ?_
    simp only [Then]
    refine WC.ret ⟨[.agg [.int .i64 X.seq, q, g, f, y', .int .i64 (hd : Nat)]], ?_, ?_⟩
    · simp only [evRes, gt, look_set hlt, Option.bind_some, loadCs, if_true, cut, Option.map_some]
      rfl
    · rw [hX]
      exact SS.fin (X' := { X with back := (X.back.eraseIdx (s / 8 % X.back.length)) }) (c := [.int .i64 0, .snil, .snil, .snil, .snil, .int .i64 0]) hS (by simp) _ hR.hq hR.hg hR.left hR.hdle

end Go.Proofs.Ytpddngcgajjacaa

