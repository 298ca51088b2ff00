import Derived.Test.YtpddngcgajjacaaL29Q
set_option linter.unusedSimpArgs false
set_option linter.unusedVariables false
namespace Go.Proofs.Ytpddngcgajjacaa
open Go.Zz


noncomputable def Gm : Env := withSpec G0 [(10, borrowE G0 10), (11, borrowE Gh 11), (12, borrowE Gr 12), (13, borrowE Gs 13), (14, borrowE Gh 14), (15, borrowE Gr 15), (16, borrowE G0 16), (17, borrowE Gh 17), (18, borrowE Gr 18), (19, borrowE G0 19), (20, borrowE G0 20), (21, borrowE G0 21), (22, borrowE G3 22), (23, borrowE Gq 23)]

theorem Gm_ok : EnvOk Try.prog Gm := withSpec_ok fun p hp => by
  simp only [List.mem_cons, List.not_mem_nil, or_false] at hp
  rcases hp with rfl | rfl | rfl | rfl | rfl | rfl | rfl | rfl | rfl | rfl | rfl | rfl | rfl | rfl
  · exact borrowE_ok G0_ok (callable Try.func10 (by kernel_rfl))
  · exact borrowE_ok Gh_ok (callable Try.func11 (by kernel_rfl))
  · exact borrowE_ok Gr_ok (callable Try.func12 (by kernel_rfl))
  · exact borrowE_ok Gs_ok (callable Try.func13 (by kernel_rfl))
  · exact borrowE_ok Gh_ok (callable Try.func14 (by kernel_rfl))
  · exact borrowE_ok Gr_ok (callable Try.func15 (by kernel_rfl))
  · exact borrowE_ok G0_ok (callable Try.func16 (by kernel_rfl))
  · exact borrowE_ok Gh_ok (callable Try.func17 (by kernel_rfl))
  · exact borrowE_ok Gr_ok (callable Try.func18 (by kernel_rfl))
  · exact borrowE_ok G0_ok (callable Try.func19 (by kernel_rfl))
  · exact borrowE_ok G0_ok (callable Try.func20 (by kernel_rfl))
  · exact borrowE_ok G0_ok (callable Try.func21 (by kernel_rfl))
  · exact borrowE_ok G3_ok (callable Try.func22 (by kernel_rfl))
  · exact borrowE_ok Gq_ok (callable Try.func23 (by kernel_rfl))

theorem sendM_len {s b : Int} {qs : List Int} : (sendM s qs b).2.length ≤ qs.length + 1 := by
  unfold sendM
  split <;> simp
theorem sendM_len' {s b : Int} {qs : List Int} : (sendM s qs b).2.length ≤ 1001 := by
  unfold sendM
  split
  · rename_i h
    have := h.1
    unfold vS at this
    simp
    omega
  · simp
theorem hearM_len {s : Int} {p : Pkt} {qs : List Int} : (hearM s qs p).2.length ≤ qs.length := by
  unfold hearM
  split <;> simp
theorem takeM_len {p : Pkt} {gs : List Int} : (takeM gs p).1.length ≤ 1000 := takeM_sm.1
theorem runA_small {bs ss : List Int} : (runA bs ss).queue.length ≤ 1000 ∧ (runA bs ss).got.length ≤ 1000 := by
  by_cases h : runOk bs ss
  · rw [runA_ok h]
    have i := run_inv (ss := ss.map Int.toNat) h.1
    have h1 := i.qlen
    have h2 := i.seq0
    have h3 := i.n_le
    have h4 := h.1
    exact ⟨by omega, run_got h.1⟩
  · rw [show runA bs ss = run0 [] from if_neg h]
    simp [run0]

set_option maxRecDepth 20000 in
set_option maxHeartbeats 1600000 in
theorem matches_run {s body : Int} {p : Pkt} {q g bd x : AV} {qs gs bs ss : List Int} (hq : IntS q qs) (hg : IntS g gs) (hbd : IntS bd bs) (hx : IntS x ss) (h1 : I64 s) (h2 : I64 p.2.1) (hss : ∀ s ∈ ss, I64 s) (hmax : qs.length < 9223372036854775808) (hmax2 : gs.length < 9223372036854775808) :
    WF Gm (.func 3 [] []) [.agg [.int .i64 s, q], .agg [g], .agg (pk p), bd, x, .int .i64 body] ⟨[], []⟩ fun y m' => y = .bool true := by
  obtain ⟨v1, hv1, e1⟩ := send_eq (b := body) hq h1 hmax
  obtain ⟨v2, hv2, e2⟩ := rsend_eq (b := body) hq h1 hmax
  obtain ⟨v3, hv3, e3⟩ := out_eq hq h1 hmax
  obtain ⟨v4, hv4, e4⟩ := rout_eq hq h1 hmax
  obtain ⟨v5, hv5, e5⟩ := hear_eq hq h1 h2 hmax
  obtain ⟨v6, hv6, e6⟩ := rhear_eq hq h1 h2 hmax
  obtain ⟨v7, hv7, e7⟩ := take_eq (p := p) hg hmax2
  obtain ⟨v8, hv8, e8⟩ := rtake_eq (p := p) hg hmax2
  obtain ⟨v9, v10, hv9, hv10, e9⟩ := run_eq hbd hx hss
  obtain ⟨v11, v12, hv11, hv12, e10⟩ := rrun_eq hbd hx hss
  have n1 := sendM_len' (s := s) (b := body) (qs := qs)
  have n2 := hearM_len (s := s) (p := p) (qs := qs)
  have n3 := takeM_len (p := p) (gs := gs)
  have n4 := runA_small (bs := bs) (ss := ss)
  have n5 := outM_len s qs
  have t1 := spec13 (s := (sendM s qs body).1) (k := (sendM s qs body).1) hv1 hv2 (by omega) (by omega)
  rw [decide_eq_true ⟨rfl, rfl⟩] at t1
  have t2 := packets_eq hv3 hv4 (by omega)
  rw [decide_eq_true rfl] at t2
  have t3 := spec13 (s := (hearM s qs p).1) (k := (hearM s qs p).1) hv5 hv6 (by omega) (by omega)
  rw [decide_eq_true ⟨rfl, rfl⟩] at t3
  have t4 := eq21 hv7 hv8 (by omega) (by omega)
  rw [decide_eq_true rfl] at t4
  have t5 := pk_eq (takeM gs p).2 (takeM gs p).2
  rw [decide_eq_true rfl] at t5
  have t6 := spec13 (s := (runA bs ss).seq) (k := (runA bs ss).seq) hv9 hv11 (by omega) (by omega)
  rw [decide_eq_true ⟨rfl, rfl⟩] at t6
  have t7 := eq21 hv10 hv12 (by omega) (by omega)
  rw [decide_eq_true rfl] at t7
  generalize (sendM s qs body).1 = s1 at e1 e2 t1
  generalize (hearM s qs p).1 = s2 at e5 e6 t3
  generalize (takeM gs p).2 = ack at e7 e8 t5
  generalize (runA bs ss).seq = s3 at e9 e10 t6
  have c1 := hv1.cells
  have c2 := hv2.cells
  have c5 := hv5.cells
  have c6 := hv6.cells
  have c7 := hv7.cells
  have c8 := hv8.cells
  have c9 := hv9.cells
  have c10 := hv10.cells
  have c11 := hv11.cells
  have c12 := hv12.cells
  simp only [AV.cells] at c1 c2 c5 c6 c7 c8 c9 c10 c11 c12
  obtain ⟨pa, psq, pb⟩ := p
  obtain ⟨aa, asq, ab⟩ := ack
  simp only [pk] at e5 e6 e7 e8 t5 ⊢
  refine WF.fn rfl (fn_of Try.func3 cir3) (by show 6 ≤ 165; decide) ?_
  unfold ir3
  simp only [padTo, List.replicate, List.nil_append, List.append_nil, List.cons_append]
  refine WC.seq (WC.region ?_)
  repeat (first
    | (refine WO.yes rfl ?_)
    | (refine WO.no rfl ?_; simp only [pt])
    | (refine WO.op (by intro; simp only [go_sem, Zz.look, fillP, over, cut]; rfl) ?_; simp only [pt])
    | (refine WO.opN (by intro; simp only [go_sem, Zz.look, storeAt, over, setBlk, cut]; rfl) ?_))
  refine WO.nil ?_
  simp only [Then]
  refine WC.seq (WC.region ?_)
  refine WO.call rfl rfl (WF.spec rfl (spec10 _) ?_)
  simp only [pt]
  repeat (first
    | (refine WO.yes rfl ?_)
    | (refine WO.no rfl ?_; simp only [pt])
    | (refine WO.op (by intro; simp only [go_sem, Zz.look, fillP, over, cut]; rfl) ?_; simp only [pt])
    | (refine WO.opN (by intro; simp only [go_sem, Zz.look, storeAt, over, setBlk, cut]; rfl) ?_))
  refine WO.nil ?_
  simp only [Then]
  refine WC.seq (WC.region ?_)
  repeat (first
    | (refine WO.yes rfl ?_)
    | (refine WO.no rfl ?_; simp only [pt])
    | (refine WO.op (by intro; simp only [go_sem, Zz.look, fillP, over, cut, c1, c2, c5, c6, c7, c8, c9, c10, c11, c12, beq_self_eq_true]; rfl) ?_; simp only [pt])
    | (refine WO.opN (by intro; simp only [go_sem, Zz.look, storeAt, over, setBlk, cut, c1, c2, c5, c6, c7, c8, c9, c10, c11, c12, beq_self_eq_true]; rfl) ?_))
  refine WO.call rfl rfl (WF.spec rfl (e1 _) ?_)
  simp only [pt]
  repeat (first
    | (refine WO.yes rfl ?_)
    | (refine WO.no rfl ?_; simp only [pt])
    | (refine WO.op (by intro; simp only [go_sem, Zz.look, fillP, over, cut, c1, c2, c5, c6, c7, c8, c9, c10, c11, c12, beq_self_eq_true]; rfl) ?_; simp only [pt])
    | (refine WO.opN (by intro; simp only [go_sem, Zz.look, storeAt, over, setBlk, cut, c1, c2, c5, c6, c7, c8, c9, c10, c11, c12, beq_self_eq_true]; rfl) ?_))
  refine WO.nil ?_
  simp only [Then]
  try simp only [List.set_cons_succ, List.set_cons_zero, List.take_succ_cons, List.take_zero, List.drop_succ_cons, List.drop_zero, List.cons_append, List.nil_append, List.append_nil, List.length_cons, List.length_nil, List.length_set, List.length_append, List.take_nil, List.drop_nil, Nat.zero_add, Nat.reduceAdd]
  refine WC.seq (WC.region ?_)
  repeat (first
    | (refine WO.yes rfl ?_)
    | (refine WO.no rfl ?_; simp only [pt])
    | (refine WO.op (by intro; simp only [go_sem, Zz.look, fillP, over, cut, c1, c2, c5, c6, c7, c8, c9, c10, c11, c12, beq_self_eq_true]; rfl) ?_; simp only [pt])
    | (refine WO.opN (by intro; simp only [go_sem, Zz.look, storeAt, over, setBlk, cut, c1, c2, c5, c6, c7, c8, c9, c10, c11, c12, beq_self_eq_true]; rfl) ?_))
  refine WO.call rfl rfl (WF.spec rfl (e2 _) ?_)
  simp only [pt]
  repeat (first
    | (refine WO.yes rfl ?_)
    | (refine WO.no rfl ?_; simp only [pt])
    | (refine WO.op (by intro; simp only [go_sem, Zz.look, fillP, over, cut, c1, c2, c5, c6, c7, c8, c9, c10, c11, c12, beq_self_eq_true]; rfl) ?_; simp only [pt])
    | (refine WO.opN (by intro; simp only [go_sem, Zz.look, storeAt, over, setBlk, cut, c1, c2, c5, c6, c7, c8, c9, c10, c11, c12, beq_self_eq_true]; rfl) ?_))
  refine WO.nil ?_
  simp only [Then]
  try simp only [List.set_cons_succ, List.set_cons_zero, List.take_succ_cons, List.take_zero, List.drop_succ_cons, List.drop_zero, List.cons_append, List.nil_append, List.append_nil, List.length_cons, List.length_nil, List.length_set, List.length_append, List.take_nil, List.drop_nil, Nat.zero_add, Nat.reduceAdd]
  refine WC.seq (WC.region ?_)
  repeat (first
    | (refine WO.yes rfl ?_)
    | (refine WO.no rfl ?_; simp only [pt])
    | (refine WO.op (by intro; simp only [go_sem, Zz.look, fillP, over, cut, c1, c2, c5, c6, c7, c8, c9, c10, c11, c12, beq_self_eq_true]; rfl) ?_; simp only [pt])
    | (refine WO.opN (by intro; simp only [go_sem, Zz.look, storeAt, over, setBlk, cut, c1, c2, c5, c6, c7, c8, c9, c10, c11, c12, beq_self_eq_true]; rfl) ?_))
  refine WO.call rfl rfl (WF.spec rfl (t1 _) ?_)
  simp only [pt]
  repeat (first
    | (refine WO.yes rfl ?_)
    | (refine WO.no rfl ?_; simp only [pt])
    | (refine WO.op (by intro; simp only [go_sem, Zz.look, fillP, over, cut, c1, c2, c5, c6, c7, c8, c9, c10, c11, c12, beq_self_eq_true, t5]; rfl) ?_; simp only [pt])
    | (refine WO.opN (by intro; simp only [go_sem, Zz.look, storeAt, over, setBlk, cut, c1, c2, c5, c6, c7, c8, c9, c10, c11, c12, beq_self_eq_true, t5]; rfl) ?_))
  refine WO.nil ?_
  simp only [Then]
  refine WC.seq (WC.region ?_)
  repeat (first
    | (refine WO.yes rfl ?_)
    | (refine WO.no rfl ?_; simp only [pt])
    | (refine WO.op (by intro; simp only [go_sem, Zz.look, fillP, over, cut, c1, c2, c5, c6, c7, c8, c9, c10, c11, c12, beq_self_eq_true]; rfl) ?_; simp only [pt])
    | (refine WO.opN (by intro; simp only [go_sem, Zz.look, storeAt, over, setBlk, cut, c1, c2, c5, c6, c7, c8, c9, c10, c11, c12, beq_self_eq_true]; rfl) ?_))
  refine WO.call rfl rfl (WF.spec rfl (e3 _) ?_)
  simp only [pt]
  repeat (first
    | (refine WO.yes rfl ?_)
    | (refine WO.no rfl ?_; simp only [pt])
    | (refine WO.op (by intro; simp only [go_sem, Zz.look, fillP, over, cut, c1, c2, c5, c6, c7, c8, c9, c10, c11, c12, beq_self_eq_true]; rfl) ?_; simp only [pt])
    | (refine WO.opN (by intro; simp only [go_sem, Zz.look, storeAt, over, setBlk, cut, c1, c2, c5, c6, c7, c8, c9, c10, c11, c12, beq_self_eq_true]; rfl) ?_))
  refine WO.nil ?_
  simp only [Then]
  try simp only [List.set_cons_succ, List.set_cons_zero, List.take_succ_cons, List.take_zero, List.drop_succ_cons, List.drop_zero, List.cons_append, List.nil_append, List.append_nil, List.length_cons, List.length_nil, List.length_set, List.length_append, List.take_nil, List.drop_nil, Nat.zero_add, Nat.reduceAdd]
  refine WC.seq (WC.region ?_)
  repeat (first
    | (refine WO.yes rfl ?_)
    | (refine WO.no rfl ?_; simp only [pt])
    | (refine WO.op (by intro; simp only [go_sem, Zz.look, fillP, over, cut, c1, c2, c5, c6, c7, c8, c9, c10, c11, c12, beq_self_eq_true]; rfl) ?_; simp only [pt])
    | (refine WO.opN (by intro; simp only [go_sem, Zz.look, storeAt, over, setBlk, cut, c1, c2, c5, c6, c7, c8, c9, c10, c11, c12, beq_self_eq_true]; rfl) ?_))
  refine WO.call rfl rfl (WF.spec rfl (e4 _) ?_)
  simp only [pt]
  repeat (first
    | (refine WO.yes rfl ?_)
    | (refine WO.no rfl ?_; simp only [pt])
    | (refine WO.op (by intro; simp only [go_sem, Zz.look, fillP, over, cut, c1, c2, c5, c6, c7, c8, c9, c10, c11, c12, beq_self_eq_true]; rfl) ?_; simp only [pt])
    | (refine WO.opN (by intro; simp only [go_sem, Zz.look, storeAt, over, setBlk, cut, c1, c2, c5, c6, c7, c8, c9, c10, c11, c12, beq_self_eq_true]; rfl) ?_))
  refine WO.nil ?_
  simp only [Then]
  try simp only [List.set_cons_succ, List.set_cons_zero, List.take_succ_cons, List.take_zero, List.drop_succ_cons, List.drop_zero, List.cons_append, List.nil_append, List.append_nil, List.length_cons, List.length_nil, List.length_set, List.length_append, List.take_nil, List.drop_nil, Nat.zero_add, Nat.reduceAdd]
  refine WC.seq (WC.region ?_)
  repeat (first
    | (refine WO.yes rfl ?_)
    | (refine WO.no rfl ?_; simp only [pt])
    | (refine WO.op (by intro; simp only [go_sem, Zz.look, fillP, over, cut, c1, c2, c5, c6, c7, c8, c9, c10, c11, c12, beq_self_eq_true]; rfl) ?_; simp only [pt])
    | (refine WO.opN (by intro; simp only [go_sem, Zz.look, storeAt, over, setBlk, cut, c1, c2, c5, c6, c7, c8, c9, c10, c11, c12, beq_self_eq_true]; rfl) ?_))
  refine WO.call rfl rfl (WF.spec rfl (t2 _) ?_)
  simp only [pt]
  repeat (first
    | (refine WO.yes rfl ?_)
    | (refine WO.no rfl ?_; simp only [pt])
    | (refine WO.op (by intro; simp only [go_sem, Zz.look, fillP, over, cut, c1, c2, c5, c6, c7, c8, c9, c10, c11, c12, beq_self_eq_true, t5]; rfl) ?_; simp only [pt])
    | (refine WO.opN (by intro; simp only [go_sem, Zz.look, storeAt, over, setBlk, cut, c1, c2, c5, c6, c7, c8, c9, c10, c11, c12, beq_self_eq_true, t5]; rfl) ?_))
  refine WO.nil ?_
  simp only [Then]
  refine WC.seq (WC.region ?_)
  repeat (first
    | (refine WO.yes rfl ?_)
    | (refine WO.no rfl ?_; simp only [pt])
    | (refine WO.op (by intro; simp only [go_sem, Zz.look, fillP, over, cut, c1, c2, c5, c6, c7, c8, c9, c10, c11, c12, beq_self_eq_true]; rfl) ?_; simp only [pt])
    | (refine WO.opN (by intro; simp only [go_sem, Zz.look, storeAt, over, setBlk, cut, c1, c2, c5, c6, c7, c8, c9, c10, c11, c12, beq_self_eq_true]; rfl) ?_))
  refine WO.call rfl rfl (WF.spec rfl (e5 _) ?_)
  simp only [pt]
  repeat (first
    | (refine WO.yes rfl ?_)
    | (refine WO.no rfl ?_; simp only [pt])
    | (refine WO.op (by intro; simp only [go_sem, Zz.look, fillP, over, cut, c1, c2, c5, c6, c7, c8, c9, c10, c11, c12, beq_self_eq_true]; rfl) ?_; simp only [pt])
    | (refine WO.opN (by intro; simp only [go_sem, Zz.look, storeAt, over, setBlk, cut, c1, c2, c5, c6, c7, c8, c9, c10, c11, c12, beq_self_eq_true]; rfl) ?_))
  refine WO.nil ?_
  simp only [Then]
  try simp only [List.set_cons_succ, List.set_cons_zero, List.take_succ_cons, List.take_zero, List.drop_succ_cons, List.drop_zero, List.cons_append, List.nil_append, List.append_nil, List.length_cons, List.length_nil, List.length_set, List.length_append, List.take_nil, List.drop_nil, Nat.zero_add, Nat.reduceAdd]
  refine WC.seq (WC.region ?_)
  repeat (first
    | (refine WO.yes rfl ?_)
    | (refine WO.no rfl ?_; simp only [pt])
    | (refine WO.op (by intro; simp only [go_sem, Zz.look, fillP, over, cut, c1, c2, c5, c6, c7, c8, c9, c10, c11, c12, beq_self_eq_true]; rfl) ?_; simp only [pt])
    | (refine WO.opN (by intro; simp only [go_sem, Zz.look, storeAt, over, setBlk, cut, c1, c2, c5, c6, c7, c8, c9, c10, c11, c12, beq_self_eq_true]; rfl) ?_))
  refine WO.call rfl rfl (WF.spec rfl (e6 _) ?_)
  simp only [pt]
  repeat (first
    | (refine WO.yes rfl ?_)
    | (refine WO.no rfl ?_; simp only [pt])
    | (refine WO.op (by intro; simp only [go_sem, Zz.look, fillP, over, cut, c1, c2, c5, c6, c7, c8, c9, c10, c11, c12, beq_self_eq_true]; rfl) ?_; simp only [pt])
    | (refine WO.opN (by intro; simp only [go_sem, Zz.look, storeAt, over, setBlk, cut, c1, c2, c5, c6, c7, c8, c9, c10, c11, c12, beq_self_eq_true]; rfl) ?_))
  refine WO.nil ?_
  simp only [Then]
  try simp only [List.set_cons_succ, List.set_cons_zero, List.take_succ_cons, List.take_zero, List.drop_succ_cons, List.drop_zero, List.cons_append, List.nil_append, List.append_nil, List.length_cons, List.length_nil, List.length_set, List.length_append, List.take_nil, List.drop_nil, Nat.zero_add, Nat.reduceAdd]
  refine WC.seq (WC.region ?_)
  repeat (first
    | (refine WO.yes rfl ?_)
    | (refine WO.no rfl ?_; simp only [pt])
    | (refine WO.op (by intro; simp only [go_sem, Zz.look, fillP, over, cut, c1, c2, c5, c6, c7, c8, c9, c10, c11, c12, beq_self_eq_true]; rfl) ?_; simp only [pt])
    | (refine WO.opN (by intro; simp only [go_sem, Zz.look, storeAt, over, setBlk, cut, c1, c2, c5, c6, c7, c8, c9, c10, c11, c12, beq_self_eq_true]; rfl) ?_))
  refine WO.call rfl rfl (WF.spec rfl (t3 _) ?_)
  simp only [pt]
  repeat (first
    | (refine WO.yes rfl ?_)
    | (refine WO.no rfl ?_; simp only [pt])
    | (refine WO.op (by intro; simp only [go_sem, Zz.look, fillP, over, cut, c1, c2, c5, c6, c7, c8, c9, c10, c11, c12, beq_self_eq_true, t5]; rfl) ?_; simp only [pt])
    | (refine WO.opN (by intro; simp only [go_sem, Zz.look, storeAt, over, setBlk, cut, c1, c2, c5, c6, c7, c8, c9, c10, c11, c12, beq_self_eq_true, t5]; rfl) ?_))
  refine WO.nil ?_
  simp only [Then]
  refine WC.seq (WC.region ?_)
  repeat (first
    | (refine WO.yes rfl ?_)
    | (refine WO.no rfl ?_; simp only [pt])
    | (refine WO.op (by intro; simp only [go_sem, Zz.look, fillP, over, cut, c1, c2, c5, c6, c7, c8, c9, c10, c11, c12, beq_self_eq_true]; rfl) ?_; simp only [pt])
    | (refine WO.opN (by intro; simp only [go_sem, Zz.look, storeAt, over, setBlk, cut, c1, c2, c5, c6, c7, c8, c9, c10, c11, c12, beq_self_eq_true]; rfl) ?_))
  refine WO.call rfl rfl (WF.spec rfl (e7 _) ?_)
  simp only [pt]
  repeat (first
    | (refine WO.yes rfl ?_)
    | (refine WO.no rfl ?_; simp only [pt])
    | (refine WO.op (by intro; simp only [go_sem, Zz.look, fillP, over, cut, c1, c2, c5, c6, c7, c8, c9, c10, c11, c12, beq_self_eq_true]; rfl) ?_; simp only [pt])
    | (refine WO.opN (by intro; simp only [go_sem, Zz.look, storeAt, over, setBlk, cut, c1, c2, c5, c6, c7, c8, c9, c10, c11, c12, beq_self_eq_true]; rfl) ?_))
  refine WO.nil ?_
  simp only [Then]
  try simp only [List.set_cons_succ, List.set_cons_zero, List.take_succ_cons, List.take_zero, List.drop_succ_cons, List.drop_zero, List.cons_append, List.nil_append, List.append_nil, List.length_cons, List.length_nil, List.length_set, List.length_append, List.take_nil, List.drop_nil, Nat.zero_add, Nat.reduceAdd]
  refine WC.seq (WC.region ?_)
  repeat (first
    | (refine WO.yes rfl ?_)
    | (refine WO.no rfl ?_; simp only [pt])
    | (refine WO.op (by intro; simp only [go_sem, Zz.look, fillP, over, cut, c1, c2, c5, c6, c7, c8, c9, c10, c11, c12, beq_self_eq_true]; rfl) ?_; simp only [pt])
    | (refine WO.opN (by intro; simp only [go_sem, Zz.look, storeAt, over, setBlk, cut, c1, c2, c5, c6, c7, c8, c9, c10, c11, c12, beq_self_eq_true]; rfl) ?_))
  refine WO.call rfl rfl (WF.spec rfl (e8 _) ?_)
  simp only [pt]
  repeat (first
    | (refine WO.yes rfl ?_)
    | (refine WO.no rfl ?_; simp only [pt])
    | (refine WO.op (by intro; simp only [go_sem, Zz.look, fillP, over, cut, c1, c2, c5, c6, c7, c8, c9, c10, c11, c12, beq_self_eq_true]; rfl) ?_; simp only [pt])
    | (refine WO.opN (by intro; simp only [go_sem, Zz.look, storeAt, over, setBlk, cut, c1, c2, c5, c6, c7, c8, c9, c10, c11, c12, beq_self_eq_true]; rfl) ?_))
  refine WO.nil ?_
  simp only [Then]
  try simp only [List.set_cons_succ, List.set_cons_zero, List.take_succ_cons, List.take_zero, List.drop_succ_cons, List.drop_zero, List.cons_append, List.nil_append, List.append_nil, List.length_cons, List.length_nil, List.length_set, List.length_append, List.take_nil, List.drop_nil, Nat.zero_add, Nat.reduceAdd]
  refine WC.seq (WC.region ?_)
  repeat (first
    | (refine WO.yes rfl ?_)
    | (refine WO.no rfl ?_; simp only [pt])
    | (refine WO.op (by intro; simp only [go_sem, Zz.look, fillP, over, cut, c1, c2, c5, c6, c7, c8, c9, c10, c11, c12, beq_self_eq_true]; rfl) ?_; simp only [pt])
    | (refine WO.opN (by intro; simp only [go_sem, Zz.look, storeAt, over, setBlk, cut, c1, c2, c5, c6, c7, c8, c9, c10, c11, c12, beq_self_eq_true]; rfl) ?_))
  refine WO.call rfl rfl (WF.spec rfl (t4 _) ?_)
  simp only [pt]
  repeat (first
    | (refine WO.yes rfl ?_)
    | (refine WO.no rfl ?_; simp only [pt])
    | (refine WO.op (by intro; simp only [go_sem, Zz.look, fillP, over, cut, c1, c2, c5, c6, c7, c8, c9, c10, c11, c12, beq_self_eq_true, t5]; rfl) ?_; simp only [pt])
    | (refine WO.opN (by intro; simp only [go_sem, Zz.look, storeAt, over, setBlk, cut, c1, c2, c5, c6, c7, c8, c9, c10, c11, c12, beq_self_eq_true, t5]; rfl) ?_))
  refine WO.nil ?_
  simp only [Then]
  refine WC.seq (WC.region ?_)
  repeat (first
    | (refine WO.yes rfl ?_)
    | (refine WO.no rfl ?_; simp only [pt])
    | (refine WO.op (by intro; simp only [go_sem, Zz.look, fillP, over, cut, c1, c2, c5, c6, c7, c8, c9, c10, c11, c12, beq_self_eq_true]; rfl) ?_; simp only [pt])
    | (refine WO.opN (by intro; simp only [go_sem, Zz.look, storeAt, over, setBlk, cut, c1, c2, c5, c6, c7, c8, c9, c10, c11, c12, beq_self_eq_true]; rfl) ?_))
  refine WO.call rfl rfl (WF.spec rfl (e9 _) ?_)
  simp only [pt]
  repeat (first
    | (refine WO.yes rfl ?_)
    | (refine WO.no rfl ?_; simp only [pt])
    | (refine WO.op (by intro; simp only [go_sem, Zz.look, fillP, over, cut, c1, c2, c5, c6, c7, c8, c9, c10, c11, c12, beq_self_eq_true]; rfl) ?_; simp only [pt])
    | (refine WO.opN (by intro; simp only [go_sem, Zz.look, storeAt, over, setBlk, cut, c1, c2, c5, c6, c7, c8, c9, c10, c11, c12, beq_self_eq_true]; rfl) ?_))
  refine WO.nil ?_
  simp only [Then]
  try simp only [List.set_cons_succ, List.set_cons_zero, List.take_succ_cons, List.take_zero, List.drop_succ_cons, List.drop_zero, List.cons_append, List.nil_append, List.append_nil, List.length_cons, List.length_nil, List.length_set, List.length_append, List.take_nil, List.drop_nil, Nat.zero_add, Nat.reduceAdd]
  refine WC.seq (WC.region ?_)
  repeat (first
    | (refine WO.yes rfl ?_)
    | (refine WO.no rfl ?_; simp only [pt])
    | (refine WO.op (by intro; simp only [go_sem, Zz.look, fillP, over, cut, c1, c2, c5, c6, c7, c8, c9, c10, c11, c12, beq_self_eq_true]; rfl) ?_; simp only [pt])
    | (refine WO.opN (by intro; simp only [go_sem, Zz.look, storeAt, over, setBlk, cut, c1, c2, c5, c6, c7, c8, c9, c10, c11, c12, beq_self_eq_true]; rfl) ?_))
  refine WO.call rfl rfl (WF.spec rfl (e10 _) ?_)
  simp only [pt]
  repeat (first
    | (refine WO.yes rfl ?_)
    | (refine WO.no rfl ?_; simp only [pt])
    | (refine WO.op (by intro; simp only [go_sem, Zz.look, fillP, over, cut, c1, c2, c5, c6, c7, c8, c9, c10, c11, c12, beq_self_eq_true]; rfl) ?_; simp only [pt])
    | (refine WO.opN (by intro; simp only [go_sem, Zz.look, storeAt, over, setBlk, cut, c1, c2, c5, c6, c7, c8, c9, c10, c11, c12, beq_self_eq_true]; rfl) ?_))
  refine WO.nil ?_
  simp only [Then]
  try simp only [List.set_cons_succ, List.set_cons_zero, List.take_succ_cons, List.take_zero, List.drop_succ_cons, List.drop_zero, List.cons_append, List.nil_append, List.append_nil, List.length_cons, List.length_nil, List.length_set, List.length_append, List.take_nil, List.drop_nil, Nat.zero_add, Nat.reduceAdd]
  refine WC.seq (WC.region ?_)
  repeat (first
    | (refine WO.yes rfl ?_)
    | (refine WO.no rfl ?_; simp only [pt])
    | (refine WO.op (by intro; simp only [go_sem, Zz.look, fillP, over, cut, c1, c2, c5, c6, c7, c8, c9, c10, c11, c12, beq_self_eq_true]; rfl) ?_; simp only [pt])
    | (refine WO.opN (by intro; simp only [go_sem, Zz.look, storeAt, over, setBlk, cut, c1, c2, c5, c6, c7, c8, c9, c10, c11, c12, beq_self_eq_true]; rfl) ?_))
  refine WO.call rfl rfl (WF.spec rfl (t6 _) ?_)
  simp only [pt]
  repeat (first
    | (refine WO.yes rfl ?_)
    | (refine WO.no rfl ?_; simp only [pt])
    | (refine WO.op (by intro; simp only [go_sem, Zz.look, fillP, over, cut, c1, c2, c5, c6, c7, c8, c9, c10, c11, c12, beq_self_eq_true, t5]; rfl) ?_; simp only [pt])
    | (refine WO.opN (by intro; simp only [go_sem, Zz.look, storeAt, over, setBlk, cut, c1, c2, c5, c6, c7, c8, c9, c10, c11, c12, beq_self_eq_true, t5]; rfl) ?_))
  refine WO.call rfl rfl (WF.spec rfl (t7 _) ?_)
  simp only [pt]
  repeat (first
    | (refine WO.yes rfl ?_)
    | (refine WO.no rfl ?_; simp only [pt])
    | (refine WO.op (by intro; simp only [go_sem, Zz.look, fillP, over, cut, c1, c2, c5, c6, c7, c8, c9, c10, c11, c12, beq_self_eq_true, t5]; rfl) ?_; simp only [pt])
    | (refine WO.opN (by intro; simp only [go_sem, Zz.look, storeAt, over, setBlk, cut, c1, c2, c5, c6, c7, c8, c9, c10, c11, c12, beq_self_eq_true, t5]; rfl) ?_))
  refine WO.nil ?_
  simp only [Then]
  exact WC.ret ⟨_, rfl, by simp [oneRes, gt]⟩
end Go.Proofs.Ytpddngcgajjacaa

