import Derived.Test.YtpddngcgajjacaaL29zt
set_option linter.unusedSimpArgs false
set_option linter.unusedVariables false
namespace Go.Proofs.Ytpddngcgajjacaa
open Go.Zz


theorem restZ_mem {n : Nat} {s : Int} (h : s ∈ restZ n) : 0 ≤ s ∧ s ≤ 7 := by
  simp only [restZ, List.mem_append, List.mem_flatten, List.mem_replicate] at h
  rcases h with ((⟨l, ⟨_, rfl⟩, h⟩ | ⟨l, ⟨_, rfl⟩, h⟩) | ⟨l, ⟨_, rfl⟩, h⟩) | ⟨l, ⟨_, rfl⟩, h⟩ <;> simp at h <;> omega
theorem restZ_len (n : Nat) : (restZ n).length = n + 160 + 40 + n * 9 := by
  simp only [restZ, List.length_append, flat_len, List.length_cons, List.length_nil]
  omega
theorem flat_one (k : Nat) (a : Int) : ((List.replicate k [a]).flatten).map Int.toNat = List.replicate k a.toNat := by
  induction k with
  | zero => rfl
  | succ k ih => rw [List.replicate_succ, List.flatten_cons, List.map_append, ih]; rfl
theorem restZ_nat (n : Nat) : (restZ n).map Int.toNat = restM n := by
  unfold restZ restM
  rw [List.map_append, List.map_append, List.map_append, flat_one, flat_one, flat_one]
  have : ∀ k, ((List.replicate k ([0, 1, 1, 1, 1, 4, 4, 4, 4] : List Int)).flatten).map Int.toNat = (List.replicate k round).flatten := by
    intro k
    induction k with
    | zero => rfl
    | succ k ih => rw [List.replicate_succ, List.flatten_cons, List.map_append, ih, List.replicate_succ, List.flatten_cons]; rfl
  rw [this]
  rfl
theorem runOk_rest {bs ss : List Int} (hb : bs.length ≤ 40) (hs : ss.length ≤ 40) : runOk bs (ss ++ restZ bs.length) ↔ runOk bs ss := by
  constructor
  · rintro ⟨h1, h2, h3⟩
    exact ⟨h1, by omega, fun s h => h3 s (List.mem_append_left _ h)⟩
  · rintro ⟨h1, h2, h3⟩
    refine ⟨h1, by rw [List.length_append, restZ_len]; omega, fun s h => ?_⟩
    rw [List.mem_append] at h
    rcases h with h | h
    · exact h3 s h
    · have := restZ_mem h; omega

/-- What may be appended to. -/
def AppOk (H : Hp) (v : AV) (xs : List Int) : Prop := (∃ f, v = .sref f 0 0 1 0 (some 0) ∧ xs = [] ∧ Zz.look H f 0 = some []) ∨ Own1 0 H v xs

theorem AppOk.same {H H' : Hp} {v : AV} {xs : List Int} (h : AppOk H v xs) (hs : Same H H' H.length (fun _ => False)) : AppOk H' v xs := by
  rcases h with ⟨f, h1, h2, h3⟩ | h | ⟨f, g, rest, h1, h2, h3⟩
  · exact .inl ⟨f, h1, h2, by rw [hs.look (look_lt h3) (fun h => h)]; exact h3⟩
  · exact .inr (.inl h)
  · exact .inr (.inr ⟨f, g, rest, h1, h2, by rw [hs.look (look_lt h3) (fun h => h)]; exact h3⟩)

theorem app_first {H : Hp} {L : List (Option ALoop)} {x : AV} {xs : List Int} (hx : IntS x xs) (hmax : xs.length ≤ 1000) :
    ∃ v H', appendAV 1 8 ⟨H ++ [some ⟨0, []⟩], L⟩ (.sref H.length 0 0 1 0 (some 0)) x = some (v, ⟨H', L⟩) ∧ AppOk H' v xs := by
  obtain ⟨h1, h2, h3, h4⟩ := hx.rd (H ++ [some (Blk.mk 0 [])])
  have hlk : Zz.look (H ++ [some (Blk.mk 0 [])]) H.length 0 = some [] := by rw [look_right0]; rfl
  by_cases h0 : xs = []
  · subst h0
    refine ⟨.sref H.length 0 0 1 0 (some 0), H ++ [some ⟨0, []⟩], ?_, .inl ⟨_, rfl, rfl, hlk⟩⟩
    unfold appendAV
    simp only [h1, h2, Option.bind_eq_bind, Option.bind_some, if_true, hlk, cut, Nat.zero_mul, Nat.zero_add, List.length_nil, Nat.le_refl, List.drop_zero, List.take_zero]
    simp [storeAt, hlk, over, setBlk]
  · have hpos : 0 < xs.length := List.length_pos_iff.2 h0
    refine ⟨.sref (H.length + 1) 0 0 1 xs.length none, H ++ [some ⟨0, []⟩] ++ [some ⟨0, xs.map (.int .i64)⟩], ?_, .inr (.inr ⟨_, 0, [], rfl, Nat.zero_le _, ?_⟩)⟩
    · unfold appendAV
      simp only [h1, h2, Option.bind_eq_bind, Option.bind_some, if_true, hlk, cut, Nat.zero_mul, Nat.zero_add, List.length_nil, Nat.le_refl, List.drop_zero, List.take_zero]
      rw [if_neg (by omega), if_pos (by omega)]
      simp [newBlk]
    · have e : (H ++ [some (Blk.mk 0 [])]).length = H.length + 1 := by simp
      rw [← e, look_right0]
      simp [Zz.look]

theorem Own1.rd {n0 : Nat} {H : Hp} {v : AV} {xs : List Int} (h : Own1 n0 H v xs) : Rd 1 H v xs.length (xs.map (.int .i64)) := by
  rcases h with ⟨rfl, rfl⟩ | ⟨f, g, rest, rfl, hf, hl⟩
  · exact ⟨rfl, rfl, rfl, fun k g o s c cap e => by cases e⟩
  · refine ⟨rfl, ?_, by simp, fun k g o s c cap e => by cases e; rfl⟩
    simp only [scells, if_true, hl, Option.bind_some, cut, Nat.zero_add, Nat.mul_one]
    rw [if_pos (by simp)]
    simp

theorem app_second {H : Hp} {L : List (Option ALoop)} {v x : AV} {xs ys : List Int} {n0 : Nat} (h : AppOk H v xs) (hx : Own1 n0 H x ys) (hpos : 0 < ys.length) (hmax : xs.length + ys.length ≤ 10000) :
    ∃ v' H', appendAV 1 8 ⟨H, L⟩ v x = some (v', ⟨H', L⟩) ∧ Own1 0 H' v' (xs ++ ys) := by
  obtain ⟨h1, h2, h3, h4⟩ := hx.rd
  rcases h with ⟨f, rfl, rfl, hl⟩ | h
  · refine ⟨.sref H.length 0 0 1 ys.length none, H ++ [some ⟨0, ys.map (.int .i64)⟩], ?_, .inr ⟨_, 0, [], rfl, Nat.zero_le _, by rw [look_right0]; simp [Zz.look]⟩⟩
    simp only [List.length_nil, Nat.zero_add] at hmax
    unfold appendAV
    simp only [h1, h2, Option.bind_eq_bind, Option.bind_some, if_true, hl, cut, Nat.zero_mul, Nat.zero_add, List.length_nil, Nat.le_refl, List.drop_zero, List.take_zero]
    rw [if_neg (by omega), if_pos (by omega)]
    simp [newBlk]
  · obtain ⟨v', H', e1, e2, _⟩ := own1_app (L := L) h (Nat.zero_le _) hpos (by omega) h1 h2
    exact ⟨v', H', e1, e2⟩

set_option maxRecDepth 20000 in
theorem progress_run {bd x : AV} {bs ss : List Int} (hbd : IntS bd bs) (hx : IntS x ss) (hss : ∀ s ∈ ss, I64 s) :
    WF G3 (.func 5 [] []) [bd, x] ⟨[], []⟩ fun y m' => y = .bool true := by
  refine WF.fn rfl (fn_of Try.func5 cir5) (by show 2 ≤ 74; decide) ?_
  unfold ir5
  simp only [padTo, List.replicate, List.nil_append, List.append_nil, List.cons_append]
  by_cases c1 : (40 : Int) < ss.length
  · refine WC.seq (WC.region ?_)
    repeat (first
      | (refine WO.yes rfl ?_)
      | (refine WO.no rfl ?_; simp only [pt])
      | (refine WO.op (by intro; simp only [go_sem, Zz.look, fillP, over, cut]; rfl) ?_; simp only [pt])
      | (refine WO.opN (by intro; simp only [go_sem, Zz.look, storeAt, over, setBlk, cut]; rfl) ?_))
    refine WO.nil ?_
    simp only [Then]
    refine WC.seq (WC.region ?_)
    refine WO.call rfl rfl (WF.spec rfl (spec10 _) ?_)
    simp only [pt]
    repeat (first
      | (refine WO.yes rfl ?_)
      | (refine WO.no rfl ?_; simp only [pt])
      | (refine WO.op (by intro; simp only [go_sem, Zz.look, fillP, over, cut]; rfl) ?_; simp only [pt])
      | (refine WO.opN (by intro; simp only [go_sem, Zz.look, storeAt, over, setBlk, cut]; rfl) ?_))
    refine WO.nil ?_
    simp only [Then]
    refine WC.seq (WC.seq (WC.region ?_))
    repeat (first
      | (refine WO.yes rfl ?_)
      | (refine WO.no rfl ?_; simp only [pt])
      | (refine WO.op (by intro; simp only [go_sem, Zz.look, fillP, over, cut]; rfl) ?_; simp only [pt])
      | (refine WO.opN (by intro; simp only [go_sem, Zz.look, storeAt, over, setBlk, cut]; rfl) ?_))
    refine WO.op (by intro; exact ev_lenS (n := ss.length) (by simp only [go_sem]; exact hx.len)) ?_
    simp only [pt]
    repeat (first
      | (refine WO.yes rfl ?_)
      | (refine WO.no rfl ?_; simp only [pt])
      | (refine WO.op (by intro; simp only [go_sem, Zz.look, fillP, over, cut, c1, decide_true]; rfl) ?_; simp only [pt])
      | (refine WO.opN (by intro; simp only [go_sem, Zz.look, storeAt, over, setBlk, cut, c1, decide_true]; rfl) ?_))
    refine WO.nil ?_
    simp only [Then]
    refine WC.yes (by simp only [go_sem]) (WC.seq (WC.region ?_))
    repeat (first
      | (refine WO.yes rfl ?_)
      | (refine WO.no rfl ?_; simp only [pt])
      | (refine WO.op (by intro; simp only [go_sem, Zz.look, fillP, over, cut]; rfl) ?_; simp only [pt])
      | (refine WO.opN (by intro; simp only [go_sem, Zz.look, storeAt, over, setBlk, cut]; rfl) ?_))
    refine WO.nil ?_
    simp only [Then]
    exact WC.ret ⟨_, rfl, by simp [oneRes, gt]⟩
  · by_cases c2 : (40 : Int) < bs.length
    · refine WC.seq (WC.region ?_)
      repeat (first
        | (refine WO.yes rfl ?_)
        | (refine WO.no rfl ?_; simp only [pt])
        | (refine WO.op (by intro; simp only [go_sem, Zz.look, fillP, over, cut]; rfl) ?_; simp only [pt])
        | (refine WO.opN (by intro; simp only [go_sem, Zz.look, storeAt, over, setBlk, cut]; rfl) ?_))
      refine WO.nil ?_
      simp only [Then]
      refine WC.seq (WC.region ?_)
      refine WO.call rfl rfl (WF.spec rfl (spec10 _) ?_)
      simp only [pt]
      repeat (first
        | (refine WO.yes rfl ?_)
        | (refine WO.no rfl ?_; simp only [pt])
        | (refine WO.op (by intro; simp only [go_sem, Zz.look, fillP, over, cut]; rfl) ?_; simp only [pt])
        | (refine WO.opN (by intro; simp only [go_sem, Zz.look, storeAt, over, setBlk, cut]; rfl) ?_))
      refine WO.nil ?_
      simp only [Then]
      refine WC.seq (WC.seq (WC.region ?_))
      repeat (first
        | (refine WO.yes rfl ?_)
        | (refine WO.no rfl ?_; simp only [pt])
        | (refine WO.op (by intro; simp only [go_sem, Zz.look, fillP, over, cut]; rfl) ?_; simp only [pt])
        | (refine WO.opN (by intro; simp only [go_sem, Zz.look, storeAt, over, setBlk, cut]; rfl) ?_))
      refine WO.op (by intro; exact ev_lenS (n := ss.length) (by simp only [go_sem]; exact hx.len)) ?_
      simp only [pt]
      repeat (first
        | (refine WO.yes rfl ?_)
        | (refine WO.no rfl ?_; simp only [pt])
        | (refine WO.op (by intro; simp only [go_sem, Zz.look, fillP, over, cut, c1, decide_false]; rfl) ?_; simp only [pt])
        | (refine WO.opN (by intro; simp only [go_sem, Zz.look, storeAt, over, setBlk, cut, c1, decide_false]; rfl) ?_))
      refine WO.op (by intro; exact ev_lenS (n := bs.length) (by simp only [go_sem]; exact hbd.len)) ?_
      simp only [pt]
      repeat (first
        | (refine WO.yes rfl ?_)
        | (refine WO.no rfl ?_; simp only [pt])
        | (refine WO.op (by intro; simp only [go_sem, Zz.look, fillP, over, cut, c2, decide_true]; rfl) ?_; simp only [pt])
        | (refine WO.opN (by intro; simp only [go_sem, Zz.look, storeAt, over, setBlk, cut, c2, decide_true]; rfl) ?_))
      refine WO.nil ?_
      simp only [Then]
      refine WC.yes (by simp only [go_sem]) (WC.seq (WC.region ?_))
      repeat (first
        | (refine WO.yes rfl ?_)
        | (refine WO.no rfl ?_; simp only [pt])
        | (refine WO.op (by intro; simp only [go_sem, Zz.look, fillP, over, cut]; rfl) ?_; simp only [pt])
        | (refine WO.opN (by intro; simp only [go_sem, Zz.look, storeAt, over, setBlk, cut]; rfl) ?_))
      refine WO.nil ?_
      simp only [Then]
      exact WC.ret ⟨_, rfl, by simp [oneRes, gt]⟩
    · have hb : bs.length ≤ 40 := by omega
      have hs : ss.length ≤ 40 := by omega
      refine WC.seq (WC.region ?_)
      repeat (first
        | (refine WO.yes rfl ?_)
        | (refine WO.no rfl ?_; simp only [pt])
        | (refine WO.op (by intro; simp only [go_sem, Zz.look, fillP, over, cut]; rfl) ?_; simp only [pt])
        | (refine WO.opN (by intro; simp only [go_sem, Zz.look, storeAt, over, setBlk, cut]; rfl) ?_))
      refine WO.nil ?_
      simp only [Then]
      refine WC.seq (WC.region ?_)
      refine WO.call rfl rfl (WF.spec rfl (spec10 _) ?_)
      simp only [pt]
      repeat (first
        | (refine WO.yes rfl ?_)
        | (refine WO.no rfl ?_; simp only [pt])
        | (refine WO.op (by intro; simp only [go_sem, Zz.look, fillP, over, cut]; rfl) ?_; simp only [pt])
        | (refine WO.opN (by intro; simp only [go_sem, Zz.look, storeAt, over, setBlk, cut]; rfl) ?_))
      refine WO.nil ?_
      simp only [Then]
      refine WC.seq (WC.seq (WC.region ?_))
      repeat (first
        | (refine WO.yes rfl ?_)
        | (refine WO.no rfl ?_; simp only [pt])
        | (refine WO.op (by intro; simp only [go_sem, Zz.look, fillP, over, cut]; rfl) ?_; simp only [pt])
        | (refine WO.opN (by intro; simp only [go_sem, Zz.look, storeAt, over, setBlk, cut]; rfl) ?_))
      refine WO.op (by intro; exact ev_lenS (n := ss.length) (by simp only [go_sem]; exact hx.len)) ?_
      simp only [pt]
      repeat (first
        | (refine WO.yes rfl ?_)
        | (refine WO.no rfl ?_; simp only [pt])
        | (refine WO.op (by intro; simp only [go_sem, Zz.look, fillP, over, cut, c1, decide_false]; rfl) ?_; simp only [pt])
        | (refine WO.opN (by intro; simp only [go_sem, Zz.look, storeAt, over, setBlk, cut, c1, decide_false]; rfl) ?_))
      refine WO.op (by intro; exact ev_lenS (n := bs.length) (by simp only [go_sem]; exact hbd.len)) ?_
      simp only [pt]
      repeat (first
        | (refine WO.yes rfl ?_)
        | (refine WO.no rfl ?_; simp only [pt])
        | (refine WO.op (by intro; simp only [go_sem, Zz.look, fillP, over, cut, c2, decide_false]; rfl) ?_; simp only [pt])
        | (refine WO.opN (by intro; simp only [go_sem, Zz.look, storeAt, over, setBlk, cut, c2, decide_false]; rfl) ?_))
      refine WO.nil ?_
      simp only [Then]
      refine WC.no (by simp only [go_sem]) (WC.skip ?_)
      simp only [Then]
      refine WC.seq (WC.region ?_)
      repeat (first
        | (refine WO.yes rfl ?_)
        | (refine WO.no rfl ?_; simp only [pt])
        | (refine WO.op (by intro; simp only [go_sem, Zz.look, fillP, over, cut]; rfl) ?_; simp only [pt])
        | (refine WO.opN (by intro; simp only [go_sem, Zz.look, storeAt, over, setBlk, cut]; rfl) ?_))
      refine WO.call rfl rfl ((run_any (H := []) (L := []) hbd (hx.rd []) (fun id g o s n c e => by subst e; rcases hx with ⟨h, _⟩ | ⟨f, h⟩ <;> cases h) hss).mono ?_)
      rintro y ⟨H1, L1⟩ ⟨rfl, _, q, g, hq, hg, rfl⟩
      have hqc := hq.cells
      have hgc := hg.cells
      simp only [AV.cells] at hqc hgc
      simp only [pt]
      generalize hk : H1.length = k
      have a0 : Zz.look (H1 ++ [some (Blk.mk 0 [.int .i64 0, .snil]), some (Blk.mk 0 [.snil])]) k 0 = some [.int .i64 0, .snil] := by rw [← hk]; exact look2.1
      have s0 : ∀ b, (H1 ++ [some (Blk.mk 0 [.int .i64 0, .snil]), some (Blk.mk 0 [.snil])]).set k b = H1 ++ [b, some (Blk.mk 0 [.snil])] := fun b => by rw [← hk]; exact set2.1
      have a1 : ∀ a, Zz.look (H1 ++ [a, some (Blk.mk 0 [.snil])]) (k + 1) 0 = some [.snil] := fun a => by rw [← hk]; exact look2.2
      have s1 : ∀ a b, (H1 ++ [a, some (Blk.mk 0 [.snil])]).set (k + 1) b = H1 ++ [a, b] := fun a b => by rw [← hk]; exact set2.2
      repeat (first
        | (refine WO.yes rfl ?_)
        | (refine WO.no rfl ?_; simp only [pt])
        | (refine WO.op (by intro; simp only [go_sem, fillP, over, cut, nilCheckAV, hqc, hgc]; rfl) ?_; simp only [pt])
        | (refine WO.op (by intro; exact ev_lenS rfl) ?_; simp only [pt])
        | (refine WO.opN (by intro; simp only [go_sem, storeAt, Option.bind_eq_bind, over, setBlk, cut, hqc, hgc]; rfl) ?_))
      simp only [List.append_assoc, List.cons_append, List.nil_append, List.append_nil, List.length_append, List.length_cons, List.length_nil, Nat.zero_add, Nat.reduceAdd, Nat.add_assoc, List.take, List.drop, hk]
      repeat (first
        | (refine WO.yes rfl ?_)
        | (refine WO.no rfl ?_; simp only [pt])
        | (refine WO.op (by intro; simp only [go_sem, fillP, over, cut, nilCheckAV, a0, s0, hqc, hgc]; rfl) ?_; simp only [pt])
        | (refine WO.op (by intro; exact ev_lenS rfl) ?_; simp only [pt])
        | (refine WO.opN (by intro; simp only [go_sem, storeAt, Option.bind_eq_bind, over, setBlk, cut, a0, s0, hqc, hgc]; rfl) ?_))
      simp only [List.append_assoc, List.cons_append, List.nil_append, List.append_nil, List.length_append, List.length_cons, List.length_nil, Nat.zero_add, Nat.reduceAdd, Nat.add_assoc, List.take, List.drop, s0]
      repeat (first
        | (refine WO.yes rfl ?_)
        | (refine WO.no rfl ?_; simp only [pt])
        | (refine WO.op (by intro; simp only [go_sem, fillP, over, cut, nilCheckAV, a1, s1, hqc, hgc]; rfl) ?_; simp only [pt])
        | (refine WO.op (by intro; exact ev_lenS rfl) ?_; simp only [pt])
        | (refine WO.opN (by intro; simp only [go_sem, storeAt, Option.bind_eq_bind, over, setBlk, cut, a1, s1, hqc, hgc]; rfl) ?_))
      refine WO.nil ?_
      simp only [Then, List.take, List.drop, List.nil_append, List.append_nil, List.cons_append]
      generalize H1 ++ [some (Blk.mk 0 [.int .i64 (runA bs ss).seq, q]), some (Blk.mk 0 [g])] = M
      obtain ⟨w1, H2, happ1, hA1⟩ := app_first (H := M) (L := []) hx (by omega)
      refine WC.seq (WC.region ?_)
      repeat (first
        | (refine WO.yes rfl ?_)
        | (refine WO.no rfl ?_; simp only [pt])
        | (refine WO.op (by intro; simp only [go_sem, fillP, over, cut, nilCheckAV]; rfl) ?_; simp only [pt])
        | (refine WO.op (by intro; exact ev_lenS rfl) ?_; simp only [pt])
        | (refine WO.opN (by intro; simp only [go_sem, storeAt, Option.bind_eq_bind, over, setBlk, cut]; rfl) ?_))
      refine WO.op (by intro; rw [ev_append]; exact happ1) ?_
      simp only [pt]
      repeat (first
        | (refine WO.yes rfl ?_)
        | (refine WO.no rfl ?_; simp only [pt])
        | (refine WO.op (by intro; simp only [go_sem, fillP, over, cut, nilCheckAV]; rfl) ?_; simp only [pt])
        | (refine WO.op (by intro; exact ev_lenS rfl) ?_; simp only [pt])
        | (refine WO.opN (by intro; simp only [go_sem, storeAt, Option.bind_eq_bind, over, setBlk, cut]; rfl) ?_))
      refine WO.op (by intro; exact ev_lenS (n := bs.length) (by simp only [go_sem]; exact hbd.len)) ?_
      simp only [pt]
      refine WO.call rfl rfl ((rest_run (Γ := G3) rfl (fn_of Try.func25 cir25) hb H2 []).mono ?_)
      rintro w2 ⟨H3, L3⟩ ⟨rfl, hs3, ho3⟩
      simp only [pt]
      obtain ⟨w3, H4, happ2, ho4⟩ := app_second (L := []) (hA1.same hs3) ho3 (by rw [restZ_len]; omega) (by rw [restZ_len]; omega)
      refine WO.op (by intro; rw [ev_append]; exact happ2) ?_
      simp only [pt]
      refine WO.call rfl rfl ((run_any (H := H4) (L := []) hbd ho4.rd (fun id g o s n c e => by
        rcases ho4 with ⟨h, _⟩ | ⟨f, g', rest, h, _, hl⟩
        · rw [h] at e; cases e
        · rw [h] at e; cases e; exact look_lt hl) (fun s hs => by
        rw [List.mem_append] at hs
        rcases hs with hs | hs
        · exact hss s hs
        · have := restZ_mem hs; unfold I64; omega)).mono ?_)
      rintro y ⟨H5, L5⟩ ⟨rfl, _, q2, g2, hq2, hg2, rfl⟩
      have hqc2 := hq2.cells
      have hgc2 := hg2.cells
      simp only [AV.cells] at hqc2 hgc2
      simp only [pt]
      generalize hk5 : H5.length = k5
      generalize hX : runA bs (ss ++ restZ bs.length) = X at hq2 hg2 hqc2 hgc2
      have b0 : Zz.look (H5 ++ [some (Blk.mk 0 [.int .i64 0, .snil]), some (Blk.mk 0 [.snil])]) k5 0 = some [.int .i64 0, .snil] := by rw [← hk5]; exact look2.1
      have t0 : ∀ b, (H5 ++ [some (Blk.mk 0 [.int .i64 0, .snil]), some (Blk.mk 0 [.snil])]).set k5 b = H5 ++ [b, some (Blk.mk 0 [.snil])] := fun b => by rw [← hk5]; exact set2.1
      have b1 : ∀ a, Zz.look (H5 ++ [a, some (Blk.mk 0 [.snil])]) (k5 + 1) 0 = some [.snil] := fun a => by rw [← hk5]; exact look2.2
      have t1 : ∀ a b, (H5 ++ [a, some (Blk.mk 0 [.snil])]).set (k5 + 1) b = H5 ++ [a, b] := fun a b => by rw [← hk5]; exact set2.2
      repeat (first
        | (refine WO.yes rfl ?_)
        | (refine WO.no rfl ?_; simp only [pt])
        | (refine WO.op (by intro; simp only [go_sem, fillP, over, cut, nilCheckAV]; rfl) ?_; simp only [pt])
        | (refine WO.op (by intro; exact ev_lenS rfl) ?_; simp only [pt])
        | (refine WO.opN (by intro; simp only [go_sem, storeAt, Option.bind_eq_bind, over, setBlk, cut]; rfl) ?_))
      simp only [List.append_assoc, List.cons_append, List.nil_append, List.append_nil, List.length_append, List.length_cons, List.length_nil, Nat.zero_add, Nat.reduceAdd, Nat.add_assoc, List.take, List.drop, hk5]
      repeat (first
        | (refine WO.yes rfl ?_)
        | (refine WO.no rfl ?_; simp only [pt])
        | (refine WO.op (by intro; simp only [go_sem, fillP, over, cut, nilCheckAV, b0, t0, hqc2, hgc2]; rfl) ?_; simp only [pt])
        | (refine WO.op (by intro; exact ev_lenS rfl) ?_; simp only [pt])
        | (refine WO.opN (by intro; simp only [go_sem, storeAt, Option.bind_eq_bind, over, setBlk, cut, b0, t0, hqc2, hgc2]; rfl) ?_))
      simp only [List.append_assoc, List.cons_append, List.nil_append, List.append_nil, List.length_append, List.length_cons, List.length_nil, Nat.zero_add, Nat.reduceAdd, Nat.add_assoc, List.take, List.drop, t0]
      repeat (first
        | (refine WO.yes rfl ?_)
        | (refine WO.no rfl ?_; simp only [pt])
        | (refine WO.op (by intro; simp only [go_sem, fillP, over, cut, nilCheckAV, b1, t1, hqc2, hgc2]; rfl) ?_; simp only [pt])
        | (refine WO.op (by intro; exact ev_lenS rfl) ?_; simp only [pt])
        | (refine WO.opN (by intro; simp only [go_sem, storeAt, Option.bind_eq_bind, over, setBlk, cut, b1, t1, hqc2, hgc2]; rfl) ?_))
      refine WO.nil ?_
      simp only [Then, List.take, List.drop, List.nil_append, List.append_nil, List.cons_append]
      have d0 : Zz.look (H5 ++ [some (Blk.mk 0 [.int .i64 X.seq, q2]), some (Blk.mk 0 [g2])]) k5 0 = some [.int .i64 X.seq, q2] := by rw [← hk5]; exact look2.1
      have d1 : Zz.look (H5 ++ [some (Blk.mk 0 [.int .i64 X.seq, q2]), some (Blk.mk 0 [g2])]) (k5 + 1) 0 = some [g2] := by rw [← hk5]; exact look2.2
      have hE : runE bs (ss ++ restZ bs.length) = runE bs ss := by
        unfold runE
        simp only [runOk_rest hb hs]
      rw [hE]
      by_cases hok : runOk bs ss
      · have hok2 := (runOk_rest hb hs).2 hok
        have e1 := runA_ok hok2
        rw [List.map_append, restZ_nat] at e1
        have hp := run_progress (ss := ss.map Int.toNat) hb (by simpa using hs)
        rw [← e1, hX] at hp
        obtain ⟨p1, p2, p3⟩ := hp
        rw [show runE bs ss = 0 from if_pos hok]
        rw [p2] at hq2
        rw [p3] at hg2
        have l1 : slen q2 = some 0 := hq2.len
        have g5 := eq21 hg2 hbd (by omega) (by omega)
        rw [decide_eq_true rfl] at g5
        have hseq : (X.seq == (bs.length : Int)) = true := by rw [p1]; simp
        refine WC.seq (WC.seq (WC.region ?_))
        repeat (first
          | (refine WO.yes rfl ?_)
          | (refine WO.no rfl ?_; simp only [pt])
          | (refine WO.op (by intro; simp only [go_sem, fillP, over, cut, nilCheckAV, bne_self_eq_false]; rfl) ?_; simp only [pt])
          | (refine WO.op (by intro; exact ev_lenS rfl) ?_; simp only [pt])
          | (refine WO.opN (by intro; simp only [go_sem, storeAt, Option.bind_eq_bind, over, setBlk, cut, bne_self_eq_false]; rfl) ?_))
        refine WO.nil ?_
        simp only [Then]
        refine WC.no (by simp only [go_sem]) (WC.skip ?_)
        simp only [Then]
        refine WC.seq (WC.region ?_)
        repeat (first
          | (refine WO.yes rfl ?_)
          | (refine WO.no rfl ?_; simp only [pt])
          | (refine WO.op (by intro; simp only [go_sem, fillP, over, cut, nilCheckAV, d0, d1, beq_self_eq_true]; rfl) ?_; simp only [pt])
          | (refine WO.op (by intro; exact ev_lenS rfl) ?_; simp only [pt])
          | (refine WO.opN (by intro; simp only [go_sem, storeAt, Option.bind_eq_bind, over, setBlk, cut, d0, d1, beq_self_eq_true]; rfl) ?_))
        refine WO.op (by intro; exact ev_lenS (n := bs.length) (by simp only [go_sem]; exact hbd.len)) ?_
        simp only [pt]
        repeat (first
          | (refine WO.yes rfl ?_)
          | (refine WO.no rfl ?_; simp only [pt])
          | (refine WO.op (by intro; simp only [go_sem, fillP, over, cut, nilCheckAV, hseq, d0, d1]; rfl) ?_; simp only [pt])
          | (refine WO.op (by intro; exact ev_lenS rfl) ?_; simp only [pt])
          | (refine WO.opN (by intro; simp only [go_sem, storeAt, Option.bind_eq_bind, over, setBlk, cut, hseq, d0, d1]; rfl) ?_))
        refine WO.op (by intro; exact ev_lenS (n := 0) (by simp only [go_sem]; exact l1)) ?_
        simp only [pt]
        repeat (first
          | (refine WO.yes rfl ?_)
          | (refine WO.no rfl ?_; simp only [pt])
          | (refine WO.op (by intro; simp only [go_sem, fillP, over, cut, nilCheckAV, Int.natCast_zero, beq_self_eq_true, d1]; rfl) ?_; simp only [pt])
          | (refine WO.op (by intro; exact ev_lenS rfl) ?_; simp only [pt])
          | (refine WO.opN (by intro; simp only [go_sem, storeAt, Option.bind_eq_bind, over, setBlk, cut, Int.natCast_zero, beq_self_eq_true, d1]; rfl) ?_))
        refine WO.call rfl rfl (WF.spec (S := borrowE G0 21) rfl (g5 _) ?_)
        simp only [pt]
        repeat (first
          | (refine WO.yes rfl ?_)
          | (refine WO.no rfl ?_; simp only [pt])
          | (refine WO.op (by intro; simp only [go_sem, fillP, over, cut, nilCheckAV]; rfl) ?_; simp only [pt])
          | (refine WO.op (by intro; exact ev_lenS rfl) ?_; simp only [pt])
          | (refine WO.opN (by intro; simp only [go_sem, storeAt, Option.bind_eq_bind, over, setBlk, cut]; rfl) ?_))
        refine WO.nil ?_
        simp only [Then]
        exact WC.ret ⟨_, rfl, by simp [oneRes, gt]⟩
      · rw [show runE bs ss = 1 from if_neg hok]
        have h10 : ((1 : Int) != 0) = true := by decide
        refine WC.seq (WC.seq (WC.region ?_))
        repeat (first
          | (refine WO.yes rfl ?_)
          | (refine WO.no rfl ?_; simp only [pt])
          | (refine WO.op (by intro; simp only [go_sem, fillP, over, cut, nilCheckAV, h10]; rfl) ?_; simp only [pt])
          | (refine WO.op (by intro; exact ev_lenS rfl) ?_; simp only [pt])
          | (refine WO.opN (by intro; simp only [go_sem, storeAt, Option.bind_eq_bind, over, setBlk, cut, h10]; rfl) ?_))
        refine WO.nil ?_
        simp only [Then]
        refine WC.yes (by simp only [go_sem]) (WC.seq (WC.region ?_))
        repeat (first
          | (refine WO.yes rfl ?_)
          | (refine WO.no rfl ?_; simp only [pt])
          | (refine WO.op (by intro; simp only [go_sem, fillP, over, cut, nilCheckAV, beq_self_eq_true]; rfl) ?_; simp only [pt])
          | (refine WO.op (by intro; exact ev_lenS rfl) ?_; simp only [pt])
          | (refine WO.opN (by intro; simp only [go_sem, storeAt, Option.bind_eq_bind, over, setBlk, cut, beq_self_eq_true]; rfl) ?_))
        refine WO.nil ?_
        simp only [Then]
        exact WC.ret ⟨_, rfl, by simp [oneRes, gt]⟩
end Go.Proofs.Ytpddngcgajjacaa

