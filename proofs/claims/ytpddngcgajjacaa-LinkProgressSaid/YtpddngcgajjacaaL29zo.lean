import Derived.Test.YtpddngcgajjacaaL29zn
set_option linter.unusedSimpArgs false
set_option linter.unusedVariables false
namespace Go.Proofs.Ytpddngcgajjacaa
open Go.Zz


theorem clone_own {Γ : Env} (hs : Γ.spec 28 = none) (hf : Γ.fn 28 = some ir28) {H : Hp} {L : List (Option ALoop)} {x : AV} {qs : List Int} (hx : Rd 1 H x qs.length (qs.map (.int .i64))) (hnil : x ≠ .snil) (hmax : qs.length ≤ 2000) :
    WF Γ (.func 28 [] []) [x] ⟨H, L⟩ fun y m' => y = (if qs = [] then .sref H.length 0 0 1 0 (some 0) else .sref (H.length + 1) 0 0 1 qs.length none) ∧ m' = ⟨H ++ (if qs = [] then [some ⟨0, []⟩] else [some ⟨0, []⟩, some ⟨0, qs.map (.int .i64)⟩]), L⟩ := by
  have hne : nilEqAV 0 x .snil = some false := by
    have := hx.1
    cases x <;> first | (simp [slen] at this; done) | exact absurd rfl hnil | rfl
  have hx2 := hx.same (Same.app [some (Blk.mk 0 [])] (S := fun _ => False)) (fun id g o s n c e => by
    subst e
    have h2 := hx.2.1
    simp only [scells] at h2
    have h3 := hx.2.2.2 _ _ _ _ _ _ rfl
    rw [if_pos h3] at h2
    cases hl : Zz.look H id g with
    | none => rw [hl] at h2; cases h2
    | some l => exact ⟨look_lt hl, fun h => h⟩)
  have happ : appendAV 1 8 ⟨H ++ [some ⟨0, []⟩], L⟩ (.sref H.length 0 0 1 0 (some 0)) x = some ((if qs = [] then .sref H.length 0 0 1 0 (some 0) else .sref (H.length + 1) 0 0 1 qs.length none), ⟨H ++ (if qs = [] then [some ⟨0, []⟩] else [some ⟨0, []⟩, some ⟨0, qs.map (.int .i64)⟩]), L⟩) := by
    obtain ⟨h1, h2, h3, h4⟩ := hx2
    have hlk : Zz.look (H ++ [some (Blk.mk 0 [])]) H.length 0 = some [] := by rw [look_right0]; rfl
    unfold appendAV
    simp only [h1, h2, Option.bind_eq_bind, Option.bind_some, if_true, hlk, cut, Nat.zero_mul, Nat.zero_add, List.length_nil, Nat.le_refl, List.drop_zero, List.take_zero]
    by_cases h0 : qs = []
    · subst h0
      simp [storeAt, hlk, over, setBlk]
    · have hpos : 0 < qs.length := List.length_pos_iff.2 h0
      rw [if_neg (by omega), if_pos (by omega), if_neg h0, if_neg h0]
      simp [newBlk]
  refine WF.fn hs hf (by show 1 ≤ 8; decide) ?_
  unfold ir28
  simp only [padTo, List.replicate, List.nil_append, List.append_nil, List.cons_append]
  refine WC.seq (WC.region ?_)
  repeat (first
    | (refine WO.yes rfl ?_)
    | (refine WO.no rfl ?_; simp only [pt])
    | (refine WO.op (by intro; simp only [go_sem, Zz.look, fillP, over, cut]; rfl) ?_; simp only [pt])
    | (refine WO.opN (by intro; simp only [go_sem, Zz.look, storeAt, over, setBlk, cut]; rfl) ?_))
  refine WO.nil ?_
  simp only [Then]
  refine WC.seq (WC.seq (WC.region ?_))
  repeat (first
    | (refine WO.yes rfl ?_)
    | (refine WO.no rfl ?_; simp only [pt])
    | (refine WO.op (by intro; simp only [go_sem, Zz.look, fillP, over, cut, hne]; rfl) ?_; simp only [pt])
    | (refine WO.opN (by intro; simp only [go_sem, Zz.look, storeAt, over, setBlk, cut, hne]; rfl) ?_))
  refine WO.nil ?_
  simp only [Then]
  refine WC.no (by simp only [go_sem]) (WC.skip ?_)
  simp only [Then]
  refine WC.seq (WC.region ?_)
  refine WO.op (by intro; simp only [go_sem, fillP, zeros]; rfl) ?_
  simp only [pt]
  refine WO.op (by intro; simp only [go_sem]; rfl) ?_
  simp only [pt]
  refine WO.op (by intro; rw [ev_append]; exact happ) ?_
  simp only [pt]
  repeat (first
    | (refine WO.yes rfl ?_)
    | (refine WO.no rfl ?_; simp only [pt])
    | (refine WO.op (by intro; simp only [go_sem, Zz.look, fillP, over, cut]; rfl) ?_; simp only [pt])
    | (refine WO.opN (by intro; simp only [go_sem, Zz.look, storeAt, over, setBlk, cut]; rfl) ?_))
  refine WO.nil ?_
  simp only [Then]
  exact WC.ret ⟨_, rfl, rfl, rfl⟩

theorem take_at {Γ : Env} (hs : Γ.spec 19 = none) (hf : Γ.fn 19 = some ir19) (hs8 : Γ.spec 28 = none) (hf8 : Γ.fn 28 = some ir28) {H : Hp} {L : List (Option ALoop)} {g : AV} {gs : List Int} {ps b : Int} (hg : Rd 1 H g gs.length (gs.map (.int .i64))) (hgo : ∃ id e o s n c, g = .sref id e o s n c ∧ id < H.length) (hp : ps = gs.length) (hmax : gs.length < 1000) :
    WF Γ (.func 19 [] []) [.agg [g], .agg [.bool false, .int .i64 ps, .int .i64 b]] ⟨H, L⟩ fun y m' => ∃ j g' R, y = .tuple [.agg [.sref (H.length + j) g' 0 1 (gs.length + 1) none], .agg [.bool true, .int .i64 ((gs.length + 1 : Nat) : Int), .int .i64 0], .int .i64 0] ∧ m' = ⟨H ++ R, L⟩ ∧ Zz.look R j g' = some ((gs ++ [b]).map (.int .i64)) := by
  have c0 : ¬ (1000 : Int) < gs.length := by omega
  have c1 : ¬ ps < 0 := by omega
  have c2 : ¬ 1000 ≤ ps := by omega
  have hlen := hg.1
  have cb : (ps == (gs.length : Int)) = true := by simpa using hp
  obtain ⟨id, e, o, s, n, c, rfl, hid⟩ := hgo
  generalize hgg : AV.sref id e o s n c = g at hg hlen
  have hgc : g.cells = some [g] := by rw [← hgg]; rfl
  simp only [AV.cells] at hgc
  have hg0 : ∀ R, Rd 1 (H ++ R) g gs.length (gs.map (.int .i64)) := fun R => hg.same (Same.app R (S := fun _ => False)) (fun id g o s n c e => by rw [← hgg] at e; cases e; exact ⟨hid, fun h => h⟩)
  have hclone := fun R => clone_own (L := L) hs8 hf8 (hg0 R) (by rw [← hgg]; intro h; cases h) (by omega)
  generalize hk : H.length = k at hid hclone
  have hr : ∀ R j e, Zz.look (H ++ R) (k + j) e = Zz.look R j e := fun R j e => by rw [← hk]; exact look_right
  have p0 : ∀ R, Zz.look (H ++ (some (Blk.mk 0 [g]) :: R)) k 0 = some [g] := fun R => (hr _ 0 0).trans rfl
  have p1 : ∀ x R, Zz.look (H ++ (x :: some (Blk.mk 0 [.bool false, .int .i64 ps, .int .i64 b]) :: R)) (k + 1) 0 = some [.bool false, .int .i64 ps, .int .i64 b] := fun x R => (hr _ 1 0).trans rfl
  have p2 : ∀ x y R, Zz.look (H ++ (x :: y :: some (Blk.mk 0 [.snil]) :: R)) (k + 2) 0 = some [.snil] := fun x y R => (hr _ 2 0).trans rfl
  have p3 : ∀ x y z R, Zz.look (H ++ (x :: y :: z :: some (Blk.mk 0 [.bool false, .int .i64 0, .int .i64 0]) :: R)) (k + 3) 0 = some [.bool false, .int .i64 0, .int .i64 0] := fun x y z R => (hr _ 3 0).trans rfl
  have s2 : ∀ x y z w R, (H ++ (x :: y :: z :: R)).set (k + 2) w = H ++ (x :: y :: w :: R) := fun x y z w R => by rw [← hk, List.set_append_right (h := by omega)]; simp
  have s3 : ∀ x y z u w R, (H ++ (x :: y :: z :: u :: R)).set (k + 3) w = H ++ (x :: y :: z :: w :: R) := fun x y z u w R => by rw [← hk, List.set_append_right (h := by omega)]; simp
  by_cases h0 : gs = []
  · simp only [h0, if_true] at hclone
    have hl0 : gs.length = 0 := by rw [h0]; rfl
    have cb0 : (ps == ((0 : Nat) : Int)) = true := by rw [hl0] at cb; exact cb
    have happ : ∀ a1 a2 a3 a4, appendAV 1 8 ⟨H ++ [a1, a2, a3, a4, some ⟨0, []⟩, some ⟨0, [.int .i64 b]⟩], L⟩ (.sref (k + 4) 0 0 1 0 (some 0)) (.sref (k + 5) 0 0 1 1 (some 1)) = some (.sref (k + 6) 0 0 1 1 none, ⟨H ++ [a1, a2, a3, a4, some ⟨0, []⟩, some ⟨0, [.int .i64 b]⟩, some ⟨0, [.int .i64 b]⟩], L⟩) := by
      intro a1 a2 a3 a4
      simp only [appendAV, scells, slen, hr, if_true, Option.bind_eq_bind, Option.bind_some]
      simp [Zz.look, cut, newBlk, hk]
    refine WF.fn hs hf (by show 2 ≤ 46; decide) ?_
    unfold ir19
    simp only [padTo, List.replicate, List.nil_append, List.append_nil, List.cons_append]
    refine WC.seq (WC.region ?_)
    repeat (first
      | (refine WO.yes rfl ?_)
      | (refine WO.no rfl ?_; simp only [pt])
      | (refine WO.op (by intro; simp only [go_sem, fillP, over, cut, nilCheckAV]; rfl) ?_; simp only [pt])
      | (refine WO.op (by intro; exact ev_lenS rfl) ?_; simp only [pt])
      | (refine WO.opN (by intro; simp only [go_sem, storeAt, Option.bind_eq_bind, over, setBlk, cut]; rfl) ?_))
    try simp only [List.append_assoc, List.cons_append, List.nil_append, List.append_nil, List.length_append, List.length_cons, List.length_nil, Nat.zero_add, Nat.reduceAdd, Nat.add_assoc, List.take, List.drop, hk]
    refine WO.nil ?_
    simp only [Then]
    refine WC.seq (WC.seq (WC.region ?_))
    repeat (first
      | (refine WO.yes rfl ?_)
      | (refine WO.no rfl ?_; simp only [pt])
      | (refine WO.op (by intro; simp only [go_sem, fillP, over, cut, nilCheckAV, p0, p1]; rfl) ?_; simp only [pt])
      | (refine WO.op (by intro; exact ev_lenS rfl) ?_; simp only [pt])
      | (refine WO.opN (by intro; simp only [go_sem, storeAt, Option.bind_eq_bind, over, setBlk, cut, p0, p1]; rfl) ?_))
    refine WO.op (by intro; exact ev_lenS (n := gs.length) (by simp only [go_sem]; exact hlen)) ?_
    simp only [pt]
    repeat (first
      | (refine WO.yes rfl ?_)
      | (refine WO.no rfl ?_; simp only [pt])
      | (refine WO.op (by intro; simp only [go_sem, fillP, over, cut, nilCheckAV, p0, p1, c0, c1, c2, decide_false]; rfl) ?_; simp only [pt])
      | (refine WO.op (by intro; exact ev_lenS rfl) ?_; simp only [pt])
      | (refine WO.opN (by intro; simp only [go_sem, storeAt, Option.bind_eq_bind, over, setBlk, cut, p0, p1, c0, c1, c2, decide_false]; rfl) ?_))
    refine WO.nil ?_
    simp only [Then]
    refine WC.no (by simp only [go_sem]) (WC.skip ?_)
    simp only [Then]
    refine WC.seq (WC.region ?_)
    repeat (first
      | (refine WO.yes rfl ?_)
      | (refine WO.no rfl ?_; simp only [pt])
      | (refine WO.op (by intro; simp only [go_sem, fillP, over, cut, nilCheckAV, p0, p1]; rfl) ?_; simp only [pt])
      | (refine WO.op (by intro; exact ev_lenS rfl) ?_; simp only [pt])
      | (refine WO.opN (by intro; simp only [go_sem, storeAt, Option.bind_eq_bind, over, setBlk, cut, p0, p1]; rfl) ?_))
    refine WO.call rfl rfl ((hclone _).mono ?_)
    rintro y m' ⟨rfl, rfl⟩
    simp only [pt, List.length_append, List.length_cons, List.length_nil, List.append_assoc, List.cons_append, List.nil_append, hk, Nat.add_assoc, Nat.zero_add, Nat.reduceAdd]
    repeat (first
      | (refine WO.yes rfl ?_)
      | (refine WO.no rfl ?_; simp only [pt])
      | (refine WO.op (by intro; simp only [go_sem, fillP, over, cut, nilCheckAV]; rfl) ?_; simp only [pt])
      | (refine WO.op (by intro; exact ev_lenS rfl) ?_; simp only [pt])
      | (refine WO.opN (by intro; simp only [go_sem, storeAt, Option.bind_eq_bind, over, setBlk, cut]; rfl) ?_))
    refine WO.nil ?_
    simp only [Then]
    refine WC.seq (WC.seq (WC.region ?_))
    repeat (first
      | (refine WO.yes rfl ?_)
      | (refine WO.no rfl ?_; simp only [pt])
      | (refine WO.op (by intro; simp only [go_sem, fillP, over, cut, nilCheckAV, p1]; rfl) ?_; simp only [pt])
      | (refine WO.op (by intro; exact ev_lenS rfl) ?_; simp only [pt])
      | (refine WO.opN (by intro; simp only [go_sem, storeAt, Option.bind_eq_bind, over, setBlk, cut, p1]; rfl) ?_))
    try (
      refine WO.op (by intro; exact ev_lenS (n := gs.length) (by simp only [go_sem]; exact rfl)) ?_
      simp only [pt])
    repeat (first
      | (refine WO.yes rfl ?_)
      | (refine WO.no rfl ?_; simp only [pt])
      | (refine WO.op (by intro; simp only [go_sem, fillP, over, cut, nilCheckAV, cb0]; rfl) ?_; simp only [pt])
      | (refine WO.op (by intro; exact ev_lenS rfl) ?_; simp only [pt])
      | (refine WO.opN (by intro; simp only [go_sem, storeAt, Option.bind_eq_bind, over, setBlk, cut, cb0]; rfl) ?_))
    refine WO.nil ?_
    simp only [Then]
    refine WC.yes (by simp only [go_sem, cb0]) (WC.region ?_)
    repeat (first
      | (refine WO.yes rfl ?_)
      | (refine WO.no rfl ?_; simp only [pt])
      | (refine WO.op (by intro; simp only [go_sem, fillP, over, cut, nilCheckAV, p1]; rfl) ?_; simp only [pt])
      | (refine WO.op (by intro; exact ev_lenS rfl) ?_; simp only [pt])
      | (refine WO.opN (by intro; simp only [go_sem, storeAt, Option.bind_eq_bind, over, setBlk, cut, p1]; rfl) ?_))
    simp only [List.append_assoc, List.cons_append, List.nil_append, List.append_nil, List.length_append, List.length_cons, List.length_nil, Nat.zero_add, Nat.reduceAdd, Nat.add_assoc, List.take, List.drop, hk]
    refine WO.op (by intro; rw [ev_append]; exact happ _ _ _ _) ?_
    simp only [pt]
    repeat (first
      | (refine WO.yes rfl ?_)
      | (refine WO.no rfl ?_; simp only [pt])
      | (refine WO.op (by intro; simp only [go_sem, fillP, over, cut, nilCheckAV]; rfl) ?_; simp only [pt])
      | (refine WO.op (by intro; exact ev_lenS rfl) ?_; simp only [pt])
      | (refine WO.opN (by intro; simp only [go_sem, storeAt, Option.bind_eq_bind, over, setBlk, cut]; rfl) ?_))
    refine WO.nil ?_
    simp only [Then]
    refine WC.seq (WC.region ?_)
    repeat (first
      | (refine WO.yes rfl ?_)
      | (refine WO.no rfl ?_; simp only [pt])
      | (refine WO.op (by intro; simp only [go_sem, fillP, over, cut, nilCheckAV]; rfl) ?_; simp only [pt])
      | (refine WO.op (by intro; exact ev_lenS rfl) ?_; simp only [pt])
      | (refine WO.opN (by intro; simp only [go_sem, storeAt, Option.bind_eq_bind, over, setBlk, cut]; rfl) ?_))
    refine WO.opN (by intro; rw [ev_store]; simp only [go_sem, storeAt, Option.bind_eq_bind, p2, over, setBlk, s2]; rfl) ?_
    simp only [List.append_assoc, List.cons_append, List.nil_append, List.append_nil, List.length_append, List.length_cons, List.length_nil, Nat.zero_add, Nat.reduceAdd, Nat.add_assoc, List.take, List.drop, hk]
    refine WO.opN (by intro; rw [ev_store]; simp only [go_sem, storeAt, Option.bind_eq_bind, p3, over, setBlk, s3]; rfl) ?_
    simp only [List.append_assoc, List.cons_append, List.nil_append, List.append_nil, List.length_append, List.length_cons, List.length_nil, Nat.zero_add, Nat.reduceAdd, Nat.add_assoc, List.take, List.drop, hk]
    repeat (first
      | (refine WO.yes rfl ?_)
      | (refine WO.no rfl ?_; simp only [pt])
      | (refine WO.op (by intro; simp only [go_sem, fillP, over, cut, nilCheckAV]; rfl) ?_; simp only [pt])
      | (refine WO.op (by intro; exact ev_lenS rfl) ?_; simp only [pt])
      | (refine WO.opN (by intro; simp only [go_sem, storeAt, Option.bind_eq_bind, over, setBlk, cut]; rfl) ?_))
    refine WO.nil ?_
    simp only [Then]
    have q2 : ∀ x y R, Zz.look (H ++ (x :: y :: some (Blk.mk 0 [.sref (k + 6) 0 0 1 1 none]) :: R)) (k + 2) 0 = some [.sref (k + 6) 0 0 1 1 none] := fun x y R => (hr _ 2 0).trans rfl
    have q3 : ∀ x y z R, Zz.look (H ++ (x :: y :: z :: some (Blk.mk 0 [.bool true, .int .i64 ((1 : Nat) : Int), .int .i64 0]) :: R)) (k + 3) 0 = some [.bool true, .int .i64 ((1 : Nat) : Int), .int .i64 0] := fun x y z R => (hr _ 3 0).trans rfl
    refine WC.ret ⟨[.agg [.sref (k + 6) 0 0 1 1 none], .agg [.bool true, .int .i64 ((1 : Nat) : Int), .int .i64 0], .int .i64 0], ?_, 6, 0, _, ?_, rfl, ?_⟩
    · simp only [evRes, gt, q2, q3, Option.bind_some, loadCs, if_true, cut, Option.map_some]
      rfl
    · rw [hl0]; rfl
    · rw [h0]; rfl
  · simp only [h0, if_false] at hclone
    have hpos : 0 < gs.length := List.length_pos_iff.2 h0
    have happ : ∀ a1 a2 a3 a4 a5, appendAV 1 8 ⟨H ++ [a1, a2, a3, a4, a5, some ⟨0, gs.map (.int .i64)⟩, some ⟨0, [.int .i64 b]⟩], L⟩ (.sref (k + 5) 0 0 1 gs.length none) (.sref (k + 6) 0 0 1 1 (some 1)) = some (.sref (k + 5) 1 0 1 (gs.length + 1) none, ⟨H ++ [a1, a2, a3, a4, a5, some ⟨1, gs.map (.int .i64) ++ [.int .i64 b]⟩, some ⟨0, [.int .i64 b]⟩], L⟩) := by
      intro a1 a2 a3 a4 a5
      have e5 : Zz.look [a1, a2, a3, a4, a5, some ⟨0, gs.map (.int .i64)⟩, some ⟨0, [.int .i64 b]⟩] 5 0 = some (gs.map (.int .i64)) := rfl
      have e6 : Zz.look [a1, a2, a3, a4, a5, some ⟨0, gs.map (.int .i64)⟩, some ⟨0, [.int .i64 b]⟩] 6 0 = some [.int .i64 b] := rfl
      have e7 : cut [AV.int .i64 b] 0 (1 * 1) = some [.int .i64 b] := rfl
      simp only [appendAV, scells, slen, hr, if_true, Option.bind_eq_bind, Option.bind_some, e5, e6, cut, Nat.zero_add, Nat.mul_one, List.length_map, Nat.le_refl, List.length_cons, List.length_nil, List.drop_zero]
      rw [if_neg (by omega), if_pos (by omega)]
      simp only [setBlk, List.drop_zero, List.take]
      have e8 : (H ++ [a1, a2, a3, a4, a5, some (Blk.mk 0 (gs.map (.int .i64))), some (Blk.mk 0 [.int .i64 b])]).set (k + 5) (some ⟨1, (gs.map (AV.int .i64)).take gs.length ++ [.int .i64 b]⟩) = H ++ [a1, a2, a3, a4, a5, some ⟨1, gs.map (.int .i64) ++ [.int .i64 b]⟩, some ⟨0, [.int .i64 b]⟩] := by
        have hle : List.length H ≤ k + 5 := by omega
        rw [List.set_append_right (h := hle), hk, show k + 5 - k = 5 by omega]
        simp [List.take_of_length_le]
      rw [e8]
    refine WF.fn hs hf (by show 2 ≤ 46; decide) ?_
    unfold ir19
    simp only [padTo, List.replicate, List.nil_append, List.append_nil, List.cons_append]
    refine WC.seq (WC.region ?_)
    repeat (first
      | (refine WO.yes rfl ?_)
      | (refine WO.no rfl ?_; simp only [pt])
      | (refine WO.op (by intro; simp only [go_sem, fillP, over, cut, nilCheckAV]; rfl) ?_; simp only [pt])
      | (refine WO.op (by intro; exact ev_lenS rfl) ?_; simp only [pt])
      | (refine WO.opN (by intro; simp only [go_sem, storeAt, Option.bind_eq_bind, over, setBlk, cut]; rfl) ?_))
    try simp only [List.append_assoc, List.cons_append, List.nil_append, List.append_nil, List.length_append, List.length_cons, List.length_nil, Nat.zero_add, Nat.reduceAdd, Nat.add_assoc, List.take, List.drop, hk]
    refine WO.nil ?_
    simp only [Then]
    refine WC.seq (WC.seq (WC.region ?_))
    repeat (first
      | (refine WO.yes rfl ?_)
      | (refine WO.no rfl ?_; simp only [pt])
      | (refine WO.op (by intro; simp only [go_sem, fillP, over, cut, nilCheckAV, p0, p1]; rfl) ?_; simp only [pt])
      | (refine WO.op (by intro; exact ev_lenS rfl) ?_; simp only [pt])
      | (refine WO.opN (by intro; simp only [go_sem, storeAt, Option.bind_eq_bind, over, setBlk, cut, p0, p1]; rfl) ?_))
    refine WO.op (by intro; exact ev_lenS (n := gs.length) (by simp only [go_sem]; exact hlen)) ?_
    simp only [pt]
    repeat (first
      | (refine WO.yes rfl ?_)
      | (refine WO.no rfl ?_; simp only [pt])
      | (refine WO.op (by intro; simp only [go_sem, fillP, over, cut, nilCheckAV, p0, p1, c0, c1, c2, decide_false]; rfl) ?_; simp only [pt])
      | (refine WO.op (by intro; exact ev_lenS rfl) ?_; simp only [pt])
      | (refine WO.opN (by intro; simp only [go_sem, storeAt, Option.bind_eq_bind, over, setBlk, cut, p0, p1, c0, c1, c2, decide_false]; rfl) ?_))
    refine WO.nil ?_
    simp only [Then]
    refine WC.no (by simp only [go_sem]) (WC.skip ?_)
    simp only [Then]
    refine WC.seq (WC.region ?_)
    repeat (first
      | (refine WO.yes rfl ?_)
      | (refine WO.no rfl ?_; simp only [pt])
      | (refine WO.op (by intro; simp only [go_sem, fillP, over, cut, nilCheckAV, p0, p1]; rfl) ?_; simp only [pt])
      | (refine WO.op (by intro; exact ev_lenS rfl) ?_; simp only [pt])
      | (refine WO.opN (by intro; simp only [go_sem, storeAt, Option.bind_eq_bind, over, setBlk, cut, p0, p1]; rfl) ?_))
    refine WO.call rfl rfl ((hclone _).mono ?_)
    rintro y m' ⟨rfl, rfl⟩
    simp only [pt, List.length_append, List.length_cons, List.length_nil, List.append_assoc, List.cons_append, List.nil_append, hk, Nat.add_assoc, Nat.zero_add, Nat.reduceAdd]
    repeat (first
      | (refine WO.yes rfl ?_)
      | (refine WO.no rfl ?_; simp only [pt])
      | (refine WO.op (by intro; simp only [go_sem, fillP, over, cut, nilCheckAV]; rfl) ?_; simp only [pt])
      | (refine WO.op (by intro; exact ev_lenS rfl) ?_; simp only [pt])
      | (refine WO.opN (by intro; simp only [go_sem, storeAt, Option.bind_eq_bind, over, setBlk, cut]; rfl) ?_))
    refine WO.nil ?_
    simp only [Then]
    refine WC.seq (WC.seq (WC.region ?_))
    repeat (first
      | (refine WO.yes rfl ?_)
      | (refine WO.no rfl ?_; simp only [pt])
      | (refine WO.op (by intro; simp only [go_sem, fillP, over, cut, nilCheckAV, p1]; rfl) ?_; simp only [pt])
      | (refine WO.op (by intro; exact ev_lenS rfl) ?_; simp only [pt])
      | (refine WO.opN (by intro; simp only [go_sem, storeAt, Option.bind_eq_bind, over, setBlk, cut, p1]; rfl) ?_))
    try (
      refine WO.op (by intro; exact ev_lenS (n := gs.length) (by simp only [go_sem]; exact rfl)) ?_
      simp only [pt])
    repeat (first
      | (refine WO.yes rfl ?_)
      | (refine WO.no rfl ?_; simp only [pt])
      | (refine WO.op (by intro; simp only [go_sem, fillP, over, cut, nilCheckAV, cb]; rfl) ?_; simp only [pt])
      | (refine WO.op (by intro; exact ev_lenS rfl) ?_; simp only [pt])
      | (refine WO.opN (by intro; simp only [go_sem, storeAt, Option.bind_eq_bind, over, setBlk, cut, cb]; rfl) ?_))
    refine WO.nil ?_
    simp only [Then]
    refine WC.yes (by simp only [go_sem, cb]) (WC.region ?_)
    repeat (first
      | (refine WO.yes rfl ?_)
      | (refine WO.no rfl ?_; simp only [pt])
      | (refine WO.op (by intro; simp only [go_sem, fillP, over, cut, nilCheckAV, p1]; rfl) ?_; simp only [pt])
      | (refine WO.op (by intro; exact ev_lenS rfl) ?_; simp only [pt])
      | (refine WO.opN (by intro; simp only [go_sem, storeAt, Option.bind_eq_bind, over, setBlk, cut, p1]; rfl) ?_))
    simp only [List.append_assoc, List.cons_append, List.nil_append, List.append_nil, List.length_append, List.length_cons, List.length_nil, Nat.zero_add, Nat.reduceAdd, Nat.add_assoc, List.take, List.drop, hk]
    refine WO.op (by intro; rw [ev_append]; exact happ _ _ _ _ _) ?_
    simp only [pt]
    repeat (first
      | (refine WO.yes rfl ?_)
      | (refine WO.no rfl ?_; simp only [pt])
      | (refine WO.op (by intro; simp only [go_sem, fillP, over, cut, nilCheckAV]; rfl) ?_; simp only [pt])
      | (refine WO.op (by intro; exact ev_lenS rfl) ?_; simp only [pt])
      | (refine WO.opN (by intro; simp only [go_sem, storeAt, Option.bind_eq_bind, over, setBlk, cut]; rfl) ?_))
    refine WO.nil ?_
    simp only [Then]
    refine WC.seq (WC.region ?_)
    repeat (first
      | (refine WO.yes rfl ?_)
      | (refine WO.no rfl ?_; simp only [pt])
      | (refine WO.op (by intro; simp only [go_sem, fillP, over, cut, nilCheckAV]; rfl) ?_; simp only [pt])
      | (refine WO.op (by intro; exact ev_lenS rfl) ?_; simp only [pt])
      | (refine WO.opN (by intro; simp only [go_sem, storeAt, Option.bind_eq_bind, over, setBlk, cut]; rfl) ?_))
    refine WO.opN (by intro; rw [ev_store]; simp only [go_sem, storeAt, Option.bind_eq_bind, p2, over, setBlk, s2]; rfl) ?_
    simp only [List.append_assoc, List.cons_append, List.nil_append, List.append_nil, List.length_append, List.length_cons, List.length_nil, Nat.zero_add, Nat.reduceAdd, Nat.add_assoc, List.take, List.drop, hk]
    refine WO.opN (by intro; rw [ev_store]; simp only [go_sem, storeAt, Option.bind_eq_bind, p3, over, setBlk, s3]; rfl) ?_
    simp only [List.append_assoc, List.cons_append, List.nil_append, List.append_nil, List.length_append, List.length_cons, List.length_nil, Nat.zero_add, Nat.reduceAdd, Nat.add_assoc, List.take, List.drop, hk]
    repeat (first
      | (refine WO.yes rfl ?_)
      | (refine WO.no rfl ?_; simp only [pt])
      | (refine WO.op (by intro; simp only [go_sem, fillP, over, cut, nilCheckAV]; rfl) ?_; simp only [pt])
      | (refine WO.op (by intro; exact ev_lenS rfl) ?_; simp only [pt])
      | (refine WO.opN (by intro; simp only [go_sem, storeAt, Option.bind_eq_bind, over, setBlk, cut]; rfl) ?_))
    refine WO.nil ?_
    simp only [Then]
    have q2 : ∀ x y R, Zz.look (H ++ (x :: y :: some (Blk.mk 0 [.sref (k + 5) 1 0 1 (gs.length + 1) none]) :: R)) (k + 2) 0 = some [.sref (k + 5) 1 0 1 (gs.length + 1) none] := fun x y R => (hr _ 2 0).trans rfl
    have q3 : ∀ x y z R, Zz.look (H ++ (x :: y :: z :: some (Blk.mk 0 [.bool true, .int .i64 ((gs.length + 1 : Nat) : Int), .int .i64 0]) :: R)) (k + 3) 0 = some [.bool true, .int .i64 ((gs.length + 1 : Nat) : Int), .int .i64 0] := fun x y z R => (hr _ 3 0).trans rfl
    refine WC.ret ⟨[.agg [.sref (k + 5) 1 0 1 (gs.length + 1) none], .agg [.bool true, .int .i64 ((gs.length + 1 : Nat) : Int), .int .i64 0], .int .i64 0], ?_, 5, 1, _, rfl, rfl, ?_⟩
    · simp only [evRes, gt, q2, q3, Option.bind_some, loadCs, if_true, cut, Option.map_some]
      rfl
    · rw [List.map_append]; rfl
end Go.Proofs.Ytpddngcgajjacaa

