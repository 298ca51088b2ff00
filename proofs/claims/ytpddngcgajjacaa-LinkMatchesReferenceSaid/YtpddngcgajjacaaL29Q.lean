import Derived.Test.YtpddngcgajjacaaL29zzf
set_option linter.unusedSimpArgs false
set_option linter.unusedVariables false
namespace Go.Proofs.Ytpddngcgajjacaa
open Go.Zz


theorem rstep {H : Hp} {L : List (Option ALoop)} {n0 hd s : Nat} {X : RunSt} {bs : List Int} {q g f b bd : AV} (hR : RR n0 H bs X hd q g f b) (hn0 : n0 ≤ H.length) (hbd : IntS bd bs) (hsm : Sm X) (hs63 : s < 9223372036854775808) (hbl : bs.length ≤ 1000) :
    WF Gq (.func 38 [] []) [.agg [.int .i64 X.seq, q, g, f, b, .int .i64 (hd : Nat)], bd, .int .i64 (s : Nat)] ⟨H, L⟩ fun y m' => Done n0 H L bs (stepM X s) y m' := by
  have h8 : s % 8 = 0 ∨ s % 8 = 1 ∨ s % 8 = 2 ∨ s % 8 = 3 ∨ s % 8 = 4 ∨ s % 8 = 5 ∨ s % 8 = 6 ∨ s % 8 = 7 := by omega
  rcases h8 with e | e | e | e | e | e | e | e
  · exact rstep0 hR hn0 hbd hsm hs63 hbl e
  · exact rstep1 hR hn0 hbd hsm hs63 hbl e
  · exact rstep2 hR hn0 hbd hsm hs63 hbl e
  · exact rstep3 hR hn0 hbd hsm hs63 hbl e
  · exact rstep4 hR hn0 hbd hsm hs63 hbl e
  · exact rstep5 hR hn0 hbd hsm hs63 hbl e
  · exact rstep6 hR hn0 hbd hsm hs63 hbl e
  · exact rstep7 hR hn0 hbd hsm hs63 hbl e

theorem rneg_loop {bd x : AV} {ss : List Int} (hx : IntS x ss) (hmax : ss.length ≤ 1000) {lb : IR} (hlb : lb = match ir23.body with | .seq _ (.seq _ (.seq (.seq _ (.block _ (.loop b))) _)) => b | _ => .skip) :
    ∀ (k i : Nat), i + k = ss.length → (∀ s ∈ ss.take i, ¬ s < 0) → ∀ (u2 u3 u8 u9 u10 u11 u12 u13 u14 u15 u16 u17 u18 u19 u20 u21 u22 u23 u24 u25 u26 u27 u28 u29 u30 u31 u32 u33 u34 u35 u36 u37 u38 u39 u40 u41 u42 u43 u44 u45 u46 u47 u48 u49 : AV),
    WC Gq (.loop lb) ⟨[bd, x, u2, u3, .pref 0 0 0, .pref 1 0 0, .int .i64 0, .int .i64 (i : Int), u8, u9, u10, u11, u12, u13, u14, u15, u16, u17, u18, u19, u20, u21, u22, u23, u24, u25, u26, u27, u28, u29, u30, u31, u32, u33, u34, u35, u36, u37, u38, u39, u40, u41, u42, u43, u44, u45, u46, u47, u48, u49], [some (Blk.mk 0 [.int .i64 0, .snil]), some (Blk.mk 0 [.snil])], []⟩ fun e s' => s'.heap = [some (Blk.mk 0 [.int .i64 0, .snil]), some (Blk.mk 0 [.snil])] ∧ s'.loops = [] ∧ s'.T.length = 50 ∧ gt s'.T 0 = bd ∧ gt s'.T 1 = x ∧ gt s'.T 4 = .pref 0 0 0 ∧ gt s'.T 5 = .pref 1 0 0 ∧ ((e = .exit 0 ∧ gt s'.T 6 = .int .i64 0 ∧ ∀ s ∈ ss, ¬ s < 0) ∨ (e = .ret ∧ gt s'.T 6 = .int .i64 1 ∧ ∃ s ∈ ss, s < 0)) := by
  subst hlb
  unfold ir23
  simp only
  intro k
  induction k with
  | zero =>
    intro i hi hn u2 u3 u8 u9 u10 u11 u12 u13 u14 u15 u16 u17 u18 u19 u20 u21 u22 u23 u24 u25 u26 u27 u28 u29 u30 u31 u32 u33 u34 u35 u36 u37 u38 u39 u40 u41 u42 u43 u44 u45 u46 u47 u48 u49
    have hlt : ¬ ((i : Int) < (ss.length : Int)) := by omega
    refine WC.loop (WC.seq (WC.seq (WC.region ?_)))
    repeat (first
      | (refine WO.yes rfl ?_)
      | (refine WO.no rfl ?_; simp only [pt])
      | (refine WO.op (by intro; simp only [go_sem, Zz.look, fillP, over, cut]; rfl) ?_; simp only [pt])
      | (refine WO.opN (by intro; simp only [go_sem, Zz.look, storeAt, over, setBlk, cut]; rfl) ?_))
    refine WO.op (by intro; exact ev_lenS (n := ss.length) (by simp only [go_sem]; exact hx.len)) ?_
    simp only [pt]
    repeat (first
      | (refine WO.yes rfl ?_)
      | (refine WO.no rfl ?_; simp only [pt])
      | (refine WO.op (by intro; simp only [go_sem, Zz.look, fillP, over, cut, hlt, decide_false]; rfl) ?_; simp only [pt])
      | (refine WO.opN (by intro; simp only [go_sem, Zz.look, storeAt, over, setBlk, cut, hlt, decide_false]; rfl) ?_))
    refine WO.nil ?_
    simp only [Then, Out]
    refine WC.no (by simp only [go_sem, hlt, decide_false]) (WC.exit ?_)
    refine ⟨rfl, rfl, rfl, rfl, rfl, rfl, rfl, .inl ⟨rfl, rfl, ?_⟩⟩
    rw [List.take_of_length_le (by omega)] at hn
    exact hn
  | succ k ih =>
    intro i hi hn u2 u3 u8 u9 u10 u11 u12 u13 u14 u15 u16 u17 u18 u19 u20 u21 u22 u23 u24 u25 u26 u27 u28 u29 u30 u31 u32 u33 u34 u35 u36 u37 u38 u39 u40 u41 u42 u43 u44 u45 u46 u47 u48 u49
    have hix : i < ss.length := by omega
    have hlt : ((i : Int) < (ss.length : Int)) := by omega
    have hp := hx.at hix
    have hd := drop_at hix
    have hw : IntKind.wrap .i64 ((i : Int) + 1) = ((i + 1 : Nat) : Int) := by rw [wrap_id (by omega) (by omega)]; rfl
    refine WC.loop (WC.seq (WC.seq (WC.region ?_)))
    repeat (first
      | (refine WO.yes rfl ?_)
      | (refine WO.no rfl ?_; simp only [pt])
      | (refine WO.op (by intro; simp only [go_sem, Zz.look, fillP, over, cut]; rfl) ?_; simp only [pt])
      | (refine WO.opN (by intro; simp only [go_sem, Zz.look, storeAt, over, setBlk, cut]; rfl) ?_))
    refine WO.op (by intro; exact ev_lenS (n := ss.length) (by simp only [go_sem]; exact hx.len)) ?_
    simp only [pt]
    repeat (first
      | (refine WO.yes rfl ?_)
      | (refine WO.no rfl ?_; simp only [pt])
      | (refine WO.op (by intro; simp only [go_sem, Zz.look, fillP, over, cut, hlt, decide_true]; rfl) ?_; simp only [pt])
      | (refine WO.opN (by intro; simp only [go_sem, Zz.look, storeAt, over, setBlk, cut, hlt, decide_true]; rfl) ?_))
    refine WO.nil ?_
    simp only [Then, Out]
    refine WC.yes (by simp only [go_sem, hlt, decide_true]) (WC.skip ?_)
    simp only [Then, Out]
    refine WC.seq (WC.block (WC.seq (WC.region ?_)))
    repeat (first
      | (refine WO.yes rfl ?_)
      | (refine WO.no rfl ?_; simp only [pt])
      | (refine WO.op (by intro; simp only [go_sem, Zz.look, fillP, over, cut]; rfl) ?_; simp only [pt])
      | (refine WO.opN (by intro; simp only [go_sem, Zz.look, storeAt, over, setBlk, cut]; rfl) ?_))
    refine WO.op (by intro; rw [ev_indexAddr]; exact (congrArg (Option.map _) hp).trans rfl) ?_
    simp only [pt]
    repeat (first
      | (refine WO.yes rfl ?_)
      | (refine WO.no rfl ?_; simp only [pt])
      | (refine WO.op (by intro; simp only [go_sem, Zz.look, fillP, over, cut, hd]; rfl) ?_; simp only [pt])
      | (refine WO.opN (by intro; simp only [go_sem, Zz.look, storeAt, over, setBlk, cut, hd]; rfl) ?_))
    refine WO.nil ?_
    simp only [Then, Out]
    by_cases hneg : ss[i] < 0
    · refine WC.yes (by simp only [go_sem, hneg, decide_true]) (WC.seq (WC.region ?_))
      repeat (first
        | (refine WO.yes rfl ?_)
        | (refine WO.no rfl ?_; simp only [pt])
        | (refine WO.op (by intro; simp only [go_sem, Zz.look, fillP, over, cut]; rfl) ?_; simp only [pt])
        | (refine WO.opN (by intro; simp only [go_sem, Zz.look, storeAt, over, setBlk, cut]; rfl) ?_))
      refine WO.nil ?_
      simp only [Then, Out]
      exact WC.ret ⟨rfl, rfl, rfl, rfl, rfl, rfl, rfl, .inr ⟨rfl, rfl, ss[i], List.getElem_mem hix, hneg⟩⟩
    · refine WC.no (by simp only [go_sem, hneg, decide_false]) (WC.skip ?_)
      simp only [Then, Out]
      refine WC.region ?_
      repeat (first
        | (refine WO.yes rfl ?_)
        | (refine WO.no rfl ?_; simp only [pt])
        | (refine WO.op (by intro; simp only [go_sem, Zz.look, fillP, over, cut, hw]; rfl) ?_; simp only [pt])
        | (refine WO.opN (by intro; simp only [go_sem, Zz.look, storeAt, over, setBlk, cut, hw]; rfl) ?_))
      refine WO.nil ?_
      simp only [Then, Out]
      refine ih (i + 1) (by omega) ?_ _ _ _ _ _ _ _ _ _ _ _ _ _ _ _ _ _ _ _ _ _ _ _ _ _ _ _ _ _ _ _ _ _ _ _ _ _ _ _ _ _ _ _ _
      intro s hs
      rw [List.take_succ_eq_append_getElem hix, List.mem_append] at hs
      rcases hs with hs | hs
      · exact hn s hs
      · simp at hs; subst hs; exact hneg

/-- The reference's run, between its steps. -/
structure RM (M : Hp) (bs : List Int) (X : RunSt) : Prop where
  len : 3 ≤ M.length
  l0 : Zz.look M 0 0 = some [.int .i64 0, .snil]
  l1 : Zz.look M 1 0 = some [.snil]
  st : ∃ q g f b hd, Zz.look M 2 0 = some [.int .i64 X.seq, q, g, f, b, .int .i64 (hd : Nat)] ∧ RR 3 M bs X hd q g f b

theorem rrun_loop {bd x : AV} {bs : List Int} {ss : List Nat} (hbd : IntS bd bs) (hbl : bs.length ≤ 1000) (hx : IntS x (ss.map fun s : Nat => (s : Int))) (hmax : ss.length ≤ 1000) (hb : ∀ s ∈ ss, s < 9223372036854775808) {lb : IR} (hlb : lb = match ir23.body with | .seq _ (.seq _ (.seq _ (.seq _ (.seq (.seq _ (.block _ (.loop b))) _)))) => b | _ => .skip) :
    ∀ (k i : Nat), i + k = ss.length → ∀ (M : Hp) (X : RunSt), RM M bs X → SmK i X → ∀ (u2 u3 u7 u10 u11 u12 u13 u14 u15 u16 u17 u18 u19 u20 u21 u22 u23 u24 u25 u26 u27 u28 u29 u30 u31 u32 u33 u34 u35 u36 u37 u38 u39 u40 u41 u42 u43 u44 u45 u46 u47 u48 u49 : AV),
    WC Gq (.loop lb) ⟨[bd, x, u2, u3, .pref 0 0 0, .pref 1 0 0, .int .i64 0, u7, .pref 2 0 0, .int .i64 (i : Int), u10, u11, u12, u13, u14, u15, u16, u17, u18, u19, u20, u21, u22, u23, u24, u25, u26, u27, u28, u29, u30, u31, u32, u33, u34, u35, u36, u37, u38, u39, u40, u41, u42, u43, u44, u45, u46, u47, u48, u49], M, []⟩ fun e s' => e = .exit 2 ∧ s'.loops = [] ∧ s'.T.length = 50 ∧ gt s'.T 0 = bd ∧ gt s'.T 1 = x ∧ gt s'.T 4 = .pref 0 0 0 ∧ gt s'.T 5 = .pref 1 0 0 ∧ gt s'.T 6 = .int .i64 0 ∧ gt s'.T 8 = .pref 2 0 0 ∧ RM s'.heap bs ((ss.drop i).foldl stepM X) := by
  subst hlb
  unfold ir23
  simp only
  have hlen : slen x = some ss.length := by rw [hx.len]; simp
  intro k
  induction k with
  | zero =>
    intro i hi M X hM hsk u2 u3 u7 u10 u11 u12 u13 u14 u15 u16 u17 u18 u19 u20 u21 u22 u23 u24 u25 u26 u27 u28 u29 u30 u31 u32 u33 u34 u35 u36 u37 u38 u39 u40 u41 u42 u43 u44 u45 u46 u47 u48 u49
    have hlt : ¬ ((i : Int) < (ss.length : Int)) := by omega
    refine WC.loop (WC.seq (WC.seq (WC.region ?_)))
    repeat (first
      | (refine WO.yes rfl ?_)
      | (refine WO.no rfl ?_; simp only [pt])
      | (refine WO.op (by intro; simp only [go_sem, fillP, over, cut, nilCheckAV]; rfl) ?_; simp only [pt])
      | (refine WO.op (by intro; exact ev_lenS rfl) ?_; simp only [pt])
      | (refine WO.opN (by intro; simp only [go_sem, storeAt, Option.bind_eq_bind, over, setBlk, cut]; rfl) ?_))
    refine WO.op (by intro; exact ev_lenS (n := ss.length) (by simp only [go_sem]; exact hlen)) ?_
    simp only [pt]
    repeat (first
      | (refine WO.yes rfl ?_)
      | (refine WO.no rfl ?_; simp only [pt])
      | (refine WO.op (by intro; simp only [go_sem, fillP, over, cut, nilCheckAV, hlt, decide_false]; rfl) ?_; simp only [pt])
      | (refine WO.op (by intro; exact ev_lenS rfl) ?_; simp only [pt])
      | (refine WO.opN (by intro; simp only [go_sem, storeAt, Option.bind_eq_bind, over, setBlk, cut, hlt, decide_false]; rfl) ?_))
    refine WO.nil ?_
    simp only [Then, Out]
    refine WC.no (by simp only [go_sem, hlt, decide_false]) (WC.exit ?_)
    refine ⟨rfl, rfl, rfl, rfl, rfl, rfl, rfl, rfl, rfl, ?_⟩
    rw [List.drop_of_length_le (by omega)]
    exact hM
  | succ k ih =>
    intro i hi M X hM hsk u2 u3 u7 u10 u11 u12 u13 u14 u15 u16 u17 u18 u19 u20 u21 u22 u23 u24 u25 u26 u27 u28 u29 u30 u31 u32 u33 u34 u35 u36 u37 u38 u39 u40 u41 u42 u43 u44 u45 u46 u47 u48 u49
    obtain ⟨hlen3, l0, l1, q, g, f, b, hd, hC, hR⟩ := hM
    have hix : i < ss.length := by omega
    have hixx : i < (ss.map fun s : Nat => (s : Int)).length := by simpa using hix
    have hlt : ((i : Int) < (ss.length : Int)) := by omega
    have hp := hx.at hixx
    have hdr := drop_at hixx
    simp only [List.getElem_map] at hdr
    have hw : IntKind.wrap .i64 ((i : Int) + 1) = ((i + 1 : Nat) : Int) := by rw [wrap_id (by omega) (by omega)]; rfl
    refine WC.loop (WC.seq (WC.seq (WC.region ?_)))
    repeat (first
      | (refine WO.yes rfl ?_)
      | (refine WO.no rfl ?_; simp only [pt])
      | (refine WO.op (by intro; simp only [go_sem, fillP, over, cut, nilCheckAV]; rfl) ?_; simp only [pt])
      | (refine WO.op (by intro; exact ev_lenS rfl) ?_; simp only [pt])
      | (refine WO.opN (by intro; simp only [go_sem, storeAt, Option.bind_eq_bind, over, setBlk, cut]; rfl) ?_))
    refine WO.op (by intro; exact ev_lenS (n := ss.length) (by simp only [go_sem]; exact hlen)) ?_
    simp only [pt]
    repeat (first
      | (refine WO.yes rfl ?_)
      | (refine WO.no rfl ?_; simp only [pt])
      | (refine WO.op (by intro; simp only [go_sem, fillP, over, cut, nilCheckAV, hlt, decide_true]; rfl) ?_; simp only [pt])
      | (refine WO.op (by intro; exact ev_lenS rfl) ?_; simp only [pt])
      | (refine WO.opN (by intro; simp only [go_sem, storeAt, Option.bind_eq_bind, over, setBlk, cut, hlt, decide_true]; rfl) ?_))
    refine WO.nil ?_
    simp only [Then, Out]
    refine WC.yes (by simp only [go_sem, hlt, decide_true]) (WC.skip ?_)
    simp only [Then, Out]
    refine WC.seq (WC.block (WC.draw (WD.calmN 6 rfl ?_)))
    simp only [List.take, List.drop, List.map]
    repeat (first
      | (refine WO.yes rfl ?_)
      | (refine WO.no rfl ?_; simp only [pt])
      | (refine WO.op (by intro; simp only [go_sem, fillP, over, cut, nilCheckAV, hC]; rfl) ?_; simp only [pt])
      | (refine WO.op (by intro; exact ev_lenS rfl) ?_; simp only [pt])
      | (refine WO.opN (by intro; simp only [go_sem, storeAt, Option.bind_eq_bind, over, setBlk, cut, hC]; rfl) ?_))
    refine WO.op (by intro; rw [ev_indexAddr]; exact (congrArg (Option.map _) hp).trans rfl) ?_
    simp only [pt]
    repeat (first
      | (refine WO.yes rfl ?_)
      | (refine WO.no rfl ?_; simp only [pt])
      | (refine WO.op (by intro; simp only [go_sem, fillP, over, cut, nilCheckAV, hdr]; rfl) ?_; simp only [pt])
      | (refine WO.op (by intro; exact ev_lenS rfl) ?_; simp only [pt])
      | (refine WO.opN (by intro; simp only [go_sem, storeAt, Option.bind_eq_bind, over, setBlk, cut, hdr]; rfl) ?_))
    refine WO.nil ?_
    intro seen
    refine WD.callP ((rstep (L := []) hR hlen3 hbd (hsk.sm (by omega)) (hb ss[i] (List.getElem_mem hix)) hbl).mono ?_)
    rintro y ⟨M', L'⟩ ⟨rfl, hsm, q', g', f', b', hd', rfl, hR'⟩
    refine ⟨hsm.dead', ?_⟩
    intro seen
    have hC' : Zz.look M' 2 0 = some [.int .i64 X.seq, q, g, f, b, .int .i64 (hd : Nat)] := by rw [hsm.look (by omega) (fun h => h)]; exact hC
    have l0' : Zz.look M' 0 0 = some [.int .i64 0, .snil] := by rw [hsm.look (by omega) (fun h => h)]; exact l0
    have l1' : Zz.look M' 1 0 = some [.snil] := by rw [hsm.look (by omega) (fun h => h)]; exact l1
    refine WD.calmN 1 rfl ?_
    simp only [List.take, List.drop, List.map, St.put, pt]
    repeat (first
      | (refine WO.yes rfl ?_)
      | (refine WO.no rfl ?_; simp only [pt])
      | (refine WO.op (by intro; simp only [go_sem, fillP, over, cut, nilCheckAV, hC']; rfl) ?_; simp only [pt])
      | (refine WO.op (by intro; exact ev_lenS rfl) ?_; simp only [pt])
      | (refine WO.opN (by intro; simp only [go_sem, storeAt, Option.bind_eq_bind, over, setBlk, cut, hC']; rfl) ?_))
    refine WO.nil ?_
    intro seen
    refine WD.nil ?_
    simp only [Then, Out, List.take, List.drop, List.nil_append, List.append_nil, List.cons_append, List.length_cons, List.length_nil, Nat.zero_add, Nat.reduceAdd]
    refine WC.region ?_
    repeat (first
      | (refine WO.yes rfl ?_)
      | (refine WO.no rfl ?_; simp only [pt])
      | (refine WO.op (by intro; simp only [go_sem, fillP, over, cut, nilCheckAV, hw]; rfl) ?_; simp only [pt])
      | (refine WO.op (by intro; exact ev_lenS rfl) ?_; simp only [pt])
      | (refine WO.opN (by intro; simp only [go_sem, storeAt, Option.bind_eq_bind, over, setBlk, cut, hw]; rfl) ?_))
    refine WO.nil ?_
    simp only [Then, Out]
    rw [List.drop_eq_getElem_cons hix]
    refine ih (i + 1) (by omega) _ _ ?_ (hsk.step _) _ _ _ _ _ _ _ _ _ _ _ _ _ _ _ _ _ _ _ _ _ _ _ _ _ _ _ _ _ _ _ _ _ _ _ _ _ _ _ _ _ _ _
    have hlt2 := look_lt hC'
    have hln := hsm.len
    simp only at hln hR'
    refine ⟨by simp; omega, ?_, ?_, q', g', f', b', hd', look_set hlt2, hR'.hq, hR'.hg, hR'.hf.setO fun e => ?_, hR'.hb.setO fun e => ?_, hR'.apart, hR'.left, hR'.hdle⟩
    · rw [look_of_get (List.getElem?_set_ne (by omega))]; exact l0'
    · rw [look_of_get (List.getElem?_set_ne (by omega))]; exact l1'
    · have := hR'.hf.own e; omega
    · have := hR'.hb.own e; omega

theorem as50 {T : List AV} {bd x : AV} (hl : T.length = 50) (h0 : gt T 0 = bd) (h1 : gt T 1 = x) (h4 : gt T 4 = .pref 0 0 0) (h5 : gt T 5 = .pref 1 0 0) (h6 : gt T 6 = .int .i64 0) : ∃ f : Nat → AV, T = [bd, x, f 2, f 3, .pref 0 0 0, .pref 1 0 0, .int .i64 0, f 7, f 8, f 9, f 10, f 11, f 12, f 13, f 14, f 15, f 16, f 17, f 18, f 19, f 20, f 21, f 22, f 23, f 24, f 25, f 26, f 27, f 28, f 29, f 30, f 31, f 32, f 33, f 34, f 35, f 36, f 37, f 38, f 39, f 40, f 41, f 42, f 43, f 44, f 45, f 46, f 47, f 48, f 49] := by
  refine ⟨gt T, ?_⟩
  rw [← h0, ← h1, ← h4, ← h5, ← h6]
  have := list_gts T
  rw [hl] at this
  exact this
theorem as50b {T : List AV} {bd x : AV} (hl : T.length = 50) (h0 : gt T 0 = bd) (h1 : gt T 1 = x) (h4 : gt T 4 = .pref 0 0 0) (h5 : gt T 5 = .pref 1 0 0) (h6 : gt T 6 = .int .i64 0) (h8 : gt T 8 = .pref 2 0 0) : ∃ f : Nat → AV, T = [bd, x, f 2, f 3, .pref 0 0 0, .pref 1 0 0, .int .i64 0, f 7, .pref 2 0 0, f 9, f 10, f 11, f 12, f 13, f 14, f 15, f 16, f 17, f 18, f 19, f 20, f 21, f 22, f 23, f 24, f 25, f 26, f 27, f 28, f 29, f 30, f 31, f 32, f 33, f 34, f 35, f 36, f 37, f 38, f 39, f 40, f 41, f 42, f 43, f 44, f 45, f 46, f 47, f 48, f 49] := by
  refine ⟨gt T, ?_⟩
  rw [← h0, ← h1, ← h4, ← h5, ← h6, ← h8]
  have := list_gts T
  rw [hl] at this
  exact this
end Go.Proofs.Ytpddngcgajjacaa

set_option linter.unusedSimpArgs false
set_option linter.unusedVariables false
namespace Go.Proofs.Ytpddngcgajjacaa
open Go.Zz


set_option maxRecDepth 20000 in
theorem rrun_bad {bd x : AV} {bs ss : List Int} (hbd : IntS bd bs) (hx : IntS x ss) (hbad : ¬ runOk bs ss) :
    WF Gq (.func 23 [] []) [bd, x] ⟨[], []⟩ fun y m' => resV m'.heap y = some (.tuple [.agg [.int .i64 0, .snil], .agg [.snil], .int .i64 1]) := by
  by_cases c1 : (1000 : Int) < bs.length
  · refine WF.fn rfl (fn_of Try.func23 cir23) (by show 2 ≤ 50; decide) ?_
    unfold ir23
    simp only [padTo, List.replicate, List.nil_append, List.append_nil, List.cons_append]
    refine WC.seq (WC.region ?_)
    repeat (first
      | (refine WO.yes rfl ?_)
      | (refine WO.no rfl ?_; simp only [pt])
      | (refine WO.op (by intro; simp only [go_sem, Zz.look, fillP, over, cut]; rfl) ?_; simp only [pt])
      | (refine WO.opN (by intro; simp only [go_sem, Zz.look, storeAt, over, setBlk, cut]; rfl) ?_))
    refine WO.nil ?_
    simp only [Then]
    refine WC.seq (WC.seq (WC.region ?_))
    repeat (first
      | (refine WO.yes rfl ?_)
      | (refine WO.no rfl ?_; simp only [pt])
      | (refine WO.op (by intro; simp only [go_sem, Zz.look, fillP, over, cut]; rfl) ?_; simp only [pt])
      | (refine WO.opN (by intro; simp only [go_sem, Zz.look, storeAt, over, setBlk, cut]; rfl) ?_))
    refine WO.op (by intro; exact ev_lenS (n := bs.length) (by simp only [go_sem]; exact hbd.len)) ?_
    simp only [pt]
    repeat (first
      | (refine WO.yes rfl ?_)
      | (refine WO.no rfl ?_; simp only [pt])
      | (refine WO.op (by intro; simp only [go_sem, Zz.look, fillP, over, cut, c1, decide_true]; rfl) ?_; simp only [pt])
      | (refine WO.opN (by intro; simp only [go_sem, Zz.look, storeAt, over, setBlk, cut, c1, decide_true]; rfl) ?_))
    refine WO.nil ?_
    simp only [Then]
    refine WC.yes (by simp only [go_sem]) (WC.seq (WC.region ?_))
    repeat (first
      | (refine WO.yes rfl ?_)
      | (refine WO.no rfl ?_; simp only [pt])
      | (refine WO.op (by intro; simp only [go_sem, Zz.look, fillP, over, cut]; rfl) ?_; simp only [pt])
      | (refine WO.opN (by intro; simp only [go_sem, Zz.look, storeAt, over, setBlk, cut]; rfl) ?_))
    refine WO.nil ?_
    simp only [Then]
    exact WC.ret ⟨_, rfl, rfl⟩
  · by_cases c2 : (1000 : Int) < ss.length
    · refine WF.fn rfl (fn_of Try.func23 cir23) (by show 2 ≤ 50; decide) ?_
      unfold ir23
      simp only [padTo, List.replicate, List.nil_append, List.append_nil, List.cons_append]
      refine WC.seq (WC.region ?_)
      repeat (first
        | (refine WO.yes rfl ?_)
        | (refine WO.no rfl ?_; simp only [pt])
        | (refine WO.op (by intro; simp only [go_sem, Zz.look, fillP, over, cut]; rfl) ?_; simp only [pt])
        | (refine WO.opN (by intro; simp only [go_sem, Zz.look, storeAt, over, setBlk, cut]; rfl) ?_))
      refine WO.nil ?_
      simp only [Then]
      refine WC.seq (WC.seq (WC.region ?_))
      repeat (first
        | (refine WO.yes rfl ?_)
        | (refine WO.no rfl ?_; simp only [pt])
        | (refine WO.op (by intro; simp only [go_sem, Zz.look, fillP, over, cut]; rfl) ?_; simp only [pt])
        | (refine WO.opN (by intro; simp only [go_sem, Zz.look, storeAt, over, setBlk, cut]; rfl) ?_))
      refine WO.op (by intro; exact ev_lenS (n := bs.length) (by simp only [go_sem]; exact hbd.len)) ?_
      simp only [pt]
      repeat (first
        | (refine WO.yes rfl ?_)
        | (refine WO.no rfl ?_; simp only [pt])
        | (refine WO.op (by intro; simp only [go_sem, Zz.look, fillP, over, cut, c1, decide_false]; rfl) ?_; simp only [pt])
        | (refine WO.opN (by intro; simp only [go_sem, Zz.look, storeAt, over, setBlk, cut, c1, decide_false]; rfl) ?_))
      refine WO.op (by intro; exact ev_lenS (n := ss.length) (by simp only [go_sem]; exact hx.len)) ?_
      simp only [pt]
      repeat (first
        | (refine WO.yes rfl ?_)
        | (refine WO.no rfl ?_; simp only [pt])
        | (refine WO.op (by intro; simp only [go_sem, Zz.look, fillP, over, cut, c2, decide_true]; rfl) ?_; simp only [pt])
        | (refine WO.opN (by intro; simp only [go_sem, Zz.look, storeAt, over, setBlk, cut, c2, decide_true]; rfl) ?_))
      refine WO.nil ?_
      simp only [Then]
      refine WC.yes (by simp only [go_sem]) (WC.seq (WC.region ?_))
      repeat (first
        | (refine WO.yes rfl ?_)
        | (refine WO.no rfl ?_; simp only [pt])
        | (refine WO.op (by intro; simp only [go_sem, Zz.look, fillP, over, cut]; rfl) ?_; simp only [pt])
        | (refine WO.opN (by intro; simp only [go_sem, Zz.look, storeAt, over, setBlk, cut]; rfl) ?_))
      refine WO.nil ?_
      simp only [Then]
      exact WC.ret ⟨_, rfl, rfl⟩
    · have hneg : ∃ s ∈ ss, s < 0 := by
        refine Classical.byContradiction fun h => hbad ⟨by omega, by omega, fun s hs hlt => h ⟨s, hs, hlt⟩⟩
      have loop := rneg_loop (bd := bd) hx (by omega) (lb := match ir23.body with | .seq _ (.seq _ (.seq (.seq _ (.block _ (.loop b))) _)) => b | _ => .skip) rfl ss.length 0 (by omega) (by simp)
      unfold ir23 at loop
      simp only at loop
      refine WF.fn rfl (fn_of Try.func23 cir23) (by show 2 ≤ 50; decide) ?_
      unfold ir23
      simp only [padTo, List.replicate, List.nil_append, List.append_nil, List.cons_append]
      refine WC.seq (WC.region ?_)
      repeat (first
        | (refine WO.yes rfl ?_)
        | (refine WO.no rfl ?_; simp only [pt])
        | (refine WO.op (by intro; simp only [go_sem, Zz.look, fillP, over, cut]; rfl) ?_; simp only [pt])
        | (refine WO.opN (by intro; simp only [go_sem, Zz.look, storeAt, over, setBlk, cut]; rfl) ?_))
      refine WO.nil ?_
      simp only [Then]
      refine WC.seq (WC.seq (WC.region ?_))
      repeat (first
        | (refine WO.yes rfl ?_)
        | (refine WO.no rfl ?_; simp only [pt])
        | (refine WO.op (by intro; simp only [go_sem, Zz.look, fillP, over, cut]; rfl) ?_; simp only [pt])
        | (refine WO.opN (by intro; simp only [go_sem, Zz.look, storeAt, over, setBlk, cut]; rfl) ?_))
      refine WO.op (by intro; exact ev_lenS (n := bs.length) (by simp only [go_sem]; exact hbd.len)) ?_
      simp only [pt]
      repeat (first
        | (refine WO.yes rfl ?_)
        | (refine WO.no rfl ?_; simp only [pt])
        | (refine WO.op (by intro; simp only [go_sem, Zz.look, fillP, over, cut, c1, decide_false]; rfl) ?_; simp only [pt])
        | (refine WO.opN (by intro; simp only [go_sem, Zz.look, storeAt, over, setBlk, cut, c1, decide_false]; rfl) ?_))
      refine WO.op (by intro; exact ev_lenS (n := ss.length) (by simp only [go_sem]; exact hx.len)) ?_
      simp only [pt]
      repeat (first
        | (refine WO.yes rfl ?_)
        | (refine WO.no rfl ?_; simp only [pt])
        | (refine WO.op (by intro; simp only [go_sem, Zz.look, fillP, over, cut, c2, decide_false]; rfl) ?_; simp only [pt])
        | (refine WO.opN (by intro; simp only [go_sem, Zz.look, storeAt, over, setBlk, cut, c2, decide_false]; rfl) ?_))
      refine WO.nil ?_
      simp only [Then]
      refine WC.no (by simp only [go_sem]) (WC.skip ?_)
      simp only [Then]
      refine WC.seq (WC.seq (WC.region ?_))
      repeat (first
        | (refine WO.yes rfl ?_)
        | (refine WO.no rfl ?_; simp only [pt])
        | (refine WO.op (by intro; simp only [go_sem, Zz.look, fillP, over, cut]; rfl) ?_; simp only [pt])
        | (refine WO.opN (by intro; simp only [go_sem, Zz.look, storeAt, over, setBlk, cut]; rfl) ?_))
      refine WO.nil ?_
      simp only [Then]
      refine WC.block ((loop _ _ _ _ _ _ _ _ _ _ _ _ _ _ _ _ _ _ _ _ _ _ _ _ _ _ _ _ _ _ _ _ _ _ _ _ _ _ _ _ _ _ _ _).mono ?_)
      rintro e ⟨T, H', L'⟩ ⟨h1, h2, h3, h4, h5, h6, h7, h8⟩
      simp only at h1 h2 h3 h4 h5 h6 h7 h8
      subst h1
      subst h2
      rcases h8 with ⟨rfl, _, h9⟩ | ⟨rfl, h9, _⟩
      · obtain ⟨s, hs, hlt⟩ := hneg
        exact absurd hlt (h9 s hs)
      · simp only [Out, Then]
        refine ⟨[.agg [.int .i64 0, .snil], .agg [.snil], .int .i64 1], ?_, rfl⟩
        simp only [evRes, h6, h7, h9]
        rfl

set_option maxRecDepth 20000 in
set_option maxHeartbeats 1600000 in
theorem rrun_good {bd x : AV} {bs : List Int} {ss : List Nat} (hbd : IntS bd bs) (hx : IntS x (ss.map fun s : Nat => (s : Int))) (hbl : bs.length ≤ 1000) (hmax : ss.length ≤ 1000) (hb : ∀ s ∈ ss, s < 9223372036854775808) :
    WF Gq (.func 23 [] []) [bd, x] ⟨[], []⟩ fun y m' => ∃ q g, IntS q (runM bs ss).queue ∧ IntS g (runM bs ss).got ∧ y = .tuple [.agg [.int .i64 (runM bs ss).seq, q], .agg [g], .int .i64 0] := by
  have c1 : ¬ (1000 : Int) < bs.length := by omega
  have c2 : ¬ (1000 : Int) < ss.length := by omega
  have hlen : slen x = some ss.length := by rw [hx.len]; simp
  have loop := rneg_loop (bd := bd) hx (by simpa using hmax) (lb := match ir23.body with | .seq _ (.seq _ (.seq (.seq _ (.block _ (.loop b))) _)) => b | _ => .skip) rfl ss.length 0 (by simp) (by simp)
  have loop2 := fun M hM => rrun_loop (M := M) hbd hbl hx hmax hb (lb := match ir23.body with | .seq _ (.seq _ (.seq _ (.seq _ (.seq (.seq _ (.block _ (.loop b))) _)))) => b | _ => .skip) rfl ss.length 0 (by omega) (run0 bs) hM ⟨by simp [run0, I64], by simp [run0], by simp [run0], hbl, by simp [run0], by simp [run0], by simp [run0]⟩
  unfold ir23 at loop loop2
  simp only at loop loop2
  refine WF.fn rfl (fn_of Try.func23 cir23) (by show 2 ≤ 50; decide) ?_
  unfold ir23
  simp only [padTo, List.replicate, List.nil_append, List.append_nil, List.cons_append]
  refine WC.seq (WC.region ?_)
  repeat (first
    | (refine WO.yes rfl ?_)
    | (refine WO.no rfl ?_; simp only [pt])
    | (refine WO.op (by intro; simp only [go_sem, Zz.look, fillP, over, cut]; rfl) ?_; simp only [pt])
    | (refine WO.opN (by intro; simp only [go_sem, Zz.look, storeAt, over, setBlk, cut]; rfl) ?_))
  refine WO.nil ?_
  simp only [Then]
  refine WC.seq (WC.seq (WC.region ?_))
  repeat (first
    | (refine WO.yes rfl ?_)
    | (refine WO.no rfl ?_; simp only [pt])
    | (refine WO.op (by intro; simp only [go_sem, Zz.look, fillP, over, cut]; rfl) ?_; simp only [pt])
    | (refine WO.opN (by intro; simp only [go_sem, Zz.look, storeAt, over, setBlk, cut]; rfl) ?_))
  refine WO.op (by intro; exact ev_lenS (n := bs.length) (by simp only [go_sem]; exact hbd.len)) ?_
  simp only [pt]
  repeat (first
    | (refine WO.yes rfl ?_)
    | (refine WO.no rfl ?_; simp only [pt])
    | (refine WO.op (by intro; simp only [go_sem, Zz.look, fillP, over, cut, c1, decide_false]; rfl) ?_; simp only [pt])
    | (refine WO.opN (by intro; simp only [go_sem, Zz.look, storeAt, over, setBlk, cut, c1, decide_false]; rfl) ?_))
  refine WO.op (by intro; exact ev_lenS (n := ss.length) (by simp only [go_sem]; exact hlen)) ?_
  simp only [pt]
  repeat (first
    | (refine WO.yes rfl ?_)
    | (refine WO.no rfl ?_; simp only [pt])
    | (refine WO.op (by intro; simp only [go_sem, Zz.look, fillP, over, cut, c2, decide_false]; rfl) ?_; simp only [pt])
    | (refine WO.opN (by intro; simp only [go_sem, Zz.look, storeAt, over, setBlk, cut, c2, decide_false]; rfl) ?_))
  refine WO.nil ?_
  simp only [Then]
  refine WC.no (by simp only [go_sem]) (WC.skip ?_)
  simp only [Then]
  refine WC.seq (WC.seq (WC.region ?_))
  repeat (first
    | (refine WO.yes rfl ?_)
    | (refine WO.no rfl ?_; simp only [pt])
    | (refine WO.op (by intro; simp only [go_sem, Zz.look, fillP, over, cut]; rfl) ?_; simp only [pt])
    | (refine WO.opN (by intro; simp only [go_sem, Zz.look, storeAt, over, setBlk, cut]; rfl) ?_))
  refine WO.nil ?_
  simp only [Then]
  refine WC.block ((loop _ _ _ _ _ _ _ _ _ _ _ _ _ _ _ _ _ _ _ _ _ _ _ _ _ _ _ _ _ _ _ _ _ _ _ _ _ _ _ _ _ _ _ _).mono ?_)
  rintro e ⟨T, H', L'⟩ ⟨h1, h2, h3, h4, h5, h6, h7, h8⟩
  simp only at h1 h2 h3 h4 h5 h6 h7 h8
  subst h1
  subst h2
  rcases h8 with ⟨rfl, h9, _⟩ | ⟨_, _, s, hs, hlt⟩
  · obtain ⟨f, hT⟩ := as50 h3 h4 h5 h6 h7 h9
    subst hT
    simp only [Out, if_true, Then]
    refine WC.seq (WC.region ?_)
    repeat (first
      | (refine WO.yes rfl ?_)
      | (refine WO.no rfl ?_; simp only [pt])
      | (refine WO.op (by intro; simp only [go_sem, Zz.look, fillP, over, cut]; rfl) ?_; simp only [pt])
      | (refine WO.opN (by intro; simp only [go_sem, Zz.look, storeAt, over, setBlk, cut]; rfl) ?_))
    refine WO.nil ?_
    simp only [Then]
    refine WC.seq (WC.seq (WC.region ?_))
    repeat (first
      | (refine WO.yes rfl ?_)
      | (refine WO.no rfl ?_; simp only [pt])
      | (refine WO.op (by intro; simp only [go_sem, Zz.look, fillP, over, cut]; rfl) ?_; simp only [pt])
      | (refine WO.opN (by intro; simp only [go_sem, Zz.look, storeAt, over, setBlk, cut]; rfl) ?_))
    refine WO.nil ?_
    simp only [Then]
    refine WC.block ((loop2 _ ?_ _ _ _ _ _ _ _ _ _ _ _ _ _ _ _ _ _ _ _ _ _ _ _ _ _ _ _ _ _ _ _ _ _ _ _ _ _ _ _ _ _ _ _).mono ?_)
    · exact ⟨by show 3 ≤ 3; omega, rfl, rfl, .snil, .snil, .snil, .snil, 0, rfl, .inl ⟨rfl, rfl⟩, .inl ⟨rfl, rfl⟩, .inl ⟨rfl, rfl⟩, .inl ⟨rfl, rfl⟩, fun id h _ => owns_snil h, by simp [run0], Nat.zero_le _⟩
    · rintro e ⟨T2, M, L2⟩ ⟨rfl, k2, k3, k4, k5, k6, k7, k8, k9, hM⟩
      simp only at k2 k3 k4 k5 k6 k7 k8 k9 hM
      subst k2
      obtain ⟨f2, hT2⟩ := as50b k3 k4 k5 k6 k7 k8 k9
      subst hT2
      obtain ⟨hlen3, l0, l1, q, g, f3, b3, hd, hC, hR⟩ := hM
      rw [List.drop_zero] at hC hR
      change Zz.look M 2 0 = some [.int .i64 (runM bs ss).seq, q, g, f3, b3, .int .i64 (hd : Nat)] at hC
      change RR 3 M bs (runM bs ss) hd q g f3 b3 at hR
      simp only [Out, if_true, Then]
      refine WC.seq (WC.draw ?_)
      refine WD.free rfl (by intro; simp only [go_sem, fillP, over, cut, nilCheckAV]; rfl) ?_
      simp only [pt, St.put, List.nil_append, List.cons_append]
      refine WD.read (by intro; simp only [go_sem, cut, hC]; rfl) ?_
      simp only [pt, St.put, List.nil_append, List.cons_append]
      refine WD.free rfl (by intro; simp only [go_sem, fillP, over, cut, nilCheckAV]; rfl) ?_
      simp only [pt, St.put, List.nil_append, List.cons_append]
      refine WD.read (by intro; simp only [go_sem, cut, hC]; rfl) ?_
      simp only [pt, St.put, List.nil_append, List.cons_append]
      refine WD.storeS (id := 0) (g := 0) (off := 0) (c := [.int .i64 (runM bs ss).seq, q]) (l := [.int .i64 0, .snil]) (l' := [.int .i64 (runM bs ss).seq, q]) rfl rfl rfl l0 rfl ?_ (by simp) ?_
      · simp only [strikes, List.getElem?_cons_succ, List.getElem?_cons_zero, strike_none]
        exact strikeV_only (by omega)
      intro W
      simp only [List.nil_append, List.cons_append]
      have hk1 : Zz.look (M.set 0 (some ⟨0, [.int .i64 (runM bs ss).seq, q]⟩)) 1 0 = some [.snil] := by
        rw [← l1]
        exact look_of_get (List.getElem?_set_ne (by omega))
      refine WD.storeS (id := 1) (g := 0) (off := 0) (c := [g]) (l := [.snil]) (l' := [g]) rfl rfl rfl hk1 rfl rfl (by simp) ?_
      intro W2
      simp only [List.nil_append, List.cons_append]
      refine WD.free rfl (by intro; simp only [go_sem, fillP, over, cut, nilCheckAV]; rfl) ?_
      simp only [pt, St.put, List.nil_append, List.cons_append]
      refine WD.nil ?_
      simp only [Then]
      have r0 : Zz.look ((M.set 0 (some ⟨0, [.int .i64 (runM bs ss).seq, q]⟩)).set 1 (some ⟨0, [g]⟩)) 0 0 = some [.int .i64 (runM bs ss).seq, q] := by
        rw [look_of_get (List.getElem?_set_ne (by omega)), look_set (by omega)]
      have r1 : Zz.look ((M.set 0 (some ⟨0, [.int .i64 (runM bs ss).seq, q]⟩)).set 1 (some ⟨0, [g]⟩)) 1 0 = some [g] := look_set (by simp; omega)
      refine WC.ret ⟨[.agg [.int .i64 (runM bs ss).seq, q], .agg [g], .int .i64 0], ?_, q, g, hR.hq, hR.hg, rfl⟩
      simp only [evRes, gt, r0, r1, Option.bind_some, loadCs, if_true, cut, Option.map_some]
      rfl
  · exfalso
    simp at hs
    obtain ⟨t, _, rfl⟩ := hs
    omega

/-- The reference's Run, by value. -/
theorem rrun_eq {bd x : AV} {bs ss : List Int} (hbd : IntS bd bs) (hx : IntS x ss) (hss : ∀ s ∈ ss, I64 s) : ∃ q g, IntS q (runA bs ss).queue ∧ IntS g (runA bs ss).got ∧ ∀ m, borrowE Gq 23 [bd, x] m = some (.tuple [.agg [.int .i64 (runA bs ss).seq, q], .agg [g], .int .i64 (runE bs ss)], m) := by
  have hp : [bd, x].all pureA = true := by simp [hbd.pureA, hx.pureA]
  by_cases hok : runOk bs ss
  · have e : (ss.map Int.toNat).map (fun s : Nat => (s : Int)) = ss := by
      rw [List.map_map]
      conv => rhs; rw [← List.map_id ss]
      refine List.map_congr_left fun s hs => ?_
      have := hok.2.2 s hs
      simp only [Function.comp, id]
      omega
    have h := rrun_good (ss := ss.map Int.toNat) hbd (by rw [e]; exact hx) hok.1 (by simpa using hok.2.1) (by
      intro s hs
      simp only [List.mem_map] at hs
      obtain ⟨t, ht, rfl⟩ := hs
      have := hss t ht
      unfold I64 at this
      omega)
    rw [show runA bs ss = runM bs (ss.map Int.toNat) from if_pos hok, show runE bs ss = 0 from if_pos hok]
    obtain ⟨n, v, m', h1, q, g, hq, hg, rfl⟩ := h.ex
    refine ⟨q, g, hq, hg, fun m => borrowE_of hp ⟨⟨n, _, m', h1, ?_⟩⟩⟩
    have e1 : ∀ n, Zz.resC m'.heap (.int .i64 n) = some (.int .i64 n) := fun _ => rfl
    simp only [resV, resT, resA, resL, e1, hq.resC, hg.resC]
  · rw [show runA bs ss = run0 [] from if_neg hok, show runE bs ss = 1 from if_neg hok]
    exact ⟨.snil, .snil, .inl ⟨rfl, rfl⟩, .inl ⟨rfl, rfl⟩, fun m => borrowE_of hp (rrun_bad hbd hx hok)⟩
end Go.Proofs.Ytpddngcgajjacaa

