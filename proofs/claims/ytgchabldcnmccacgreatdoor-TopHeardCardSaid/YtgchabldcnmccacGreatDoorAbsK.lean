import Derived.Test.YtgchabldcnmccacGreatDoorAbsH
import Derived.Attr

set_option linter.unusedSimpArgs false
set_option linter.unusedVariables false

namespace Go.Zz
attribute [go_sem] ev_move ev_pick ev_alloc ev_box ev_build ev_buildSlice ev_load ev_store ev_nilCheck ev_bin ev_beq ev_aggEq ev_nilEq ev_strOp ev_mkIf ev_ifNil isNil_nil isNil_ifc ev_un ev_conv ev_makeFunc ev_makeSlice ev_slice ev_sliceArr ev_fieldAddr ev_field ev_indexAddr ev_indexAddrArr ev_index ev_extract ev_lenS ev_lenC ev_capS ev_minmax ev_append ev_appendZ ev_copy ev_clear ev_makeMap Opd.ev AV.cells newBlk Option.map_some Option.bind_some List.length_nil List.length_cons List.nil_append List.cons_append ptrAdd loadAV loadCs binAV binInt isShift List.getElem?_cons_zero List.getElem?_cons_succ Bool.false_eq_true if_false if_true Bool.or_true Bool.or_false Bool.not_true Bool.not_false unAV or_true true_or false_or Nat.zero_add Nat.add_zero beq_self_eq_true ge_iff_le gt_iff_lt
theorem wrap_id {n : Int} (h1 : -9223372036854775808 ≤ n) (h2 : n ≤ 9223372036854775807) : IntKind.wrap .i64 n = n := by
 simp [IntKind.wrap, IntKind.signed, IntKind.bits]
 split <;> omega
def I64 (n : Int) : Prop := -9223372036854775808 ≤ n ∧ n ≤ 9223372036854775807
theorem list_gts (l : List AV) : l = (List.range l.length).map (gt l) := by
 apply List.ext_getElem (by simp)
 intro i h1 h2
 simp only [List.getElem_map, List.getElem_range, gt_eq, List.getD, List.getElem?_eq_getElem h1, Option.getD_some]
theorem idx_nat {i n : Nat} (h : i < n) : idx (.int .i64 (i : Int)) n = some i := by
 unfold idx
 simp only
 rw [if_pos (by omega)]
 simp
def SL (k : Nat) (x : AV) (cs : List (List AV)) : Prop := (∀ c ∈ cs, c.length = k) ∧ ((x = .snil ∧ cs = []) ∨ ∃ full, x = .sval full cs.length cs.flatten)
theorem flat_len {k : Nat} : ∀ {cs : List (List AV)}, (∀ c ∈ cs, c.length = k) → cs.flatten.length = cs.length * k
 | [], _ => by simp
 | c :: cs, h => by
  have h1 := h c (by simp)
  have h2 := flat_len fun c hc => h c (List.mem_cons_of_mem _ hc)
  simp only [List.flatten_cons, List.length_append, h1, h2, List.length_cons, Nat.succ_mul]
  omega
theorem flat_drop {k : Nat} : ∀ {cs : List (List AV)} {i : Nat}, (∀ c ∈ cs, c.length = k) → (hi : i < cs.length) → cs.flatten.drop (i * k) = cs[i] ++ (cs.drop (i + 1)).flatten
 | [], _, _, hi => by simp at hi
 | c :: cs, 0, h, hi => by simp
 | c :: cs, i + 1, h, hi => by
  have h1 := h c (by simp)
  have h2 := flat_drop (cs := cs) (i := i) (fun c hc => h c (List.mem_cons_of_mem _ hc)) (by simpa using hi)
  simp only [List.flatten_cons, List.getElem_cons_succ, List.drop_succ_cons]
  rw [← h2, Nat.succ_mul, Nat.add_comm, ← h1, List.drop_append]
  simp
theorem SL.len {k : Nat} {x : AV} {cs : List (List AV)} (h : SL k x cs) : slen x = some cs.length := by
 obtain ⟨_, ⟨rfl, rfl⟩ | ⟨f, rfl⟩⟩ := h <;> rfl
theorem SL.cells {k : Nat} {x : AV} {cs : List (List AV)} (h : SL k x cs) : x.cells = some [x] := by
 obtain ⟨_, ⟨rfl, rfl⟩ | ⟨f, rfl⟩⟩ := h <;> rfl
theorem SL.at {k : Nat} {x : AV} {cs : List (List AV)} (h : SL k x cs) {i : Nat} (hi : i < cs.length) : indexAddrAV k x (.int .i64 (i : Int)) = some (.pval (cs[i] ++ (cs.drop (i + 1)).flatten)) := by
 obtain ⟨h0, ⟨rfl, rfl⟩ | ⟨f, rfl⟩⟩ := h
 ·simp at hi
 ·simp only [indexAddrAV, idx_nat hi, Option.map_some, flat_drop h0 hi]
theorem SL.scells {k : Nat} {x : AV} {cs : List (List AV)} (h : SL k x cs) (H : Hp) : scells H k x = some cs.flatten := by
 obtain ⟨h0, ⟨rfl, rfl⟩ | ⟨f, rfl⟩⟩ := h
 ·rfl
 ·simp only [Zz.scells, if_pos (flat_len h0)]
def IntS (x : AV) (xs : List Int) : Prop := (x = .snil ∧ xs = []) ∨ ∃ full, x = .sval full xs.length (xs.map (.int .i64))
theorem IntS.len {x : AV} {xs : List Int} (h : IntS x xs) : slen x = some xs.length := by
 rcases h with ⟨rfl, rfl⟩ | ⟨full, rfl⟩ <;> rfl
theorem IntS.cells {x : AV} {xs : List Int} (h : IntS x xs) : x.cells = some [x] := by
 rcases h with ⟨rfl, rfl⟩ | ⟨full, rfl⟩ <;> rfl
theorem drop_cons {α : Type} {l : List α} {i : Nat} (h : i < l.length) : l.drop i = l[i] :: l.drop (i + 1) := List.drop_eq_getElem_cons h
theorem IntS.at {x : AV} {xs : List Int} (h : IntS x xs) {i : Nat} (hi : i < xs.length) : indexAddrAV 1 x (.int .i64 (i : Int)) = some (.pval (.int .i64 xs[i] :: (xs.drop (i + 1)).map (.int .i64))) := by
 rcases h with ⟨rfl, rfl⟩ | ⟨full, rfl⟩
 ·simp at hi
 ·simp only [indexAddrAV, idx_nat hi, Option.map_some, Nat.mul_one, ← List.map_drop, drop_cons hi, List.map_cons]
theorem IntS.scells {x : AV} {xs : List Int} (h : IntS x xs) (H : Hp) : scells H 1 x = some (xs.map (.int .i64)) := by
 rcases h with ⟨rfl, rfl⟩ | ⟨full, rfl⟩
 ·rfl
 ·simp [Zz.scells]
theorem flat_ints (xs : List Int) : (xs.map (AV.int .i64)).all flatAV = true := by simp [flatAV]
theorem IntS.pureC {x : AV} {xs : List Int} (h : IntS x xs) : Zz.pureC x = true := by
 rcases h with ⟨rfl, _⟩ | ⟨f, rfl⟩
 ·rfl
 ·exact flat_ints _
theorem IntS.pureA {x : AV} {xs : List Int} (h : IntS x xs) : Zz.pureA x = true := by
 rcases h with ⟨rfl, _⟩ | ⟨f, rfl⟩
 ·rfl
 ·exact flat_ints _
theorem IntS.byVal {x : AV} {xs : List Int} (h : IntS x xs) (H : Hp) : Zz.byVal H x = some x := by
 rcases h with ⟨rfl, _⟩ | ⟨f, rfl⟩
 ·rfl
 ·simp only [Zz.byVal, Zz.byC, flat_ints, if_true]
theorem SL.byVal {k : Nat} {x : AV} {cs : List (List AV)} (h : SL k x cs) (hf : ∀ c ∈ cs, c.all flatAV = true) (H : Hp) : Zz.byVal H x = some x := by
 obtain ⟨_, ⟨rfl, rfl⟩ | ⟨f, rfl⟩⟩ := h
 ·rfl
 ·have e : cs.flatten.all flatAV = true := by
   rw [List.all_eq_true]
   intro v hv
   obtain ⟨c, hc, hvc⟩ := List.mem_flatten.1 hv
   exact List.all_eq_true.1 (hf c hc) v hvc
  simp only [Zz.byVal, Zz.byC, e, if_true]
theorem byVals_nil (H : Hp) : byVals H [] = some [] := rfl
theorem byVals_cons {H : Hp} {x y : AV} {r ys : List AV} (h : byVal H x = some y) (k : byVals H r = some ys) : byVals H (x :: r) = some (y :: ys) := by
 simp only [byVals, h, k]
section
variable {α : Type} {R l : List α} {a b c d e f : α}
theorem app_g0 : (R ++ a :: l)[R.length]? = some a := by simp
theorem app_g1 : (R ++ a :: b :: l)[R.length + 1]? = some b := by simp
theorem app_g2 : (R ++ a :: b :: c :: l)[R.length + 2]? = some c := by simp
theorem app_g3 : (R ++ a :: b :: c :: d :: l)[R.length + 3]? = some d := by simp
theorem app_s0 {x : α} : (R ++ a :: l).set R.length x = R ++ x :: l := by simp
theorem app_s1 {x : α} : (R ++ a :: b :: l).set (R.length + 1) x = R ++ a :: x :: l := by simp
theorem app_s2 {x : α} : (R ++ a :: b :: c :: l).set (R.length + 2) x = R ++ a :: b :: x :: l := by simp
theorem app_s3 {x : α} : (R ++ a :: b :: c :: d :: l).set (R.length + 3) x = R ++ a :: b :: c :: x :: l := by simp
end
theorem WC.inv {Γ : Env} {body : IR} {Q : Ex → St → Prop} (I : Nat → St → Prop)
  (h : ∀ n s, I n s → WC Γ body s fun e s' => match e with | .normal => ∃ m, m < n ∧ I m s' | e => Q e s') : ∀ n s, I n s → WC Γ (.loop body) s Q := by
 intro n
 induction n using Nat.strongRecOn with
 | ind n ih =>
  intro s hs
  refine WC.loop ((h n s hs).mono fun e s' he => ?_)
  cases e with
  | normal =>
   obtain ⟨m, hm, hi⟩ := he
   exact ih m hm s' hi
  | exit id => exact he
  | ret => exact he
end Go.Zz


namespace Go.Zz
section
variable {x0 x1 x2 x3 x4 x5 x6 x7 v : AV} {l : List AV} {n : Nat}
theorem pt8 : pt (x0 :: x1 :: x2 :: x3 :: x4 :: x5 :: x6 :: x7 :: l) (n + 8) v = x0 :: x1 :: x2 :: x3 :: x4 :: x5 :: x6 :: x7 :: pt l n v := rfl
theorem gt8 : gt (x0 :: x1 :: x2 :: x3 :: x4 :: x5 :: x6 :: x7 :: l) (n + 8) = gt l n := rfl
theorem pt0 : pt (x0 :: l) 0 v = v :: l := rfl
theorem pt1 : pt (x0 :: x1 :: l) 1 v = x0 :: v :: l := rfl
theorem pt2 : pt (x0 :: x1 :: x2 :: l) 2 v = x0 :: x1 :: v :: l := rfl
theorem pt3 : pt (x0 :: x1 :: x2 :: x3 :: l) 3 v = x0 :: x1 :: x2 :: v :: l := rfl
theorem pt4 : pt (x0 :: x1 :: x2 :: x3 :: x4 :: l) 4 v = x0 :: x1 :: x2 :: x3 :: v :: l := rfl
theorem pt5 : pt (x0 :: x1 :: x2 :: x3 :: x4 :: x5 :: l) 5 v = x0 :: x1 :: x2 :: x3 :: x4 :: v :: l := rfl
theorem pt6 : pt (x0 :: x1 :: x2 :: x3 :: x4 :: x5 :: x6 :: l) 6 v = x0 :: x1 :: x2 :: x3 :: x4 :: x5 :: v :: l := rfl
theorem pt7 : pt (x0 :: x1 :: x2 :: x3 :: x4 :: x5 :: x6 :: x7 :: l) 7 v = x0 :: x1 :: x2 :: x3 :: x4 :: x5 :: x6 :: v :: l := rfl
theorem gt0 : gt (x0 :: l) 0 = x0 := rfl
theorem gt1 : gt (x0 :: x1 :: l) 1 = x1 := rfl
theorem gt2 : gt (x0 :: x1 :: x2 :: l) 2 = x2 := rfl
theorem gt3 : gt (x0 :: x1 :: x2 :: x3 :: l) 3 = x3 := rfl
theorem gt4 : gt (x0 :: x1 :: x2 :: x3 :: x4 :: l) 4 = x4 := rfl
theorem gt5 : gt (x0 :: x1 :: x2 :: x3 :: x4 :: x5 :: l) 5 = x5 := rfl
theorem gt6 : gt (x0 :: x1 :: x2 :: x3 :: x4 :: x5 :: x6 :: l) 6 = x6 := rfl
theorem gt7 : gt (x0 :: x1 :: x2 :: x3 :: x4 :: x5 :: x6 :: x7 :: l) 7 = x7 := rfl
end
section
variable {Γ : Env} {r : List IOper} {rd : List DOper} {ms : List Nat} {seen : List (Hp × Nat × Nat)} {T T' : List AV} {H : Hp} {L : List (Option ALoop)}
theorem WO.opE {Q : St → Prop} {d : Nat} {op : IOp} {v : AV} {H' : Hp} {L' : List (Option ALoop)} (h : ∀ call, evOp call T ⟨H, L⟩ op = some (v, ⟨H', L'⟩)) (ht : pt T d v = T') (k : WO Γ r ⟨T', H', L'⟩ Q) : WO Γ (⟨none, some d, op⟩ :: r) ⟨T, H, L⟩ Q :=
 WO.op h (by rw [ht]; exact k)
theorem WO.noE {Q : St → Prop} {d : Nat} {op : IOp} {t : Nat} {b : Bool} (hg : wantedI T (some (t, b)) = false) (ht : pt T d und = T') (k : WO Γ r ⟨T', H, L⟩ Q) : WO Γ (⟨some (t, b), some d, op⟩ :: r) ⟨T, H, L⟩ Q := by
 obtain ⟨n, s', h1, h2⟩ := k.ex
 refine ⟨⟨n, s', ?_, h2⟩⟩
 simp only [evOps, hg, Bool.false_eq_true, if_false, St.put, ht]
 exact h1
theorem WO.callE {Q : St → Prop} {d : Nat} {f : Opd} {args : List Opd} {fv v : AV} {as : List AV} {m' : Mem} (hf : f.ev T = fv) (ha : args.map (·.ev T) = as) (h : WF Γ fv as ⟨H, L⟩ fun y m => y = v ∧ m = m') (ht : pt T d v = T') (k : WO Γ r ⟨T', m'.heap, m'.loops⟩ Q) : WO Γ (⟨none, some d, .call f args⟩ :: r) ⟨T, H, L⟩ Q :=
 WO.call hf ha (h.mono fun y m hm => by obtain ⟨rfl, rfl⟩ := hm; rw [ht]; exact k)
theorem WO.specE {Q : St → Prop} {d g : Nat} {args : List Opd} {v : AV} {as : List AV} {S : List AV → Mem → Option (AV × Mem)} {H' : Hp} {L' : List (Option ALoop)} (ha : args.map (·.ev T) = as) (hs : Γ.spec g = some S) (h : S as ⟨H, L⟩ = some (v, ⟨H', L'⟩)) (ht : pt T d v = T') (k : WO Γ r ⟨T', H', L'⟩ Q) : WO Γ (⟨none, some d, .call (.con (.func g [] [])) args⟩ :: r) ⟨T, H, L⟩ Q :=
 WO.callE rfl ha (WF.spec hs (by simpa using h) ⟨rfl, rfl⟩) ht k
theorem WO.em2 {Q : St → Prop} {t : Nat} {b : Bool} {p : Prop} [Decidable p] {d : Option Nat} {op : IOp} {T1 T2 : List AV} (hg : gt T t = .bool (decide p)) (e1 : p → T = T1) (e2 : ¬ p → T = T2) (h1 : p → WO Γ (⟨some (t, b), d, op⟩ :: r) ⟨T1, H, L⟩ Q) (h2 : ¬ p → WO Γ (⟨some (t, b), d, op⟩ :: r) ⟨T2, H, L⟩ Q) : WO Γ (⟨some (t, b), d, op⟩ :: r) ⟨T, H, L⟩ Q := by
 by_cases hp : p
 ·rw [e1 hp]; exact h1 hp
 ·rw [e2 hp]; exact h2 hp
theorem WC.em2 {c : Opd} {a b : IR} {p : Prop} [Decidable p] {Q : Ex → St → Prop} (hg : c.ev T = .bool (decide p)) (h1 : p → WC Γ a ⟨T, H, L⟩ Q) (h2 : ¬ p → WC Γ b ⟨T, H, L⟩ Q) : WC Γ (.cond c a b) ⟨T, H, L⟩ Q := by
 by_cases hp : p
 ·exact WC.yes (by rw [hg, decide_eq_true hp]) (h1 hp)
 ·exact WC.no (by rw [hg, decide_eq_false hp]) (h2 hp)
end
noncomputable def Env.add (Γ : Env) (g : Nat) : Env := { fn := Γ.fn, spec := fun k => if k = g then some (borrowE Γ g) else Γ.spec k }
noncomputable def Env.addX (Γ : Env) (g : Nat) : Env := { fn := Γ.fn, spec := fun k => if k = g then some (borrowX Γ g) else Γ.spec k }
def BackL (res : List IRes) (Q : AV → Mem → Prop) : Ex → St → Prop
 | .normal, s | .ret, s => ∃ l, evRes s.T s.heap res = some l ∧ Q (oneRes l) s.mem
 | _, _ => False
theorem WF.fnE {Γ : Env} {g : Nat} {a c args : List AV} {m : Mem} {fn : IFunc} {Q : AV → Mem → Prop} (hs : Γ.spec g = none) (hf : Γ.fn g = some fn) (hl : (a ++ args ++ c).length ≤ fn.ntmps) (h : WC Γ fn.body ⟨padTo fn.ntmps (a ++ args ++ c), m.heap, m.loops⟩ (BackL fn.results Q)) : WF Γ (.func g a c) args m Q :=
 WF.fn hs hf hl (h.mono fun e s he => by cases e <;> exact he)
def LoopQ (I : Nat → St → Prop) (n : Nat) (Q : Ex → St → Prop) : Ex → St → Prop
 | .normal, s => ∃ m, m < n ∧ I m s
 | e, s => Q e s
section
variable {Γ : Env} {b : IR} {Q : Ex → St → Prop} {s : St} {id id' n : Nat} {I : Nat → St → Prop}
theorem fl1 : Then Γ b Q .normal s = WC Γ b s Q := rfl
theorem fl2 : Then Γ b Q .ret s = Q .ret s := rfl
theorem fl3 : Then Γ b Q (.exit id) s = Q (.exit id) s := rfl
theorem fl4 : Out id Q .normal s = Q .normal s := rfl
theorem fl5 : Out id Q .ret s = Q .ret s := rfl
theorem fl6 : Out id Q (.exit id) s = Q .normal s := if_pos rfl
theorem fl8 : LoopQ I n Q .ret s = Q .ret s := rfl
theorem fl9 : LoopQ I n Q (.exit id) s = Q (.exit id) s := rfl
theorem fl10 : LoopQ I n Q .normal s = ∃ m, m < n ∧ I m s := rfl
end
theorem int_beq {a b : Int} : (a == b) = decide (a = b) := by
 by_cases h : a = b
 ·simp [h]
 ·simp [h]
theorem int_bne {a b : Int} : (a != b) = decide (¬ a = b) := by
 by_cases h : a = b
 ·simp [h]
 ·simp [h]
theorem WC.loopI {Γ : Env} {body : IR} {Q : Ex → St → Prop} (I : Nat → St → Prop) (h : ∀ n s, I n s → WC Γ body s (LoopQ I n Q)) : ∀ n s, I n s → WC Γ (.loop body) s Q :=
 WC.inv I fun n s hs => (h n s hs).mono fun e s' he => by
  cases e <;> exact he
theorem ite_min {a b : Int} : (if b < a then b else a) = min a b := by omega
theorem ite_max {a b : Int} : (if a < b then b else a) = max a b := by omega
theorem idx_toNat {x : Int} {n : Nat} (h1 : 0 ≤ x) (h2 : x < n) : idx (.int .i64 x) n = some x.toNat := if_pos ⟨h1, h2⟩
theorem toNat_cast {n : Nat} : ((n : Int)).toNat = n := rfl
theorem toNat_succ {n : Nat} : ((n : Int) + 1).toNat = n + 1 := rfl
attribute [go_sem] minmaxAV mmGo ite_min ite_max
attribute [go_sem] gt8 gt0 gt1 gt2 gt3 gt4 gt5 gt6 gt7 wrap_id idx_nat idx_toNat toNat_cast toNat_succ List.take_succ_cons List.take_zero List.drop_succ_cons List.drop_zero List.take_nil List.drop_nil List.set_cons_zero List.set_cons_succ int_beq int_bne decide_true Option.bind_eq_bind fillP storeAt setBlk
attribute [go_sem ←] decide_not
end Go.Zz


namespace Go.Zz
inductive Tch where
 | none
 | blk (id : Nat)
 | all
def Away (j : Nat) (e : Hp × Nat × Nat) : Prop := (e.1[j]? = some Option.none ∨ e.1[j]? = Option.none) ∧ (j < e.2.1 ∨ e.2.2 ≤ j)
def Tch.free (j : Nat) : Tch → Prop
 | .none => True
 | .blk i => j ≠ i
 | .all => False
theorem strike_get {H : Hp} {a b j : Nat} (hb : b ≤ H.length) (h : j < a ∨ b ≤ j) : (strike H a b)[j]? = H[j]? := by
 unfold strike
 split
 ·rename_i hab
  rcases h with h | h
  ·rw [List.append_assoc, List.getElem?_append_left (by simp; omega)]
   simp [h]
  ·rw [List.getElem?_append_right (by simp; omega)]
   simp only [List.length_append, List.length_take, List.length_replicate, List.getElem?_drop]
   congr 1
   omega
 ·rfl
theorem strikes_get {seen : List (Hp × Nat × Nat)} {n j : Nat} (hs : ∀ e ∈ seen, e.2.2 ≤ n) : ∀ (ms : List Nat) {H : Hp}, H.length = n → (∀ i ∈ ms, ∀ e, seen[i]? = some e → Away j e) → (strikes H seen ms)[j]? = H[j]?
 | [], H, _, _ => rfl
 | i :: r, H, hn, h => by
  unfold strikes
  cases he : seen[i]? with
  | none => exact strikes_get hs r hn fun k hk => h k (List.mem_cons_of_mem _ hk)
  | some e =>
   obtain ⟨V, a, b⟩ := e
   have hb : b ≤ n := hs _ (List.mem_of_getElem? he)
   have hw := h i (by simp) _ he
   have hw2 : j < a ∨ b ≤ j := hw.2
   have hw1 : V[j]? = some Option.none ∨ V[j]? = Option.none := hw.1
   have hp := ((PartL.refl H).strike a b (by omega)).strikeV V
   have := strikes_get hs r (H := strikeV (strike H a b) V) (by rw [hp.len]; exact hn) fun k hk => h k (List.mem_cons_of_mem _ hk)
   simp only
   rw [this, strikeV_get _ _ _ hw1, strike_get (by omega) hw2]
theorem onlyAt_congr : ∀ {S H : Hp} {id : Nat}, S.length = H.length → S[id]? = H[id]? → onlyAt S id = onlyAt H id
 | [], [], _, _, _ => rfl
 | [], _ :: _, _, h, _ => by simp at h
 | _ :: _, [], _, h, _ => by simp at h
 | s :: S, h :: H, 0, hl, he => by
  simp at he
  subst he
  simp only [onlyAt]
  rw [blanks_of_len (by simpa using hl)]
 | s :: S, h :: H, n + 1, hl, he => by
  simp only [onlyAt]
  rw [onlyAt_congr (by simpa using hl) (by simpa using he)]
def touch (T : List AV) (n : Nat) (op : IOp) : Tch :=
 match op with
 | .load _ _ x | .store _ x _ => match x.ev T with
  | .pref id _ _ => .blk id
  | _ => .none
 | .slice _ x _ hi _ => match hi with
  | none => .none
  | some _ => match x.ev T with
   | .sref id _ _ _ _ _ => .blk id
   | _ => .none
 | .alloc _ | .box _ | .buildSlice .. | .makeSlice .. => .blk n
 | _ => .none
def apartT (tch : List Tch) (ms : List Nat) : Tch → Prop
 | .blk id => ∀ i ∈ ms, ∀ t, tch[i]? = some t → t.free id
 | _ => True
def isNew : IOp → Bool
 | .alloc _ | .box _ | .buildSlice .. | .makeSlice .. => true
 | _ => false
theorem apart_nil {tch : List Tch} (t : Tch) : apartT tch [] t := by
 cases t <;> simp [apartT]
def apartL (tch : List Tch) (id : Nat) : List Nat → Prop
 | [] => True
 | i :: r => (match tch[i]? with | some t => t.free id | none => True) ∧ apartL tch id r
theorem apart_mk {tch : List Tch} {id : Nat} : ∀ {ms : List Nat}, apartL tch id ms → apartT tch ms (.blk id)
 | [], _ => apart_nil _
 | i :: r, h => fun j hj t ht => by
  rcases List.mem_cons.1 hj with rfl | hj
  ·have := h.1
   rw [ht] at this
   exact this
  ·exact apart_mk h.2 j hj t ht
structure Fits (seen : List (Hp × Nat × Nat)) (tch : List Tch) (n : Nat) : Prop where
 len : seen.length = tch.length
 le : ∀ e ∈ seen, e.2.2 ≤ n
 away : ∀ (i : Nat) e t, seen[i]? = some e → tch[i]? = some t → ∀ j, t.free j → Away j e
theorem Fits.nil (n : Nat) : Fits [] [] n := ⟨rfl, fun e h => by simp at h, fun i e t h => by simp at h⟩
theorem Fits.app {seen : List (Hp × Nat × Nat)} {tch : List Tch} {n m : Nat} (h : Fits seen tch n) (hn : n ≤ m) {e : Hp × Nat × Nat} {t : Tch} (he : e.2.2 ≤ m) (ha : ∀ j, t.free j → Away j e) : Fits (seen ++ [e]) (tch ++ [t]) m := by
 refine ⟨by simp [h.len], fun x hx => ?_, fun i x y hx hy j hj => ?_⟩
 ·rcases List.mem_append.1 hx with hx | hx
  ·exact Nat.le_trans (h.le x hx) hn
  ·simp at hx; subst hx; exact he
 ·have hl := h.len
  by_cases hi : i < seen.length
  ·rw [List.getElem?_append_left hi] at hx
   rw [List.getElem?_append_left (by omega)] at hy
   exact h.away i x y hx hy j hj
  ·have e1 := (List.getElem?_eq_some_iff.1 hx).1
   simp at e1
   have e2 : i = seen.length := by omega
   subst e2
   rw [List.getElem?_append_right (by omega)] at hx
   rw [List.getElem?_append_right (by omega)] at hy
   simp at hx
   simp [hl] at hy
   subst hx; subst hy
   exact ha j hj
structure WT (Γ : Env) (ops : List DOper) (s : St) (tch : List Tch) (Q : St → Prop) : Prop where
 run : ∀ seen, Fits seen tch s.heap.length → WD Γ ops s seen Q
section
variable {Γ : Env} {rd : List DOper} {ms : List Nat} {tch : List Tch} {T T' : List AV} {H : Hp} {L : List (Option ALoop)}
theorem WC.drawT {ops : List DOper} {s : St} {Q : Ex → St → Prop} (h : WT Γ ops s [] (fun s' => Q .normal s')) : WC Γ (.draw ops) s Q := WC.draw (h.run [] (Fits.nil _))
theorem WT.nil {s : St} {Q : St → Prop} (h : Q s) : WT Γ [] s tch Q := ⟨fun seen _ => WD.nil h⟩
theorem away_none (j : Nat) : Away j ([], 0, 0) := ⟨.inr rfl, .inr (Nat.zero_le _)⟩
theorem limit_same {T : List AV} {op : IOp} {S H : Hp} (hc : calmOp op = true) (hf : freeOp op = false) (hl : S.length = H.length) (h : ∀ id, touch T H.length op = .blk id → isNew op = false → S[id]? = H[id]?) : limit T op S = limit T op H := by
 have hb : blanks S = blanks H := blanks_of_len hl
 cases op <;> first | (simp [calmOp, hf] at hc; done) | skip
 case alloc z => exact hb
 case box z => exact hb
 case buildSlice => exact hb
 case makeSlice => exact hb
 case load agg size x =>
  cases hx : x.ev T <;> simp only [limit, hx] <;> first | exact hb | skip
  rename_i id g off
  exact onlyAt_congr hl (h id (by simp only [touch, hx]) rfl)
 case store size x y =>
  cases hx : x.ev T <;> simp only [limit, hx] <;> first | exact hb | skip
  rename_i id g off
  exact onlyAt_congr hl (h id (by simp only [touch, hx]) rfl)
 case slice sz x lo hi mx =>
  cases hi with
  | none => exact hb
  | some hi =>
   cases hx : x.ev T <;> simp only [limit, hx] <;> first | exact hb | skip
   rename_i id g off sz' n cap
   exact onlyAt_congr hl (h id (by simp only [touch, hx]) rfl)
theorem blanks_get (H : Hp) (j : Nat) : (blanks H)[j]? = some none ∨ (blanks H)[j]? = none := by
 by_cases h : j < H.length
 ·left; simp [blanks, h]
 ·right; simp [blanks]; omega
theorem limit_away {T : List AV} {op : IOp} {H : Hp} (hc : calmOp op = true) (hf : freeOp op = false) {j : Nat} (h : (touch T H.length op).free j) : (limit T op H)[j]? = some none ∨ (limit T op H)[j]? = none := by
 have only : ∀ id, j ≠ id → ((onlyAt H id)[j]? = some none ∨ (onlyAt H id)[j]? = none) := fun id hne => by
  rw [onlyAt_get H id j hne]
  split
  ·exact .inl rfl
  ·exact .inr rfl
 cases op <;> first | (simp [calmOp, hf] at hc; done) | skip
 case alloc z => exact blanks_get H j
 case box z => exact blanks_get H j
 case buildSlice => exact blanks_get H j
 case makeSlice => exact blanks_get H j
 case load agg size x =>
  cases hx : x.ev T <;> simp only [limit, touch, hx] at h ⊢ <;> first | exact blanks_get H j | exact only _ h
 case store size x y =>
  cases hx : x.ev T <;> simp only [limit, touch, hx] at h ⊢ <;> first | exact blanks_get H j | exact only _ h
 case slice sz x lo hi mx =>
  cases hi with
  | none => exact blanks_get H j
  | some hi => cases hx : x.ev T <;> simp only [limit, touch, hx] at h ⊢ <;> first | exact blanks_get H j | exact only _ h
theorem limit_len {T : List AV} {op : IOp} {H : Hp} (hc : calmOp op = true) (hf : freeOp op = false) : (limit T op H).length = H.length := by
 cases op <;> first | (simp [calmOp, hf] at hc; done) | skip
 case alloc z => exact blanks_len H
 case box z => exact blanks_len H
 case buildSlice => exact blanks_len H
 case makeSlice => exact blanks_len H
 case load agg size x => cases hx : x.ev T <;> simp only [limit, hx] <;> first | exact blanks_len H | exact onlyAt_len H _
 case store size x y => cases hx : x.ev T <;> simp only [limit, hx] <;> first | exact blanks_len H | exact onlyAt_len H _
 case slice sz x lo hi mx =>
  cases hi with
  | none => exact blanks_len H
  | some hi => cases hx : x.ev T <;> simp only [limit, hx] <;> first | exact blanks_len H | exact onlyAt_len H _
theorem back_len : ∀ {H V H' : Hp}, V.length = H.length → H.length ≤ H'.length → (back H V H').length = H'.length
 | [], [], H', _, _ => by simp [back]
 | [], _ :: _, _, h, _ => by simp at h
 | _ :: _, [], _, h, _ => by simp at h
 | h :: H, v :: V, [], _, hl => by simp at hl
 | h :: H, v :: V, h' :: H', hv, hl => by
  simp only [back, List.length_cons]
  rw [back_len (by simpa using hv) (by simpa using hl)]
theorem dead_len : ∀ {V H' : Hp}, stillDead V H' = true → V.length ≤ H'.length
 | [], _, _ => by simp
 | none :: V, [], h => by simp [stillDead] at h
 | some _ :: V, [], h => by simp [stillDead] at h
 | none :: V, none :: H', h => by simp only [stillDead] at h; simpa using dead_len h
 | none :: V, some _ :: H', h => by simp [stillDead] at h
 | some _ :: V, h' :: H', h => by simp only [stillDead] at h; simpa using dead_len h
theorem ev_len {call : AV → List AV → Mem → Option (AV × Mem)} {T : List AV} {H H' : Hp} {L L' : List (Option ALoop)} {op : IOp} {v : AV} (hc : calmOp op = true) (hf : freeOp op = false) (h : evOp call T ⟨H, L⟩ op = some (v, ⟨H', L'⟩)) :
  H'.length = H.length ∨ isNew op = true ∧ H'.length = H.length + 1 := by
 cases op <;> first | (simp [calmOp, hf] at hc; done) | skip
 case alloc z =>
  simp only [ev_alloc, newBlk, Option.some.injEq, Prod.mk.injEq, Mem.mk.injEq] at h
  obtain ⟨_, rfl, _⟩ := h
  exact .inr ⟨rfl, by simp⟩
 case box x =>
  simp only [ev_box, newBlk, Option.map_eq_some_iff, Prod.mk.injEq, Mem.mk.injEq] at h
  obtain ⟨c, h1, _, rfl, _⟩ := h
  exact .inr ⟨rfl, by simp⟩
 case buildSlice len sz zero parts =>
  simp only [ev_buildSlice, newBlk, Option.map_eq_some_iff, Prod.mk.injEq, Mem.mk.injEq] at h
  obtain ⟨c, h1, _, rfl, _⟩ := h
  exact .inr ⟨rfl, by simp⟩
 case makeSlice sz bytes zero l c =>
  rw [ev_makeSlice] at h
  split at h
  ·split at h
   ·simp only [newBlk, Option.some.injEq, Prod.mk.injEq, Mem.mk.injEq] at h
    obtain ⟨_, rfl, _⟩ := h
    exact .inr ⟨rfl, by simp⟩
   ·cases h
  ·cases h
 case load agg size x =>
  simp only [ev_load, Option.map_eq_some_iff, Prod.mk.injEq, Mem.mk.injEq] at h
  obtain ⟨c, h1, _, rfl, _⟩ := h
  exact .inl rfl
 case store size a x =>
  rw [ev_store] at h
  split at h
  ·simp only [Option.bind_eq_some_iff] at h
   obtain ⟨c, h1, h⟩ := h
   split at h
   ·simp only [Option.map_eq_some_iff, Prod.mk.injEq, Mem.mk.injEq] at h
    obtain ⟨H1, h2, _, rfl, _⟩ := h
    unfold storeAt at h2
    simp only [Option.bind_eq_bind, Option.bind_eq_some_iff, Option.some.injEq] at h2
    obtain ⟨l, h3, l', h4, rfl⟩ := h2
    exact .inl (by simp [setBlk])
   ·cases h
  ·cases h
 case slice sz x lo hi mx =>
  simp only [ev_slice, Option.map_eq_some_iff, Prod.mk.injEq, Mem.mk.injEq] at h
  obtain ⟨c, h1, _, rfl, _⟩ := h
  exact .inl rfl
theorem WT.free {Q : St → Prop} {d : Nat} {op : IOp} {v : AV} {H' : Hp} {L' : List (Option ALoop)} (hf : freeOp op = true) (h : ∀ call, evOp call T ⟨H, L⟩ op = some (v, ⟨H', L'⟩)) (hH : H' = H) (ht : pt T d v = T') (k : WT Γ rd ⟨T', H', L'⟩ (tch ++ [.none]) Q) :
  WT Γ (⟨⟨none, some d, op⟩, ms⟩ :: rd) ⟨T, H, L⟩ tch Q := ⟨fun seen hs => WD.free hf h (by
   subst hH
   rw [ht]
   exact k.run _ (hs.app (Nat.le_refl _) (Nat.zero_le _) fun j _ => away_none j))⟩
theorem WT.bigO {Q : St → Prop} {d : Option Nat} {op : IOp} {v : AV} {H' : Hp} {L' : List (Option ALoop)} (hc : calmOp op = true) (hf : freeOp op = false) (h : ∀ call, evOp call T ⟨H, L⟩ op = some (v, ⟨H', L'⟩)) {t : Tch} (htc : touch T H.length op = t) (ha : isNew op = true ∨ apartT tch ms t)
  (k : WT Γ rd (St.put ⟨T, H, L⟩ d v ⟨H', L'⟩) (tch ++ [t]) Q) : WT Γ (⟨⟨none, d, op⟩, ms⟩ :: rd) ⟨T, H, L⟩ tch Q := by
 refine ⟨fun seen hs => ?_⟩
 have hp := PartL.strikes hs.le ms (PartL.refl H)
 have hlim : limit T op (strikes H seen ms) = limit T op H := limit_same hc hf hp.len fun id hid hnew => by
  rcases ha with ha | ha
  ·rw [hnew] at ha; cases ha
  ·rw [htc] at hid
   subst hid
   refine strikes_get (n := H.length) hs.le ms rfl fun i hi e he => ?_
   have hl := hs.len
   have hil := (List.getElem?_eq_some_iff.1 he).1
   obtain ⟨t', ht'⟩ : ∃ t', tch[i]? = some t' := ⟨tch[i], List.getElem?_eq_getElem (by omega)⟩
   exact hs.away i e t' he ht' id (ha i hi t' ht')
 obtain ⟨H2, g1, g2, g3⟩ := calm_ev hc hf (h fun _ _ _ => none)
 have g1' : ∀ call, evOp call T ⟨limit T op H, L⟩ op = some (v, ⟨H2, L'⟩) := fun call => by rw [calm_call (c' := fun _ _ _ => none) hc]; exact g1
 have hl2 : H2.length = H'.length := by
  have := dead_len g2
  rw [limit_len hc hf] at this
  have e := back_len (limit_len (T := T) (op := op) (H := H) hc hf) this
  rw [g3] at e
  exact e.symm
 have hle : H.length ≤ H'.length := by rcases ev_len hc hf (h fun _ _ _ => none) with e | ⟨_, e⟩ <;> omega
 refine WD.bigG hf hlim g1' g2 g3 rfl (k.run _ (hs.app (m := H'.length) hle (by simp only; omega) fun j hj => ?_))
 refine ⟨limit_away hc hf (by rw [htc]; exact hj), ?_⟩
 simp only [hl2]
 rcases ev_len hc hf (h fun _ _ _ => none) with e | ⟨e0, e⟩
 ·omega
 ·have : t = .blk H.length := by
   rw [← htc]
   cases op <;> first | (simp [isNew] at e0; done) | rfl
  subst this
  have hne : j ≠ H.length := hj
  omega
theorem WT.big {Q : St → Prop} {d : Nat} {op : IOp} {v : AV} {H' : Hp} {L' : List (Option ALoop)} (hc : calmOp op = true) (hf : freeOp op = false) (h : ∀ call, evOp call T ⟨H, L⟩ op = some (v, ⟨H', L'⟩)) {t : Tch} (htc : touch T H.length op = t) (ha : isNew op = true ∨ apartT tch ms t)
  (ht : pt T d v = T') (k : WT Γ rd ⟨T', H', L'⟩ (tch ++ [t]) Q) : WT Γ (⟨⟨none, some d, op⟩, ms⟩ :: rd) ⟨T, H, L⟩ tch Q :=
 WT.bigO hc hf h htc ha (by simp only [St.put, ht]; exact k)
theorem WT.bigN {Q : St → Prop} {op : IOp} {v : AV} {H' : Hp} {L' : List (Option ALoop)} (hc : calmOp op = true) (hf : freeOp op = false) (h : ∀ call, evOp call T ⟨H, L⟩ op = some (v, ⟨H', L'⟩)) {t : Tch} (htc : touch T H.length op = t) (ha : isNew op = true ∨ apartT tch ms t)
  (k : WT Γ rd ⟨T, H', L'⟩ (tch ++ [t]) Q) : WT Γ (⟨⟨none, none, op⟩, ms⟩ :: rd) ⟨T, H, L⟩ tch Q :=
 WT.bigO hc hf h htc ha k
theorem WT.spec {Q : St → Prop} {d g : Nat} {args : List Opd} {v : AV} {as : List AV} {S : List AV → Mem → Option (AV × Mem)} (ha : args.map (·.ev T) = as) (hS : Γ.spec g = some S) (h : ∀ V, S as ⟨V, L⟩ = some (v, ⟨V, L⟩)) (ht : pt T d v = T')
  (k : WT Γ rd ⟨T', H, L⟩ (tch ++ [.all]) Q) : WT Γ (⟨⟨none, some d, .call (.con (.func g [] [])) args⟩, ms⟩ :: rd) ⟨T, H, L⟩ tch Q := by
 refine ⟨fun seen hs => ?_⟩
 have hp := PartL.strikes hs.le ms (PartL.refl H)
 refine WD.call rfl ?_
 rw [ha]
 refine WF.spec hS (by simpa using h _) ?_
 refine ⟨dead_self _, ?_⟩
 simp only [St.put, hp.back, hp.len, ht]
 exact k.run _ (hs.app (Nat.le_refl _) (Nat.le_refl _) fun j hj => hj.elim)
theorem WT.yes {Q : St → Prop} {d : Option Nat} {op : IOp} {t : Nat} {b : Bool} (hg : gt T t = .bool b) (k : WT Γ (⟨⟨none, d, op⟩, ms⟩ :: rd) ⟨T, H, L⟩ tch Q) : WT Γ (⟨⟨some (t, b), d, op⟩, ms⟩ :: rd) ⟨T, H, L⟩ tch Q :=
 ⟨fun seen hs => WD.yes hg (k.run seen hs)⟩
theorem WT.no {Q : St → Prop} {d : Nat} {op : IOp} {t : Nat} {b : Bool} (hg : wantedI T (some (t, b)) = false) (ht : pt T d und = T') (k : WT Γ rd ⟨T', H, L⟩ (tch ++ [.none]) Q) : WT Γ (⟨⟨some (t, b), some d, op⟩, ms⟩ :: rd) ⟨T, H, L⟩ tch Q := by
 refine ⟨fun seen hs => ?_⟩
 obtain ⟨n, s', h1, h2⟩ := (k.run _ (hs.app (e := ([], 0, 0)) (Nat.le_refl _) (Nat.zero_le _) fun j _ => away_none j)).ex
 refine ⟨⟨n, s', ?_, h2⟩⟩
 simp only [evDraw, hg, Bool.false_eq_true, if_false, St.put, ht]
 exact h1
theorem WT.em2 {Q : St → Prop} {t : Nat} {b : Bool} {p : Prop} [Decidable p] {d : Option Nat} {op : IOp} {T1 T2 : List AV} (hg : gt T t = .bool (decide p)) (e1 : p → T = T1) (e2 : ¬ p → T = T2) (h1 : p → WT Γ (⟨⟨some (t, b), d, op⟩, ms⟩ :: rd) ⟨T1, H, L⟩ tch Q) (h2 : ¬ p → WT Γ (⟨⟨some (t, b), d, op⟩, ms⟩ :: rd) ⟨T2, H, L⟩ tch Q) : WT Γ (⟨⟨some (t, b), d, op⟩, ms⟩ :: rd) ⟨T, H, L⟩ tch Q := by
 by_cases hp : p
 ·rw [e1 hp]; exact h1 hp
 ·rw [e2 hp]; exact h2 hp
end
end Go.Zz


namespace Go.Zz
section
variable {A R l : Hp} {g N : Nat} {c : List AV} {a b d e x y : Option Blk}
theorem lk0 (h : A.length = N) : look (A ++ some ⟨g, c⟩ :: l) N g = some c := by subst h; exact look_eq_iff.2 app_g0
theorem lk1 (h : A.length = N) : look (A ++ a :: some ⟨g, c⟩ :: l) (N + 1) g = some c := by subst h; exact look_eq_iff.2 app_g1
theorem lk2 (h : A.length = N) : look (A ++ a :: b :: some ⟨g, c⟩ :: l) (N + 2) g = some c := by subst h; exact look_eq_iff.2 app_g2
theorem lk3 (h : A.length = N) : look (A ++ a :: b :: d :: some ⟨g, c⟩ :: l) (N + 3) g = some c := by subst h; exact look_eq_iff.2 app_g3
theorem st0 (h : A.length = N) : (A ++ x :: l).set N y = A ++ y :: l := by subst h; exact app_s0
theorem st1 (h : A.length = N) : (A ++ a :: x :: l).set (N + 1) y = A ++ a :: y :: l := by subst h; exact app_s1
theorem st2 (h : A.length = N) : (A ++ a :: b :: x :: l).set (N + 2) y = A ++ a :: b :: y :: l := by subst h; exact app_s2
theorem st3 (h : A.length = N) : (A ++ a :: b :: d :: x :: l).set (N + 3) y = A ++ a :: b :: d :: y :: l := by subst h; exact app_s3
end
section
variable {l : List AV} {a0 a1 a2 a3 a4 a5 a6 a7 x0 x1 x2 x3 x4 x5 : AV}
theorem ov_one0 : over (a0 :: l) 0 [x0] = some (x0 :: l) := by simp [over]
theorem ov_one1 : over (a0 :: a1 :: l) 1 [x0] = some (a0 :: x0 :: l) := by simp [over]
theorem ov_one2 : over (a0 :: a1 :: a2 :: l) 2 [x0] = some (a0 :: a1 :: x0 :: l) := by simp [over]
theorem ov_one3 : over (a0 :: a1 :: a2 :: a3 :: l) 3 [x0] = some (a0 :: a1 :: a2 :: x0 :: l) := by simp [over]
theorem ov_one4 : over (a0 :: a1 :: a2 :: a3 :: a4 :: l) 4 [x0] = some (a0 :: a1 :: a2 :: a3 :: x0 :: l) := by simp [over]
theorem ov_one5 : over (a0 :: a1 :: a2 :: a3 :: a4 :: a5 :: l) 5 [x0] = some (a0 :: a1 :: a2 :: a3 :: a4 :: x0 :: l) := by simp [over]
theorem ov_one6 : over (a0 :: a1 :: a2 :: a3 :: a4 :: a5 :: a6 :: l) 6 [x0] = some (a0 :: a1 :: a2 :: a3 :: a4 :: a5 :: x0 :: l) := by simp [over]
theorem ov_one7 : over (a0 :: a1 :: a2 :: a3 :: a4 :: a5 :: a6 :: a7 :: l) 7 [x0] = some (a0 :: a1 :: a2 :: a3 :: a4 :: a5 :: a6 :: x0 :: l) := by simp [over]
theorem ov_all2 : over (a0 :: a1 :: l) 0 [x0, x1] = some (x0 :: x1 :: l) := by simp [over]
theorem ov_all3 : over (a0 :: a1 :: a2 :: l) 0 [x0, x1, x2] = some (x0 :: x1 :: x2 :: l) := by simp [over]
theorem ov_all4 : over (a0 :: a1 :: a2 :: a3 :: l) 0 [x0, x1, x2, x3] = some (x0 :: x1 :: x2 :: x3 :: l) := by simp [over]
theorem ov_all5 : over (a0 :: a1 :: a2 :: a3 :: a4 :: l) 0 [x0, x1, x2, x3, x4] = some (x0 :: x1 :: x2 :: x3 :: x4 :: l) := by simp [over]
theorem ov_all6 : over (a0 :: a1 :: a2 :: a3 :: a4 :: a5 :: l) 0 [x0, x1, x2, x3, x4, x5] = some (x0 :: x1 :: x2 :: x3 :: x4 :: x5 :: l) := by simp [over]
end
attribute [go_sem] ov_one0 ov_one1 ov_one2 ov_one3 ov_one4 ov_one5 ov_one6 ov_one7 ov_all2 ov_all3 ov_all4 ov_all5 ov_all6
theorem ia_sref {sz id g off n : Nat} {cap : Option Nat} {i : AV} : indexAddrAV sz (.sref id g off sz n cap) i = (idx i n).map fun j => .pref id g (off + j * sz) := by simp only [indexAddrAV, if_true]
theorem append_nil {sz bytes id n : Nat} {H : Hp} {L : List (Option ALoop)} {vs : List AV} {cap : Option Nat} (h : look H id 0 = some vs) (hn : 0 < n) (hl : vs.length = n * sz) (hb : n * bytes ≤ 140737488355328 ∧ n ≤ 140737488355328) :
  appendAV sz bytes ⟨H, L⟩ .snil (.sref id 0 0 sz n cap) = some (.sref H.length 0 0 sz n none, ⟨H ++ [some ⟨0, vs⟩], L⟩) := by
 have e : cut vs 0 (n * sz) = some vs := by
  unfold cut
  rw [if_pos (by omega), ← hl]
  simp
 simp only [appendAV, scells, if_true, h, Option.bind_some, e, slen, Option.bind_eq_bind, if_neg (Nat.pos_iff_ne_zero.1 hn), if_pos hb, newBlk]
end Go.Zz


namespace Go.Zz
section
variable {A R R1 R2 l : Hp} {g N : Nat} {c : List AV} {a b d e x y : Option Blk}
end
noncomputable def Env.put (Γ : Env) (g : Nat) (S : List AV → Mem → Option (AV × Mem)) : Env := { fn := Γ.fn, spec := fun k => if k = g then some S else Γ.spec k }
theorem Env.put_ok [Globs] {P : Program} {Γ : Env} (h : EnvOk P Γ) {g : Nat} {S : List AV → Mem → Option (AV × Mem)} (hg : SpecOk P g S) : EnvOk P (Γ.put g S) := by
 refine ⟨h.fn, fun k S' hS => ?_⟩
 simp only [Env.put] at hS
 split at hS
 ·rename_i e
  subst e
  cases hS
  exact hg
 ·exact h.spec k S' hS
theorem IntS.resC {x : AV} {xs : List Int} (h : IntS x xs) (H : Hp) : Zz.resC H x = some x := by
 rcases h with ⟨rfl, _⟩ | ⟨f, rfl⟩
 ·rfl
 ·simp only [Zz.resC, flat_ints, if_true]
end Go.Zz

