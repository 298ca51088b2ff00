import Derived.Test.YtgchabldcnmccacGreatDoorAbsF

namespace Go.Zz
theorem mono_le (Γ : Env) {n k : Nat} (h : n ≤ k) : (∀ c s r, evC Γ n c s = some r → evC Γ k c s = some r) ∧ CallLe (fun f a m => evF Γ n f a m) (fun f a m => evF Γ k f a m) := by
 induction h with
 | refl => exact ⟨fun _ _ _ h => h, fun _ _ _ _ h => h⟩
 | step _ ih => exact ⟨fun c s r h => (mono Γ _).1 _ _ _ (ih.1 c s r h), fun f a m r h => (mono Γ _).2 _ _ _ _ (ih.2 f a m r h)⟩
structure WO (Γ : Env) (ops : List IOper) (s : St) (Q : St → Prop) : Prop where
 ex : ∃ n s', evOps (fun f a m => evF Γ n f a m) ops s = some s' ∧ Q s'
structure WC (Γ : Env) (c : IR) (s : St) (Q : Ex → St → Prop) : Prop where
 ex : ∃ n e s', evC Γ n c s = some (e, s') ∧ Q e s'
structure WF (Γ : Env) (f : AV) (args : List AV) (m : Mem) (Q : AV → Mem → Prop) : Prop where
 ex : ∃ n v m', evF Γ n f args m = some (v, m') ∧ Q v m'
structure WD (Γ : Env) (ops : List DOper) (s : St) (seen : List (Hp × Nat × Nat)) (Q : St → Prop) : Prop where
 ex : ∃ n s', evDraw (fun f a m => evF Γ n f a m) ops s seen = some s' ∧ Q s'
section
variable {Γ : Env} {r : List IOper} {rd : List DOper} {ms : List Nat} {seen : List (Hp × Nat × Nat)} {T : List AV} {H : Hp} {L : List (Option ALoop)}
theorem WO.mono {ops : List IOper} {s : St} {Q Q' : St → Prop} (h : WO Γ ops s Q) (hq : ∀ s', Q s' → Q' s') : WO Γ ops s Q' := by
 obtain ⟨n, s', h1, h2⟩ := h.ex; exact ⟨⟨n, s', h1, hq _ h2⟩⟩
theorem WC.mono {c : IR} {s : St} {Q Q' : Ex → St → Prop} (h : WC Γ c s Q) (hq : ∀ e s', Q e s' → Q' e s') : WC Γ c s Q' := by
 obtain ⟨n, e, s', h1, h2⟩ := h.ex; exact ⟨⟨n, e, s', h1, hq _ _ h2⟩⟩
theorem WF.mono {f : AV} {args : List AV} {m : Mem} {Q Q' : AV → Mem → Prop} (h : WF Γ f args m Q) (hq : ∀ v m', Q v m' → Q' v m') : WF Γ f args m Q' := by
 obtain ⟨n, v, m', h1, h2⟩ := h.ex; exact ⟨⟨n, v, m', h1, hq _ _ h2⟩⟩
theorem WO.nil {s : St} {Q : St → Prop} (h : Q s) : WO Γ [] s Q := ⟨⟨0, s, rfl, h⟩⟩
theorem WO.op {Q : St → Prop} {d : Nat} {op : IOp} {v : AV} {H' : Hp} {L' : List (Option ALoop)} (h : ∀ call, evOp call T ⟨H, L⟩ op = some (v, ⟨H', L'⟩)) (k : WO Γ r ⟨pt T d v, H', L'⟩ Q) : WO Γ (⟨none, some d, op⟩ :: r) ⟨T, H, L⟩ Q := by
 obtain ⟨n, s', h1, h2⟩ := k.ex
 exact ⟨⟨n, s', by simp only [evOps, wantedI, if_true, St.mem, h, St.put]; exact h1, h2⟩⟩
theorem WO.opN {Q : St → Prop} {op : IOp} {v : AV} {H' : Hp} {L' : List (Option ALoop)} (h : ∀ call, evOp call T ⟨H, L⟩ op = some (v, ⟨H', L'⟩)) (k : WO Γ r ⟨T, H', L'⟩ Q) : WO Γ (⟨none, none, op⟩ :: r) ⟨T, H, L⟩ Q := by
 obtain ⟨n, s', h1, h2⟩ := k.ex
 exact ⟨⟨n, s', by simp only [evOps, wantedI, if_true, St.mem, h, St.put]; exact h1, h2⟩⟩
theorem WO.callG {Q : St → Prop} {d : Option Nat} {f : Opd} {args : List Opd} (h : WF Γ (f.ev T) (args.map (·.ev T)) ⟨H, L⟩ fun v m' => WO Γ r (St.put ⟨T, H, L⟩ d v m') Q) : WO Γ (⟨none, d, .call f args⟩ :: r) ⟨T, H, L⟩ Q := by
 obtain ⟨n, v, m', h1, h2⟩ := h.ex
 obtain ⟨k, s', h3, h4⟩ := h2.ex
 refine ⟨⟨n + k, s', ?_, h4⟩⟩
 have h5 := (mono_le Γ (Nat.le_add_right n k)).2 _ _ _ _ h1
 simp only at h5
 simp only [evOps, wantedI, if_true, St.mem, evOp, h5]
 exact evOps_mono (mono_le Γ (Nat.le_add_left k n)).2 h3
theorem WO.call {Q : St → Prop} {d : Nat} {f : Opd} {args : List Opd} {fv : AV} {as : List AV} (hf : f.ev T = fv) (ha : args.map (·.ev T) = as) (h : WF Γ fv as ⟨H, L⟩ fun v m' => WO Γ r ⟨pt T d v, m'.heap, m'.loops⟩ Q) : WO Γ (⟨none, some d, .call f args⟩ :: r) ⟨T, H, L⟩ Q :=
 WO.callG (hf ▸ ha ▸ h)
theorem WO.yes {Q : St → Prop} {d : Option Nat} {op : IOp} {t : Nat} {b : Bool} (hg : gt T t = .bool b) (k : WO Γ (⟨none, d, op⟩ :: r) ⟨T, H, L⟩ Q) : WO Γ (⟨some (t, b), d, op⟩ :: r) ⟨T, H, L⟩ Q := by
 obtain ⟨n, s', h1, h2⟩ := k.ex
 refine ⟨⟨n, s', ?_, h2⟩⟩
 simp only [evOps, wantedI, hg, beq_self_eq_true, if_true] at h1 ⊢
 exact h1
theorem WO.no {Q : St → Prop} {d : Nat} {op : IOp} {t : Nat} {b : Bool} (hg : gt T t = .bool !b) (k : WO Γ r ⟨pt T d und, H, L⟩ Q) : WO Γ (⟨some (t, b), some d, op⟩ :: r) ⟨T, H, L⟩ Q := by
 obtain ⟨n, s', h1, h2⟩ := k.ex
 refine ⟨⟨n, s', ?_, h2⟩⟩
 simp only [evOps, wantedI, hg]
 rw [if_neg (by cases b <;> decide)]
 exact h1
theorem WD.nil {s : St} {Q : St → Prop} (h : Q s) : WD Γ [] s seen Q := ⟨⟨0, s, rfl, h⟩⟩
theorem WD.free {Q : St → Prop} {d : Nat} {op : IOp} {v : AV} {H' : Hp} {L' : List (Option ALoop)} (hf : freeOp op = true) (h : ∀ call, evOp call T ⟨H, L⟩ op = some (v, ⟨H', L'⟩)) (k : WD Γ rd ⟨pt T d v, H', L'⟩ (seen ++ [([], 0, 0)]) Q) :
  WD Γ (⟨⟨none, some d, op⟩, ms⟩ :: rd) ⟨T, H, L⟩ seen Q := by
 obtain ⟨n, s', h1, h2⟩ := k.ex
 exact ⟨⟨n, s', by simp only [evDraw, wantedI, if_true, hf, St.mem, h, St.put]; exact h1, h2⟩⟩
theorem WD.bigG {Q : St → Prop} {d : Option Nat} {op : IOp} {V : Hp} {v : AV} {H' H2 : Hp} {L' : List (Option ALoop)} {seen2 : List (Hp × Nat × Nat)} (hf : freeOp op = false) (hV : limit T op (strikes H seen ms) = V) (h : ∀ call, evOp call T ⟨V, L⟩ op = some (v, ⟨H', L'⟩))
  (hd : stillDead V H' = true) (hB : back H V H' = H2) (hS : seen ++ [(V, H.length, H'.length)] = seen2) (k : WD Γ rd (St.put ⟨T, H, L⟩ d v ⟨H2, L'⟩) seen2 Q) : WD Γ (⟨⟨none, d, op⟩, ms⟩ :: rd) ⟨T, H, L⟩ seen Q := by
 obtain ⟨n, s', h1, h2⟩ := k.ex
 subst hB; subst hS
 exact ⟨⟨n, s', by simp only [evDraw, wantedI, if_true, hf, Bool.false_eq_true, if_false, hV, h, hd]; exact h1, h2⟩⟩
theorem WD.call {Q : St → Prop} {d : Option Nat} {f : Opd} {args : List Opd} {V : Hp} {seen : List (Hp × Nat × Nat)} (hV : strikes H seen ms = V)
  (h : WF Γ (f.ev T) (args.map (·.ev T)) ⟨V, L⟩ fun v m' => stillDead V m'.heap = true ∧ WD Γ rd (St.put ⟨T, H, L⟩ d v ⟨back H V m'.heap, m'.loops⟩) (seen ++ [(V, H.length, m'.heap.length)]) Q) : WD Γ (⟨⟨none, d, .call f args⟩, ms⟩ :: rd) ⟨T, H, L⟩ seen Q := by
 obtain ⟨n, v, m', h1, hd, h2⟩ := h.ex
 obtain ⟨k, s', h3, h4⟩ := h2.ex
 subst hV
 refine ⟨⟨n + k, s', ?_, h4⟩⟩
 have h5 := (mono_le Γ (Nat.le_add_right n k)).2 _ _ _ _ h1
 simp only at h5
 simp only [evDraw, wantedI, if_true, freeOp, Bool.false_eq_true, if_false, limit, evOp, h5, hd]
 exact evDraw_mono (mono_le Γ (Nat.le_add_left k n)).2 h3
theorem WD.yes {Q : St → Prop} {d : Option Nat} {op : IOp} {t : Nat} {b : Bool} (hg : gt T t = .bool b) (k : WD Γ (⟨⟨none, d, op⟩, ms⟩ :: rd) ⟨T, H, L⟩ seen Q) : WD Γ (⟨⟨some (t, b), d, op⟩, ms⟩ :: rd) ⟨T, H, L⟩ seen Q := by
 obtain ⟨n, s', h1, h2⟩ := k.ex
 refine ⟨⟨n, s', ?_, h2⟩⟩
 simp only [evDraw, wantedI, hg, beq_self_eq_true, if_true] at h1 ⊢
 exact h1
theorem WC.region {ops : List IOper} {s : St} {Q : Ex → St → Prop} (h : WO Γ ops s (fun s' => Q .normal s')) : WC Γ (.region ops) s Q := by
 obtain ⟨n, s', h1, h2⟩ := h.ex
 exact ⟨⟨n + 1, .normal, s', by simp [evC, h1], h2⟩⟩
theorem WC.draw {ops : List DOper} {s : St} {Q : Ex → St → Prop} (h : WD Γ ops s [] (fun s' => Q .normal s')) : WC Γ (.draw ops) s Q := by
 obtain ⟨n, s', h1, h2⟩ := h.ex
 exact ⟨⟨n + 1, .normal, s', by simp [evC, h1], h2⟩⟩
def Then (Γ : Env) (b : IR) (Q : Ex → St → Prop) : Ex → St → Prop
 | .normal, s => WC Γ b s Q
 | e, s => Q e s
theorem WC.seq {a b : IR} {s : St} {Q : Ex → St → Prop} (h : WC Γ a s (Then Γ b Q)) : WC Γ (.seq a b) s Q := by
 obtain ⟨n, e, s', h1, h2⟩ := h.ex
 cases e with
 | normal =>
  obtain ⟨k, e2, s2, h3, h4⟩ := h2.ex
  refine ⟨⟨n + k + 1, e2, s2, ?_, h4⟩⟩
  rw [evC, (mono_le Γ (Nat.le_add_right n k)).1 _ _ _ h1]
  exact (mono_le Γ (Nat.le_add_left k n)).1 _ _ _ h3
 | exit id => exact ⟨⟨n + 1, .exit id, s', by rw [evC, h1], h2⟩⟩
 | ret => exact ⟨⟨n + 1, .ret, s', by rw [evC, h1], h2⟩⟩
theorem WC.loop {b : IR} {s : St} {Q : Ex → St → Prop} (h : WC Γ b s (Then Γ (.loop b) Q)) : WC Γ (.loop b) s Q := by
 obtain ⟨n, e, s', h1, h2⟩ := h.ex
 cases e with
 | normal =>
  obtain ⟨k, e2, s2, h3, h4⟩ := h2.ex
  refine ⟨⟨n + k + 1, e2, s2, ?_, h4⟩⟩
  rw [evC, (mono_le Γ (Nat.le_add_right n k)).1 _ _ _ h1]
  exact (mono_le Γ (Nat.le_add_left k n)).1 _ _ _ h3
 | exit id => exact ⟨⟨n + 1, .exit id, s', by rw [evC, h1], h2⟩⟩
 | ret => exact ⟨⟨n + 1, .ret, s', by rw [evC, h1], h2⟩⟩
theorem WC.yes {c : Opd} {a b : IR} {s : St} {Q : Ex → St → Prop} (hc : c.ev s.T = .bool true) (h : WC Γ a s Q) : WC Γ (.cond c a b) s Q := by
 obtain ⟨n, e, s', h1, h2⟩ := h.ex
 exact ⟨⟨n + 1, e, s', by rw [evC, hc]; exact h1, h2⟩⟩
theorem WC.no {c : Opd} {a b : IR} {s : St} {Q : Ex → St → Prop} (hc : c.ev s.T = .bool false) (h : WC Γ b s Q) : WC Γ (.cond c a b) s Q := by
 obtain ⟨n, e, s', h1, h2⟩ := h.ex
 exact ⟨⟨n + 1, e, s', by rw [evC, hc]; exact h1, h2⟩⟩
def Out (id : Nat) (Q : Ex → St → Prop) : Ex → St → Prop
 | .exit id', s => if id' = id then Q .normal s else Q (.exit id') s
 | e, s => Q e s
theorem WC.block {id : Nat} {b : IR} {s : St} {Q : Ex → St → Prop} (h : WC Γ b s (Out id Q)) : WC Γ (.block id b) s Q := by
 obtain ⟨n, e, s', h1, h2⟩ := h.ex
 cases e with
 | normal => exact ⟨⟨n + 1, .normal, s', by rw [evC, h1], h2⟩⟩
 | ret => exact ⟨⟨n + 1, .ret, s', by rw [evC, h1], h2⟩⟩
 | exit id' =>
  by_cases e0 : id' = id
  ·simp only [Out, if_pos e0] at h2
   exact ⟨⟨n + 1, .normal, s', by rw [evC, h1]; simp [e0], h2⟩⟩
  ·simp only [Out, if_neg e0] at h2
   exact ⟨⟨n + 1, .exit id', s', by rw [evC, h1]; simp [e0], h2⟩⟩
theorem WC.skip {s : St} {Q : Ex → St → Prop} (h : Q .normal s) : WC Γ .skip s Q := ⟨⟨1, _, s, rfl, h⟩⟩
theorem WC.ret {s : St} {Q : Ex → St → Prop} (h : Q .ret s) : WC Γ .ret s Q := ⟨⟨1, _, s, rfl, h⟩⟩
theorem WC.exit {id : Nat} {s : St} {Q : Ex → St → Prop} (h : Q (.exit id) s) : WC Γ (.exit id) s Q := ⟨⟨1, _, s, rfl, h⟩⟩
def Left (fn : IFunc) (Q : AV → Mem → Prop) (s : St) : Prop := ∃ l, evRes s.T s.heap fn.results = some l ∧ Q (oneRes l) s.mem
def Back (fn : IFunc) (Q : AV → Mem → Prop) : Ex → St → Prop
 | .normal, s | .ret, s => Left fn Q s
 | _, _ => False
theorem WF.fn {g : Nat} {a c args : List AV} {m : Mem} {fn : IFunc} {Q : AV → Mem → Prop} (hs : Γ.spec g = none) (hf : Γ.fn g = some fn) (hl : (a ++ args ++ c).length ≤ fn.ntmps) (h : WC Γ fn.body ⟨padTo fn.ntmps (a ++ args ++ c), m.heap, m.loops⟩ (Back fn Q)) : WF Γ (.func g a c) args m Q := by
 obtain ⟨n, e, s', h1, h2⟩ := h.ex
 cases e with
 | normal =>
  obtain ⟨l, h3, h4⟩ := h2
  exact ⟨⟨n + 1, oneRes l, s'.mem, by simp only [evF, hs, hf, if_pos hl, h1, h3, Option.map_some], h4⟩⟩
 | ret =>
  obtain ⟨l, h3, h4⟩ := h2
  exact ⟨⟨n + 1, oneRes l, s'.mem, by simp only [evF, hs, hf, if_pos hl, h1, h3, Option.map_some], h4⟩⟩
 | exit id => exact h2.elim
theorem WF.spec {g : Nat} {a c args : List AV} {m : Mem} {S : List AV → Mem → Option (AV × Mem)} {v : AV} {m' : Mem} {Q : AV → Mem → Prop} (hs : Γ.spec g = some S) (h : S (a ++ args ++ c) m = some (v, m')) (hq : Q v m') : WF Γ (.func g a c) args m Q :=
 ⟨⟨1, v, m', by simp [evF, hs, h, -List.append_assoc], hq⟩⟩
end
open Classical in
noncomputable def borrowE (Γ : Env) (g : Nat) (args : List AV) (m : Mem) : Option (AV × Mem) :=
 if h : ∃ r, ∃ n, borrowV Γ n g args m = some r then some h.choose else none
theorem borrowE_ok [Globs] {P : Program} {Γ : Env} (hΓ : EnvOk P Γ) {g : Nat} (hg : Callable P g) : SpecOk P g (borrowE Γ g) := by
 refine ⟨hg, fun args m v mm hS => ?_⟩
 unfold borrowE at hS
 split at hS
 ·rename_i h
  obtain ⟨n, hn⟩ := h.choose_spec
  have e := Option.some.inj hS
  rw [e] at hn
  exact (borrowV_ok hΓ (n := n) hg).2 args m v mm hn
 ·cases hS
theorem borrowV_mono {Γ : Env} {n k g : Nat} (hk : n ≤ k) {args : List AV} {m : Mem} {r : AV × Mem} (h : borrowV Γ n g args m = some r) : borrowV Γ k g args m = some r := by
 unfold borrowV at h ⊢
 split at h
 ·rename_i hp
  rw [if_pos hp]
  cases he : evF Γ n (.func g [] []) args ⟨[], []⟩ with
  | none => rw [he] at h; simp [byValue] at h
  | some q =>
   rw [he] at h
   have := (mono_le Γ hk).2 _ _ _ _ he
   simp only at this
   rw [this]
   exact h
 ·cases h
theorem borrowE_of {Γ : Env} {g : Nat} {args : List AV} {m : Mem} {v : AV} (hy : args.all pureA = true) (h : WF Γ (.func g [] []) args ⟨[], []⟩ fun y m' => resV m'.heap y = some v) : borrowE Γ g args m = some (v, m) := by
 obtain ⟨n, y, m', h1, h2⟩ := h.ex
 have hn : borrowV Γ n g args m = some (v, m) := by
  unfold borrowV
  rw [if_pos hy]
  simp only [h1, byValue, h2]
 have hex : ∃ r, ∃ n, borrowV Γ n g args m = some r := ⟨_, n, hn⟩
 unfold borrowE
 rw [dif_pos hex]
 obtain ⟨k, hk⟩ := hex.choose_spec
 have a1 := borrowV_mono (Nat.le_max_left n k) hn
 have a2 := borrowV_mono (Nat.le_max_right n k) hk
 rw [a1] at a2
 exact a2.symm
section
variable {call : AV → List AV → Mem → Option (AV × Mem)} {T : List AV} {m : Mem}
theorem ev_move {x : Opd} : evOp call T m (.move x) = (some (x.ev T, m)) := rfl
theorem ev_pick {c : Opd} {a : Opd} {b : Opd} : evOp call T m (.pick c a b) = (match c.ev T with | .bool t => some (if t then a.ev T else b.ev T, m) | _ => none) := rfl
theorem ev_alloc {zero : List AV} : evOp call T m (.alloc zero) = (some (.pref m.heap.length 0 0, newBlk m zero)) := rfl
theorem ev_box {x : Opd} : evOp call T m (.box x) = ((x.ev T).cells.map fun c => (.pref m.heap.length 0 0, newBlk m c)) := rfl
theorem ev_build {zero : List AV} {parts : List (Nat × Nat × Opd)} : evOp call T m (.build zero parts) = ((fillP T zero parts).map fun c => (.agg c, m)) := rfl
theorem ev_buildSlice {len : Nat} {sz : Nat} {zero : List AV} {parts : List (Nat × Nat × Opd)} : evOp call T m (.buildSlice len sz zero parts) = ((fillP T (zeros zero len) parts).map fun c => (.sref m.heap.length 0 0 sz len (some len), newBlk m c)) := rfl
theorem ev_load {agg : Bool} {size : Nat} {x : Opd} : evOp call T m (.load agg size x) = ((loadAV m.heap agg size (x.ev T)).map fun v => (v, m)) := rfl
theorem ev_store {size : Nat} {a : Opd} {x : Opd} : evOp call T m (.store size a x) = (match a.ev T with
  | .pref id g off => (x.ev T).cells.bind fun c => if c.length = size then (storeAt m.heap id g off c).map fun H => (und, ⟨H, m.loops⟩) else none
  | _ => none) := rfl
theorem ev_nilCheck {x : Opd} : evOp call T m (.nilCheck x) = ((nilCheckAV (x.ev T)).map fun v => (v, m)) := rfl
theorem ev_bin {op : BinOp} {x : Opd} {y : Opd} : evOp call T m (.bin op x y) = ((binAV op (x.ev T) (y.ev T)).map fun v => (v, m)) := rfl
theorem ev_beq {neg : Bool} {x : Opd} {y : Opd} : evOp call T m (.beq neg x y) = (match x.ev T, y.ev T with
  | .bool a, .bool b => some (.bool (if neg then !(a == b) else a == b), m)
  | _, _ => none) := rfl
theorem ev_aggEq {neg : Bool} {sg : List Bool} {x : Opd} {y : Opd} : evOp call T m (.aggEq neg sg x y) = (match x.ev T, y.ev T with
  | .agg a, .agg b => (cellsEq sg a b).map fun r => (.bool (if neg then !r else r), m)
  | _, _ => none) := rfl
theorem ev_nilEq {k : Nat} {neg : Bool} {x : Opd} {y : Opd} : evOp call T m (.nilEq k neg x y) = ((nilEqAV k (x.ev T) (y.ev T)).map fun r => (.bool (if neg then !r else r), m)) := rfl
theorem ev_mkIf {k : Nat} {x : Opd} : evOp call T m (.mkIf k x) = some (.ifc k (x.ev T), m) := rfl
theorem ev_ifNil {neg : Bool} {x : Opd} : evOp call T m (.ifNil neg x) = ((isNilAV (x.ev T)).map fun r => (.bool (if neg then !r else r), m)) := rfl
theorem isNil_nil : isNilAV .inil = some true := rfl
theorem isNil_ifc {t : Nat} {v : AV} : isNilAV (.ifc t v) = some false := rfl
theorem ev_strOp {k : SOp} {xs : List Opd} : evOp call T m (.strOp k xs) = ((strAV k (xs.map (·.ev T))).map fun v => (v, m)) := rfl
theorem ev_un {op : UnOp} {x : Opd} : evOp call T m (.un op x) = ((unAV op (x.ev T)).map fun v => (v, m)) := rfl
theorem ev_conv {k : IntKind} {x : Opd} : evOp call T m (.conv k x) = (match x.ev T with | .int _ n => some (.int k (k.wrap n), m) | _ => none) := rfl
theorem ev_makeFunc {f : Nat} {first : List Opd} {cap : List Opd} : evOp call T m (.makeFunc f first cap) = (some (.func f (first.map (·.ev T)) (cap.map (·.ev T)), m)) := rfl
theorem ev_makeSlice {sz : Nat} {bytes : Nat} {zero : List AV} {l : Opd} {c : Opd} : evOp call T m (.makeSlice sz bytes zero l c) = (match l.ev T, c.ev T with
  | .int _ a, .int _ b => if 0 ≤ a ∧ a ≤ b ∧ b * bytes ≤ 70368744177664 ∧ b ≤ 70368744177664 then
    some (.sref m.heap.length 0 0 sz a.toNat (some b.toNat), newBlk m (zeros zero b.toNat)) else none
  | _, _ => none) := rfl
theorem ev_slice {sz : Nat} {x : Opd} {lo : Option Opd} {hi : Option Opd} {mx : Option Opd} : evOp call T m (.slice sz x lo hi mx) = ((sliceAV m.heap sz (x.ev T) (lo.map (·.ev T)) (hi.map (·.ev T)) (mx.map (·.ev T))).map fun v => (v, m)) := rfl
theorem ev_sliceArr {n : Nat} {sz : Nat} {x : Opd} {lo : Option Opd} {hi : Option Opd} {mx : Option Opd} : evOp call T m (.sliceArr n sz x lo hi mx) = ((sliceArrAV m.heap n sz (x.ev T) (lo.map (·.ev T)) (hi.map (·.ev T)) (mx.map (·.ev T))).map fun v => (v, m)) := rfl
theorem ev_fieldAddr {off : Nat} {x : Opd} : evOp call T m (.fieldAddr off x) = ((ptrAdd off (x.ev T)).map fun v => (v, m)) := rfl
theorem ev_field {agg : Bool} {off : Nat} {size : Nat} {x : Opd} : evOp call T m (.field agg off size x) = (match x.ev T with
  | .agg l => (loadCs agg size l off).map fun v => (v, m)
  | _ => none) := rfl
theorem ev_indexAddr {sz : Nat} {x : Opd} {i : Opd} : evOp call T m (.indexAddr sz x i) = ((indexAddrAV sz (x.ev T) (i.ev T)).map fun v => (v, m)) := rfl
theorem ev_indexAddrArr {n : Nat} {sz : Nat} {x : Opd} {i : Opd} : evOp call T m (.indexAddrArr n sz x i) = ((idx (i.ev T) n).bind fun j => (ptrAdd (j * sz) (x.ev T)).map fun v => (v, m)) := rfl
theorem ev_index {n : Nat} {agg : Bool} {sz : Nat} {x : Opd} {i : Opd} : evOp call T m (.index n agg sz x i) = (match x.ev T with
  | .agg l => (idx (i.ev T) n).bind fun j => (loadCs agg sz l (j * sz)).map fun v => (v, m)
  | _ => none) := rfl
theorem ev_extract {x : Opd} {i : Nat} : evOp call T m (.extract x i) = (match x.ev T with
  | .tuple l => l[i]?.map fun v => (v, m)
  | _ => none) := rfl
theorem ev_lenS {x : Opd} {n : Nat} (h : slen (x.ev T) = some n) : evOp call T m (.lenS x) = some (.int .i64 n, m) := by simp [evOp, h]
theorem ev_makeMap : evOp call T m .makeMap = (some (.mref m.loops.length, ⟨m.heap, m.loops ++ [some (mapObj [])]⟩)) := rfl
theorem ev_mapSet {kd : KK} {x k v : Opd} {i : Nat} {n : AV} {es : List AV} (hx : x.ev T = .mref i) (hk : k.ev T = n) (hof : kd.of n = true) (hm : m.loops[i]? = some (some (mapObj es))) (hs : mkeys kd es = true) :
  evOp call T m (.mapSet kd x k v) = (some (und, ⟨m.heap, m.loops.set i (some (mapObj (mput n (v.ev T) es)))⟩)) := by
 simp only [evOp, hx, hk, hm]
 rw [if_pos (show isMap (mapObj es) = true ∧ kd.of n = true ∧ mkeys kd (mapObj es).tmps = true from ⟨rfl, hof, hs⟩)]
 rfl
theorem ev_mapGet {kd : KK} {ok : Bool} {z : AV} {x k : Opd} {i : Nat} {n : AV} {es : List AV} (hx : x.ev T = .mref i) (hk : k.ev T = n) (hof : kd.of n = true) (hm : m.loops[i]? = some (some (mapObj es))) (hs : mkeys kd es = true) :
  evOp call T m (.mapGet kd ok z x k) = (some (if ok then .tuple [(mfind n es).getD z, .bool (mfind n es).isSome] else (mfind n es).getD z, m)) := by
 simp only [evOp, hx, hk, hm]
 rw [if_pos (show isMap (mapObj es) = true ∧ kd.of n = true ∧ mkeys kd (mapObj es).tmps = true from ⟨rfl, hof, hs⟩)]
 rfl
theorem ev_lenM {x : Opd} {i : Nat} {es : List AV} (hx : x.ev T = .mref i) (hm : m.loops[i]? = some (some (mapObj es))) : evOp call T m (.lenM x) = (some (.int .i64 (es.length / 2 : Nat), m)) := by
 simp only [evOp, hx, hm]
 rw [if_pos (show isMap (mapObj es) = true from rfl)]
 rfl
theorem ev_lenC {n : Nat} : evOp call T m (.lenC n) = (some (.int .i64 n, m)) := rfl
theorem ev_capS {x : Opd} : evOp call T m (.capS x) = ((capAV (x.ev T)).map fun v => (v, m)) := rfl
theorem ev_minmax {mx : Bool} {xs : List Opd} : evOp call T m (.minmax mx xs) = ((minmaxAV mx (xs.map (·.ev T))).map fun v => (v, m)) := rfl
theorem ev_appendZ {sz : Nat} {bytes : Nat} {z : List AV} {s : Opd} {x : Opd} : evOp call T m (.appendZ sz bytes z s x) = (appendZAV sz bytes z m (s.ev T) (x.ev T)) := rfl
theorem ev_append {sz : Nat} {bytes : Nat} {s : Opd} {x : Opd} : evOp call T m (.append sz bytes s x) = (appendAV sz bytes m (s.ev T) (x.ev T)) := rfl
theorem ev_copy {sz : Nat} {d : Opd} {x : Opd} : evOp call T m (.copy sz d x) = (copyAV sz m (d.ev T) (x.ev T)) := rfl
theorem ev_clear {u0 : Nat} {zero : List AV} {x : Opd} : evOp call T m (.clear u0 zero x) = ((clearAV zero m (x.ev T)).map fun m' => (und, m')) := rfl
end
end Go.Zz


namespace Go.Zz
theorem look_onlyAt : ∀ (H : Hp) (id g : Nat), look (onlyAt H id) id g = look H id g
 | [], _, _ => rfl
 | h :: H, 0, g => rfl
 | h :: H, n + 1, g => by
  have := look_onlyAt H n g
  unfold look at this ⊢
  simpa [onlyAt] using this
theorem blanks_len (H : Hp) : (blanks H).length = H.length := by simp [blanks]
theorem dead_blanks : ∀ (H l : Hp), stillDead (blanks H) (blanks H ++ l) = true
 | [], _ => rfl
 | h :: H, l => by simpa [blanks, stillDead] using dead_blanks H l
theorem back_blanks : ∀ (H l : Hp), back H (blanks H) (blanks H ++ l) = H ++ l
 | [], l => by cases l <;> rfl
 | h :: H, l => by
  have := back_blanks H l
  simp only [blanks, List.map_cons, List.cons_append, back] at this ⊢
  rw [this]
theorem dead_self : ∀ (V : Hp), stillDead V V = true
 | [] => rfl
 | none :: V => by simpa [stillDead] using dead_self V
 | some _ :: V => by simpa [stillDead] using dead_self V
theorem back_only : ∀ (H : Hp) (id : Nat), back H (onlyAt H id) (onlyAt H id) = H
 | [], _ => rfl
 | h :: H, 0 => by
  have := back_blanks H []
  simp only [List.append_nil] at this
  simp only [onlyAt, back, this]
  cases h <;> rfl
 | h :: H, n + 1 => by simp only [onlyAt, back, back_only H n]
theorem dead_set : ∀ (H : Hp) (id : Nat) (b : Blk) (b0 : Blk), H[id]? = some (some b0) → stillDead (onlyAt H id) ((onlyAt H id).set id (some b)) = true
 | [], _, _, _, h => by simp at h
 | h :: H, 0, b, b0, e => by
  simp at e
  subst e
  simpa [onlyAt, stillDead] using dead_self (blanks H)
 | h :: H, n + 1, b, b0, e => by
  simp only [onlyAt, List.set_cons_succ, stillDead]
  exact dead_set H n b b0 (by simpa using e)
theorem back_set : ∀ (H : Hp) (id : Nat) (b : Blk) (b0 : Blk), H[id]? = some (some b0) → back H (onlyAt H id) ((onlyAt H id).set id (some b)) = H.set id (some b)
 | [], _, _, _, h => by simp at h
 | h :: H, 0, b, b0, e => by
  simp at e
  subst e
  have := back_blanks H []
  simp only [List.append_nil] at this
  simp only [onlyAt, List.set_cons_zero, back, this]
 | h :: H, n + 1, b, b0, e => by
  simp only [onlyAt, List.set_cons_succ, back]
  rw [back_set H n b b0 (by simpa using e)]
theorem look_some {H : Hp} {id g : Nat} {l : List AV} (h : look H id g = some l) : ∃ b : Blk, H[id]? = some (some b) := by
 unfold look at h
 split at h
 ·exact ⟨_, by assumption⟩
 ·cases h
def calmOp : IOp → Bool
 | .load .. | .store .. | .slice .. | .alloc _ | .box _ | .buildSlice .. | .makeSlice .. => true
 | op => freeOp op
theorem calm_ev {call : AV → List AV → Mem → Option (AV × Mem)} {T : List AV} {H H' : Hp} {L L' : List (Option ALoop)} {op : IOp} {v : AV} (hc : calmOp op = true) (hf : freeOp op = false) (h : evOp call T ⟨H, L⟩ op = some (v, ⟨H', L'⟩)) :
  ∃ H2, evOp call T ⟨limit T op H, L⟩ op = some (v, ⟨H2, L'⟩) ∧ stillDead (limit T op H) H2 = true ∧ back H (limit T op H) H2 = H' := by
 cases op <;> first | (simp [calmOp, hf] at hc; done) | skip
 case alloc z =>
  simp only [ev_alloc, newBlk, Option.some.injEq, Prod.mk.injEq, Mem.mk.injEq] at h
  obtain ⟨rfl, rfl, rfl⟩ := h
  exact ⟨_, by simp only [ev_alloc, newBlk, limit, blanks_len], dead_blanks H _, back_blanks H _⟩
 case box x =>
  simp only [ev_box, newBlk, Option.map_eq_some_iff, Prod.mk.injEq, Mem.mk.injEq] at h
  obtain ⟨c, h1, rfl, rfl, rfl⟩ := h
  exact ⟨_, by simp only [ev_box, newBlk, limit, blanks_len, h1, Option.map_some], dead_blanks H _, back_blanks H _⟩
 case buildSlice len sz zero parts =>
  simp only [ev_buildSlice, newBlk, Option.map_eq_some_iff, Prod.mk.injEq, Mem.mk.injEq] at h
  obtain ⟨c, h1, rfl, rfl, rfl⟩ := h
  exact ⟨_, by simp only [ev_buildSlice, newBlk, limit, blanks_len, h1, Option.map_some], dead_blanks H _, back_blanks H _⟩
 case makeSlice sz bytes zero l c =>
  rw [ev_makeSlice] at h
  split at h
  ·rename_i a b ha hb
   split at h
   ·rename_i hcond
    simp only [newBlk, Option.some.injEq, Prod.mk.injEq, Mem.mk.injEq] at h
    obtain ⟨rfl, rfl, rfl⟩ := h
    refine ⟨_, ?_, dead_blanks H _, back_blanks H _⟩
    rw [ev_makeSlice, ha, hb]
    simp only [if_pos hcond, newBlk, limit, blanks_len]
   ·cases h
  ·cases h
 case load agg size x =>
  simp only [ev_load, Option.map_eq_some_iff, Prod.mk.injEq, Mem.mk.injEq] at h
  obtain ⟨c, h1, rfl, rfl, rfl⟩ := h
  refine ⟨limit T (.load agg size x) H, ?_, dead_self _, ?_⟩
  ·rw [ev_load]
   cases hx : x.ev T <;> simp only [hx, loadAV] at h1 <;> first | (cases h1; done) | skip
   ·simp only [loadAV, limit, hx, look_onlyAt, h1, Option.map_some]
   ·simp only [loadAV, h1, Option.map_some]
  ·cases hx : x.ev T <;> simp only [limit, hx] <;> first | exact back_only H _ | (have := back_blanks H []; simpa using this)
 case store size a x =>
  rw [ev_store] at h
  split at h
  ·rename_i id g off ha
   simp only [Option.bind_eq_some_iff] at h
   obtain ⟨c, h1, h⟩ := h
   split at h
   ·rename_i hl
    simp only [Option.map_eq_some_iff, Prod.mk.injEq, Mem.mk.injEq] at h
    obtain ⟨H1, h2, rfl, rfl, rfl⟩ := h
    unfold storeAt at h2
    simp only [Option.bind_eq_bind, Option.bind_eq_some_iff, Option.some.injEq] at h2
    obtain ⟨l, h3, l', h4, rfl⟩ := h2
    obtain ⟨b, hb⟩ := look_some h3
    refine ⟨setBlk (onlyAt H id) id g l', ?_, ?_, ?_⟩
    ·rw [ev_store, ha]
     simp only [h1, Option.bind_some, if_pos hl, storeAt, limit, ha, look_onlyAt, h3, h4, Option.bind_eq_bind, Option.map_some]
    ·simp only [limit, ha]
     exact dead_set H id _ b hb
    ·simp only [limit, ha]
     exact back_set H id _ b hb
   ·cases h
  ·cases h
 case slice sz x lo hi mx =>
  simp only [ev_slice, Option.map_eq_some_iff, Prod.mk.injEq, Mem.mk.injEq] at h
  obtain ⟨c, h1, rfl, rfl, rfl⟩ := h
  refine ⟨limit T (.slice sz x lo hi mx) H, ?_, dead_self _, ?_⟩
  ·rw [ev_slice]
   cases hx : x.ev T <;> simp only [hx, sliceAV] at h1 <;> first | (cases h1; done) | skip
   ·simp only [sliceAV, h1, Option.map_some]
   ·simp only [sliceAV, h1, Option.map_some]
   ·rename_i id g off sz' n cap
    cases hi with
    | none =>
     simp only [Option.map_none, Option.isSome_none, Bool.and_false, Bool.false_eq_true, if_false] at h1
     simp only [sliceAV, Option.map_none, Option.isSome_none, Bool.and_false, Bool.false_eq_true, if_false, h1, Option.map_some]
    | some hi =>
     have e : kcap (onlyAt H id) sz id g off n = kcap H sz id g off n := by unfold kcap; rw [look_onlyAt]
     have h0 : sliceAV (onlyAt H id) sz (.sref id g off sz' n cap) (lo.map (·.ev T)) ((some hi).map (·.ev T)) (mx.map (·.ev T)) = some c := by
      simp only [sliceAV, e]
      exact h1
     have eL : limit T (.slice sz x lo (some hi) mx) H = onlyAt H id := by simp only [limit, hx]
     rw [eL, h0]
     rfl
  ·cases hi with
   | none =>
    have := back_blanks H []
    simpa [limit] using this
   | some hi => cases hx : x.ev T <;> simp only [limit, hx] <;> first | exact back_only H _ | (have := back_blanks H []; simpa using this)
def calm (d : DOper) : Bool := d.ms.isEmpty && calmOp d.o.op
theorem calm_call {c c' : AV → List AV → Mem → Option (AV × Mem)} {T : List AV} {m : Mem} {op : IOp} (h : calmOp op = true) : evOp c T m op = evOp c' T m op := by
 cases op <;> first | rfl | (simp [calmOp, freeOp] at h; done)
theorem draw_calm {call : AV → List AV → Mem → Option (AV × Mem)} : ∀ (a rest : List DOper) (s s' : St) (seen : List (Hp × Nat × Nat)), a.all calm = true → evOps call (a.map (·.o)) s = some s' → ∃ seen', ∀ call', evDraw call' (a ++ rest) s seen = evDraw call' rest s' seen'
 | [], rest, s, s', seen, _, h => by
  simp only [List.map_nil, evOps, Option.some.injEq] at h
  subst h
  exact ⟨seen, fun _ => rfl⟩
 | d :: a, rest, s, s', seen, hc, h => by
  simp only [List.all_cons, Bool.and_eq_true] at hc
  simp only [List.map_cons, evOps] at h
  simp only [List.cons_append, evDraw]
  by_cases hw : wantedI s.T d.o.guard = true
  ·simp only [if_pos hw] at h ⊢
   have hcd : d.ms = [] ∧ calmOp d.o.op = true := by
    have := hc.1
    unfold calm at this
    simpa using this
   cases hev : evOp call s.T s.mem d.o.op with
   | none => rw [hev] at h; cases h
   | some q =>
    obtain ⟨v, m'⟩ := q
    rw [hev] at h
    simp only at h
    by_cases hf : freeOp d.o.op = true
    ·simp only [if_pos hf]
     obtain ⟨seen', ih⟩ := draw_calm a rest _ _ (seen ++ [([], 0, 0)]) hc.2 h
     refine ⟨seen', fun call' => ?_⟩
     rw [calm_call (c := call') (c' := call) hcd.2, hev]
     exact ih call'
    ·simp only [if_neg hf]
     obtain ⟨m1, m2⟩ := m'
     obtain ⟨H2, g1, g2, g3⟩ := calm_ev hcd.2 (by simpa using hf) hev
     obtain ⟨seen', ih⟩ := draw_calm a rest _ _ (seen ++ [(limit s.T d.o.op s.heap, s.heap.length, H2.length)]) hc.2 h
     refine ⟨seen', fun call' => ?_⟩
     rw [hcd.1]
     simp only [strikes, calm_call (c := call') (c' := call) hcd.2, g1, g2, if_true, g3]
     exact ih call'
  ·simp only [if_neg hw] at h ⊢
   exact draw_calm a rest _ _ _ hc.2 h
section
variable {Γ : Env}
theorem WD.calm {a rest : List DOper} {s : St} {seen : List (Hp × Nat × Nat)} {Q : St → Prop} (hc : a.all Zz.calm = true) (h : WO Γ (a.map (·.o)) s fun s' => ∀ seen', WD Γ rest s' seen' Q) : WD Γ (a ++ rest) s seen Q := by
 obtain ⟨n, s', h1, h2⟩ := h.ex
 obtain ⟨seen', e⟩ := draw_calm a rest s s' seen hc h1
 obtain ⟨k, s2, h3, h4⟩ := (h2 seen').ex
 exact ⟨⟨k, s2, by rw [e]; exact h3, h4⟩⟩
theorem WC.calm {ops : List DOper} {s : St} {Q : Ex → St → Prop} (hc : ops.all Zz.calm = true) (h : WO Γ (ops.map (·.o)) s (fun s' => Q .normal s')) : WC Γ (.draw ops) s Q := by
 refine WC.draw ?_
 have := WD.calm (rest := []) (seen := []) (Q := fun s' => Q .normal s') hc (h.mono fun s' hs seen' => WD.nil hs)
 simpa using this
end
end Go.Zz


namespace Go.Zz
theorem look_lt {H : Hp} {id g : Nat} {l : List AV} (h : look H id g = some l) : id < H.length := by
 obtain ⟨b, hb⟩ := look_some h
 exact (List.getElem?_eq_some_iff.1 hb).1
theorem look_eq_iff {H : Hp} {id g : Nat} {l : List AV} : look H id g = some l ↔ H[id]? = some (some ⟨g, l⟩) := by
 unfold look
 constructor
 ·intro h
  split at h
  ·rename_i b hb
   split at h
   ·rename_i hg
    rw [hb]
    cases b
    simp only at hg h
    cases h
    subst hg
    rfl
   ·cases h
  ·cases h
 ·intro h
  rw [h]
  simp
theorem look_left {H R : Hp} {id g : Nat} (h : id < H.length) : look (H ++ R) id g = look H id g := by
 unfold look
 rw [List.getElem?_append_left h]
theorem look_right {H R : Hp} {k g : Nat} : look (H ++ R) (H.length + k) g = look R k g := by
 unfold look
 rw [List.getElem?_append_right (by omega)]
 simp
theorem look_right0 {H R : Hp} {g : Nat} : look (H ++ R) H.length g = look R 0 g := by
 have := look_right (H := H) (R := R) (k := 0) (g := g)
 simpa using this
theorem look_of_get {H H' : Hp} {id g : Nat} (h : H'[id]? = H[id]?) : look H' id g = look H id g := by
 unfold look
 rw [h]
theorem look_set {H : Hp} {id g : Nat} {l : List AV} (h : id < H.length) : look (H.set id (some ⟨g, l⟩)) id g = some l := by
 unfold look
 simp [h]
theorem set_left {H R : Hp} {id : Nat} {b : Option Blk} (h : id < H.length) : (H ++ R).set id b = H.set id b ++ R := by
 rw [List.set_append]
 simp [h]
theorem over_one {C : List AV} {o : Nat} {x : AV} (h : o < C.length) : over C o [x] = some (C.set o x) := by
 unfold over
 rw [if_pos (by simp; omega), List.set_eq_take_append_cons_drop]
 simp [h]
structure Same (H H' : Hp) (n : Nat) (S : Nat → Prop) : Prop where
 len : H.length ≤ H'.length
 old : ∀ id, id < n → ¬ S id → H'[id]? = H[id]?
 dead : ∀ id : Nat, H[id]? = some none → H'[id]? = some none
theorem Same.refl (H : Hp) (n : Nat) (S : Nat → Prop) : Same H H n S := ⟨Nat.le_refl _, fun _ _ _ => rfl, fun _ h => h⟩
theorem Same.trans {H H' H'' : Hp} {n : Nat} {S : Nat → Prop} (h : Same H H' n S) (k : Same H' H'' n S) : Same H H'' n S :=
 ⟨Nat.le_trans h.len k.len, fun id hi hs => (k.old id hi hs).trans (h.old id hi hs), fun id hd => k.dead id (h.dead id hd)⟩
theorem Same.weaken {H H' : Hp} {n n' : Nat} {S S' : Nat → Prop} (h : Same H H' n S) (hn : n' ≤ n) (hS : ∀ id, id < n' → S id → S' id) : Same H H' n' S' :=
 ⟨h.len, fun id hi hs => h.old id (by omega) fun h' => hs (hS id hi h'), h.dead⟩
theorem Same.app {H : Hp} (R : Hp) {S : Nat → Prop} : Same H (H ++ R) H.length S := ⟨by simp, fun id hi _ => List.getElem?_append_left hi, fun id hd => by
 rw [List.getElem?_append_left (List.getElem?_eq_some_iff.1 hd).1]; exact hd⟩
theorem Same.setL {H : Hp} {k : Nat} {b : Option Blk} {b0 : Blk} {n : Nat} {S : Nat → Prop} (h : S k) (hl : H[k]? = some (some b0)) : Same H (H.set k b) n S := ⟨by simp, fun id _ hs => by
 rw [List.getElem?_set_ne]
 intro e; subst e; exact hs h, fun id hd => by
 rw [List.getElem?_set_ne]
 ·exact hd
 ·intro e; subst e; rw [hl] at hd; cases hd⟩
theorem Same.look {H H' : Hp} {n : Nat} {S : Nat → Prop} (h : Same H H' n S) {id g : Nat} (hi : id < n) (hs : ¬ S id) : Zz.look H' id g = Zz.look H id g := look_of_get (h.old id hi hs)
theorem dead_of : ∀ {H H' : Hp}, H.length ≤ H'.length → (∀ id : Nat, H[id]? = some none → H'[id]? = some none) → stillDead H H' = true
 | [], _, _, _ => rfl
 | none :: H, [], h, _ => by simp at h
 | some _ :: H, [], h, _ => by simp at h
 | none :: H, h' :: H', hl, hd => by
  have h0 := hd 0 rfl
  simp at h0
  subst h0
  simp only [stillDead]
  exact dead_of (by simpa using hl) fun id h => by simpa using hd (id + 1) (by simpa using h)
 | some _ :: H, h' :: H', hl, hd => by
  simp only [stillDead]
  exact dead_of (by simpa using hl) fun id h => by simpa using hd (id + 1) (by simpa using h)
theorem Same.dead' {H H' : Hp} {n : Nat} {S : Nat → Prop} (h : Same H H' n S) : stillDead H H' = true := dead_of h.len h.dead
def Rd (sz : Nat) (H : Hp) (x : AV) (n : Nat) (l : List AV) : Prop := slen x = some n ∧ scells H sz x = some l ∧ l.length = n * sz ∧ (∀ k g o s c cap, x = .sref k g o s c cap → s = sz)
theorem cut_len {l c : List AV} {off n : Nat} (h : cut l off n = some c) : c.length = n ∧ off + n ≤ l.length ∧ c = (l.drop off).take n := by
 unfold cut at h
 split at h
 ·cases h
  refine ⟨by simp; omega, by assumption, rfl⟩
 ·cases h
theorem Rd.at {sz : Nat} {H : Hp} {x : AV} {n : Nat} {l : List AV} (h : Rd sz H x n l) {i : Nat} (hi : i < n) (hsz : 0 < sz) :
  ∃ p, indexAddrAV sz x (.int .i64 (i : Int)) = some p ∧ ∀ (o : Nat), o < sz → ∃ q, ptrAdd o p = some q ∧ loadAV H false 1 q = l[i * sz + o]? ∧ loadAV H true sz p = some (.agg ((l.drop (i * sz)).take sz)) := by
 obtain ⟨h1, h2, h3, h4⟩ := h
 have hb : i * sz + sz ≤ l.length := by
  rw [h3]
  have : (i + 1) * sz ≤ n * sz := Nat.mul_le_mul_right _ hi
  rw [Nat.succ_mul] at this
  exact this
 cases x with
 | snil => simp [slen] at h1; omega
 | sval full n' l' =>
  simp only [slen, Option.some.injEq] at h1
  subst h1
  simp only [scells] at h2
  split at h2
  ·cases h2
   refine ⟨.pval (l.drop (i * sz)), ?_, fun o ho => ⟨.pval ((l.drop (i * sz)).drop o), rfl, ?_, ?_⟩⟩
   ·simp only [indexAddrAV, idx]
    rw [if_pos ⟨by omega, by omega⟩]
    simp
   ·simp only [loadAV, loadCs, List.drop_drop]
    simp [List.getElem?_drop]
   ·simp only [loadAV, loadCs, cut]
    simp
    omega
  ·cases h2
 | sref id g off sz' n' cap =>
  simp only [slen, Option.some.injEq] at h1
  subst h1
  have e := h4 _ _ _ _ _ _ rfl
  subst e
  simp only [scells, if_true, Option.bind_eq_some_iff] at h2
  obtain ⟨L, hL, hc⟩ := h2
  obtain ⟨c1, c2, c3⟩ := cut_len hc
  have hb2 : off + (i * sz' + sz') ≤ L.length := by omega
  refine ⟨.pref id g (off + i * sz'), ?_, fun o ho => ⟨.pref id g (off + i * sz' + o), rfl, ?_, ?_⟩⟩
  ·simp only [indexAddrAV, if_true, idx]
   rw [if_pos ⟨by omega, by omega⟩]
   simp
  ·simp only [loadAV, hL, Option.bind_some, loadCs, Bool.false_eq_true, if_false]
   rw [c3, List.getElem?_take, if_pos (by omega), List.getElem?_drop]
   simp [Nat.add_assoc]
  ·simp only [loadAV, hL, Option.bind_some, loadCs, cut]
   simp only [if_true]
   rw [if_pos (by omega)]
   simp only [Option.map_some, Option.some.injEq, AV.agg.injEq]
   rw [c3, List.drop_take, List.take_take, List.drop_drop]
   congr 1
   omega
 | _ => simp [slen] at h1
theorem back_dead : ∀ {H H' : Hp}, stillDead H H' = true → back H H H' = H'
 | [], H', _ => by cases H' <;> rfl
 | none :: H, none :: H', h => by
  simp only [stillDead] at h
  simp only [back, back_dead h]
 | some _ :: H, h' :: H', h => by
  simp only [stillDead] at h
  simp only [back, back_dead h]
 | none :: H, some _ :: H', h => by simp [stillDead] at h
 | none :: H, [], h => by simp [stillDead] at h
 | some _ :: H, [], h => by simp [stillDead] at h
theorem dead_app : ∀ (H R : Hp), stillDead H (H ++ R) = true
 | [], _ => rfl
 | none :: H, R => by simpa [stillDead] using dead_app H R
 | some _ :: H, R => by simpa [stillDead] using dead_app H R
theorem dead_setS : ∀ {H : Hp} {f : Nat} {b0 b : Blk}, H[f]? = some (some b0) → ∀ R, stillDead H (H.set f (some b) ++ R) = true
 | [], f, _, _, h, _ => by simp at h
 | h :: H, 0, b0, b, e, R => by
  simp at e
  subst e
  simpa [stillDead] using dead_app H R
 | none :: H, f + 1, b0, b, e, R => by
  simp only [List.set_cons_succ, List.cons_append, stillDead]
  exact dead_setS (by simpa using e) R
 | some _ :: H, f + 1, b0, b, e, R => by
  simp only [List.set_cons_succ, List.cons_append, stillDead]
  exact dead_setS (by simpa using e) R
section
variable {Γ : Env} {T : List AV} {H : Hp} {L : List (Option ALoop)} {rd : List DOper} {seen : List (Hp × Nat × Nat)}
theorem WD.plain {Q : St → Prop} {d : Option Nat} {op : IOp} {v : AV} {H' : Hp} {L' : List (Option ALoop)} (hf : freeOp op = false) (hV : limit T op H = H) (h : ∀ call, evOp call T ⟨H, L⟩ op = some (v, ⟨H', L'⟩))
  (hd : stillDead H H' = true) (k : ∀ seen2, WD Γ rd (St.put ⟨T, H, L⟩ d v ⟨H', L'⟩) seen2 Q) : WD Γ (⟨⟨none, d, op⟩, []⟩ :: rd) ⟨T, H, L⟩ seen Q :=
 WD.bigG hf (show limit T op (strikes H seen []) = H from hV) h hd (back_dead hd) rfl (k _)
theorem WD.callP {Q : St → Prop} {d : Option Nat} {f : Opd} {args : List Opd} (h : WF Γ (f.ev T) (args.map (·.ev T)) ⟨H, L⟩ fun v m' => stillDead H m'.heap = true ∧ ∀ seen2, WD Γ rd (St.put ⟨T, H, L⟩ d v ⟨m'.heap, m'.loops⟩) seen2 Q) :
  WD Γ (⟨⟨none, d, .call f args⟩, []⟩ :: rd) ⟨T, H, L⟩ seen Q :=
 WD.call (V := H) rfl (h.mono fun v m' hv => ⟨hv.1, by rw [back_dead hv.1]; exact hv.2 _⟩)
end
end Go.Zz


namespace Go.Zz
theorem onlyAt_len : ∀ (H : Hp) (i : Nat), (onlyAt H i).length = H.length
 | [], _ => rfl
 | _ :: H, 0 => by simp [onlyAt, blanks]
 | _ :: H, n + 1 => by simp [onlyAt, onlyAt_len H n]
theorem blanks_of_len : ∀ {X H : Hp}, X.length = H.length → blanks X = blanks H
 | [], [], _ => rfl
 | x :: X, h :: H, e => by
  have := blanks_of_len (X := X) (H := H) (by simpa using e)
  simpa [blanks] using this
 | [], _ :: _, e => by simp at e
 | _ :: _, [], e => by simp at e
theorem strikeV_blanks : ∀ (X Y : Hp), strikeV X (blanks Y) = X
 | [], Y => by cases Y <;> rfl
 | h :: X, [] => rfl
 | h :: X, y :: Y => by
  have := strikeV_blanks X Y
  simp only [blanks, List.map_cons, strikeV] at this ⊢
  rw [this]
theorem strike_none {H : Hp} {n : Nat} : strike H n n = H := by simp [strike]
theorem strike_new {H R : Hp} {k : Nat} (hk : 0 < k) : strike (H ++ R) H.length (H.length + k) = H ++ (List.replicate k none ++ R.drop k) := by
 unfold strike
 rw [if_pos (by omega)]
 simp [List.drop_append]
theorem strike_last {H : Hp} {b : Option Blk} : strike (H ++ [b]) H.length (H.length + 1) = H ++ [none] := by
 rw [strike_new (by omega)]; simp
theorem read_ev {call : AV → List AV → Mem → Option (AV × Mem)} {T : List AV} {H H' : Hp} {L L' : List (Option ALoop)} {agg : Bool} {size : Nat} {x : Opd} {v : AV} (h : evOp call T ⟨H, L⟩ (.load agg size x) = some (v, ⟨H', L'⟩)) :
  H' = H ∧ L' = L ∧ evOp call T ⟨limit T (.load agg size x) H, L⟩ (.load agg size x) = some (v, ⟨limit T (.load agg size x) H, L⟩) := by
 simp only [ev_load, Option.map_eq_some_iff, Prod.mk.injEq, Mem.mk.injEq] at h
 obtain ⟨c, h1, rfl, rfl, rfl⟩ := h
 refine ⟨rfl, rfl, ?_⟩
 rw [ev_load]
 cases hx : x.ev T <;> simp only [hx, loadAV] at h1 <;> first | (cases h1; done) | skip
 ·simp only [loadAV, limit, hx, look_onlyAt, h1, Option.map_some]
 ·simp only [loadAV, h1, Option.map_some]
theorem limit_load_len {T : List AV} {agg : Bool} {size : Nat} {x : Opd} {H : Hp} : (limit T (.load agg size x) H).length = H.length := by
 cases hx : x.ev T <;> simp only [limit, hx] <;> first | exact onlyAt_len H _ | exact blanks_len H
theorem back_struck {H H1 : Hp} {p : Option Blk} (h : stillDead (H ++ [none]) H1 = true) : back (H ++ [p]) (H ++ [none]) H1 = H1.set H.length p := by
 induction H generalizing H1 with
 | nil =>
  cases H1 with
  | nil => simp [stillDead] at h
  | cons h1 H1 =>
   cases h1 with
   | some _ => simp [stillDead] at h
   | none => cases H1 <;> rfl
 | cons a H ih =>
  cases H1 with
  | nil => cases a <;> simp [stillDead] at h
  | cons h1 H1 =>
   cases a with
   | none =>
    cases h1 with
    | some _ => simp [stillDead] at h
    | none =>
     simp only [List.cons_append, stillDead] at h
     simp only [List.cons_append, back, ih h, List.length_cons, List.set_cons_succ]
   | some x =>
    simp only [List.cons_append, stillDead] at h
    simp only [List.cons_append, back, ih h, List.length_cons, List.set_cons_succ]
inductive PartL : Hp → Hp → Prop
 | nil : PartL [] []
 | none (h : Option Blk) {V H : Hp} (k : PartL V H) : PartL (none :: V) (h :: H)
 | same (h : Option Blk) {V H : Hp} (k : PartL V H) : PartL (h :: V) (h :: H)
theorem PartL.refl : ∀ H : Hp, PartL H H
 | [] => .nil
 | h :: H => .same h (PartL.refl H)
theorem PartL.len {V H : Hp} (h : PartL V H) : V.length = H.length := by
 induction h with
 | nil => rfl
 | none h k ih => simp [ih]
 | same h k ih => simp [ih]
theorem PartL.back {V H : Hp} (h : PartL V H) : back H V V = H := by
 induction h with
 | nil => rfl
 | none h k ih => simp only [Zz.back, ih]
 | same h k ih => cases h <;> simp only [Zz.back, ih]
theorem PartL.backApp {V H : Hp} (h : PartL V H) (R : Hp) : Zz.back H V (V ++ R) = H ++ R := by
 induction h with
 | nil => cases R <;> rfl
 | none h k ih => simp only [List.cons_append, Zz.back, ih]
 | same h k ih => cases h <;> simp only [List.cons_append, Zz.back, ih]
theorem PartL.strikeV {V H : Hp} (h : PartL V H) : ∀ W : Hp, PartL (strikeV V W) H := by
 induction h with
 | nil => intro W; cases W <;> exact .nil
 | none h k ih =>
  intro W
  cases W with
  | nil => exact .none h k
  | cons w W => cases w <;> exact .none h (ih W)
 | same h k ih =>
  intro W
  cases W with
  | nil => exact .same h k
  | cons w W => cases w <;> first | exact .same h (ih W) | exact .none h (ih W)
theorem PartL.strike0 {V H : Hp} (h : PartL V H) : ∀ b, b ≤ V.length → PartL (List.replicate b Option.none ++ V.drop b) H := by
 induction h with
 | nil =>
  intro b hb
  have : b = 0 := by simpa using hb
  subst this
  exact .nil
 | none h k ih =>
  intro b hb
  cases b with
  | zero => exact .none h (by simpa using k)
  | succ b => simpa [List.replicate_succ] using PartL.none h (ih b (by simpa using hb))
 | same h k ih =>
  intro b hb
  cases b with
  | zero => exact .same h (by simpa using k)
  | succ b => simpa [List.replicate_succ] using PartL.none h (ih b (by simpa using hb))
theorem PartL.strike {V H : Hp} (h : PartL V H) : ∀ a b, b ≤ V.length → PartL (strike V a b) H := by
 intro a b hb
 unfold Zz.strike
 split
 ·rename_i hab
  induction h generalizing a b with
  | nil => simp at hb; omega
  | none h k ih =>
   cases a with
   | zero => simpa using PartL.strike0 (.none h k) b hb
   | succ a =>
    cases b with
    | zero => omega
    | succ b => simpa using PartL.none h (ih a b (by simpa using hb) (by omega))
  | same h k ih =>
   cases a with
   | zero => simpa using PartL.strike0 (.same h k) b hb
   | succ a =>
    cases b with
    | zero => omega
    | succ b => simpa using PartL.same h (ih a b (by simpa using hb) (by omega))
 ·exact h
theorem PartL.strikes {H : Hp} {seen : List (Hp × Nat × Nat)} (hs : ∀ e ∈ seen, e.2.2 ≤ H.length) : ∀ (ms : List Nat) {V : Hp}, PartL V H → PartL (strikes V seen ms) H
 | [], V, h => h
 | i :: r, V, h => by
  unfold Zz.strikes
  cases he : seen[i]? with
  | none => exact PartL.strikes hs r h
  | some e =>
   obtain ⟨W, a, b⟩ := e
   have hb := hs _ (List.mem_of_getElem? he)
   exact PartL.strikes hs r ((h.strike a b (by rw [h.len]; exact hb)).strikeV W)
section
variable {Γ : Env} {T : List AV} {H : Hp} {L : List (Option ALoop)} {rd : List DOper} {seen : List (Hp × Nat × Nat)}
theorem WD.read {Q : St → Prop} {d : Nat} {agg : Bool} {size : Nat} {x : Opd} {v : AV} (h : ∀ call, evOp call T ⟨H, L⟩ (.load agg size x) = some (v, ⟨H, L⟩)) (k : WD Γ rd ⟨pt T d v, H, L⟩ (seen ++ [(limit T (.load agg size x) H, H.length, H.length)]) Q) :
  WD Γ (⟨⟨none, some d, .load agg size x⟩, []⟩ :: rd) ⟨T, H, L⟩ seen Q := by
 have hb : back H (limit T (.load agg size x) H) (limit T (.load agg size x) H) = H := by
  cases hx : x.ev T <;> simp only [limit, hx] <;> first | exact back_only H _ | (have := back_blanks H []; simpa using this)
 refine WD.bigG (V := limit T (.load agg size x) H) (H' := limit T (.load agg size x) H) (H2 := H) rfl rfl (fun call => (read_ev (h call)).2.2) (dead_self _) hb ?_ k
 rw [limit_load_len]
def newOp : IOp → Bool
 | .alloc _ | .box _ | .buildSlice .. => true
 | _ => false
theorem WD.new {Q : St → Prop} {d : Nat} {op : IOp} {v : AV} {b : Option Blk} {ms : List Nat} (hop : newOp op = true) (h : ∀ call, evOp call T ⟨H, L⟩ op = some (v, ⟨H ++ [b], L⟩)) (hl : (strikes H seen ms).length = H.length) (k : WD Γ rd ⟨pt T d v, H ++ [b], L⟩ (seen ++ [(blanks H, H.length, H.length + 1)]) Q) :
  WD Γ (⟨⟨none, some d, op⟩, ms⟩ :: rd) ⟨T, H, L⟩ seen Q := by
 have hV : limit T op (strikes H seen ms) = blanks H := by
  have := blanks_of_len hl
  cases op <;> first | (simp [newOp] at hop; done) | exact this
 have hf : freeOp op = false := by cases op <;> first | (simp [newOp] at hop; done) | rfl
 have hev : ∀ call, evOp call T ⟨blanks H, L⟩ op = some (v, ⟨blanks H ++ [b], L⟩) := by
  intro call
  have h0 := h call
  cases op <;> first | (simp [newOp] at hop; done) | skip
  case alloc z =>
   simp only [ev_alloc, newBlk, Option.some.injEq, Prod.mk.injEq, Mem.mk.injEq, and_true] at h0
   obtain ⟨rfl, h2⟩ := h0
   have := List.append_cancel_left h2
   simp only [ev_alloc, newBlk, blanks_len, this]
  case box x =>
   simp only [ev_box, newBlk, Option.map_eq_some_iff, Prod.mk.injEq, Mem.mk.injEq, and_true] at h0
   obtain ⟨c, h1, rfl, h2⟩ := h0
   have := List.append_cancel_left h2
   simp only [ev_box, newBlk, blanks_len, h1, Option.map_some, this]
  case buildSlice len sz zero parts =>
   simp only [ev_buildSlice, newBlk, Option.map_eq_some_iff, Prod.mk.injEq, Mem.mk.injEq, and_true] at h0
   obtain ⟨c, h1, rfl, h2⟩ := h0
   have := List.append_cancel_left h2
   simp only [ev_buildSlice, newBlk, blanks_len, h1, Option.map_some, this]
 exact WD.bigG (V := blanks H) (H' := blanks H ++ [b]) (H2 := H ++ [b]) hf hV hev (dead_blanks H _) (back_blanks H _) (by simp [blanks]) k
theorem WD.newS {Q : St → Prop} {d : Nat} {op : IOp} {v : AV} {b : Option Blk} {ms : List Nat} (hop : newOp op = true) (h : ∀ call, evOp call T ⟨H, L⟩ op = some (v, ⟨H ++ [b], L⟩)) (hs : ∀ e ∈ seen, e.2.2 ≤ H.length) (k : WD Γ rd ⟨pt T d v, H ++ [b], L⟩ (seen ++ [(blanks H, H.length, H.length + 1)]) Q) :
  WD Γ (⟨⟨none, some d, op⟩, ms⟩ :: rd) ⟨T, H, L⟩ seen Q := WD.new hop h ((PartL.strikes hs ms (PartL.refl H)).len) k
theorem WD.specS {Q : St → Prop} {d : Nat} {f : Opd} {args : List Opd} {ms : List Nat} {v : AV} (h : ∀ V L', WF Γ (f.ev T) (args.map (·.ev T)) ⟨V, L'⟩ fun y m' => y = v ∧ m' = ⟨V, L'⟩) (hs : ∀ e ∈ seen, e.2.2 ≤ H.length)
  (k : ∀ V, WD Γ rd ⟨pt T d v, H, L⟩ (seen ++ [(V, H.length, H.length)]) Q) : WD Γ (⟨⟨none, some d, .call f args⟩, ms⟩ :: rd) ⟨T, H, L⟩ seen Q := by
 have hp := PartL.strikes hs ms (PartL.refl H)
 refine WD.call rfl ((h _ L).mono ?_)
 rintro y m' ⟨rfl, rfl⟩
 refine ⟨dead_self _, ?_⟩
 simp only [St.put, hp.back, hp.len]
 exact k _
theorem WD.callNew {Q : St → Prop} {d : Nat} {f : Opd} {args : List Opd} {ms : List Nat} {v : AV} {R : Hp} (h : ∀ V : Hp, V.length = H.length → WF Γ (f.ev T) (args.map (·.ev T)) ⟨V, L⟩ fun y m' => y = v ∧ m' = ⟨V ++ R, L⟩) (hs : ∀ e ∈ seen, e.2.2 ≤ H.length)
  (k : ∀ V, WD Γ rd ⟨pt T d v, H ++ R, L⟩ (seen ++ [(V, H.length, H.length + R.length)]) Q) : WD Γ (⟨⟨none, some d, .call f args⟩, ms⟩ :: rd) ⟨T, H, L⟩ seen Q := by
 have hp := PartL.strikes hs ms (PartL.refl H)
 refine WD.call rfl ((h _ hp.len).mono ?_)
 rintro y m' ⟨rfl, rfl⟩
 refine ⟨dead_app _ _, ?_⟩
 have e2 := hp.backApp R
 simp only [St.put, e2, List.length_append, hp.len]
 exact k _
theorem WD.calmN (n : Nat) {ops : List DOper} {s : St} {Q : St → Prop} (hc : (ops.take n).all Zz.calm = true) (h : WO Γ ((ops.take n).map (·.o)) s fun s' => ∀ seen', WD Γ (ops.drop n) s' seen' Q) : WD Γ ops s seen Q := by
 have := WD.calm (seen := seen) (rest := ops.drop n) hc h
 rwa [List.take_append_drop] at this
end
theorem onlyAt_get : ∀ (H : Hp) (j i : Nat), i ≠ j → (onlyAt H j)[i]? = if i < H.length then some none else none
 | [], _, _, _ => by simp [onlyAt]
 | h :: H, 0, i, hi => by
  cases i with
  | zero => exact absurd rfl hi
  | succ i => simp [onlyAt, blanks]; split <;> simp_all
 | h :: H, j + 1, i, hi => by
  cases i with
  | zero => simp [onlyAt]
  | succ i => simpa [onlyAt] using onlyAt_get H j i (by omega)
theorem strikeV_get : ∀ (X W : Hp) (i : Nat), (W[i]? = some none ∨ W[i]? = none) → (strikeV X W)[i]? = X[i]?
 | [], W, i, _ => by cases W <;> rfl
 | x :: X, [], i, _ => rfl
 | x :: X, some _ :: W, i, h => by
  cases i with
  | zero => simp at h
  | succ i => simpa [strikeV] using strikeV_get X W i (by simpa using h)
 | x :: X, none :: W, i, h => by
  cases i with
  | zero => simp [strikeV]
  | succ i => simpa [strikeV] using strikeV_get X W i (by simpa using h)
theorem strikeV_only {X H : Hp} {i j : Nat} (h : i ≠ j) : (strikeV X (onlyAt H j))[i]? = X[i]? := by
 apply strikeV_get
 rw [onlyAt_get H j i h]
 split
 ·exact .inl rfl
 ·exact .inr rfl
theorem back_setS : ∀ {H S : Hp} {id : Nat} {b b0 : Blk}, S.length = H.length → S[id]? = some (some b0) → back H (onlyAt S id) ((onlyAt S id).set id (some b)) = H.set id (some b)
 | [], [], id, _, _, _, h => by simp at h
 | [], _ :: _, _, _, _, h, _ => by simp at h
 | _ :: _, [], _, _, _, h, _ => by simp at h
 | h :: H, s :: S, 0, b, b0, e, hs => by
  simp at hs
  subst hs
  have e2 : blanks S = blanks H := blanks_of_len (by simpa using e)
  have := back_blanks H []
  simp only [List.append_nil] at this
  simp only [onlyAt, List.set_cons_zero, back, e2, this]
 | h :: H, s :: S, n + 1, b, b0, e, hs => by
  simp only [onlyAt, List.set_cons_succ, back]
  rw [back_setS (by simpa using e) (by simpa using hs)]
section
variable {Γ : Env} {T : List AV} {H : Hp} {L : List (Option ALoop)} {rd : List DOper} {seen : List (Hp × Nat × Nat)}
theorem WD.storeS {Q : St → Prop} {size id g off : Nat} {a x : Opd} {c l l' : List AV} {ms : List Nat} (ha : a.ev T = .pref id g off) (hx : (x.ev T).cells = some c) (hc : c.length = size) (hl : look H id g = some l) (ho : over l off c = some l')
  (hsv : (strikes H seen ms)[id]? = H[id]?) (hs : ∀ e ∈ seen, e.2.2 ≤ H.length) (k : ∀ W, WD Γ rd ⟨T, H.set id (some ⟨g, l'⟩), L⟩ (seen ++ [(W, H.length, H.length)]) Q) : WD Γ (⟨⟨none, none, .store size a x⟩, ms⟩ :: rd) ⟨T, H, L⟩ seen Q := by
 have hp := PartL.strikes hs ms (PartL.refl H)
 have hb := look_eq_iff.1 hl
 have hlS : look (strikes H seen ms) id g = some l := by rw [look_of_get hsv]; exact hl
 have hbS := look_eq_iff.1 hlS
 have hV : limit T (.store size a x) (strikes H seen ms) = onlyAt (strikes H seen ms) id := by simp only [limit, ha]
 refine WD.bigG (V := onlyAt (strikes H seen ms) id) (H' := (onlyAt (strikes H seen ms) id).set id (some ⟨g, l'⟩)) (H2 := H.set id (some ⟨g, l'⟩)) (v := und) (L' := L) rfl hV (fun call => ?_) (dead_set _ _ _ _ hbS) (back_setS hp.len hbS) rfl ?_
 ·rw [ev_store, ha]
  simp only [hx, Option.bind_some, if_pos hc, storeAt, look_onlyAt, hlS, ho, Option.bind_eq_bind, Option.map_some, setBlk]
 ·have e : ((onlyAt (strikes H seen ms) id).set id (some ⟨g, l'⟩)).length = H.length := by rw [List.length_set, onlyAt_len, hp.len]
  simp only [St.put, e]
  exact k _
end
theorem Rd.same {sz n m : Nat} {H H' : Hp} {x : AV} {l : List AV} {S : Nat → Prop} (h : Rd sz H x n l) (hs : Same H H' m S) (hx : ∀ id g o s k c, x = .sref id g o s k c → id < m ∧ ¬ S id) : Rd sz H' x n l := by
 obtain ⟨h1, h2, h3, h4⟩ := h
 refine ⟨h1, ?_, h3, h4⟩
 cases x <;> simp only [scells] at h2 ⊢ <;> first | exact h2 | skip
 rename_i id g off sz' n' cap
 obtain ⟨e1, e2⟩ := hx _ _ _ _ _ _ rfl
 rw [hs.look e1 e2]
 exact h2
end Go.Zz


namespace Go.Zz
section
variable {Γ : Env} {T : List AV} {H : Hp} {L : List (Option ALoop)} {rd : List DOper} {seen : List (Hp × Nat × Nat)}
end
end Go.Zz


namespace Go.Zz
section
variable {Γ : Env} {T : List AV} {H : Hp} {L : List (Option ALoop)} {rd : List DOper} {seen : List (Hp × Nat × Nat)}
end
end Go.Zz

