/-
  Steps: what a small code does, an operation at a time.
-/
import Derived.Test.YtpddngcgajjacaaAbs23
namespace Go.Zz

theorem mono_le (Γ : Env) {n k : Nat} (h : n ≤ k) : (∀ c s r, evC Γ n c s = some r → evC Γ k c s = some r) ∧ CallLe (fun f a m => evF Γ n f a m) (fun f a m => evF Γ k f a m) := by
  induction h with
  | refl => exact ⟨fun _ _ _ h => h, fun _ _ _ _ h => h⟩
  | step _ ih => exact ⟨fun c s r h => (mono Γ _).1 _ _ _ (ih.1 c s r h), fun f a m r h => (mono Γ _).2 _ _ _ _ (ih.2 f a m r h)⟩

/-- Operations run, and then Q. -/
structure WO (Γ : Env) (ops : List IOper) (s : St) (Q : St → Prop) : Prop where
  ex : ∃ n s', evOps (fun f a m => evF Γ n f a m) ops s = some s' ∧ Q s'
/-- A code runs, and then Q. -/
structure WC (Γ : Env) (c : IR) (s : St) (Q : Ex → St → Prop) : Prop where
  ex : ∃ n e s', evC Γ n c s = some (e, s') ∧ Q e s'
/-- A call returns, and then Q. -/
structure WF (Γ : Env) (f : AV) (args : List AV) (m : Mem) (Q : AV → Mem → Prop) : Prop where
  ex : ∃ n v m', evF Γ n f args m = some (v, m') ∧ Q v m'
/-- A region that draws its order. -/
structure WD (Γ : Env) (ops : List DOper) (s : St) (seen : List (Hp × Nat × Nat)) (Q : St → Prop) : Prop where
  ex : ∃ n s', evDraw (fun f a m => evF Γ n f a m) ops s seen = some s' ∧ Q s'

section
variable {Γ : Env} {r : List IOper} {rd : List DOper} {ms : List Nat} {seen : List (Hp × Nat × Nat)} {T : List AV} {H : Hp} {L : List (Option ALoop)}

theorem WO.mono {ops : List IOper} {s : St} {Q Q' : St → Prop} (h : WO Γ ops s Q) (hq : ∀ s', Q s' → Q' s') : WO Γ ops s Q' := by
  obtain ⟨n, s', h1, h2⟩ := h.ex; exact ⟨⟨n, s', h1, hq _ h2⟩⟩
theorem WC.mono {c : IR} {s : St} {Q Q' : Ex → St → Prop} (h : WC Γ c s Q) (hq : ∀ e s', Q e s' → Q' e s') : WC Γ c s Q' := by
  obtain ⟨n, e, s', h1, h2⟩ := h.ex; exact ⟨⟨n, e, s', h1, hq _ _ h2⟩⟩
theorem WF.mono {f : AV} {args : List AV} {m : Mem} {Q Q' : AV → Mem → Prop} (h : WF Γ f args m Q) (hq : ∀ v m', Q v m' → Q' v m') : WF Γ f args m Q' := by
  obtain ⟨n, v, m', h1, h2⟩ := h.ex; exact ⟨⟨n, v, m', h1, hq _ _ h2⟩⟩

theorem WO.nil {s : St} {Q : St → Prop} (h : Q s) : WO Γ [] s Q := ⟨⟨0, s, rfl, h⟩⟩
theorem WO.op {Q : St → Prop} {d : Nat} {op : IOp} {v : AV} {H' : Hp} {L' : List (Option ALoop)} (h : ∀ call, evOp call T ⟨H, L⟩ op = some (v, ⟨H', L'⟩)) (k : WO Γ r ⟨pt T d v, H', L'⟩ Q) : WO Γ (⟨none, some d, op⟩ :: r) ⟨T, H, L⟩ Q := by
  obtain ⟨n, s', h1, h2⟩ := k.ex
  exact ⟨⟨n, s', by simp only [evOps, wantedI, if_true, St.mem, h, St.put]; exact h1, h2⟩⟩
theorem WO.opN {Q : St → Prop} {op : IOp} {v : AV} {H' : Hp} {L' : List (Option ALoop)} (h : ∀ call, evOp call T ⟨H, L⟩ op = some (v, ⟨H', L'⟩)) (k : WO Γ r ⟨T, H', L'⟩ Q) : WO Γ (⟨none, none, op⟩ :: r) ⟨T, H, L⟩ Q := by
  obtain ⟨n, s', h1, h2⟩ := k.ex
  exact ⟨⟨n, s', by simp only [evOps, wantedI, if_true, St.mem, h, St.put]; exact h1, h2⟩⟩
theorem WO.callG {Q : St → Prop} {d : Option Nat} {f : Opd} {args : List Opd} (h : WF Γ (f.ev T) (args.map (·.ev T)) ⟨H, L⟩ fun v m' => WO Γ r (St.put ⟨T, H, L⟩ d v m') Q) : WO Γ (⟨none, d, .call f args⟩ :: r) ⟨T, H, L⟩ Q := by
  obtain ⟨n, v, m', h1, h2⟩ := h.ex
  obtain ⟨k, s', h3, h4⟩ := h2.ex
  refine ⟨⟨n + k, s', ?_, h4⟩⟩
  have h5 := (mono_le Γ (Nat.le_add_right n k)).2 _ _ _ _ h1
  simp only at h5
  simp only [evOps, wantedI, if_true, St.mem, evOp, h5]
  exact evOps_mono (mono_le Γ (Nat.le_add_left k n)).2 h3
theorem WO.call {Q : St → Prop} {d : Nat} {f : Opd} {args : List Opd} {fv : AV} {as : List AV} (hf : f.ev T = fv) (ha : args.map (·.ev T) = as) (h : WF Γ fv as ⟨H, L⟩ fun v m' => WO Γ r ⟨pt T d v, m'.heap, m'.loops⟩ Q) : WO Γ (⟨none, some d, .call f args⟩ :: r) ⟨T, H, L⟩ Q :=
  WO.callG (hf ▸ ha ▸ h)
theorem WO.yes {Q : St → Prop} {d : Option Nat} {op : IOp} {t : Nat} {b : Bool} (hg : gt T t = .bool b) (k : WO Γ (⟨none, d, op⟩ :: r) ⟨T, H, L⟩ Q) : WO Γ (⟨some (t, b), d, op⟩ :: r) ⟨T, H, L⟩ Q := by
  obtain ⟨n, s', h1, h2⟩ := k.ex
  refine ⟨⟨n, s', ?_, h2⟩⟩
  simp only [evOps, wantedI, hg, beq_self_eq_true, if_true] at h1 ⊢
  exact h1
theorem WO.no {Q : St → Prop} {d : Nat} {op : IOp} {t : Nat} {b : Bool} (hg : gt T t = .bool !b) (k : WO Γ r ⟨pt T d und, H, L⟩ Q) : WO Γ (⟨some (t, b), some d, op⟩ :: r) ⟨T, H, L⟩ Q := by
  obtain ⟨n, s', h1, h2⟩ := k.ex
  refine ⟨⟨n, s', ?_, h2⟩⟩
  simp only [evOps, wantedI, hg]
  rw [if_neg (by cases b <;> decide)]
  exact h1

theorem WD.nil {s : St} {Q : St → Prop} (h : Q s) : WD Γ [] s seen Q := ⟨⟨0, s, rfl, h⟩⟩
theorem WD.free {Q : St → Prop} {d : Nat} {op : IOp} {v : AV} {H' : Hp} {L' : List (Option ALoop)} (hf : freeOp op = true) (h : ∀ call, evOp call T ⟨H, L⟩ op = some (v, ⟨H', L'⟩)) (k : WD Γ rd ⟨pt T d v, H', L'⟩ (seen ++ [([], 0, 0)]) Q) :
    WD Γ (⟨⟨none, some d, op⟩, ms⟩ :: rd) ⟨T, H, L⟩ seen Q := by
  obtain ⟨n, s', h1, h2⟩ := k.ex
  exact ⟨⟨n, s', by simp only [evDraw, wantedI, if_true, hf, St.mem, h, St.put]; exact h1, h2⟩⟩
theorem WD.bigG {Q : St → Prop} {d : Option Nat} {op : IOp} {V : Hp} {v : AV} {H' H2 : Hp} {L' : List (Option ALoop)} {seen2 : List (Hp × Nat × Nat)} (hf : freeOp op = false) (hV : limit T op (strikes H seen ms) = V) (h : ∀ call, evOp call T ⟨V, L⟩ op = some (v, ⟨H', L'⟩))
    (hd : stillDead V H' = true) (hB : back H V H' = H2) (hS : seen ++ [(V, H.length, H'.length)] = seen2) (k : WD Γ rd (St.put ⟨T, H, L⟩ d v ⟨H2, L'⟩) seen2 Q) : WD Γ (⟨⟨none, d, op⟩, ms⟩ :: rd) ⟨T, H, L⟩ seen Q := by
  obtain ⟨n, s', h1, h2⟩ := k.ex
  subst hB; subst hS
  exact ⟨⟨n, s', by simp only [evDraw, wantedI, if_true, hf, Bool.false_eq_true, if_false, hV, h, hd]; exact h1, h2⟩⟩
theorem WD.call {Q : St → Prop} {d : Option Nat} {f : Opd} {args : List Opd} {V : Hp} {seen : List (Hp × Nat × Nat)} (hV : strikes H seen ms = V)
    (h : WF Γ (f.ev T) (args.map (·.ev T)) ⟨V, L⟩ fun v m' => stillDead V m'.heap = true ∧ WD Γ rd (St.put ⟨T, H, L⟩ d v ⟨back H V m'.heap, m'.loops⟩) (seen ++ [(V, H.length, m'.heap.length)]) Q) : WD Γ (⟨⟨none, d, .call f args⟩, ms⟩ :: rd) ⟨T, H, L⟩ seen Q := by
  obtain ⟨n, v, m', h1, hd, h2⟩ := h.ex
  obtain ⟨k, s', h3, h4⟩ := h2.ex
  subst hV
  refine ⟨⟨n + k, s', ?_, h4⟩⟩
  have h5 := (mono_le Γ (Nat.le_add_right n k)).2 _ _ _ _ h1
  simp only at h5
  simp only [evDraw, wantedI, if_true, freeOp, Bool.false_eq_true, if_false, limit, evOp, h5, hd]
  exact evDraw_mono (mono_le Γ (Nat.le_add_left k n)).2 h3
theorem WD.yes {Q : St → Prop} {d : Option Nat} {op : IOp} {t : Nat} {b : Bool} (hg : gt T t = .bool b) (k : WD Γ (⟨⟨none, d, op⟩, ms⟩ :: rd) ⟨T, H, L⟩ seen Q) : WD Γ (⟨⟨some (t, b), d, op⟩, ms⟩ :: rd) ⟨T, H, L⟩ seen Q := by
  obtain ⟨n, s', h1, h2⟩ := k.ex
  refine ⟨⟨n, s', ?_, h2⟩⟩
  simp only [evDraw, wantedI, hg, beq_self_eq_true, if_true] at h1 ⊢
  exact h1
theorem WD.no {Q : St → Prop} {d : Nat} {op : IOp} {t : Nat} {b : Bool} (hg : gt T t = .bool !b) (k : WD Γ rd ⟨pt T d und, H, L⟩ (seen ++ [([], 0, 0)]) Q) : WD Γ (⟨⟨some (t, b), some d, op⟩, ms⟩ :: rd) ⟨T, H, L⟩ seen Q := by
  obtain ⟨n, s', h1, h2⟩ := k.ex
  refine ⟨⟨n, s', ?_, h2⟩⟩
  simp only [evDraw, wantedI, hg]
  rw [if_neg (by cases b <;> decide)]
  exact h1

theorem WC.region {ops : List IOper} {s : St} {Q : Ex → St → Prop} (h : WO Γ ops s (fun s' => Q .normal s')) : WC Γ (.region ops) s Q := by
  obtain ⟨n, s', h1, h2⟩ := h.ex
  exact ⟨⟨n + 1, .normal, s', by simp [evC, h1], h2⟩⟩
theorem WC.draw {ops : List DOper} {s : St} {Q : Ex → St → Prop} (h : WD Γ ops s [] (fun s' => Q .normal s')) : WC Γ (.draw ops) s Q := by
  obtain ⟨n, s', h1, h2⟩ := h.ex
  exact ⟨⟨n + 1, .normal, s', by simp [evC, h1], h2⟩⟩
/-- What comes behind: on, or out. -/
def Then (Γ : Env) (b : IR) (Q : Ex → St → Prop) : Ex → St → Prop
  | .normal, s => WC Γ b s Q
  | e, s => Q e s
theorem WC.seq {a b : IR} {s : St} {Q : Ex → St → Prop} (h : WC Γ a s (Then Γ b Q)) : WC Γ (.seq a b) s Q := by
  obtain ⟨n, e, s', h1, h2⟩ := h.ex
  cases e with
  | normal =>
    obtain ⟨k, e2, s2, h3, h4⟩ := h2.ex
    refine ⟨⟨n + k + 1, e2, s2, ?_, h4⟩⟩
    rw [evC, (mono_le Γ (Nat.le_add_right n k)).1 _ _ _ h1]
    exact (mono_le Γ (Nat.le_add_left k n)).1 _ _ _ h3
  | exit id => exact ⟨⟨n + 1, .exit id, s', by rw [evC, h1], h2⟩⟩
  | ret => exact ⟨⟨n + 1, .ret, s', by rw [evC, h1], h2⟩⟩
theorem WC.loop {b : IR} {s : St} {Q : Ex → St → Prop} (h : WC Γ b s (Then Γ (.loop b) Q)) : WC Γ (.loop b) s Q := by
  obtain ⟨n, e, s', h1, h2⟩ := h.ex
  cases e with
  | normal =>
    obtain ⟨k, e2, s2, h3, h4⟩ := h2.ex
    refine ⟨⟨n + k + 1, e2, s2, ?_, h4⟩⟩
    rw [evC, (mono_le Γ (Nat.le_add_right n k)).1 _ _ _ h1]
    exact (mono_le Γ (Nat.le_add_left k n)).1 _ _ _ h3
  | exit id => exact ⟨⟨n + 1, .exit id, s', by rw [evC, h1], h2⟩⟩
  | ret => exact ⟨⟨n + 1, .ret, s', by rw [evC, h1], h2⟩⟩
theorem WC.yes {c : Opd} {a b : IR} {s : St} {Q : Ex → St → Prop} (hc : c.ev s.T = .bool true) (h : WC Γ a s Q) : WC Γ (.cond c a b) s Q := by
  obtain ⟨n, e, s', h1, h2⟩ := h.ex
  exact ⟨⟨n + 1, e, s', by rw [evC, hc]; exact h1, h2⟩⟩
theorem WC.no {c : Opd} {a b : IR} {s : St} {Q : Ex → St → Prop} (hc : c.ev s.T = .bool false) (h : WC Γ b s Q) : WC Γ (.cond c a b) s Q := by
  obtain ⟨n, e, s', h1, h2⟩ := h.ex
  exact ⟨⟨n + 1, e, s', by rw [evC, hc]; exact h1, h2⟩⟩
/-- Out of a block. -/
def Out (id : Nat) (Q : Ex → St → Prop) : Ex → St → Prop
  | .exit id', s => if id' = id then Q .normal s else Q (.exit id') s
  | e, s => Q e s
theorem WC.block {id : Nat} {b : IR} {s : St} {Q : Ex → St → Prop} (h : WC Γ b s (Out id Q)) : WC Γ (.block id b) s Q := by
  obtain ⟨n, e, s', h1, h2⟩ := h.ex
  cases e with
  | normal => exact ⟨⟨n + 1, .normal, s', by rw [evC, h1], h2⟩⟩
  | ret => exact ⟨⟨n + 1, .ret, s', by rw [evC, h1], h2⟩⟩
  | exit id' =>
    by_cases e0 : id' = id
    · simp only [Out, if_pos e0] at h2
      exact ⟨⟨n + 1, .normal, s', by rw [evC, h1]; simp [e0], h2⟩⟩
    · simp only [Out, if_neg e0] at h2
      exact ⟨⟨n + 1, .exit id', s', by rw [evC, h1]; simp [e0], h2⟩⟩
theorem WC.skip {s : St} {Q : Ex → St → Prop} (h : Q .normal s) : WC Γ .skip s Q := ⟨⟨1, _, s, rfl, h⟩⟩
theorem WC.ret {s : St} {Q : Ex → St → Prop} (h : Q .ret s) : WC Γ .ret s Q := ⟨⟨1, _, s, rfl, h⟩⟩
theorem WC.exit {id : Nat} {s : St} {Q : Ex → St → Prop} (h : Q (.exit id) s) : WC Γ (.exit id) s Q := ⟨⟨1, _, s, rfl, h⟩⟩

/-- The results, behind a body. -/
def Left (fn : IFunc) (Q : AV → Mem → Prop) (s : St) : Prop := ∃ l, evRes s.T s.heap fn.results = some l ∧ Q (oneRes l) s.mem
def Back (fn : IFunc) (Q : AV → Mem → Prop) : Ex → St → Prop
  | .normal, s | .ret, s => Left fn Q s
  | _, _ => False
theorem WF.fn {g : Nat} {a c args : List AV} {m : Mem} {fn : IFunc} {Q : AV → Mem → Prop} (hs : Γ.spec g = none) (hf : Γ.fn g = some fn) (hl : (a ++ args ++ c).length ≤ fn.ntmps) (h : WC Γ fn.body ⟨padTo fn.ntmps (a ++ args ++ c), m.heap, m.loops⟩ (Back fn Q)) : WF Γ (.func g a c) args m Q := by
  obtain ⟨n, e, s', h1, h2⟩ := h.ex
  cases e with
  | normal =>
    obtain ⟨l, h3, h4⟩ := h2
    exact ⟨⟨n + 1, oneRes l, s'.mem, by simp only [evF, hs, hf, if_pos hl, h1, h3, Option.map_some], h4⟩⟩
  | ret =>
    obtain ⟨l, h3, h4⟩ := h2
    exact ⟨⟨n + 1, oneRes l, s'.mem, by simp only [evF, hs, hf, if_pos hl, h1, h3, Option.map_some], h4⟩⟩
  | exit id => exact h2.elim
theorem WF.spec {g : Nat} {a c args : List AV} {m : Mem} {S : List AV → Mem → Option (AV × Mem)} {v : AV} {m' : Mem} {Q : AV → Mem → Prop} (hs : Γ.spec g = some S) (h : S (a ++ args ++ c) m = some (v, m')) (hq : Q v m') : WF Γ (.func g a c) args m Q :=
  ⟨⟨1, v, m', by simp [evF, hs, h, -List.append_assoc], hq⟩⟩
end

/-! ### Contracts that hold for some fuel -/

open Classical in
noncomputable def borrowE (Γ : Env) (g : Nat) (args : List AV) (m : Mem) : Option (AV × Mem) :=
  if h : ∃ r, ∃ n, borrowV Γ n g args m = some r then some h.choose else none

theorem borrowE_ok {P : Program} {Γ : Env} (hΓ : EnvOk P Γ) {g : Nat} (hg : Callable P g) : SpecOk P g (borrowE Γ g) := by
  refine ⟨hg, fun args m v mm hS => ?_⟩
  unfold borrowE at hS
  split at hS
  · rename_i h
    obtain ⟨n, hn⟩ := h.choose_spec
    have e := Option.some.inj hS
    rw [e] at hn
    exact (borrowV_ok hΓ (n := n) hg).2 args m v mm hn
  · cases hS

theorem borrowV_mono {Γ : Env} {n k g : Nat} (hk : n ≤ k) {args : List AV} {m : Mem} {r : AV × Mem} (h : borrowV Γ n g args m = some r) : borrowV Γ k g args m = some r := by
  unfold borrowV at h ⊢
  split at h
  · rename_i hp
    rw [if_pos hp]
    cases he : evF Γ n (.func g [] []) args ⟨[], []⟩ with
    | none => rw [he] at h; simp [byValue] at h
    | some q =>
      rw [he] at h
      have := (mono_le Γ hk).2 _ _ _ _ he
      simp only at this
      rw [this]
      exact h
  · cases h

/-- A contract, out of a run on an empty memory. -/
theorem borrowE_of {Γ : Env} {g : Nat} {args : List AV} {m : Mem} {v : AV} (hy : args.all pureA = true) (h : WF Γ (.func g [] []) args ⟨[], []⟩ fun y m' => resV m'.heap y = some v) : borrowE Γ g args m = some (v, m) := by
  obtain ⟨n, y, m', h1, h2⟩ := h.ex
  have hn : borrowV Γ n g args m = some (v, m) := by
    unfold borrowV
    rw [if_pos hy]
    simp only [h1, byValue, h2]
  have hex : ∃ r, ∃ n, borrowV Γ n g args m = some r := ⟨_, n, hn⟩
  unfold borrowE
  rw [dif_pos hex]
  obtain ⟨k, hk⟩ := hex.choose_spec
  have a1 := borrowV_mono (Nat.le_max_left n k) hn
  have a2 := borrowV_mono (Nat.le_max_right n k) hk
  rw [a1] at a2
  exact a2.symm

/-! ### The operations' equations -/

section
variable {call : AV → List AV → Mem → Option (AV × Mem)} {T : List AV} {m : Mem}
theorem ev_move {x : Opd} : evOp call T m (.move x) = (some (x.ev T, m)) := rfl
theorem ev_pick {c : Opd} {a : Opd} {b : Opd} : evOp call T m (.pick c a b) = (match c.ev T with | .bool t => some (if t then a.ev T else b.ev T, m) | _ => none) := rfl
theorem ev_alloc {zero : List AV} : evOp call T m (.alloc zero) = (some (.pref m.heap.length 0 0, newBlk m zero)) := rfl
theorem ev_box {x : Opd} : evOp call T m (.box x) = ((x.ev T).cells.map fun c => (.pref m.heap.length 0 0, newBlk m c)) := rfl
theorem ev_build {zero : List AV} {parts : List (Nat × Nat × Opd)} : evOp call T m (.build zero parts) = ((fillP T zero parts).map fun c => (.agg c, m)) := rfl
theorem ev_buildSlice {len : Nat} {sz : Nat} {zero : List AV} {parts : List (Nat × Nat × Opd)} : evOp call T m (.buildSlice len sz zero parts) = ((fillP T (zeros zero len) parts).map fun c => (.sref m.heap.length 0 0 sz len (some len), newBlk m c)) := rfl
theorem ev_load {agg : Bool} {size : Nat} {x : Opd} : evOp call T m (.load agg size x) = ((loadAV m.heap agg size (x.ev T)).map fun v => (v, m)) := rfl
theorem ev_store {size : Nat} {a : Opd} {x : Opd} : evOp call T m (.store size a x) = (match a.ev T with
    | .pref id g off => (x.ev T).cells.bind fun c => if c.length = size then (storeAt m.heap id g off c).map fun H => (und, ⟨H, m.loops⟩) else none
    | _ => none) := rfl
theorem ev_nilCheck {x : Opd} : evOp call T m (.nilCheck x) = ((nilCheckAV (x.ev T)).map fun v => (v, m)) := rfl
theorem ev_bin {op : BinOp} {x : Opd} {y : Opd} : evOp call T m (.bin op x y) = ((binAV op (x.ev T) (y.ev T)).map fun v => (v, m)) := rfl
theorem ev_beq {neg : Bool} {x : Opd} {y : Opd} : evOp call T m (.beq neg x y) = (match x.ev T, y.ev T with
    | .bool a, .bool b => some (.bool (if neg then !(a == b) else a == b), m)
    | _, _ => none) := rfl
theorem ev_aggEq {neg : Bool} {sg : List Bool} {x : Opd} {y : Opd} : evOp call T m (.aggEq neg sg x y) = (match x.ev T, y.ev T with
    | .agg a, .agg b => (cellsEq sg a b).map fun r => (.bool (if neg then !r else r), m)
    | _, _ => none) := rfl
theorem ev_nilEq {k : Nat} {neg : Bool} {x : Opd} {y : Opd} : evOp call T m (.nilEq k neg x y) = ((nilEqAV k (x.ev T) (y.ev T)).map fun r => (.bool (if neg then !r else r), m)) := rfl
theorem ev_un {op : UnOp} {x : Opd} : evOp call T m (.un op x) = ((unAV op (x.ev T)).map fun v => (v, m)) := rfl
theorem ev_conv {k : IntKind} {x : Opd} : evOp call T m (.conv k x) = (match x.ev T with | .int _ n => some (.int k (k.wrap n), m) | _ => none) := rfl
theorem ev_makeFunc {f : Nat} {first : List Opd} {cap : List Opd} : evOp call T m (.makeFunc f first cap) = (some (.func f (first.map (·.ev T)) (cap.map (·.ev T)), m)) := rfl
theorem ev_makeSlice {sz : Nat} {bytes : Nat} {zero : List AV} {l : Opd} {c : Opd} : evOp call T m (.makeSlice sz bytes zero l c) = (match l.ev T, c.ev T with
    | .int _ a, .int _ b => if 0 ≤ a ∧ a ≤ b ∧ b * bytes ≤ 70368744177664 ∧ b ≤ 70368744177664 then
        some (.sref m.heap.length 0 0 sz a.toNat (some b.toNat), newBlk m (zeros zero b.toNat)) else none
    | _, _ => none) := rfl
theorem ev_slice {sz : Nat} {x : Opd} {lo : Option Opd} {hi : Option Opd} {mx : Option Opd} : evOp call T m (.slice sz x lo hi mx) = ((sliceAV m.heap sz (x.ev T) (lo.map (·.ev T)) (hi.map (·.ev T)) (mx.map (·.ev T))).map fun v => (v, m)) := rfl
theorem ev_sliceArr {n : Nat} {sz : Nat} {x : Opd} {lo : Option Opd} {hi : Option Opd} {mx : Option Opd} : evOp call T m (.sliceArr n sz x lo hi mx) = ((sliceArrAV m.heap n sz (x.ev T) (lo.map (·.ev T)) (hi.map (·.ev T)) (mx.map (·.ev T))).map fun v => (v, m)) := rfl
theorem ev_fieldAddr {off : Nat} {x : Opd} : evOp call T m (.fieldAddr off x) = ((ptrAdd off (x.ev T)).map fun v => (v, m)) := rfl
theorem ev_field {agg : Bool} {off : Nat} {size : Nat} {x : Opd} : evOp call T m (.field agg off size x) = (match x.ev T with
    | .agg l => (loadCs agg size l off).map fun v => (v, m)
    | _ => none) := rfl
theorem ev_indexAddr {sz : Nat} {x : Opd} {i : Opd} : evOp call T m (.indexAddr sz x i) = ((indexAddrAV sz (x.ev T) (i.ev T)).map fun v => (v, m)) := rfl
theorem ev_indexAddrArr {n : Nat} {sz : Nat} {x : Opd} {i : Opd} : evOp call T m (.indexAddrArr n sz x i) = ((idx (i.ev T) n).bind fun j => (ptrAdd (j * sz) (x.ev T)).map fun v => (v, m)) := rfl
theorem ev_index {n : Nat} {agg : Bool} {sz : Nat} {x : Opd} {i : Opd} : evOp call T m (.index n agg sz x i) = (match x.ev T with
    | .agg l => (idx (i.ev T) n).bind fun j => (loadCs agg sz l (j * sz)).map fun v => (v, m)
    | _ => none) := rfl
theorem ev_extract {x : Opd} {i : Nat} : evOp call T m (.extract x i) = (match x.ev T with
    | .tuple l => l[i]?.map fun v => (v, m)
    | _ => none) := rfl
theorem ev_lenS {x : Opd} {n : Nat} (h : slen (x.ev T) = some n) : evOp call T m (.lenS x) = some (.int .i64 n, m) := by simp [evOp, h]
theorem ev_lenC {n : Nat} : evOp call T m (.lenC n) = (some (.int .i64 n, m)) := rfl
theorem ev_capS {x : Opd} : evOp call T m (.capS x) = ((capAV (x.ev T)).map fun v => (v, m)) := rfl
theorem ev_minmax {mx : Bool} {xs : List Opd} : evOp call T m (.minmax mx xs) = ((minmaxAV mx (xs.map (·.ev T))).map fun v => (v, m)) := rfl
theorem ev_append {sz : Nat} {bytes : Nat} {s : Opd} {x : Opd} : evOp call T m (.append sz bytes s x) = (appendAV sz bytes m (s.ev T) (x.ev T)) := rfl
theorem ev_copy {sz : Nat} {d : Opd} {x : Opd} : evOp call T m (.copy sz d x) = (copyAV sz m (d.ev T) (x.ev T)) := rfl
theorem ev_clear {u0 : Nat} {zero : List AV} {x : Opd} : evOp call T m (.clear u0 zero x) = ((clearAV zero m (x.ev T)).map fun m' => (und, m')) := rfl
end

end Go.Zz
