import Derived.Test.YtgchabldcnmccabDoorAbsF

namespace Go.Zz
theorem zck (Γ : Env) {n k : Nat} (h : n <= k) : (∀ c s r, evC Γ n c s = some r -> evC Γ k c s = some r) /\ ziK (fun f a m => evF Γ n f a m) (fun f a m => evF Γ k f a m) := by
 induction h with
 | refl => exact ⟨fun _ _ _ h => h, fun _ _ _ _ h => h⟩
 | step _ ih => exact ⟨fun c s r h => (mono Γ _).1 _ _ _ (ih.1 c s r h), fun f a m r h => (mono Γ _).2 _ _ _ _ (ih.2 f a m r h)⟩
structure WO (Γ : Env) (ops : List IOper) (s : St) (Q : St -> Prop) : Prop where
 ex : ∃ n s', zdD (fun f a m => evF Γ n f a m) ops s = some s' /\ Q s'
structure WC (Γ : Env) (c : IR) (s : St) (Q : Ex -> St -> Prop) : Prop where
 ex : ∃ n e s', evC Γ n c s = some (e, s') /\ Q e s'
structure WF (Γ : Env) (f : AV) (args : List AV) (m : Mem) (Q : AV -> Mem -> Prop) : Prop where
 ex : ∃ n v m', evF Γ n f args m = some (v, m') /\ Q v m'
structure WD (Γ : Env) (ops : List DOper) (s : St) (seen : List (Hp × Nat × Nat)) (Q : St -> Prop) : Prop where
 ex : ∃ n s', zbM (fun f a m => evF Γ n f a m) ops s seen = some s' /\ Q s'
section
variable {Γ : Env} {r : List IOper} {rd : List DOper} {ms : List Nat} {seen : List (Hp × Nat × Nat)} {T : List AV} {H : Hp} {L : List (Option ALoop)}
theorem WO.mono {ops : List IOper} {s : St} {Q Q' : St -> Prop} (h : WO Γ ops s Q) (hq : ∀ s', Q s' -> Q' s') : WO Γ ops s Q' := by
 obtain ⟨n, s', h1, h2⟩ := h.ex; exact ⟨⟨n, s', h1, hq _ h2⟩⟩
theorem WC.mono {c : IR} {s : St} {Q Q' : Ex -> St -> Prop} (h : WC Γ c s Q) (hq : ∀ e s', Q e s' -> Q' e s') : WC Γ c s Q' := by
 obtain ⟨n, e, s', h1, h2⟩ := h.ex; exact ⟨⟨n, e, s', h1, hq _ _ h2⟩⟩
theorem WF.mono {f : AV} {args : List AV} {m : Mem} {Q Q' : AV -> Mem -> Prop} (h : WF Γ f args m Q) (hq : ∀ v m', Q v m' -> Q' v m') : WF Γ f args m Q' := by
 obtain ⟨n, v, m', h1, h2⟩ := h.ex; exact ⟨⟨n, v, m', h1, hq _ _ h2⟩⟩
theorem zy3 {s : St} {Q : St -> Prop} (h : Q s) : WO Γ [] s Q := ⟨⟨0, s, rfl, h⟩⟩
theorem WO.op {Q : St -> Prop} {d : Nat} {op : IOp} {v : AV} {H' : Hp} {L' : List (Option ALoop)} (h : ∀ call, zaW call T ⟨H, L⟩ op = some (v, ⟨H', L'⟩)) (k : WO Γ r ⟨pt T d v, H', L'⟩ Q) : WO Γ (⟨none, some d, op⟩ :: r) ⟨T, H, L⟩ Q := by
 obtain ⟨n, s', h1, h2⟩ := k.ex;exact ⟨⟨n, s', by simp only [zdD, zaX, if_true, St.mem, h, St.put]; exact h1, h2⟩⟩
theorem zx2 {Q : St -> Prop} {op : IOp} {v : AV} {H' : Hp} {L' : List (Option ALoop)} (h : ∀ call, zaW call T ⟨H, L⟩ op = some (v, ⟨H', L'⟩)) (k : WO Γ r ⟨T, H', L'⟩ Q) : WO Γ (⟨none, none, op⟩ :: r) ⟨T, H, L⟩ Q := by
 obtain ⟨n, s', h1, h2⟩ := k.ex;exact ⟨⟨n, s', by simp only [zdD, zaX, if_true, St.mem, h, St.put]; exact h1, h2⟩⟩
theorem WO.callG {Q : St -> Prop} {d : Option Nat} {f : Opd} {args : List Opd} (h : WF Γ (f.ev T) (args.map (·.ev T)) ⟨H, L⟩ fun v m' => WO Γ r (St.put ⟨T, H, L⟩ d v m') Q) : WO Γ (⟨none, d, .call f args⟩ :: r) ⟨T, H, L⟩ Q := by
 obtain ⟨n, v, m', h1, h2⟩ := h.ex;obtain ⟨k, s', h3, h4⟩ := h2.ex;refine ⟨⟨n + k, s', ?_, h4⟩⟩;have h5 := (zck Γ (Nat.le_add_right n k)).2 _ _ _ _ h1;simp only at h5;simp only [zdD, zaX, if_true, St.mem, zaW, h5];exact zec (zck Γ (Nat.le_add_left k n)).2 h3
theorem WO.call {Q : St -> Prop} {d : Nat} {f : Opd} {args : List Opd} {fv : AV} {as : List AV} (hf : f.ev T = fv) (ha : args.map (·.ev T) = as) (h : WF Γ fv as ⟨H, L⟩ fun v m' => WO Γ r ⟨pt T d v, m'.heap, m'.loops⟩ Q) : WO Γ (⟨none, some d, .call f args⟩ :: r) ⟨T, H, L⟩ Q :=
 WO.callG (hf ▸ ha ▸ h)
theorem zx1 {Q : St -> Prop} {d : Option Nat} {op : IOp} {t : Nat} {b : Bool} (hg : gt T t = .bool b) (k : WO Γ (⟨none, d, op⟩ :: r) ⟨T, H, L⟩ Q) : WO Γ (⟨some (t, b), d, op⟩ :: r) ⟨T, H, L⟩ Q := by
 obtain ⟨n, s', h1, h2⟩ := k.ex;refine ⟨⟨n, s', ?_, h2⟩⟩;simp only [zdD, zaX, hg, beq_self_eq_true, if_true] at h1 ⊢;exact h1
theorem WD.nil {s : St} {Q : St -> Prop} (h : Q s) : WD Γ [] s seen Q := ⟨⟨0, s, rfl, h⟩⟩
theorem WD.free {Q : St -> Prop} {d : Nat} {op : IOp} {v : AV} {H' : Hp} {L' : List (Option ALoop)} (hf : za3 op = true) (h : ∀ call, zaW call T ⟨H, L⟩ op = some (v, ⟨H', L'⟩)) (k : WD Γ rd ⟨pt T d v, H', L'⟩ (seen ++ [([], 0, 0)]) Q) :
  WD Γ (⟨⟨none, some d, op⟩, ms⟩ :: rd) ⟨T, H, L⟩ seen Q := by
 obtain ⟨n, s', h1, h2⟩ := k.ex;exact ⟨⟨n, s', by simp only [zbM, zaX, if_true, hf, St.mem, h, St.put]; exact h1, h2⟩⟩
theorem WD.bigG {Q : St -> Prop} {d : Option Nat} {op : IOp} {V : Hp} {v : AV} {H' H2 : Hp} {L' : List (Option ALoop)} {seen2 : List (Hp × Nat × Nat)} (hf : za3 op = false) (hV : zbd T op (strikes H seen ms) = V) (h : ∀ call, zaW call T ⟨V, L⟩ op = some (v, ⟨H', L'⟩))
  (hd : zak V H' = true) (hB : back H V H' = H2) (hS : seen ++ [(V, H.length, H'.length)] = seen2) (k : WD Γ rd (St.put ⟨T, H, L⟩ d v ⟨H2, L'⟩) seen2 Q) : WD Γ (⟨⟨none, d, op⟩, ms⟩ :: rd) ⟨T, H, L⟩ seen Q := by
 obtain ⟨n, s', h1, h2⟩ := k.ex
 subst hB; subst hS
 exact ⟨⟨n, s', by simp only [zbM, zaX, if_true, hf, Bool.false_eq_true, if_false, hV, h, hd]; exact h1, h2⟩⟩
theorem WD.call {Q : St -> Prop} {d : Option Nat} {f : Opd} {args : List Opd} {V : Hp} {seen : List (Hp × Nat × Nat)} (hV : strikes H seen ms = V)
  (h : WF Γ (f.ev T) (args.map (·.ev T)) ⟨V, L⟩ fun v m' => zak V m'.heap = true /\ WD Γ rd (St.put ⟨T, H, L⟩ d v ⟨back H V m'.heap, m'.loops⟩) (seen ++ [(V, H.length, m'.heap.length)]) Q) : WD Γ (⟨⟨none, d, .call f args⟩, ms⟩ :: rd) ⟨T, H, L⟩ seen Q := by
 obtain ⟨n, v, m', h1, hd, h2⟩ := h.ex;obtain ⟨k, s', h3, h4⟩ := h2.ex;subst hV;refine ⟨⟨n + k, s', ?_, h4⟩⟩;have h5 := (zck Γ (Nat.le_add_right n k)).2 _ _ _ _ h1;simp only at h5;simp only [zbM, zaX, if_true, za3, Bool.false_eq_true, if_false, zbd, zaW, h5, hd];exact zcx (zck Γ (Nat.le_add_left k n)).2 h3
theorem WD.yes {Q : St -> Prop} {d : Option Nat} {op : IOp} {t : Nat} {b : Bool} (hg : gt T t = .bool b) (k : WD Γ (⟨⟨none, d, op⟩, ms⟩ :: rd) ⟨T, H, L⟩ seen Q) : WD Γ (⟨⟨some (t, b), d, op⟩, ms⟩ :: rd) ⟨T, H, L⟩ seen Q := by
 obtain ⟨n, s', h1, h2⟩ := k.ex;refine ⟨⟨n, s', ?_, h2⟩⟩;simp only [zbM, zaX, hg, beq_self_eq_true, if_true] at h1 ⊢;exact h1
theorem zy2 {ops : List IOper} {s : St} {Q : Ex -> St -> Prop} (h : WO Γ ops s (fun s' => Q .normal s')) : WC Γ (.region ops) s Q := by
 obtain ⟨n, s', h1, h2⟩ := h.ex;exact ⟨⟨n + 1, .normal, s', by simp [evC, h1], h2⟩⟩
theorem WC.draw {ops : List DOper} {s : St} {Q : Ex -> St -> Prop} (h : WD Γ ops s [] (fun s' => Q .normal s')) : WC Γ (.draw ops) s Q := by
 obtain ⟨n, s', h1, h2⟩ := h.ex;exact ⟨⟨n + 1, .normal, s', by simp [evC, h1], h2⟩⟩
def ztu (Γ : Env) (b : IR) (Q : Ex -> St -> Prop) : Ex -> St -> Prop
 | .normal, s => WC Γ b s Q
 | e, s => Q e s
theorem zy1 {a b : IR} {s : St} {Q : Ex -> St -> Prop} (h : WC Γ a s (ztu Γ b Q)) : WC Γ (.seq a b) s Q := by
 obtain ⟨n, e, s', h1, h2⟩ := h.ex
 cases e with
 | normal =>
  obtain ⟨k, e2, s2, h3, h4⟩ := h2.ex;refine ⟨⟨n + k + 1, e2, s2, ?_, h4⟩⟩;rw [evC, (zck Γ (Nat.le_add_right n k)).1 _ _ _ h1]
  exact (zck Γ (Nat.le_add_left k n)).1 _ _ _ h3
 | exit id => exact ⟨⟨n + 1, .exit id, s', by rw [evC, h1], h2⟩⟩
 | ret => exact ⟨⟨n + 1, .ret, s', by rw [evC, h1], h2⟩⟩
theorem WC.loop {b : IR} {s : St} {Q : Ex -> St -> Prop} (h : WC Γ b s (ztu Γ (.loop b) Q)) : WC Γ (.loop b) s Q := by
 obtain ⟨n, e, s', h1, h2⟩ := h.ex
 cases e with
 | normal =>
  obtain ⟨k, e2, s2, h3, h4⟩ := h2.ex;refine ⟨⟨n + k + 1, e2, s2, ?_, h4⟩⟩;rw [evC, (zck Γ (Nat.le_add_right n k)).1 _ _ _ h1]
  exact (zck Γ (Nat.le_add_left k n)).1 _ _ _ h3
 | exit id => exact ⟨⟨n + 1, .exit id, s', by rw [evC, h1], h2⟩⟩
 | ret => exact ⟨⟨n + 1, .ret, s', by rw [evC, h1], h2⟩⟩
theorem zy0 {c : Opd} {a b : IR} {s : St} {Q : Ex -> St -> Prop} (hc : c.ev s.T = .bool true) (h : WC Γ a s Q) : WC Γ (.cond c a b) s Q := by
 obtain ⟨n, e, s', h1, h2⟩ := h.ex;exact ⟨⟨n + 1, e, s', by rw [evC, hc]; exact h1, h2⟩⟩
theorem zy9 {c : Opd} {a b : IR} {s : St} {Q : Ex -> St -> Prop} (hc : c.ev s.T = .bool false) (h : WC Γ b s Q) : WC Γ (.cond c a b) s Q := by
 obtain ⟨n, e, s', h1, h2⟩ := h.ex;exact ⟨⟨n + 1, e, s', by rw [evC, hc]; exact h1, h2⟩⟩
def Out (id : Nat) (Q : Ex -> St -> Prop) : Ex -> St -> Prop
 | .exit id', s => if id' = id then Q .normal s else Q (.exit id') s
 | e, s => Q e s
theorem zy5 {id : Nat} {b : IR} {s : St} {Q : Ex -> St -> Prop} (h : WC Γ b s (Out id Q)) : WC Γ (.block id b) s Q := by
 obtain ⟨n, e, s', h1, h2⟩ := h.ex
 cases e with
 | normal => exact ⟨⟨n + 1, .normal, s', by rw [evC, h1], h2⟩⟩
 | ret => exact ⟨⟨n + 1, .ret, s', by rw [evC, h1], h2⟩⟩
 | exit id' =>
  by_cases e0 : id' = id
  ·simp only [Out, if_pos e0] at h2;exact ⟨⟨n + 1, .normal, s', by rw [evC, h1]; simp [e0], h2⟩⟩
  ·simp only [Out, if_neg e0] at h2;exact ⟨⟨n + 1, .exit id', s', by rw [evC, h1]; simp [e0], h2⟩⟩
theorem zy6 {s : St} {Q : Ex -> St -> Prop} (h : Q .normal s) : WC Γ .skip s Q := ⟨⟨1, _, s, rfl, h⟩⟩
theorem zy7 {s : St} {Q : Ex -> St -> Prop} (h : Q .ret s) : WC Γ .ret s Q := ⟨⟨1, _, s, rfl, h⟩⟩
theorem zy8 {id : Nat} {s : St} {Q : Ex -> St -> Prop} (h : Q (.exit id) s) : WC Γ (.exit id) s Q := ⟨⟨1, _, s, rfl, h⟩⟩
def Left (fn : IFunc) (Q : AV -> Mem -> Prop) (s : St) : Prop := ∃ l, zbZ s.T s.heap fn.results = some l /\ Q (zbo l) s.mem
def Back (fn : IFunc) (Q : AV -> Mem -> Prop) : Ex -> St -> Prop
 | .normal, s | .ret, s => Left fn Q s
 | _, _ => False
theorem WF.fn {g : Nat} {a c args : List AV} {m : Mem} {fn : IFunc} {Q : AV -> Mem -> Prop} (hs : Γ.spec g = none) (hf : Γ.fn g = some fn) (hl : (a ++ args ++ c).length <= fn.ntmps) (h : WC Γ fn.body ⟨zaw fn.ntmps (a ++ args ++ c), m.heap, m.loops⟩ (Back fn Q)) : WF Γ (.func g a c) args m Q := by
 obtain ⟨n, e, s', h1, h2⟩ := h.ex
 cases e with
 | normal =>
  obtain ⟨l, h3, h4⟩ := h2
  exact ⟨⟨n + 1, zbo l, s'.mem, by simp only [evF, hs, hf, if_pos hl, h1, h3, Option.map_some], h4⟩⟩
 | ret =>
  obtain ⟨l, h3, h4⟩ := h2
  exact ⟨⟨n + 1, zbo l, s'.mem, by simp only [evF, hs, hf, if_pos hl, h1, h3, Option.map_some], h4⟩⟩
 | exit id => exact h2.elim
theorem WF.spec {g : Nat} {a c args : List AV} {m : Mem} {S : List AV -> Mem -> Option (AV × Mem)} {v : AV} {m' : Mem} {Q : AV -> Mem -> Prop} (hs : Γ.spec g = some S) (h : S (a ++ args ++ c) m = some (v, m')) (hq : Q v m') : WF Γ (.func g a c) args m Q :=
 ⟨⟨1, v, m', by simp [evF, hs, h, -List.append_assoc], hq⟩⟩
end
open Classical in
noncomputable def zar (Γ : Env) (g : Nat) (args : List AV) (m : Mem) : Option (AV × Mem) :=
 if h : ∃ r, ∃ n, zds Γ n g args m = some r then some h.choose else none
theorem zax [Globs] {P : Program} {Γ : Env} (hΓ : EnvOk P Γ) {g : Nat} (hg : zbN P g) : zek P g (zar Γ g) := by
 refine ⟨hg, fun args m v mm hS => ?_⟩;unfold zar at hS
 split at hS
 ·rename_i h;obtain ⟨n, hn⟩ := h.choose_spec;have e := Option.some.inj hS;rw [e] at hn;exact (zlQ hΓ (n := n) hg).2 args m v mm hn
 ·cases hS
theorem zfQ {Γ : Env} {n k g : Nat} (hk : n <= k) {args : List AV} {m : Mem} {r : AV × Mem} (h : zds Γ n g args m = some r) : zds Γ k g args m = some r := by
 unfold zds at h ⊢
 split at h
 ·rename_i hp;rw [if_pos hp]
  cases he : evF Γ n (.func g [] []) args ⟨[], []⟩ with
  | none => rw [he] at h; simp [zh6] at h
  | some q =>
   rw [he] at h;have := (zck Γ hk).2 _ _ _ _ he;simp only at this;rw [this];exact h
 ·cases h
theorem zaB {Γ : Env} {g : Nat} {args : List AV} {m : Mem} {v : AV} (hy : args.all pureA = true) (h : WF Γ (.func g [] []) args ⟨[], []⟩ fun y m' => resV m'.heap y = some v) : zar Γ g args m = some (v, m) := by
 obtain ⟨n, y, m', h1, h2⟩ := h.ex
 have hn : zds Γ n g args m = some (v, m) := by
  unfold zds;rw [if_pos hy];simp only [h1, zh6, h2]
 have hex : ∃ r, ∃ n, zds Γ n g args m = some r := ⟨_, n, hn⟩
 unfold zar;rw [dif_pos hex];obtain ⟨k, hk⟩ := hex.choose_spec;have a1 := zfQ (Nat.le_max_left n k) hn;have a2 := zfQ (Nat.le_max_right n k) hk;rw [a1] at a2;exact a2.symm
section
variable {call : AV -> List AV -> Mem -> Option (AV × Mem)} {T : List AV} {m : Mem}
theorem zrF {x : Opd} : zaW call T m (.move x) = (some (x.ev T, m)) := rfl
theorem zq4 {c : Opd} {a : Opd} {b : Opd} : zaW call T m (.pick c a b) = (match c.ev T with | .bool t => some (if t then a.ev T else b.ev T, m) | _ => none) := rfl
theorem zf5 {zero : List AV} : zaW call T m (.alloc zero) = (some (.pref m.heap.length 0 0, zaM m zero)) := rfl
theorem zkZ {x : Opd} : zaW call T m (.box x) = ((x.ev T).cells.map fun c => (.pref m.heap.length 0 0, zaM m c)) := rfl
theorem zpo {zero : List AV} {parts : List (Nat × Nat × Opd)} : zaW call T m (.build zero parts) = ((zaZ T zero parts).map fun c => (.agg c, m)) := rfl
theorem zcp {len : Nat} {sz : Nat} {zero : List AV} {parts : List (Nat × Nat × Opd)} : zaW call T m (.buildSlice len sz zero parts) = ((zaZ T (za0 zero len) parts).map fun c => (.sref m.heap.length 0 0 sz len (some len), zaM m c)) := rfl
theorem zil {agg : Bool} {size : Nat} {x : Opd} : zaW call T m (.load agg size x) = ((zbQ m.heap agg size (x.ev T)).map fun v => (v, m)) := rfl
theorem zf3 {size : Nat} {a : Opd} {x : Opd} : zaW call T m (.store size a x) = (match a.ev T with
  | .pref id g off => (x.ev T).cells.bind fun c => if c.length = size then (storeAt m.heap id g off c).map fun H => (und, ⟨H, m.loops⟩) else none
  | _ => none) := rfl
theorem zkn {x : Opd} : zaW call T m (.nilCheck x) = ((zcZ (x.ev T)).map fun v => (v, m)) := rfl
theorem ziE {op : BinOp} {x : Opd} {y : Opd} : zaW call T m (.bin op x y) = ((zjy op (x.ev T) (y.ev T)).map fun v => (v, m)) := rfl
theorem ztr {neg : Bool} {x : Opd} {y : Opd} : zaW call T m (.beq neg x y) = (match x.ev T, y.ev T with
  | .bool a, .bool b => some (.bool (if neg then !(a == b) else a == b), m)
  | _, _ => none) := rfl
theorem zoL {neg : Bool} {sg : List Bool} {x : Opd} {y : Opd} : zaW call T m (.aggEq neg sg x y) = (match x.ev T, y.ev T with
  | .agg a, .agg b => (zaT sg a b).map fun r => (.bool (if neg then !r else r), m)
  | _, _ => none) := rfl
theorem zoU {k : Nat} {neg : Bool} {x : Opd} {y : Opd} : zaW call T m (.nilEq k neg x y) = ((zdx k (x.ev T) (y.ev T)).map fun r => (.bool (if neg then !r else r), m)) := rfl
theorem zoI {k : SOp} {xs : List Opd} : zaW call T m (.strOp k xs) = ((zb6 k (xs.map (·.ev T))).map fun v => (v, m)) := rfl
theorem ev_un {op : UnOp} {x : Opd} : zaW call T m (.un op x) = ((zr8 op (x.ev T)).map fun v => (v, m)) := rfl
theorem zqK {k : IntKind} {x : Opd} : zaW call T m (.conv k x) = (match x.ev T with | .int _ n => some (.int k (k.wrap n), m) | _ => none) := rfl
theorem zjW {f : Nat} {first : List Opd} {cap : List Opd} : zaW call T m (.makeFunc f first cap) = (some (.func f (first.map (·.ev T)) (cap.map (·.ev T)), m)) := rfl
theorem zbE {sz : Nat} {bytes : Nat} {zero : List AV} {l : Opd} {c : Opd} : zaW call T m (.makeSlice sz bytes zero l c) = (match l.ev T, c.ev T with
  | .int _ a, .int _ b => if 0 <= a /\ a <= b /\ b * bytes <= 70368744177664 /\ b <= 70368744177664 then
    some (.sref m.heap.length 0 0 sz a.toNat (some b.toNat), zaM m (za0 zero b.toNat)) else none
  | _, _ => none) := rfl
theorem ze0 {sz : Nat} {x : Opd} {lo : Option Opd} {hi : Option Opd} {mx : Option Opd} : zaW call T m (.slice sz x lo hi mx) = ((zaU m.heap sz (x.ev T) (lo.map (·.ev T)) (hi.map (·.ev T)) (mx.map (·.ev T))).map fun v => (v, m)) := rfl
theorem zgP {n : Nat} {sz : Nat} {x : Opd} {lo : Option Opd} {hi : Option Opd} {mx : Option Opd} : zaW call T m (.sliceArr n sz x lo hi mx) = ((zbz m.heap n sz (x.ev T) (lo.map (·.ev T)) (hi.map (·.ev T)) (mx.map (·.ev T))).map fun v => (v, m)) := rfl
theorem zjD {off : Nat} {x : Opd} : zaW call T m (.fieldAddr off x) = ((zdz off (x.ev T)).map fun v => (v, m)) := rfl
theorem zpx {agg : Bool} {off : Nat} {size : Nat} {x : Opd} : zaW call T m (.field agg off size x) = (match x.ev T with
  | .agg l => (za4 agg size l off).map fun v => (v, m)
  | _ => none) := rfl
theorem zja {sz : Nat} {x : Opd} {i : Opd} : zaW call T m (.indexAddr sz x i) = ((zaj sz (x.ev T) (i.ev T)).map fun v => (v, m)) := rfl
theorem zg8 {n : Nat} {sz : Nat} {x : Opd} {i : Opd} : zaW call T m (.indexAddrArr n sz x i) = ((idx (i.ev T) n).bind fun j => (zdz (j * sz) (x.ev T)).map fun v => (v, m)) := rfl
theorem zpm {n : Nat} {agg : Bool} {sz : Nat} {x : Opd} {i : Opd} : zaW call T m (.index n agg sz x i) = (match x.ev T with
  | .agg l => (idx (i.ev T) n).bind fun j => (za4 agg sz l (j * sz)).map fun v => (v, m)
  | _ => none) := rfl
theorem zma {x : Opd} {i : Nat} : zaW call T m (.extract x i) = (match x.ev T with
  | .tuple l => l[i]?.map fun v => (v, m)
  | _ => none) := rfl
theorem zaf {x : Opd} {n : Nat} (h : zcH (x.ev T) = some n) : zaW call T m (.lenS x) = some (.int .i64 n, m) := by simp [zaW, h]
theorem zl7 : zaW call T m .makeMap = (some (.mref m.loops.length, ⟨m.heap, m.loops ++ [some (zb3 [])]⟩)) := rfl
theorem zoq {kd : KK} {x k v : Opd} {i : Nat} {n : AV} {es : List AV} (hx : x.ev T = .mref i) (hk : k.ev T = n) (hof : kd.of n = true) (hm : m.loops[i]? = some (some (zb3 es))) (hs : zc2 kd es = true) :
  zaW call T m (.mapSet kd x k v) = (some (und, ⟨m.heap, m.loops.set i (some (zb3 (zff n (v.ev T) es)))⟩)) := by
 simp only [zaW, hx, hk, hm];rw [if_pos (show zcO (zb3 es) = true /\ kd.of n = true /\ zc2 kd (zb3 es).tmps = true from ⟨rfl, hof, hs⟩)];rfl
theorem zrX {n : Nat} : zaW call T m (.lenC n) = (some (.int .i64 n, m)) := rfl
theorem zrv {x : Opd} : zaW call T m (.capS x) = ((zhv (x.ev T)).map fun v => (v, m)) := rfl
theorem zm7 {mx : Bool} {xs : List Opd} : zaW call T m (.minmax mx xs) = ((zdh mx (xs.map (·.ev T))).map fun v => (v, m)) := rfl
theorem zlH {sz : Nat} {bytes : Nat} {z : List AV} {s : Opd} {x : Opd} : zaW call T m (.appendZ sz bytes z s x) = (zdT sz bytes z m (s.ev T) (x.ev T)) := rfl
theorem zbj {sz : Nat} {bytes : Nat} {s : Opd} {x : Opd} : zaW call T m (.append sz bytes s x) = (zaH sz bytes m (s.ev T) (x.ev T)) := rfl
theorem zqA {sz : Nat} {d : Opd} {x : Opd} : zaW call T m (.copy sz d x) = (zjc sz m (d.ev T) (x.ev T)) := rfl
theorem zpj {u0 : Nat} {zero : List AV} {x : Opd} : zaW call T m (.clear u0 zero x) = ((zdF zero m (x.ev T)).map fun m' => (und, m')) := rfl
end
end Go.Zz


namespace Go.Zz
theorem zcw : ∀ (H : Hp) (id g : Nat), look (zaV H id) id g = look H id g
 | [], _, _ => rfl
 | h :: H, 0, g => rfl
 | h :: H, n + 1, g => by
  have := zcw H n g;unfold look at this ⊢;simpa [zaV] using this
theorem zbn (H : Hp) : (za8 H).length = H.length := by simp [za8]
theorem zcC : ∀ (H l : Hp), zak (za8 H) (za8 H ++ l) = true
 | [], _ => rfl
 | h :: H, l => by simpa [za8, zak] using zcC H l
theorem zbq : ∀ (H l : Hp), back H (za8 H) (za8 H ++ l) = H ++ l
 | [], l => by cases l <;> rfl
 | h :: H, l => by
  have := zbq H l;simp only [za8, List.map_cons, List.cons_append, back] at this ⊢;rw [this]
theorem zby : ∀ (V : Hp), zak V V = true
 | [] => rfl
 | none :: V => by simpa [zak] using zby V
 | some _ :: V => by simpa [zak] using zby V
theorem zeT : ∀ (H : Hp) (id : Nat), back H (zaV H id) (zaV H id) = H
 | [], _ => rfl
 | h :: H, 0 => by
  have := zbq H [];simp only [List.append_nil] at this;simp only [zaV, back, this]
  cases h <;> rfl
 | h :: H, n + 1 => by simp only [zaV, back, zeT H n]
theorem zlu : ∀ (H : Hp) (id : Nat) (b : Blk) (b0 : Blk), H[id]? = some (some b0) -> zak (zaV H id) ((zaV H id).set id (some b)) = true
 | [], _, _, _, h => by simp at h
 | h :: H, 0, b, b0, e => by
  simp at e;subst e
  simpa [zaV, zak] using zby (za8 H)
 | h :: H, n + 1, b, b0, e => by
  simp only [zaV, List.set_cons_succ, zak];exact zlu H n b b0 (by simpa using e)
theorem zkN : ∀ (H : Hp) (id : Nat) (b : Blk) (b0 : Blk), H[id]? = some (some b0) -> back H (zaV H id) ((zaV H id).set id (some b)) = H.set id (some b)
 | [], _, _, _, h => by simp at h
 | h :: H, 0, b, b0, e => by
  simp at e;subst e;have := zbq H [];simp only [List.append_nil] at this
  simp only [zaV, List.set_cons_zero, back, this]
 | h :: H, n + 1, b, b0, e => by
  simp only [zaV, List.set_cons_succ, back];rw [zkN H n b b0 (by simpa using e)]
theorem ze3 {H : Hp} {id g : Nat} {l : List AV} (h : look H id g = some l) : ∃ b : Blk, H[id]? = some (some b) := by
 unfold look at h
 split at h
 ·exact ⟨_, by assumption⟩
 ·cases h
def zb2 : IOp -> Bool
 | .load .. | .store .. | .slice .. | .alloc _ | .box _ | .buildSlice .. | .makeSlice .. => true
 | op => za3 op
theorem zoy {call : AV -> List AV -> Mem -> Option (AV × Mem)} {T : List AV} {H H' : Hp} {L L' : List (Option ALoop)} {op : IOp} {v : AV} (hc : zb2 op = true) (hf : za3 op = false) (h : zaW call T ⟨H, L⟩ op = some (v, ⟨H', L'⟩)) :
  ∃ H2, zaW call T ⟨zbd T op H, L⟩ op = some (v, ⟨H2, L'⟩) /\ zak (zbd T op H) H2 = true /\ back H (zbd T op H) H2 = H' := by
 cases op <;> first | (simp [zb2, hf] at hc; done) | skip
 case alloc z =>
  simp only [zf5, zaM, Option.some.injEq, Prod.mk.injEq, Mem.mk.injEq] at h;obtain ⟨rfl, rfl, rfl⟩ := h;exact ⟨_, by simp only [zf5, zaM, zbd, zbn], zcC H _, zbq H _⟩
 case box x =>
  simp only [zkZ, zaM, Option.map_eq_some_iff, Prod.mk.injEq, Mem.mk.injEq] at h;obtain ⟨c, h1, rfl, rfl, rfl⟩ := h;exact ⟨_, by simp only [zkZ, zaM, zbd, zbn, h1, Option.map_some], zcC H _, zbq H _⟩
 case buildSlice len sz zero parts =>
  simp only [zcp, zaM, Option.map_eq_some_iff, Prod.mk.injEq, Mem.mk.injEq] at h;obtain ⟨c, h1, rfl, rfl, rfl⟩ := h;exact ⟨_, by simp only [zcp, zaM, zbd, zbn, h1, Option.map_some], zcC H _, zbq H _⟩
 case makeSlice sz bytes zero l c =>
  rw [zbE] at h
  split at h
  ·rename_i a b ha hb
   split at h
   ·rename_i hcond;simp only [zaM, Option.some.injEq, Prod.mk.injEq, Mem.mk.injEq] at h;obtain ⟨rfl, rfl, rfl⟩ := h;refine ⟨_, ?_, zcC H _, zbq H _⟩;rw [zbE, ha, hb];simp only [if_pos hcond, zaM, zbd, zbn]
   ·cases h
  ·cases h
 case load agg size x =>
  simp only [zil, Option.map_eq_some_iff, Prod.mk.injEq, Mem.mk.injEq] at h;obtain ⟨c, h1, rfl, rfl, rfl⟩ := h;refine ⟨zbd T (.load agg size x) H, ?_, zby _, ?_⟩
  ·rw [zil]
   cases hx : x.ev T <;> simp only [hx, zbQ] at h1 <;> first | (cases h1; done) | skip
   ·simp only [zbQ, zbd, hx, zcw, h1, Option.map_some]
   ·simp only [zbQ, h1, Option.map_some]
  ·cases hx : x.ev T <;> simp only [zbd, hx] <;> first | exact zeT H _ | (have := zbq H []; simpa using this)
 case store size a x =>
  rw [zf3] at h
  split at h
  ·rename_i id g off ha;simp only [Option.bind_eq_some_iff] at h;obtain ⟨c, h1, h⟩ := h
   split at h
   ·rename_i hl;simp only [Option.map_eq_some_iff, Prod.mk.injEq, Mem.mk.injEq] at h;obtain ⟨H1, h2, rfl, rfl, rfl⟩ := h;unfold storeAt at h2;simp only [Option.bind_eq_bind, Option.bind_eq_some_iff, Option.some.injEq] at h2;obtain ⟨l, h3, l', h4, rfl⟩ := h2;obtain ⟨b, hb⟩ := ze3 h3;refine ⟨zat (zaV H id) id g l', ?_, ?_, ?_⟩
    ·rw [zf3, ha];simp only [h1, Option.bind_some, if_pos hl, storeAt, zbd, ha, zcw, h3, h4, Option.bind_eq_bind, Option.map_some]
    ·simp only [zbd, ha];exact zlu H id _ b hb
    ·simp only [zbd, ha];exact zkN H id _ b hb
   ·cases h
  ·cases h
 case slice sz x lo hi mx =>
  simp only [ze0, Option.map_eq_some_iff, Prod.mk.injEq, Mem.mk.injEq] at h;obtain ⟨c, h1, rfl, rfl, rfl⟩ := h;refine ⟨zbd T (.slice sz x lo hi mx) H, ?_, zby _, ?_⟩
  ·rw [ze0]
   cases hx : x.ev T <;> simp only [hx, zaU] at h1 <;> first | (cases h1; done) | skip
   ·simp only [zaU, h1, Option.map_some]
   ·simp only [zaU, h1, Option.map_some]
   ·rename_i id g off sz' n cap
    cases hi with
    | none =>
     simp only [Option.map_none, Option.isSome_none, Bool.and_false, Bool.false_eq_true, if_false] at h1
     simp only [zaU, Option.map_none, Option.isSome_none, Bool.and_false, Bool.false_eq_true, if_false, h1, Option.map_some]
    | some hi =>
     have e : zqk (zaV H id) sz id g off n = zqk H sz id g off n := by unfold zqk; rw [zcw]
     have h0 : zaU (zaV H id) sz (.sref id g off sz' n cap) (lo.map (·.ev T)) ((some hi).map (·.ev T)) (mx.map (·.ev T)) = some c := by
      simp only [zaU, e];exact h1
     have eL : zbd T (.slice sz x lo (some hi) mx) H = zaV H id := by simp only [zbd, hx]
     rw [eL, h0];rfl
  ·cases hi with
   | none =>
    have := zbq H []
    simpa [zbd] using this
   | some hi => cases hx : x.ev T <;> simp only [zbd, hx] <;> first | exact zeT H _ | (have := zbq H []; simpa using this)
def calm (d : DOper) : Bool := d.ms.isEmpty && zb2 d.o.op
theorem zgk {c c' : AV -> List AV -> Mem -> Option (AV × Mem)} {T : List AV} {m : Mem} {op : IOp} (h : zb2 op = true) : zaW c T m op = zaW c' T m op := by
 cases op <;> first | rfl | (simp [zb2, za3] at h; done)
theorem zeV {call : AV -> List AV -> Mem -> Option (AV × Mem)} : ∀ (a rest : List DOper) (s s' : St) (seen : List (Hp × Nat × Nat)), a.all calm = true -> zdD call (a.map (·.o)) s = some s' -> ∃ seen', ∀ call', zbM call' (a ++ rest) s seen = zbM call' rest s' seen'
 | [], rest, s, s', seen, _, h => by
  simp only [List.map_nil, zdD, Option.some.injEq] at h;subst h
  exact ⟨seen, fun _ => rfl⟩
 | d :: a, rest, s, s', seen, hc, h => by
  simp only [List.all_cons, Bool.and_eq_true] at hc;simp only [List.map_cons, zdD] at h;simp only [List.cons_append, zbM]
  by_cases hw : zaX s.T d.o.guard = true
  ·simp only [if_pos hw] at h ⊢
   have hcd : d.ms = [] /\ zb2 d.o.op = true := by
    have := hc.1;unfold calm at this;simpa using this
   cases hev : zaW call s.T s.mem d.o.op with
   | none => rw [hev] at h; cases h
   | some q =>
    obtain ⟨v, m'⟩ := q;rw [hev] at h;simp only at h
    by_cases hf : za3 d.o.op = true
    ·simp only [if_pos hf];obtain ⟨seen', ih⟩ := zeV a rest _ _ (seen ++ [([], 0, 0)]) hc.2 h;refine ⟨seen', fun call' => ?_⟩;rw [zgk (c := call') (c' := call) hcd.2, hev];exact ih call'
    ·simp only [if_neg hf];obtain ⟨m1, m2⟩ := m';obtain ⟨H2, g1, g2, g3⟩ := zoy hcd.2 (by simpa using hf) hev;obtain ⟨seen', ih⟩ := zeV a rest _ _ (seen ++ [(zbd s.T d.o.op s.heap, s.heap.length, H2.length)]) hc.2 h;refine ⟨seen', fun call' => ?_⟩;rw [hcd.1];simp only [strikes, zgk (c := call') (c' := call) hcd.2, g1, g2, if_true, g3];exact ih call'
  ·simp only [if_neg hw] at h ⊢;exact zeV a rest _ _ _ hc.2 h
section
variable {Γ : Env}
theorem WD.calm {a rest : List DOper} {s : St} {seen : List (Hp × Nat × Nat)} {Q : St -> Prop} (hc : a.all Zz.calm = true) (h : WO Γ (a.map (·.o)) s fun s' => ∀ seen', WD Γ rest s' seen' Q) : WD Γ (a ++ rest) s seen Q := by
 obtain ⟨n, s', h1, h2⟩ := h.ex;obtain ⟨seen', e⟩ := zeV a rest s s' seen hc h1;obtain ⟨k, s2, h3, h4⟩ := (h2 seen').ex;exact ⟨⟨k, s2, by rw [e]; exact h3, h4⟩⟩
theorem zx5 {ops : List DOper} {s : St} {Q : Ex -> St -> Prop} (hc : ops.all Zz.calm = true) (h : WO Γ (ops.map (·.o)) s (fun s' => Q .normal s')) : WC Γ (.draw ops) s Q := by
 refine WC.draw ?_;have := WD.calm (rest := []) (seen := []) (Q := fun s' => Q .normal s') hc (h.mono fun s' hs seen' => WD.nil hs);simpa using this
end
end Go.Zz


namespace Go.Zz
theorem zah {H : Hp} {id g : Nat} {l : List AV} (h : look H id g = some l) : id < H.length := by
 obtain ⟨b, hb⟩ := ze3 h;exact (List.getElem?_eq_some_iff.1 hb).1
theorem zaC {H : Hp} {id g : Nat} {l : List AV} : look H id g = some l ↔ H[id]? = some (some ⟨g, l⟩) := by
 unfold look
 constructor
 ·intro h
  split at h
  ·rename_i b hb
   split at h
   ·rename_i hg;rw [hb]
    cases b
    simp only at hg h
    cases h
    subst hg;rfl
   ·cases h
  ·cases h
 ·intro h;rw [h];simp
theorem zap {H R : Hp} {id g : Nat} (h : id < H.length) : look (H ++ R) id g = look H id g := by
 unfold look;rw [List.getElem?_append_left h]
theorem zad {H H' : Hp} {id g : Nat} (h : H'[id]? = H[id]?) : look H' id g = look H id g := by
 unfold look;rw [h]
theorem zaJ {H : Hp} {id g : Nat} {l : List AV} (h : id < H.length) : look (H.set id (some ⟨g, l⟩)) id g = some l := by
 unfold look;simp [h]
theorem zoT {H R : Hp} {id : Nat} {b : Option Blk} (h : id < H.length) : (H ++ R).set id b = H.set id b ++ R := by
 rw [List.set_append];simp [h]
theorem zcM {C : List AV} {o : Nat} {x : AV} (h : o < C.length) : over C o [x] = some (C.set o x) := by
 unfold over;rw [if_pos (by simp; omega), List.set_eq_take_append_cons_drop];simp [h]
structure Same (H H' : Hp) (n : Nat) (S : Nat -> Prop) : Prop where
 len : H.length <= H'.length
 old : ∀ id, id < n -> ¬ S id -> H'[id]? = H[id]?
 dead : ∀ id : Nat, H[id]? = some none -> H'[id]? = some none
theorem Same.look {H H' : Hp} {n : Nat} {S : Nat -> Prop} (h : Same H H' n S) {id g : Nat} (hi : id < n) (hs : ¬ S id) : Zz.look H' id g = Zz.look H id g := zad (h.old id hi hs)
def Rd (sz : Nat) (H : Hp) (x : AV) (n : Nat) (l : List AV) : Prop := zcH x = some n /\ scells H sz x = some l /\ l.length = n * sz /\ (∀ k g o s c cap, x = .sref k g o s c cap -> s = sz)
theorem zrJ {l c : List AV} {off n : Nat} (h : cut l off n = some c) : c.length = n /\ off + n <= l.length /\ c = (l.drop off).take n := by
 unfold cut at h
 split at h
 ·cases h
  refine ⟨by simp; omega, by assumption, rfl⟩
 ·cases h
theorem Rd.at {sz : Nat} {H : Hp} {x : AV} {n : Nat} {l : List AV} (h : Rd sz H x n l) {i : Nat} (hi : i < n) (hsz : 0 < sz) :
  ∃ p, zaj sz x (.int .i64 (i : Int)) = some p /\ ∀ (o : Nat), o < sz -> ∃ q, zdz o p = some q /\ zbQ H false 1 q = l[i * sz + o]? /\ zbQ H true sz p = some (.agg ((l.drop (i * sz)).take sz)) := by
 obtain ⟨h1, h2, h3, h4⟩ := h
 have hb : i * sz + sz <= l.length := by
  rw [h3];have : (i + 1) * sz <= n * sz := Nat.mul_le_mul_right _ hi;rw [Nat.succ_mul] at this;exact this
 cases x with
 | snil => simp [zcH] at h1; omega
 | sval full n' l' =>
  simp only [zcH, Option.some.injEq] at h1;subst h1;simp only [scells] at h2
  split at h2
  ·cases h2
   refine ⟨.pval (l.drop (i * sz)), ?_, fun o ho => ⟨.pval ((l.drop (i * sz)).drop o), rfl, ?_, ?_⟩⟩
   ·simp only [zaj, idx];rw [if_pos ⟨by omega, by omega⟩];simp
   ·simp only [zbQ, za4, List.drop_drop];simp [List.getElem?_drop]
   ·simp only [zbQ, za4, cut];simp;omega
  ·cases h2
 | sref id g off sz' n' cap =>
  simp only [zcH, Option.some.injEq] at h1;subst h1;have e := h4 _ _ _ _ _ _ rfl;subst e;simp only [scells, if_true, Option.bind_eq_some_iff] at h2;obtain ⟨L, hL, hc⟩ := h2;obtain ⟨c1, c2, c3⟩ := zrJ hc
  have hb2 : off + (i * sz' + sz') <= L.length := by omega
  refine ⟨.pref id g (off + i * sz'), ?_, fun o ho => ⟨.pref id g (off + i * sz' + o), rfl, ?_, ?_⟩⟩
  ·simp only [zaj, if_true, idx];rw [if_pos ⟨by omega, by omega⟩];simp
  ·simp only [zbQ, hL, Option.bind_some, za4, Bool.false_eq_true, if_false];rw [c3, List.getElem?_take, if_pos (by omega), List.getElem?_drop];simp [Nat.add_assoc]
  ·simp only [zbQ, hL, Option.bind_some, za4, cut];simp only [if_true];rw [if_pos (by omega)];simp only [Option.map_some, Option.some.injEq, AV.agg.injEq];rw [c3, List.drop_take, List.take_take, List.drop_drop]
   congr 1
   omega
 | _ => simp [zcH] at h1
theorem zhb : ∀ {H H' : Hp}, zak H H' = true -> back H H H' = H'
 | [], H', _ => by cases H' <;> rfl
 | none :: H, none :: H', h => by
  simp only [zak] at h
  simp only [back, zhb h]
 | some _ :: H, h' :: H', h => by
  simp only [zak] at h
  simp only [back, zhb h]
 | none :: H, some _ :: H', h => by simp [zak] at h
 | none :: H, [], h => by simp [zak] at h
 | some _ :: H, [], h => by simp [zak] at h
theorem zcK : ∀ (H R : Hp), zak H (H ++ R) = true
 | [], _ => rfl
 | none :: H, R => by simpa [zak] using zcK H R
 | some _ :: H, R => by simpa [zak] using zcK H R
theorem zdN : ∀ {H : Hp} {f : Nat} {b0 b : Blk}, H[f]? = some (some b0) -> ∀ R, zak H (H.set f (some b) ++ R) = true
 | [], f, _, _, h, _ => by simp at h
 | h :: H, 0, b0, b, e, R => by
  simp at e;subst e
  simpa [zak] using zcK H R
 | none :: H, f + 1, b0, b, e, R => by
  simp only [List.set_cons_succ, List.cons_append, zak]
  exact zdN (by simpa using e) R
 | some _ :: H, f + 1, b0, b, e, R => by
  simp only [List.set_cons_succ, List.cons_append, zak];exact zdN (by simpa using e) R
section
variable {Γ : Env} {T : List AV} {H : Hp} {L : List (Option ALoop)} {rd : List DOper} {seen : List (Hp × Nat × Nat)}
theorem WD.callP {Q : St -> Prop} {d : Option Nat} {f : Opd} {args : List Opd} (h : WF Γ (f.ev T) (args.map (·.ev T)) ⟨H, L⟩ fun v m' => zak H m'.heap = true /\ ∀ seen2, WD Γ rd (St.put ⟨T, H, L⟩ d v ⟨m'.heap, m'.loops⟩) seen2 Q) :
  WD Γ (⟨⟨none, d, .call f args⟩, []⟩ :: rd) ⟨T, H, L⟩ seen Q :=
 WD.call (V := H) rfl (h.mono fun v m' hv => ⟨hv.1, by rw [zhb hv.1]; exact hv.2 _⟩)
end
end Go.Zz


namespace Go.Zz
theorem zcq : ∀ (H : Hp) (i : Nat), (zaV H i).length = H.length
 | [], _ => rfl
 | _ :: H, 0 => by simp [zaV, za8]
 | _ :: H, n + 1 => by simp [zaV, zcq H n]
theorem zdo : ∀ {X H : Hp}, X.length = H.length -> za8 X = za8 H
 | [], [], _ => rfl
 | x :: X, h :: H, e => by
  have := zdo (X := X) (H := H) (by simpa using e)
  simpa [za8] using this
 | [], _ :: _, e => by simp at e
 | _ :: _, [], e => by simp at e
inductive PartL : Hp -> Hp -> Prop
 | nil : PartL [] []
 | none (h : Option Blk) {V H : Hp} (k : PartL V H) : PartL (none :: V) (h :: H)
 | same (h : Option Blk) {V H : Hp} (k : PartL V H) : PartL (h :: V) (h :: H)
theorem PartL.refl : ∀ H : Hp, PartL H H
 | [] => .nil
 | h :: H => .same h (PartL.refl H)
theorem PartL.len {V H : Hp} (h : PartL V H) : V.length = H.length := by
 induction h with
 | nil => rfl
 | none h k ih => simp [ih]
 | same h k ih => simp [ih]
theorem PartL.back {V H : Hp} (h : PartL V H) : back H V V = H := by
 induction h with
 | nil => rfl
 | none h k ih => simp only [Zz.back, ih]
 | same h k ih => cases h <;> simp only [Zz.back, ih]
theorem PartL.backApp {V H : Hp} (h : PartL V H) (R : Hp) : Zz.back H V (V ++ R) = H ++ R := by
 induction h with
 | nil => cases R <;> rfl
 | none h k ih => simp only [List.cons_append, Zz.back, ih]
 | same h k ih => cases h <;> simp only [List.cons_append, Zz.back, ih]
theorem PartL.strikeV {V H : Hp} (h : PartL V H) : ∀ W : Hp, PartL (strikeV V W) H := by
 induction h with
 | nil => intro W; cases W <;> exact .nil
 | none h k ih =>
  intro W
  cases W with
  | nil => exact .none h k
  | cons w W => cases w <;> exact .none h (ih W)
 | same h k ih =>
  intro W
  cases W with
  | nil => exact .same h k
  | cons w W => cases w <;> first | exact .same h (ih W) | exact .none h (ih W)
theorem PartL.strike0 {V H : Hp} (h : PartL V H) : ∀ b, b <= V.length -> PartL (List.replicate b Option.none ++ V.drop b) H := by
 induction h with
 | nil =>
  intro b hb
  have : b = 0 := by simpa using hb
  subst this
  exact .nil
 | none h k ih =>
  intro b hb
  cases b with
  | zero => exact .none h (by simpa using k)
  | succ b => simpa [List.replicate_succ] using PartL.none h (ih b (by simpa using hb))
 | same h k ih =>
  intro b hb
  cases b with
  | zero => exact .same h (by simpa using k)
  | succ b => simpa [List.replicate_succ] using PartL.none h (ih b (by simpa using hb))
theorem PartL.strike {V H : Hp} (h : PartL V H) : ∀ a b, b <= V.length -> PartL (strike V a b) H := by
 intro a b hb;unfold Zz.strike
 split
 ·rename_i hab
  induction h generalizing a b with
  | nil => simp at hb; omega
  | none h k ih =>
   cases a with
   | zero => simpa using PartL.strike0 (.none h k) b hb
   | succ a =>
    cases b with
    | zero => omega
    | succ b => simpa using PartL.none h (ih a b (by simpa using hb) (by omega))
  | same h k ih =>
   cases a with
   | zero => simpa using PartL.strike0 (.same h k) b hb
   | succ a =>
    cases b with
    | zero => omega
    | succ b => simpa using PartL.same h (ih a b (by simpa using hb) (by omega))
 ·exact h
theorem PartL.strikes {H : Hp} {seen : List (Hp × Nat × Nat)} (hs : ∀ e ∈ seen, e.2.2 <= H.length) : ∀ (ms : List Nat) {V : Hp}, PartL V H -> PartL (strikes V seen ms) H
 | [], V, h => h
 | i :: r, V, h => by
  unfold Zz.strikes
  cases he : seen[i]? with
  | none => exact PartL.strikes hs r h
  | some e =>
   obtain ⟨W, a, b⟩ := e;have hb := hs _ (List.mem_of_getElem? he);exact PartL.strikes hs r ((h.strike a b (by rw [h.len]; exact hb)).strikeV W)
section
variable {Γ : Env} {T : List AV} {H : Hp} {L : List (Option ALoop)} {rd : List DOper} {seen : List (Hp × Nat × Nat)}
def newOp : IOp -> Bool
 | .alloc _ | .box _ | .buildSlice .. => true
 | _ => false
end
theorem zfF : ∀ (H : Hp) (j i : Nat), i ≠ j -> (zaV H j)[i]? = if i < H.length then some none else none
 | [], _, _, _ => by simp [zaV]
 | h :: H, 0, i, hi => by
  cases i with
  | zero => exact absurd rfl hi
  | succ i => simp [zaV, za8]; split <;> simp_all
 | h :: H, j + 1, i, hi => by
  cases i with
  | zero => simp [zaV]
  | succ i => simpa [zaV] using zfF H j i (by omega)
theorem zeH : ∀ (X W : Hp) (i : Nat), (W[i]? = some none \/ W[i]? = none) -> (strikeV X W)[i]? = X[i]?
 | [], W, i, _ => by cases W <;> rfl
 | x :: X, [], i, _ => rfl
 | x :: X, some _ :: W, i, h => by
  cases i with
  | zero => simp at h
  | succ i => simpa [strikeV] using zeH X W i (by simpa using h)
 | x :: X, none :: W, i, h => by
  cases i with
  | zero => simp [strikeV]
  | succ i => simpa [strikeV] using zeH X W i (by simpa using h)
section
variable {Γ : Env} {T : List AV} {H : Hp} {L : List (Option ALoop)} {rd : List DOper} {seen : List (Hp × Nat × Nat)}
end
end Go.Zz


namespace Go.Zz
section
variable {Γ : Env} {T : List AV} {H : Hp} {L : List (Option ALoop)} {rd : List DOper} {seen : List (Hp × Nat × Nat)}
end
end Go.Zz


namespace Go.Zz
section
variable {Γ : Env} {T : List AV} {H : Hp} {L : List (Option ALoop)} {rd : List DOper} {seen : List (Hp × Nat × Nat)}
end
end Go.Zz

