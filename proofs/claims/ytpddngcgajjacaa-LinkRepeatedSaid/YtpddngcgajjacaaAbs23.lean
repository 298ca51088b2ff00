/-
  Steps: what a small code does, an operation at a time; fuel is no matter.
-/
import Derived.Test.YtpddngcgajjacaaAbs22
namespace Go.Zz

/-! ### More fuel does no harm -/

def CallLe (c c' : AV → List AV → Mem → Option (AV × Mem)) : Prop := ∀ f a m r, c f a m = some r → c' f a m = some r

theorem evOp_mono {c c' : AV → List AV → Mem → Option (AV × Mem)} (h : CallLe c c') {T : List AV} {m : Mem} {op : IOp} {r : AV × Mem} (he : evOp c T m op = some r) : evOp c' T m op = some r := by
  cases hc : isCall op with
  | true =>
    cases op <;> simp [isCall] at hc
    exact h _ _ _ _ he
  | false =>
    obtain ⟨v, m'⟩ := r
    obtain ⟨h1, h2⟩ := evOp_loops hc he
    have := h2 c' m.loops
    obtain ⟨H, L⟩ := m
    obtain ⟨H', L'⟩ := m'
    simp only at h1 this
    subst h1
    exact this

theorem evOps_mono {c c' : AV → List AV → Mem → Option (AV × Mem)} (h : CallLe c c') : ∀ {ops : List IOper} {s s' : St}, evOps c ops s = some s' → evOps c' ops s = some s'
  | [], s, s', he => he
  | o :: r, s, s', he => by
    simp only [evOps] at he ⊢
    split
    · rename_i hw
      rw [if_pos hw] at he
      split at he
      · rename_i v m hv
        rw [evOp_mono h hv]
        exact evOps_mono h he
      · cases he
    · rename_i hw
      rw [if_neg hw] at he
      exact evOps_mono h he

theorem evDraw_mono {c c' : AV → List AV → Mem → Option (AV × Mem)} (h : CallLe c c') : ∀ {ops : List DOper} {s s' : St} {seen : List (Hp × Nat × Nat)}, evDraw c ops s seen = some s' → evDraw c' ops s seen = some s'
  | [], s, s', seen, he => he
  | d :: r, s, s', seen, he => by
    simp only [evDraw] at he ⊢
    split
    · rename_i hw
      rw [if_pos hw] at he
      split
      · rename_i hf
        rw [if_pos hf] at he
        split at he
        · rename_i v m hv
          rw [evOp_mono h hv]
          exact evDraw_mono h he
        · cases he
      · rename_i hf
        rw [if_neg hf] at he
        split at he
        · rename_i v m hv
          rw [evOp_mono h hv]
          simp only
          split at he
          · rename_i hd
            rw [if_pos hd]
            exact evDraw_mono h he
          · cases he
        · cases he
    · rename_i hw
      rw [if_neg hw] at he
      exact evDraw_mono h he

theorem mono (Γ : Env) : ∀ n, (∀ c s r, evC Γ n c s = some r → evC Γ (n + 1) c s = some r) ∧ CallLe (fun f a m => evF Γ n f a m) (fun f a m => evF Γ (n + 1) f a m)
  | 0 => ⟨fun c s r h => by simp [evC] at h, fun f a m r h => by simp [evF] at h⟩
  | n + 1 => by
    obtain ⟨ihC, ihF⟩ := mono Γ n
    constructor
    · intro c s r h
      cases c with
      | skip => exact h
      | region ops =>
        simp only [evC, Option.map_eq_some_iff] at h ⊢
        obtain ⟨s', h1, h2⟩ := h
        exact ⟨s', evOps_mono ihF h1, h2⟩
      | draw ops =>
        simp only [evC, Option.map_eq_some_iff] at h ⊢
        obtain ⟨s', h1, h2⟩ := h
        exact ⟨s', evDraw_mono ihF h1, h2⟩
      | seq a b =>
        rw [evC] at h ⊢
        cases ha : evC Γ n a s with
        | none => rw [ha] at h; simp at h
        | some q =>
          rw [ha] at h
          rw [ihC _ _ _ ha]
          obtain ⟨e, s'⟩ := q
          cases e with
          | normal => exact ihC _ _ _ h
          | exit id => exact h
          | ret => exact h
      | cond c a b =>
        rw [evC] at h ⊢
        split at h
        · rename_i t ht
          split at h
          · rename_i h1; rw [if_pos h1]; exact ihC _ _ _ h
          · rename_i h1; rw [if_neg h1]; exact ihC _ _ _ h
        · cases h
      | block id b =>
        rw [evC] at h ⊢
        cases ha : evC Γ n b s with
        | none => rw [ha] at h; simp at h
        | some q =>
          rw [ha] at h
          rw [ihC _ _ _ ha]
          exact h
      | loop b =>
        rw [evC] at h ⊢
        cases ha : evC Γ n b s with
        | none => rw [ha] at h; simp at h
        | some q =>
          rw [ha] at h
          rw [ihC _ _ _ ha]
          obtain ⟨e, s'⟩ := q
          cases e with
          | normal => exact ihC _ _ _ h
          | exit id => exact h
          | ret => exact h
      | rangeFunc f ps assign body =>
        rw [evC] at h ⊢
        generalize hx : f.ev s.T = x at h ⊢
        cases x with
        | func g a c =>
          simp only at h ⊢
          cases hc : evF Γ n (.func g a c) [.yield s.loops.length] ⟨s.heap, s.loops ++ [some ⟨true, none, s.T, ps, assign, body⟩]⟩ with
          | none => rw [hc] at h; simp at h
          | some q =>
            rw [hc] at h
            have h2 := ihF _ _ _ _ hc
            simp only at h2
            rw [h2]
            exact h
        | _ => simp at h
      | exit id => exact h
      | ret => exact h
    · intro f args m r h
      simp only at h ⊢
      cases f with
      | func g a c =>
        rw [evF] at h ⊢
        split at h
        · exact h
        · split at h
          · rename_i fn hfn
            split at h
            · rename_i hle
              simp only [hfn, if_pos hle]
              split at h
              · rename_i s' hev
                rw [ihC _ _ _ hev]
                exact h
              · rename_i s' hev
                rw [ihC _ _ _ hev]
                exact h
              · cases h
            · cases h
          · cases h
      | yield k =>
        rw [evF] at h ⊢
        cases hk : m.loops[k]? with
        | none => rw [hk] at h; simp at h
        | some q0 =>
          cases q0 with
          | none => rw [hk] at h; simp at h
          | some r0 =>
            rw [hk] at h
            simp only at h ⊢
            split at h
            · rename_i hr
              rw [if_pos hr]
              cases h1 : evC Γ n r0.assign ⟨setAll r0.tmps r0.params args, m.heap, m.loops⟩ with
              | none => rw [h1] at h; simp at h
              | some q1 =>
                rw [h1] at h
                rw [ihC _ _ _ h1]
                obtain ⟨e1, s1⟩ := q1
                cases e1 with
                | normal =>
                  simp only at h ⊢
                  cases h2 : s1.loops[k]? with
                  | none => rw [h2] at h; simp at h
                  | some q2 =>
                    cases q2 with
                    | none => rw [h2] at h; simp at h
                    | some r1 =>
                      rw [h2] at h
                      simp only at h ⊢
                      split at h
                      · rename_i h3
                        rw [if_pos h3]
                        cases h4 : evC Γ n r0.body ⟨s1.T, s1.heap, setLoop s1.loops k (some { r1 with ready := false })⟩ with
                        | none => rw [h4] at h; simp at h
                        | some q4 =>
                          rw [h4] at h
                          rw [ihC _ _ _ h4]
                          exact h
                      · cases h
                | exit id => simp at h
                | ret => simp at h
            · cases h
      | _ => simp [evF] at h

end Go.Zz
