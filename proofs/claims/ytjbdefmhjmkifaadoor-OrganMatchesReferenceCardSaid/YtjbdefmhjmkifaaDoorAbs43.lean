import Derived.Test.YtjbdefmhjmkifaaDoorAbsI

/-
  In a drawn region: a call that looks at blocks that the others leave alone, and makes new ones.
-/
set_option linter.unusedSimpArgs false
set_option linter.unusedVariables false
namespace Go.Zz
theorem WT.callG {Γ : Env} {rd : List DOper} {ms : List Nat} {tch : List Tch} {T T' : List AV} {H : Hp} {L L' : List (Option ALoop)} {Q : St → Prop} {d : Nat} {f : Opd} {args : List Opd} {fv v : AV} {as : List AV} (js : List Nat)
    (hf : f.ev T = fv) (ha : args.map (·.ev T) = as) (hj : ∀ j ∈ js, apartT tch ms (.blk j))
    (h : ∀ V : Hp, V.length = H.length → (∀ j ∈ js, V[j]? = H[j]?) → WF Γ fv as ⟨V, L⟩ fun y m' => y = v ∧ m'.loops = L' ∧ ∃ R, m'.heap = V ++ R)
    (ht : pt T d v = T') (k : ∀ R, WT Γ rd ⟨T', H ++ R, L'⟩ (tch ++ [.all]) Q) : WT Γ (⟨⟨none, some d, .call f args⟩, ms⟩ :: rd) ⟨T, H, L⟩ tch Q := by
  refine ⟨fun seen hs => ?_⟩
  have hp := PartL.strikes hs.le ms (PartL.refl H)
  refine WD.call rfl ?_
  rw [hf, ha]
  refine (h _ hp.len fun j hjm => strikes_get hs.le ms rfl fun i hi e he => ?_).mono ?_
  · have hl : i < tch.length := by rw [← hs.len]; exact (List.getElem?_eq_some_iff.1 he).1
    exact hs.away i e _ he (List.getElem?_eq_getElem hl) j (hj j hjm i hi _ (List.getElem?_eq_getElem hl))
  · rintro y ⟨H', L2⟩ ⟨rfl, rfl, R, rfl⟩
    refine ⟨dead_app _ _, ?_⟩
    simp only [St.put, hp.backApp, hp.len, ht]
    refine (k R).run _ (hs.app (by simp) (by simp [hp.len]) fun j hj => hj.elim)
theorem WT.specG {Γ : Env} {rd : List DOper} {ms : List Nat} {tch : List Tch} {T T' : List AV} {H : Hp} {L : List (Option ALoop)} {Q : St → Prop} {d g : Nat} {args : List Opd} {v : AV} {as : List AV} {S : List AV → Mem → Option (AV × Mem)} (js : List Nat)
    (ha : args.map (·.ev T) = as) (hS : Γ.spec g = some S) (hj : ∀ j ∈ js, apartT tch ms (.blk j))
    (h : ∀ V : Hp, V.length = H.length → (∀ j ∈ js, V[j]? = H[j]?) → S as ⟨V, L⟩ = some (v, ⟨V, L⟩))
    (ht : pt T d v = T') (k : WT Γ rd ⟨T', H, L⟩ (tch ++ [.all]) Q) : WT Γ (⟨⟨none, some d, .call (.con (.func g [] [])) args⟩, ms⟩ :: rd) ⟨T, H, L⟩ tch Q := by
  refine ⟨fun seen hs => ?_⟩
  have hp := PartL.strikes hs.le ms (PartL.refl H)
  refine WD.call rfl ?_
  rw [ha]
  have hV := h _ hp.len fun j hjm => strikes_get hs.le ms rfl fun i hi e he => by
    have hl : i < tch.length := by rw [← hs.len]; exact (List.getElem?_eq_some_iff.1 he).1
    exact hs.away i e _ he (List.getElem?_eq_getElem hl) j (hj j hjm i hi _ (List.getElem?_eq_getElem hl))
  refine WF.spec hS (by simpa using hV) ?_
  refine ⟨dead_self _, ?_⟩
  simp only [St.put, hp.back, hp.len, ht]
  exact k.run _ (hs.app (Nat.le_refl _) (Nat.le_refl _) fun j hj => hj.elim)
theorem apart_all {tch : List Tch} {ms : List Nat} {js : List Nat} (h : ∀ j ∈ js, apartL tch j ms) : ∀ j ∈ js, apartT tch ms (.blk j) := fun j hj => apart_mk (h j hj)
end Go.Zz

