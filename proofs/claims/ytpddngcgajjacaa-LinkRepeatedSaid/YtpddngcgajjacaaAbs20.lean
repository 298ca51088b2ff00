/-
  A law's contract, out of the answer of the small code.
-/
import Derived.Test.YtpddngcgajjacaaAbs19
namespace Go.Zz
open Go.ChangeShapes Go.WideShapes Go.RowKit

section
variable {H : Type} {enc : TypeId × Value → H} {P : Program}

theorem okWide_notAgg {w : World} {r : Reach} {b0 : Nat} {t : TypeId} {v : Value} (h : Value.okWide P w r b0 t v) (ha : aggT P t = false) : v.cells = #[v] := by
  unfold Value.okWide at h
  unfold aggT at ha
  split at h <;> simp_all
  cases v <;> try rfl
  exfalso
  unfold Cell.okWide at h
  split at h
  case h_8 =>
    unfold Cell.ok at h
    split at h <;> simp_all
  all_goals simp_all

theorem okWide_agg {w : World} {r : Reach} {b0 : Nat} {t : TypeId} {v : Value} (h : Value.okWide P w r b0 t v) (ha : aggT P t = true) : ∃ cs, v = .agg cs := by
  unfold Value.okWide at h
  unfold aggT at ha
  split at h
  · obtain ⟨cs, h, _⟩ := h; exact ⟨cs, h⟩
  · obtain ⟨cs, h, _⟩ := h; exact ⟨cs, h⟩
  · exfalso; revert ha; split <;> simp_all

theorem arg_rv {W : World} {t : TypeId} {v : Value} {d : DataW H} {p : List MemPlace} {pk : Bool × List CK} (h : DataW.Trod enc P W 0 (fun _ => true) true t v d p) {r : Reach} {b0 : Nat} (hok : Value.okWide P W r b0 t v) (hp : paramK P t = some pk) :
    ∃ x, RV (mp0 W) x v ∧ PA pk x := by
  unfold paramK at hp
  simp only [Option.map_eq_some_iff] at hp
  obtain ⟨ks, hks, rfl⟩ := hp
  obtain ⟨fuel, h⟩ := h
  have hcc := trod_ck 20 t ks fuel _ _ hks h
  obtain ⟨l, a1, a2, a3⟩ := ccs_rv hcc (okWide_spot hok)
  cases hagg : aggT P t with
  | true =>
    obtain ⟨cs, rfl⟩ := okWide_agg hok hagg
    have a2' : RVs (mp0 W) l cs := by simpa [Value.cells] using a2
    exact ⟨.agg l, .agg l cs a2'.len a2'.rel (by simpa [Value.cells] using a3), by simp [PA]; exact a1⟩
  | false =>
    have e := okWide_notAgg hok hagg
    rw [e] at hcc a2
    match ks, l, hcc, a1, a2 with
    | [k], [x], _, a1, a2 =>
      refine ⟨x, ?_, by simp [PA]; exact a1.1⟩
      have := a2.rel 0
      simpa [gt, ag] using this

theorem args_rv {W : World} {r : Reach} {b0 : Nat} : ∀ {ts : List TypeId} {vs : List Value} {ds : List (DataW H)} {p : List MemPlace} {pks : List (Bool × List CK)}, DataW.TrodAll enc P W 0 (fun _ => true) true ts vs ds p →
    (∀ (j : Nat) t v, ts[j]? = some t → vs[j]? = some v → Value.okWide P W r b0 t v) → ts.mapM (paramK P) = some pks → ∃ avs, RVs (mp0 W) avs vs.toArray ∧ All2 PA pks avs ∧ ds.length = ts.length
  | [], vs, ds, p, pks, h, _, hp => by
    obtain ⟨rfl, rfl, rfl⟩ := trodAll_nil h
    simp at hp
    subst hp
    exact ⟨[], RVs.nil _, trivial, rfl⟩
  | t :: ts, vs, ds, p, pks, h, hok, hp => by
    obtain ⟨v, vs1, d, ds1, p1, p2, rfl, rfl, rfl, h1, h2⟩ := trodAll_cons h
    simp only [List.mapM_cons, Option.bind_eq_bind, Option.bind_eq_some_iff, Option.pure_def, Option.some.injEq] at hp
    obtain ⟨pk, g1, pks', g2, rfl⟩ := hp
    obtain ⟨x, x1, x2⟩ := arg_rv h1 (hok 0 t v rfl rfl) g1
    obtain ⟨avs, y1, y2, y3⟩ := args_rv h2 (fun j t v a b => hok (j + 1) t v (by simpa using a) (by simpa using b)) g2
    refine ⟨x :: avs, ⟨by have := y1.len; simp at this; simp [this], fun i => ?_⟩, ⟨x2, y2⟩, by simp [y3]⟩
    cases i with
    | zero => simpa [gt, ag] using x1
    | succ i => have := y1.rel i; simpa [gt, ag] using this

/-- All arguments read as they did. -/
theorem trodAll_stays (hl : laidOutB P = true) {W W' : World} {sp : Nat → Bool} : ∀ {ts : List TypeId} {vs : List Value} {ds : List (DataW H)} {p : List MemPlace}, (∀ t ∈ ts, P.readableRec t = true ∧ t < P.types.size) → DataW.TrodAll enc P W 0 (fun _ => true) true ts vs ds p →
    (∀ x ∈ p, W.sameAt W' x) → (∀ x ∈ p, sp x.block = true) → DataW.TrodAll enc P W' 0 sp true ts vs ds p
  | [], vs, ds, p, _, h, _, _ => by
    obtain ⟨rfl, rfl, rfl⟩ := trodAll_nil h
    exact rfl
  | t :: ts, vs, ds, p, hr, h, h1, h2 => by
    obtain ⟨v, vs1, d, ds1, p1, p2, rfl, rfl, rfl, g1, g2⟩ := trodAll_cons h
    refine ⟨p1, p2, ?_, trodAll_stays hl (fun t ht => hr t (by simp [ht])) g2 (fun x hx => h1 x (by simp [hx])) (fun x hx => h2 x (by simp [hx])), rfl⟩
    obtain ⟨r1, r2⟩ := hr t (by simp)
    exact WideElems.Trod_stays hl r1 r2 g1 (fun x hx => h1 x (by simp [hx])) (fun x hx => h2 x (by simp [hx]))

/-- **A LAW.** -/
theorem law_contract {Γ : Env} (hΓ : EnvOk P Γ) {fid : Nat} {f : Func} {s : ChangeSpec} {pks : List (Bool × List CK)} (hp : f.params.toList.mapM (paramK P) = some pks)
    (hl : laidOutB P = true) (hr : (f.params.toList.all fun t => P.readableRec t && decide (t < P.types.size)) = true) (hvars : s.vars = []) (hfn : ∀ (H : Type) (ds : List (DataW H)), ds.length = f.params.toList.length → s.fn H ds = { results := [.lit (.bool true)], args := ds })
    {tb : TypeId} (hres : f.resultTypes = #[tb]) (hb : P.underlying tb = some .bool)
    {W : World} {base : Nat} {args : Array Value} {ds gs : List (DataW H)} {before : List MemPlace} (hval : ∀ (j : Nat) t v, f.params[j]? = some t → args[j]? = some v → Value.okWide P W .any base t v)
    (hW : DataW.Whole enc P f.params.toList s.vars false W args.toList ds gs before)
    (hlaw : ∀ avs, All2 PA pks avs → ∃ n m', evF Γ n (.func fid [] []) avs ⟨[], []⟩ = some (.bool true, m')) :
    Calls P fid args W fun e W' => ∃ v, e = .returned v ∧ s.post enc P f false true false false W args v W' := by
  have hW' := hW
  obtain ⟨p, q, hA, hV, hpq, hfz, hnd⟩ := hW
  rw [hvars] at hV
  obtain ⟨rfl, rfl⟩ := trodVars_none hV
  obtain ⟨avs, x1, x2, x3⟩ := args_rv hA (fun j t v a b => hval j t v (by simpa using a) (by simpa using b)) hp
  obtain ⟨n, m', hev⟩ := hlaw avs x2
  have x1' : RVs (mp0 W) avs args := by simpa using x1
  have ans := sound hΓ n _ _ _ _ _ hev 0 (mp0 W) W (.func (.func fid) #[] #[]) args (.func fid [] [] #[] #[] rfl rfl (fun i => by simp [gt, ag]; exact .tup0) (fun i => by simp [gt, ag]; exact .tup0)) x1' (holds0 W) (fresh0 W)
  cases ans with
  | func _ _ _ hcl hcall =>
    have earr : (#[] ++ args ++ #[] : Array Value) = args := by simp
    rw [earr] at hcall
    refine (callsIn_wide.1 (show CallsIn Fence.wide 0 P fid args W _ from hcall)).mono fun e W' he => ?_
    obtain ⟨v, rfl, M', g1, g2, g3⟩ := he
    cases g1
    have hkeep : ∀ b, b < W.heap.size → W'.heap[b]? = W.heap[b]? := fun b hb => g3.keep b hb (fun id bl lc h => by simp at h) (fun k r h => by simp at h)
    have hkb : W.keptBut W' (fun x => x ∈ before) := by
      refine ⟨g3.os, g3.output, fun i hi => ?_⟩
      rw [hkeep i hi]
      split
      · rename_i h1 h2
        rw [h1] at h2
        cases h2
        exact ⟨rfl, rfl, rfl, fun _ _ => rfl⟩
      · rename_i h1 h2
        rw [h1] at h2
        cases h2
        exact .inr ⟨rfl, rfl⟩
      · rfl
    have hlt : ∀ x ∈ before, x.block < W.heap.size := fun x hx => hW'.lt x hx
    have hsame : ∀ x ∈ p, W.sameAt W' x := by
      intro x hx
      have := hkeep x.block (hlt x (by rw [hpq]; simp [hx]))
      cases x with
      | cell b off => exact World.cell?_of_block this
      | map b => exact this
    have hfn' := hfn H (ds ++ []) (by simpa using x3)
    refine ⟨_, rfl, post_of_same (pa := p) (pv := []) hW' (fun b sp hd => ?_) (fun sp hsp => ?_) (fun sp _ => ?_) hpq hkb g3.froz (ok_one hres rfl (okWide_bool_mk hb _))⟩
    · rw [hfn', hres]
      exact trodAll_cons_mk (shut_bool hb _) trodAll_mk0
    · rw [hfn']
      simp only [List.append_nil]
      refine trodAll_stays hl (fun t ht => ?_) hA hsame (fun x hx => hsp x (by rw [hpq]; simp [hx]))
      have := List.all_eq_true.1 hr t ht
      simpa using this
    · rw [hfn', hvars]
      rfl

end
end Go.Zz
