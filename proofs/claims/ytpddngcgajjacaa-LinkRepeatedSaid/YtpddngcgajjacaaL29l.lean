import Derived.Test.YtpddngcgajjacaaL29h
import Derived.Test.YtpddngcgajjacaaL29k
set_option linter.unusedSimpArgs false
set_option linter.unusedVariables false
namespace Go.Proofs.Ytpddngcgajjacaa
open Go.Zz

theorem wf_I64 {n : Int} (h : (Lit.int .i64 n).wf = true) : I64 n := by
  have e1 : IntKind.i64.min = -9223372036854775808 := by decide
  have e2 : IntKind.i64.max = 9223372036854775807 := by decide
  have : IntKind.i64.min ≤ n ∧ n ≤ IntKind.i64.max := by simpa [Lit.wf] using h
  rw [e1, e2] at this
  exact this

theorem all2_cons {α β : Type} {R : α → β → Prop} {k : α} {ks : List α} {l : List β} (h : All2 R (k :: ks) l) : ∃ a r, l = a :: r ∧ R k a ∧ All2 R ks r := by
  cases l with
  | nil => exact h.elim
  | cons a r => exact ⟨a, r, rfl, h.1, h.2⟩
theorem all2_nil {α β : Type} {R : α → β → Prop} {l : List β} (h : All2 R [] l) : l = [] := by
  cases l with
  | nil => rfl
  | cons a r => exact h.elim

def asInt : AV → Int
  | .int _ n => n
  | _ => 0

/-- A slice of ints that came in. -/
theorem ca_ints {x : AV} (h : CA (.slice [.int .i64]) x) : ∃ xs, IntS x xs ∧ xs.length < 9223372036854775808 ∧ ∀ y ∈ xs, I64 y := by
  rcases h with rfl | ⟨full, len, l, rfl, hl, hlen, he⟩
  · exact ⟨[], .inl ⟨rfl, rfl⟩, by simp, by simp⟩
  · have hlen' : l.length = len := by simpa using hlen
    have hf : ∀ i, (hi : i < l.length) → ∃ n, l[i] = .int .i64 n ∧ I64 n := by
      intro i hi
      obtain ⟨f, hf, hA⟩ := he i hi
      have hm : i % 1 = 0 := Nat.mod_one i
      simp [hm] at hf
      subst hf
      obtain ⟨n, hn, hw⟩ := hA
      refine ⟨n, ?_, wf_I64 hw⟩
      have e : gt l i = l[i] := gt_of_lt hi
      rw [← e]; exact hn
    refine ⟨l.map asInt, .inr ⟨full, ?_⟩, by simp; unfold maxLen at hl; omega, ?_⟩
    · have e : (l.map asInt).map (AV.int .i64) = l := by
        apply List.ext_getElem (by simp)
        intro i h1 h2
        obtain ⟨n, hn, _⟩ := hf i h2
        simp [hn, asInt]
      rw [e]
      simp [hlen']
    · intro y hy
      simp only [List.mem_map] at hy
      obtain ⟨z, hz, rfl⟩ := hy
      obtain ⟨i, hi, rfl⟩ := List.getElem_of_mem hz
      obtain ⟨n, hn, hw⟩ := hf i hi
      rw [hn]
      exact hw

theorem pa_sender {x : AV} (h : PA (true, [.flat (.int .i64), .slice [.int .i64]]) x) : ∃ s q qs, x = .agg [.int .i64 s, q] ∧ I64 s ∧ IntS q qs ∧ qs.length < 9223372036854775808 := by
  unfold PA at h
  rw [if_pos rfl] at h
  obtain ⟨l, rfl, h⟩ := h
  obtain ⟨a, l1, rfl, ⟨n, rfl, hw⟩, h1⟩ := all2_cons h
  obtain ⟨b, l2, rfl, h2, h3⟩ := all2_cons h1
  obtain rfl := all2_nil h3
  obtain ⟨xs, g1, g2, _⟩ := ca_ints h2
  exact ⟨n, b, xs, rfl, wf_I64 hw, g1, g2⟩

theorem pa_packet {x : AV} (h : PA (true, [.flat .bool, .flat (.int .i64), .flat (.int .i64)]) x) : ∃ a s d, x = .agg [.bool a, .int .i64 s, .int .i64 d] ∧ I64 s ∧ I64 d := by
  unfold PA at h
  rw [if_pos rfl] at h
  obtain ⟨l, rfl, h⟩ := h
  obtain ⟨a, l1, rfl, ⟨a, rfl⟩, h1⟩ := all2_cons h
  obtain ⟨b, l2, rfl, ⟨n, rfl, hw⟩, h2⟩ := all2_cons h1
  obtain ⟨c, l3, rfl, ⟨m, rfl, hw'⟩, h3⟩ := all2_cons h2
  obtain rfl := all2_nil h3
  exact ⟨a, n, m, rfl, wf_I64 hw, wf_I64 hw'⟩
end Go.Proofs.Ytpddngcgajjacaa
