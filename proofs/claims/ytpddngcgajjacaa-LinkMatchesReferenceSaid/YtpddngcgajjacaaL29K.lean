import Derived.Test.YtpddngcgajjacaaL29B
namespace Go.Proofs.Ytpddngcgajjacaa
open Go.Zz

def saysTrue : Option (AV × Mem) → Bool
  | some (.bool true, _) => true
  | _ => false

theorem head_kernel : saysTrue (evF G0 400 (.func 10 [] []) [] ⟨[], []⟩) = true := by kernel_rfl

theorem head_run : WF G0 (.func 10 [] []) [] ⟨[], []⟩ fun y m' => resV m'.heap y = some (.bool true) := by
  have h := head_kernel
  cases he : evF G0 400 (.func 10 [] []) [] ⟨[], []⟩ with
  | none => rw [he] at h; cases h
  | some q =>
    obtain ⟨y, m'⟩ := q
    rw [he] at h
    unfold saysTrue at h
    split at h
    · rename_i e
      cases e
      exact ⟨⟨400, _, _, he, rfl⟩⟩
    · cases h

theorem spec10 (m : Mem) : borrowE G0 10 [] m = some (.bool true, m) := borrowE_of rfl head_run
end Go.Proofs.Ytpddngcgajjacaa

