import Derived.Test.YtgchabldcnmccabDoorAbsH

namespace Go.Zz
instance noGlobs : Globs := ⟨fun _ => none⟩
theorem zrM (w : World) : zgj w := fun g l h => by cases h
theorem zNA {α : Type} (l : List α) : [] ++ l = l := rfl
theorem zAN {α : Type} (l : List α) : l ++ [] = l := List.append_nil l
theorem zCA {α : Type} (a : α) (l m : List α) : (a :: l) ++ m = a :: (l ++ m) := rfl
abbrev k0 : Opd := .con (.int .i64 0)
abbrev kI (n : Int) : Opd := .con (.int .i64 n)
abbrev mV (d s : Nat) : IOper := ⟨none, some d, .move (.tmp s)⟩
abbrev oO (d : Nat) (x : IOp) : IOper := ⟨none, some d, x⟩
abbrev oG (g : Nat) (b : Bool) (d : Nat) (x : IOp) : IOper := ⟨some (g, b), some d, x⟩
abbrev bT : Opd := .con (.bool true)
abbrev bF : Opd := .con (.bool false)
abbrev cF (n : Nat) : Opd := .con (.func n [] [])
abbrev tM (n : Nat) : Opd := .tmp n
abbrev i6 : List AV := [.int .i64 0, .int .i64 0, .int .i64 0, .int .i64 0, .int .i64 0, .int .i64 0]
abbrev b2 (d : Nat) (o : BinOp) (a b : Nat) : IOper := ⟨none, some d, .bin o (.tmp a) (.tmp b)⟩
abbrev bk (d : Nat) (o : BinOp) (a : Nat) (n : Int) : IOper := ⟨none, some d, .bin o (.tmp a) (.con (.int .i64 n))⟩
abbrev lS (d a : Nat) : IOper := ⟨none, some d, .lenS (.tmp a)⟩
abbrev iA (d s a b : Nat) : IOper := ⟨none, some d, .indexAddr s (.tmp a) (.tmp b)⟩
abbrev iR (d n s a b : Nat) : IOper := ⟨none, some d, .indexAddrArr n s (.tmp a) (.tmp b)⟩
abbrev lF (d a : Nat) : IOper := ⟨none, some d, .load false 1 (.tmp a)⟩
abbrev lT (d s a : Nat) : IOper := ⟨none, some d, .load true s (.tmp a)⟩
abbrev fA (d o a : Nat) : IOper := ⟨none, some d, .fieldAddr o (.tmp a)⟩
abbrev sT (s a b : Nat) : IOper := ⟨none, none, .store s (.tmp a) (.tmp b)⟩
abbrev eX (d a i : Nat) : IOper := ⟨none, some d, .extract (.tmp a) i⟩
abbrev cA (d f a : Nat) : IOper := ⟨none, some d, .call (.con (.func f [] [])) [.tmp a]⟩
abbrev cB (d f a b : Nat) : IOper := ⟨none, some d, .call (.con (.func f [] [])) [.tmp a, .tmp b]⟩
abbrev gM (g : Nat) (b : Bool) (d s : Nat) : IOper := ⟨some (g, b), some d, .move (.tmp s)⟩
abbrev uN (d : Nat) (o : UnOp) (a : Nat) : IOper := ⟨none, some d, .un o (.tmp a)⟩
abbrev mK (d : Nat) (n : Int) : IOper := ⟨none, some d, .move (.con (.int .i64 n))⟩
abbrev pF (d a b : Nat) : IOper := ⟨none, some d, .pick (.tmp a) (.tmp b) (.con (.bool false))⟩
abbrev pT (d a b : Nat) : IOper := ⟨none, some d, .pick (.tmp a) (.con (.bool true)) (.tmp b)⟩
abbrev sR (l : List IOper) (b : IR) : IR := .seq (.region l) b
abbrev cN (c : Nat) (a b : IR) : IR := .cond (.tmp c) a b
end Go.Zz

