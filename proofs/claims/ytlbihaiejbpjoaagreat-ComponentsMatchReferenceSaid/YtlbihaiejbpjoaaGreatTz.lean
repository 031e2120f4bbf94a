/-
  Short names for operations in the table of the functions. By an AI agent.
-/
import Derived.Test.YtlbihaiejbpjoaaGreatMq
namespace Go.Mach.Ytl
open Go.Mach
abbrev A0 (d : Nat) (x : AOp) : AOper := ⟨some d, x, none, true⟩
abbrev A1 (d : Nat) (x : AOp) : AOper := ⟨some d, x, none, false⟩
abbrev A2 (t d : Nat) (x : AOp) : AOper := ⟨some d, x, some (t, true), true⟩
abbrev A3 (t d : Nat) (x : AOp) : AOper := ⟨some d, x, some (t, true), false⟩
abbrev A4 (t d : Nat) (x : AOp) : AOper := ⟨some d, x, some (t, false), true⟩
abbrev A5 (t d : Nat) (x : AOp) : AOper := ⟨some d, x, some (t, false), false⟩
abbrev A6 (x : AOp) : AOper := ⟨none, x, none, true⟩
abbrev A7 (x : AOp) : AOper := ⟨none, x, none, false⟩
abbrev M0 (d x : Nat) : AOper := ⟨some d, .mv (.t x), none, true⟩
abbrev M1 (d x : Nat) : AOper := ⟨some d, .mv (.t x), none, false⟩
abbrev M2 (t d x : Nat) : AOper := ⟨some d, .mv (.t x), some (t, true), true⟩
abbrev M3 (t d x : Nat) : AOper := ⟨some d, .mv (.t x), some (t, true), false⟩
abbrev M4 (t d x : Nat) : AOper := ⟨some d, .mv (.t x), some (t, false), true⟩
abbrev M5 (t d x : Nat) : AOper := ⟨some d, .mv (.t x), some (t, false), false⟩
abbrev ci (n : Int) : AOpd := .c (.int .i64 n)
abbrev z8 : List AV := [.int .i64 0, .int .i64 0, .int .i64 0, .int .i64 0, .int .i64 0, .int .i64 0, .int .i64 0, .int .i64 0]
end Go.Mach.Ytl
