/-
  Pruned copy of the text Ta0. By an AI agent.
-/
import Derived.Test.YtlbihaiejbpjoaaTz
set_option maxRecDepth 20000
set_option autoImplicit false
namespace Go.Mach.Ytl
def S4_0 : ACode := .seq (.block 1 (.ops [M0 45 10, M0 46 6, M0 47 11, A0 48 (.iaddr .none 1 (.t 46) (.t 47)), A0 49 (.load .false 1 (.t 48)), A0 50 (.call (.c (.fn 26 [] [])) [(.t 49)]), A0 51 (.minmax .false [(.t 45), (.t 50)]), M0 10 51])) (.ops [M0 43 11, A0 44 (.bin .add (.t 43) (ci 1)), M0 11 44])
def L4_1 : ACode := .seq (.seq (.ops [M0 39 11, M0 40 6, A0 41 (.len 1 (.t 40)), A0 42 (.bin .lss (.t 39) (.t 41))]) (.cond (.t 42) .skip (.exit 0))) S4_0
def S4_2 : ACode := .seq (.ops [M0 52 8, M0 53 5, M0 54 10, A0 55 (.bin .sub (.t 53) (.t 54)), A0 56 (.bin .eql (.t 52) (.t 55)), M0 57 56, M2 57 58 3, A0 59 (.pick (.t 57) (.t 58) (.c (.bool .false))), M0 2 59]) .ret
def S4_3 : ACode := .seq (.ops [M0 37 5, A0 38 (.bin .add (.t 37) (ci 1)), M0 10 38]) (.seq (.seq (.ops [A0 11 (.mv (ci 0))]) (.block 0 (.loop L4_1))) S4_2)
def S4_4 : ACode := .seq (.ops [A1 15 (.load .true 2 (.t 1)), A1 16 (.call (.c (.fn 23 [] [])) [(.t 15)]), A1 17 (.load .true 2 (.t 1)), A0 18 (.call (.c (.fn 24 [] [])) [(.t 17)]), M1 4 16, M1 5 18]) (.seq (.ops [M0 20 4, M0 21 5, A0 22 (.call (.c (.fn 20 [] [])) [(.t 20), (.t 21)]), M0 19 22, A0 23 (.ext (.t 19) 0), A0 24 (.ext (.t 19) 1), M0 6 23, M0 7 24]) (.seq (.ops [M0 26 4, M0 27 5, A0 28 (.call (.c (.fn 25 [] [])) [(.t 26), (.t 27)]), M0 25 28, A0 29 (.ext (.t 25) 0), A0 30 (.ext (.t 25) 1), M0 8 29, M0 9 30]) (.seq (.seq (.ops [M0 31 7, A0 32 (.bin .neq (.t 31) (ci 0)), M0 33 32, M4 33 34 9, A4 33 35 (.bin .neq (.t 34) (ci 0)), A0 36 (.pick (.t 33) (.c (.bool .true)) (.t 35))]) (.cond (.t 36) (.seq (.ops [A0 2 (.mv (.c (.bool .false)))]) .ret) .skip)) S4_3)))
def AF4 : AFn := ⟨(.seq (.ops [A0 1 (.box (.t 0)), A0 2 (.mv (.c (.bool .false)))]) (.seq (.ops [A0 12 (.call (.c (.fn 18 [] [])) []), M0 3 12]) (.seq (.seq (.ops [M0 13 3, A0 14 (.un .not (.t 13))]) (.cond (.t 14) (.seq (.ops [A0 2 (.mv (.c (.bool .false)))]) .ret) .skip)) S4_4))), [(.tmp 2)], 60, true, true⟩
end Go.Mach.Ytl
