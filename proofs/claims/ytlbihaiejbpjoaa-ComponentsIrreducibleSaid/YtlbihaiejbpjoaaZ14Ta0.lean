/-
  Pruned copy of the text Ta0. By an AI agent.
-/
import Derived.Test.YtlbihaiejbpjoaaTz
set_option maxRecDepth 20000
set_option autoImplicit false
namespace Go.Mach.Ytl
def S14_0 : ACode := .ops [M0 39 7, A0 40 (.bin .add (.t 39) (ci 1)), M0 7 40]
def S14_1 : ACode := .seq (.block 1 (.seq (.ops [M1 41 5, M1 42 7, A1 43 (.iaddr .none 8 (.t 41) (.t 42)), A0 44 (.load .true 8 (.t 43)), A0 45 (.call (.c (.fn 47 [] [])) [(.t 44)]), A1 46 (.un .not (.t 45)), M1 47 46, M5 47 48 7, A5 47 49 (.bin .gtr (.t 48) (ci 0)), M5 47 50 49, M3 50 51 5, M3 50 52 7, A3 50 53 (.bin .sub (.t 52) (ci 1)), A3 50 54 (.iaddr .none 8 (.t 51) (.t 53)), A3 50 55 (.load .true 8 (.t 54)), M3 50 56 5, M3 50 57 7, A3 50 58 (.iaddr .none 8 (.t 56) (.t 57)), A3 50 59 (.load .true 8 (.t 58)), A2 50 60 (.call (.c (.fn 36 [] [])) [(.t 55), (.t 59)]), A3 50 61 (.bin .leq (.t 60) (ci 0)), A5 47 62 (.pick (.t 50) (.t 61) (.c (.bool .false))), A1 63 (.pick (.t 47) (.c (.bool .true)) (.t 62)), M1 64 63, M5 64 65 5, M5 64 66 7, A4 64 67 (.call (.c (.fn 58 [] [])) [(.t 65), (.t 66)]), M5 64 68 4, A4 64 69 (.call (.c (.fn 55 [] [])) [(.t 68)]), A4 64 70 (.call (.c (.fn 51 [] [])) [(.t 67), (.t 69)]), A1 71 (.pick (.t 64) (.c (.bool .true)) (.t 70))]) (.cond (.t 71) (.seq (.ops [A0 2 (.mv (.c (.bool .false)))]) .ret) .skip))) S14_0
def L14_2 : ACode := .seq (.seq (.ops [M0 35 7, M0 36 5, A0 37 (.len 1 (.t 36)), A0 38 (.bin .lss (.t 35) (.t 37))]) (.cond (.t 38) .skip (.exit 0))) S14_1
def S14_3 : ACode := .seq (.ops [M0 72 3, M0 2 72]) .ret
def S14_4 : ACode := .seq (.seq (.ops [A0 7 (.mv (ci 0))]) (.block 0 (.loop L14_2))) S14_3
def S14_5 : ACode := .seq (.ops [A0 11 (.load .true 2 (.t 1)), A0 12 (.call (.c (.fn 23 [] [])) [(.t 11)]), M0 4 12]) (.seq (.ops [M0 14 4, A0 15 (.load .true 2 (.t 1)), A0 16 (.call (.c (.fn 24 [] [])) [(.t 15)]), A0 17 (.call (.c (.fn 19 [] [])) [(.t 14), (.t 16)]), M0 13 17, A0 18 (.ext (.t 13) 0), A0 19 (.ext (.t 13) 1), M0 5 18, M0 6 19]) (.seq (.seq (.ops [M0 20 6, A0 21 (.bin .neq (.t 20) (ci 0)), M0 22 21, M4 22 23 5, A4 22 24 (.len 1 (.t 23)), A4 22 25 (.bin .gtr (.t 24) (ci 100)), A0 26 (.pick (.t 22) (.c (.bool .true)) (.t 25)), M0 27 26, M4 27 28 5, A4 27 29 (.call (.c (.fn 58 [] [])) [(.t 28), (ci (-1))]), M4 27 30 4, A4 27 31 (.call (.c (.fn 55 [] [])) [(.t 30)]), A4 27 32 (.call (.c (.fn 51 [] [])) [(.t 29), (.t 31)]), A4 27 33 (.un .not (.t 32)), A0 34 (.pick (.t 27) (.c (.bool .true)) (.t 33))]) (.cond (.t 34) (.seq (.ops [A0 2 (.mv (.c (.bool .false)))]) .ret) .skip)) S14_4))
def AF14 : AFn := ⟨(.seq (.ops [A0 1 (.box (.t 0)), A0 2 (.mv (.c (.bool .false)))]) (.seq (.ops [A0 8 (.call (.c (.fn 18 [] [])) []), M0 3 8]) (.seq (.seq (.ops [M0 9 3, A0 10 (.un .not (.t 9))]) (.cond (.t 10) (.seq (.ops [A0 2 (.mv (.c (.bool .false)))]) .ret) .skip)) S14_5))), [(.tmp 2)], 73, true, true⟩
end Go.Mach.Ytl
