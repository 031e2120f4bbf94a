/-
  The functions of the cut as the machine reads them (3 of 4). Written by a program (gen.lean, table.py) off trCode at the loaded program; each is checked against it (Tb). By an AI agent.
-/
import Derived.Test.YtlbihaiejbpjoaaTz
set_option maxRecDepth 20000
set_option autoImplicit false
namespace Go.Mach.Ytl

/-- eliminant/eliminantlaw21.all -/
def S56_0 : ACode := .seq (.block 5 (.seq (.ops [M0 27 3, M0 28 6, A0 29 (.iaddr .none 8 (.t 27) (.t 28)), A0 30 (.load .true 8 (.t 29)), A0 8 (.alloc z8), A6 (.store 8 (.t 8) (.t 30))]) (.seq (.ops [M0 31 4, M0 32 7, A0 33 (.iaddr (.some 8) 1 (.t 8) (.t 31)), A6 (.store 1 (.t 33) (.t 32))]) (.ops [M0 34 5, A0 35 (.load .true 8 (.t 8)), A0 36 (.bslice 1 8 z8 [(0, (8, (.t 35)))]), A0 37 (.app 8 64 (.t 34) (.t 36)), M0 5 37])))) (.ops [M0 25 7, A0 26 (.bin .add (.t 25) (ci 1)), M0 7 26])
def L56_1 : ACode := .seq (.seq (.ops [M0 23 7, A0 24 (.bin .leq (.t 23) (ci 4))]) (.cond (.t 24) .skip (.exit 4))) S56_0
def S56_2 : ACode := .ops [M0 21 6, A0 22 (.bin .add (.t 21) (ci 1)), M0 6 22]
def S56_3 : ACode := .seq (.block 3 (.seq (.ops [A0 7 (.mv (ci 0))]) (.block 4 (.loop L56_1)))) S56_2
def L56_4 : ACode := .seq (.seq (.ops [M0 17 6, M0 18 3, A0 19 (.len 1 (.t 18)), A0 20 (.bin .lss (.t 17) (.t 19))]) (.cond (.t 20) .skip (.exit 2))) S56_3
def S56_5 : ACode := .ops [M0 38 5, M0 3 38]
def S56_6 : ACode := .ops [M0 14 4, A0 15 (.bin .add (.t 14) (ci 1)), M0 4 15]
def S56_7 : ACode := .seq (.block 1 (.seq (.ops [A0 16 (.bslice 0 8 [] []), M0 5 16]) (.seq (.seq (.ops [A0 6 (.mv (ci 0))]) (.block 2 (.loop L56_4))) S56_5))) S56_6
def L56_8 : ACode := .seq (.seq (.ops [M0 11 4, M0 12 0, A0 13 (.bin .lss (.t 11) (.t 12))]) (.cond (.t 13) .skip (.exit 0))) S56_7
def S56_9 : ACode := .seq (.ops [M0 39 3, M0 2 39]) .ret
def AF56 : AFn := ⟨(.seq (.ops [A0 2 (.mv (.c .nils))]) (.seq (.ops [A0 9 (.build z8 []), A0 10 (.bslice 1 8 z8 [(0, (8, (.t 9)))]), M0 3 10]) (.seq (.seq (.ops [A0 4 (.mv (ci 0))]) (.block 0 (.loop L56_8))) S56_9))), [(.tmp 2)], 40, true, true⟩

/-- eliminant/eliminantref04.In -/
def S57_0 : ACode := .ops [M0 10 5, A0 11 (.bin .add (.t 10) (ci 1)), M0 5 11]
def S57_1 : ACode := .seq (.block 1 (.seq (.ops [M1 12 1, M1 13 5, A1 14 (.iaddr .none 8 (.t 12) (.t 13)), A1 15 (.load .true 8 (.t 14)), A1 16 (.load .true 8 (.t 2)), A0 17 (.call (.c (.fn 34 [] [])) [(.t 15), (.t 16)])]) (.cond (.t 17) (.seq (.ops [A0 4 (.mv (.c (.bool .true)))]) .ret) .skip))) S57_0
def L57_2 : ACode := .seq (.seq (.ops [M0 6 5, M0 7 1, A0 8 (.len 1 (.t 7)), A0 9 (.bin .lss (.t 6) (.t 8))]) (.cond (.t 9) .skip (.exit 0))) S57_1
def S57_3 : ACode := .seq (.ops [A0 4 (.mv (.c (.bool .false)))]) .ret
def AF57 : AFn := ⟨(.seq (.ops [A0 2 (.box (.t 0)), A0 4 (.mv (.c (.bool .false)))]) (.seq (.seq (.ops [A0 5 (.mv (ci 0))]) (.block 0 (.loop L57_2))) S57_3)), [(.tmp 4)], 18, true, true⟩

/-- eliminant/eliminantlaw21.meet -/
def S58_0 : ACode := .ops [M0 13 6, A0 14 (.bin .add (.t 13) (ci 1)), M0 6 14]
def S58_1 : ACode := .seq (.block 1 (.seq (.ops [M0 15 6, M0 16 1, A0 17 (.bin .neq (.t 15) (.t 16))]) (.cond (.t 17) (.ops [M0 18 5, M0 19 0, M0 20 6, A0 21 (.iaddr .none 8 (.t 19) (.t 20)), A0 22 (.load .true 8 (.t 21)), A0 23 (.call (.c (.fn 96 [] [])) [(.t 22)]), A0 24 (.call (.c (.fn 59 [] [])) [(.t 18), (.t 23)]), M0 5 24]) .skip))) S58_0
def L58_2 : ACode := .seq (.seq (.ops [M0 9 6, M0 10 0, A0 11 (.len 1 (.t 10)), A0 12 (.bin .lss (.t 9) (.t 11))]) (.cond (.t 12) .skip (.exit 0))) S58_1
def S58_3 : ACode := .seq (.ops [M0 25 5, M0 4 25]) .ret
def AF58 : AFn := ⟨(.seq (.ops [A0 4 (.mv (.c .nils))]) (.seq (.ops [A0 7 (.build z8 []), A0 8 (.bslice 1 8 z8 [(0, (8, (.t 7)))]), M0 5 8]) (.seq (.seq (.ops [A0 6 (.mv (ci 0))]) (.block 0 (.loop L58_2))) S58_3))), [(.tmp 4)], 26, true, true⟩

/-- eliminant/eliminantref21.Meet -/
def S59_0 : ACode := .seq (.block 3 (.ops [M1 21 5, M1 22 0, M1 23 6, A1 24 (.iaddr .none 8 (.t 22) (.t 23)), A1 25 (.load .true 8 (.t 24)), M1 26 1, M1 27 7, A1 28 (.iaddr .none 8 (.t 26) (.t 27)), A1 29 (.load .true 8 (.t 28)), A0 30 (.call (.c (.fn 38 [] [])) [(.t 25), (.t 29)]), A0 31 (.bslice 1 8 z8 [(0, (8, (.t 30)))]), A0 32 (.app 8 64 (.t 21) (.t 31)), M1 5 32])) (.ops [M0 19 7, A0 20 (.bin .add (.t 19) (ci 1)), M0 7 20])
def L59_1 : ACode := .seq (.seq (.ops [M0 15 7, M0 16 1, A0 17 (.len 1 (.t 16)), A0 18 (.bin .lss (.t 15) (.t 17))]) (.cond (.t 18) .skip (.exit 2))) S59_0
def S59_2 : ACode := .ops [M0 13 6, A0 14 (.bin .add (.t 13) (ci 1)), M0 6 14]
def S59_3 : ACode := .seq (.block 1 (.seq (.ops [A0 7 (.mv (ci 0))]) (.block 2 (.loop L59_1)))) S59_2
def L59_4 : ACode := .seq (.seq (.ops [M0 9 6, M0 10 0, A0 11 (.len 1 (.t 10)), A0 12 (.bin .lss (.t 9) (.t 11))]) (.cond (.t 12) .skip (.exit 0))) S59_3
def S59_5 : ACode := .seq (.ops [M0 33 5, A0 34 (.call (.c (.fn 55 [] [])) [(.t 33)]), M0 4 34]) .ret
def AF59 : AFn := ⟨(.seq (.ops [A0 4 (.mv (.c .nils))]) (.seq (.ops [A0 8 (.bslice 0 8 [] []), M0 5 8]) (.seq (.seq (.ops [A0 6 (.mv (ci 0))]) (.block 0 (.loop L59_4))) S59_5))), [(.tmp 4)], 35, true, true⟩

/-- eliminant/eliminantlaw21.prime -/
def S60_0 : ACode := .seq (.block 1 (.ops [M0 10 4, M0 11 0, A0 12 (.cvi .i64 (.t 11)), M0 13 4, A0 14 (.bin .shr (.t 12) (.t 13)), A0 15 (.bin .rem (.t 14) (ci 2)), A0 16 (.iaddr (.some 8) 1 (.t 3) (.t 10)), A6 (.store 1 (.t 16) (.t 15))])) (.ops [M0 8 4, A0 9 (.bin .add (.t 8) (ci 1)), M0 4 9])
def L60_1 : ACode := .seq (.seq (.ops [M0 6 4, A0 7 (.bin .lss (.t 6) (ci 8))]) (.cond (.t 7) .skip (.exit 0))) S60_0
def S60_2 : ACode := .seq (.ops [A0 17 (.load .true 8 (.t 3)), A0 18 (.call (.c (.fn 96 [] [])) [(.t 17)]), M0 2 18]) .ret
def AF60 : AFn := ⟨(.seq (.ops [A0 2 (.mv (.c .nils))]) (.seq (.ops [A0 5 (.build z8 []), A0 3 (.alloc z8), A6 (.store 8 (.t 3) (.t 5))]) (.seq (.seq (.ops [A0 4 (.mv (ci 0))]) (.block 0 (.loop L60_1))) S60_2))), [(.tmp 2)], 19, true, true⟩

/-- eliminant/eliminantref18.Colon -/
def S61_0 : ACode := .seq (.block 1 (.seq (.ops [M1 17 0, M1 18 6, A1 19 (.iaddr .none 8 (.t 17) (.t 18)), A1 20 (.load .true 8 (.t 19)), M1 21 0, M1 22 6, A1 23 (.iaddr .none 8 (.t 21) (.t 22)), A1 24 (.load .true 8 (.t 23)), A1 25 (.load .true 8 (.t 3)), A1 26 (.call (.c (.fn 40 [] [])) [(.t 24), (.t 25)]), A1 27 (.call (.c (.fn 32 [] [])) [(.t 20), (.t 26)]), M1 16 27, A1 28 (.ext (.t 16) 0), A1 29 (.ext (.t 16) 1), A1 7 (.alloc z8), A6 (.store 8 (.t 7) (.t 28)), M1 8 29]) (.ops [M0 30 5, A0 31 (.load .true 8 (.t 7)), A0 32 (.bslice 1 8 z8 [(0, (8, (.t 31)))]), A0 33 (.app 8 64 (.t 30) (.t 32)), M0 5 33]))) (.ops [M0 14 6, A0 15 (.bin .add (.t 14) (ci 1)), M0 6 15])
def L61_1 : ACode := .seq (.seq (.ops [M0 10 6, M0 11 0, A0 12 (.len 1 (.t 11)), A0 13 (.bin .lss (.t 10) (.t 12))]) (.cond (.t 13) .skip (.exit 0))) S61_0
def S61_2 : ACode := .seq (.ops [M0 34 5, A0 35 (.call (.c (.fn 55 [] [])) [(.t 34)]), M0 4 35]) .ret
def AF61 : AFn := ⟨(.seq (.ops [A0 3 (.box (.t 1)), A0 4 (.mv (.c .nils))]) (.seq (.ops [A0 9 (.bslice 0 8 [] []), M0 5 9]) (.seq (.seq (.ops [A0 6 (.mv (ci 0))]) (.block 0 (.loop L61_1))) S61_2))), [(.tmp 4)], 36, true, true⟩

/-- eliminant/eliminantref18.SameSets -/
def AF62 : AFn := ⟨(.seq (.ops [A0 4 (.mv (.c (.bool .false)))]) (.seq (.ops [M0 5 0, A0 6 (.cvbs (.t 5)), M0 7 1, A0 8 (.cvbs (.t 7)), A0 9 (.bin .eql (.t 6) (.t 8)), M0 4 9]) .ret)), [(.tmp 4)], 10, true, true⟩

/-- eliminant/eliminantref21.SameParts -/
def S63_0 : ACode := .ops [M0 15 5, A0 16 (.bin .add (.t 15) (ci 1)), M0 5 16]
def S63_1 : ACode := .seq (.block 1 (.seq (.ops [M1 17 0, M1 18 5, A1 19 (.iaddr .none 2 (.t 17) (.t 18)), A1 20 (.faddr 0 (.t 19)), A1 21 (.load .false 1 (.t 20)), M1 22 1, M1 23 5, A1 24 (.iaddr .none 2 (.t 22) (.t 23)), A1 25 (.faddr 0 (.t 24)), A1 26 (.load .false 1 (.t 25)), A1 27 (.bin .neq (.t 21) (.t 26)), M1 28 27, M5 28 29 0, M5 28 30 5, A5 28 31 (.iaddr .none 2 (.t 29) (.t 30)), A5 28 32 (.faddr 1 (.t 31)), A5 28 33 (.load .false 1 (.t 32)), M5 28 34 1, M5 28 35 5, A5 28 36 (.iaddr .none 2 (.t 34) (.t 35)), A5 28 37 (.faddr 1 (.t 36)), A5 28 38 (.load .false 1 (.t 37)), A4 28 39 (.call (.c (.fn 51 [] [])) [(.t 33), (.t 38)]), A5 28 40 (.un .not (.t 39)), A1 41 (.pick (.t 28) (.c (.bool .true)) (.t 40))]) (.cond (.t 41) (.seq (.ops [A0 4 (.mv (.c (.bool .false)))]) .ret) .skip))) S63_0
def L63_2 : ACode := .seq (.seq (.ops [M0 11 5, M0 12 0, A0 13 (.len 1 (.t 12)), A0 14 (.bin .lss (.t 11) (.t 13))]) (.cond (.t 14) .skip (.exit 0))) S63_1
def S63_3 : ACode := .seq (.ops [A0 4 (.mv (.c (.bool .true)))]) .ret
def S63_4 : ACode := .seq (.seq (.ops [A0 5 (.mv (ci 0))]) (.block 0 (.loop L63_2))) S63_3
def AF63 : AFn := ⟨(.seq (.ops [A0 4 (.mv (.c (.bool .false)))]) (.seq (.seq (.ops [M0 6 0, A0 7 (.len 1 (.t 6)), M0 8 1, A0 9 (.len 1 (.t 8)), A0 10 (.bin .neq (.t 7) (.t 9))]) (.cond (.t 10) (.seq (.ops [A0 4 (.mv (.c (.bool .false)))]) .ret) .skip)) S63_4)), [(.tmp 4)], 42, true, true⟩

/-- slices.ContainsFunc[[]eliminant/api.Mono,eliminant/api.Mono] -/
def AF64 : AFn := ⟨(.seq (.ops [A0 4 (.mv (.c (.bool .false)))]) (.seq (.ops [M0 5 0, M0 6 1, A0 7 (.call (.c (.fn 97 [] [])) [(.t 5), (.t 6)]), A0 8 (.bin .geq (.t 7) (ci 0)), M0 4 8]) .ret)), [(.tmp 4)], 9, false, false⟩

/-- eliminant/components.Irreducible$1 -/
def AF65 : AFn := ⟨(.seq (.ops [A0 2 (.box (.t 0)), A0 3 (.mv (.c (.bool .false)))]) (.seq (.ops [A0 4 (.load .true 8 (.t 2)), A0 5 (.call (.c (.fn 45 [] [])) [(.t 4)]), A1 6 (.un .not (.t 5)), M1 7 6, A5 7 8 (.load .true 8 (.t 2)), A5 7 9 (.call (.c (.fn 43 [] [])) [(.t 8)]), A5 7 10 (.call (.c (.fn 66 [] [])) [(.t 9)]), A5 7 11 (.load .false 1 (.t 1)), A5 7 12 (.bin .gtr (.t 10) (.t 11)), A1 13 (.pick (.t 7) (.c (.bool .true)) (.t 12)), M1 3 13]) .ret)), [(.tmp 3)], 14, true, true⟩

/-- math/bits.Len8 -/
def AF66 : AFn := ⟨(.seq (.ops [A0 2 (.mv (ci 0))]) (.seq (.ops [M0 3 0, A0 4 (.idxs (.c (.str ⟨#[0, 1, 2, 2, 3, 3, 3, 3, 4, 4, 4, 4, 4, 4, 4, 4, 5, 5, 5, 5, 5, 5, 5, 5, 5, 5, 5, 5, 5, 5, 5, 5, 6, 6, 6, 6, 6, 6, 6, 6, 6, 6, 6, 6, 6, 6, 6, 6, 6, 6, 6, 6, 6, 6, 6, 6, 6, 6, 6, 6, 6, 6, 6, 6, 7, 7, 7, 7, 7, 7, 7, 7, 7, 7, 7, 7, 7, 7, 7, 7, 7, 7, 7, 7, 7, 7, 7, 7, 7, 7, 7, 7, 7, 7, 7, 7, 7, 7, 7, 7, 7, 7, 7, 7, 7, 7, 7, 7, 7, 7, 7, 7, 7, 7, 7, 7, 7, 7, 7, 7, 7, 7, 7, 7, 7, 7, 7, 7, 8, 8, 8, 8, 8, 8, 8, 8, 8, 8, 8, 8, 8, 8, 8, 8, 8, 8, 8, 8, 8, 8, 8, 8, 8, 8, 8, 8, 8, 8, 8, 8, 8, 8, 8, 8, 8, 8, 8, 8, 8, 8, 8, 8, 8, 8, 8, 8, 8, 8, 8, 8, 8, 8, 8, 8, 8, 8, 8, 8, 8, 8, 8, 8, 8, 8, 8, 8, 8, 8, 8, 8, 8, 8, 8, 8, 8, 8, 8, 8, 8, 8, 8, 8, 8, 8, 8, 8, 8, 8, 8, 8, 8, 8, 8, 8, 8, 8, 8, 8, 8, 8, 8, 8, 8, 8, 8, 8, 8, 8, 8, 8, 8, 8, 8, 8, 8, 8, 8, 8, 8, 8, 8, 8, 8, 8, 8, 8]⟩)) (.t 3)), A0 5 (.cvi .i64 (.t 4)), M0 2 5]) .ret)), [(.tmp 2)], 6, true, true⟩

/-- eliminant/components.powers -/
def S67_0 : ACode := .ops [A0 21 (.bin .add (.t 8) (ci 1)), M0 8 21]
def S67_1 : ACode := .seq (.block 1 (.seq (.ops [M0 10 8, A0 11 (.idx .false 8 1 (.t 7) (.t 8)), M0 4 10, M0 5 11]) (.seq (.ops [M0 12 5, A0 13 (.bin .gtr (.t 12) (ci 0))]) (.cond (.t 13) (.seq (.ops [A0 6 (.alloc z8)]) (.seq (.ops [M0 14 4, M0 15 5, A0 16 (.iaddr (.some 8) 1 (.t 6) (.t 14)), A6 (.store 1 (.t 16) (.t 15))]) (.ops [M0 17 3, A0 18 (.load .true 8 (.t 6)), A0 19 (.bslice 1 8 z8 [(0, (8, (.t 18)))]), A0 20 (.app 8 64 (.t 17) (.t 19)), M0 3 20]))) .skip)))) S67_0
def L67_2 : ACode := .seq (.ops [A0 9 (.bin .lss (.t 8) (ci 8))]) (.seq (.cond (.t 9) .skip (.exit 0)) S67_1)
def S67_3 : ACode := .seq (.ops [M0 22 3, M0 2 22]) .ret
def AF67 : AFn := ⟨(.seq (.ops [A0 1 (.box (.t 0)), A0 2 (.mv (.c .nils))]) (.seq (.ops [A0 3 (.mv (.c .nils))]) (.seq (.seq (.ops [A0 7 (.load .true 8 (.t 1)), A0 8 (.mv (ci 0))]) (.block 0 (.loop L67_2))) S67_3))), [(.tmp 2)], 23, true, true⟩

/-- eliminant/components.Irreducible$2 -/
def AF68 : AFn := ⟨(.seq (.ops [A0 2 (.box (.t 0)), A0 3 (.mv (.c (.bool .false)))]) (.seq (.ops [A0 4 (.load .true 8 (.t 2)), A0 5 (.load .true 8 (.t 1)), A0 6 (.call (.c (.fn 33 [] [])) [(.t 4), (.t 5)]), M0 3 6]) .ret)), [(.tmp 3)], 7, true, true⟩

/-- eliminant/components.insert -/
def S69_0 : ACode := .ops [A0 37 (.bin .add (.t 25) (ci 1)), M0 25 37]
def S69_1 : ACode := .seq (.block 3 (.seq (.ops [A0 27 (.iaddr .none 8 (.t 23) (.t 25)), A0 28 (.load .true 8 (.t 27)), A0 9 (.alloc z8), A6 (.store 8 (.t 9) (.t 28))]) (.seq (.ops [A0 29 (.load .true 8 (.t 7)), A0 30 (.load .true 8 (.t 9)), A0 31 (.eqa .true 8 (.t 29) (.t 30)), M0 32 31, A2 32 33 (.load .true 8 (.t 9)), A2 32 34 (.load .true 8 (.t 7)), A2 32 35 (.call (.c (.fn 98 [] [])) [(.t 33), (.t 34)]), A0 36 (.pick (.t 32) (.t 35) (.c (.bool .false)))]) (.cond (.t 36) (.exit 1) .skip)))) S69_0
def L69_2 : ACode := .seq (.ops [A0 26 (.bin .lss (.t 25) (.t 24))]) (.seq (.cond (.t 26) .skip (.exit 2)) S69_1)
def S69_3 : ACode := .seq (.ops [M0 38 5, A0 39 (.load .true 8 (.t 7)), A0 40 (.call (.c (.fn 99 [] [])) [(.t 38), (.t 39)]), A0 41 (.un .not (.t 40))]) (.cond (.t 41) (.ops [M0 42 5, A0 43 (.load .true 8 (.t 7)), A0 44 (.bslice 1 8 z8 [(0, (8, (.t 43)))]), A0 45 (.app 8 64 (.t 42) (.t 44)), M0 5 45]) .skip)
def S69_4 : ACode := .ops [A0 46 (.bin .add (.t 16) (ci 1)), M0 16 46]
def S69_5 : ACode := .seq (.block 1 (.seq (.ops [A0 18 (.iaddr .none 8 (.t 14) (.t 16)), A0 19 (.load .true 8 (.t 18)), A0 7 (.alloc z8), A6 (.store 8 (.t 7) (.t 19))]) (.seq (.seq (.ops [M0 20 0, A0 21 (.load .true 8 (.t 3)), A0 22 (.bslice 1 8 z8 [(0, (8, (.t 21)))]), A0 23 (.app 8 64 (.t 20) (.t 22)), A0 24 (.len 1 (.t 23)), A0 25 (.mv (ci 0))]) (.block 2 (.loop L69_2))) S69_3))) S69_4
def L69_6 : ACode := .seq (.ops [A0 17 (.bin .lss (.t 16) (.t 15))]) (.seq (.cond (.t 17) .skip (.exit 0)) S69_5)
def S69_7 : ACode := .seq (.ops [M0 47 5, M0 4 47]) .ret
def AF69 : AFn := ⟨(.seq (.ops [A0 3 (.box (.t 1)), A0 4 (.mv (.c .nils))]) (.seq (.ops [A0 5 (.mv (.c .nils))]) (.seq .skip (.seq (.seq (.ops [M1 10 0, A1 11 (.call (.c (.fn 87 [] [])) [(.t 10)]), A1 12 (.load .true 8 (.t 3)), A1 13 (.bslice 1 8 z8 [(0, (8, (.t 12)))]), A0 14 (.app 8 64 (.t 11) (.t 13)), A0 15 (.len 1 (.t 14)), A1 16 (.mv (ci 0))]) (.block 0 (.loop L69_6))) S69_7)))), [(.tmp 4)], 48, false, false⟩

/-- slices.SortFunc[[]eliminant/api.Mono,eliminant/api.Mono] -/
def AF70 : AFn := ⟨(.seq (.ops [M0 5 0, A0 6 (.len 1 (.t 5)), M0 4 6]) (.ops [M0 7 0, M0 8 4, M0 9 4, A0 10 (.cvi .u64 (.t 9)), A0 11 (.call (.c (.fn 101 [] [])) [(.t 10)]), M0 12 1, A0 13 (.call (.c (.fn 100 [] [])) [(.t 7), (ci 0), (.t 8), (.t 11), (.t 12)])])), [], 14, false, false⟩

/-- eliminant/components.Irreducible$3 -/
def AF71 : AFn := ⟨(.seq (.ops [A0 2 (.box (.t 0)), A0 3 (.box (.t 1)), A0 4 (.mv (ci 0))]) (.seq (.ops [A0 5 (.load .true 8 (.t 3)), A0 6 (.load .true 8 (.t 2)), A0 7 (.call (.c (.fn 35 [] [])) [(.t 5), (.t 6)]), M0 4 7]) .ret)), [(.tmp 4)], 8, true, true⟩

/-- eliminant/components.grouped -/
def S72_0 : ACode := .ops [M1 37 9, M1 38 13, M1 39 9, M1 40 13, A1 41 (.lkp .false .nils .false (.t 39) (.t 40)), A1 42 (.load .true 8 (.t 12)), A1 43 (.call (.c (.fn 67 [] [])) [(.t 42)]), A1 44 (.bslice 1 1 [.nils] [(0, (1, (.t 43)))]), A0 45 (.app 1 24 (.t 41) (.t 44)), A6 (.mpu .false (.t 37) (.t 38) (.t 45))]
def S72_1 : ACode := .ops [A0 46 (.bin .add (.t 23) (ci 1)), M0 23 46]
def S72_2 : ACode := .seq (.block 1 (.seq (.ops [A0 25 (.iaddr .none 8 (.t 21) (.t 23)), A0 26 (.load .true 8 (.t 25)), A0 12 (.alloc z8), A6 (.store 8 (.t 12) (.t 26))]) (.seq (.ops [A0 27 (.load .true 8 (.t 12)), A0 28 (.call (.c (.fn 43 [] [])) [(.t 27)]), M0 13 28]) (.seq (.seq (.ops [M0 29 9, M0 30 13, A0 31 (.lkp .false .nils .false (.t 29) (.t 30)), A0 32 (.eqn 1 .false (.t 31) (.c .nils))]) (.cond (.t 32) (.ops [M0 33 10, M0 34 13, A0 35 (.bslice 1 1 [(.int .u8 0)] [(0, (1, (.t 34)))]), A0 36 (.app 1 1 (.t 33) (.t 35)), M0 10 36]) .skip)) S72_0)))) S72_1
def L72_3 : ACode := .seq (.ops [A0 24 (.bin .lss (.t 23) (.t 22))]) (.seq (.cond (.t 24) .skip (.exit 0)) S72_2)
def S72_4 : ACode := .seq (.ops [M0 47 10, A0 48 (.call (.c (.fn 102 [] [])) [(.t 47)])]) (.seq (.ops [M0 49 9, M0 50 10, M0 51 8, M0 4 49, M0 5 50, M0 6 51]) .ret)
def AF72 : AFn := ⟨(.seq (.ops [A0 4 (.mv (.c .nilm)), A0 5 (.mv (.c .nils)), A0 6 (.mv (ci 0))]) (.seq (.ops [M0 15 0, M0 16 1, A0 17 (.call (.c (.fn 19 [] [])) [(.t 15), (.t 16)]), M0 14 17, A0 18 (.ext (.t 14) 0), A0 19 (.ext (.t 14) 1), M0 7 18, M0 8 19]) (.seq (.ops [A0 20 (.mkm .none), M0 9 20]) (.seq (.ops [A0 10 (.mv (.c .nils))]) (.seq (.seq (.ops [M0 21 7, A0 22 (.len 1 (.t 21)), A0 23 (.mv (ci 0))]) (.block 0 (.loop L72_3))) S72_4))))), [(.tmp 4), (.tmp 5), (.tmp 6)], 52, true, true⟩

/-- slices.ContainsFunc[[]uint8,uint8] -/
def AF73 : AFn := ⟨(.seq (.ops [A0 4 (.mv (.c (.bool .false)))]) (.seq (.ops [M0 5 0, M0 6 1, A0 7 (.call (.c (.fn 103 [] [])) [(.t 5), (.t 6)]), A0 8 (.bin .geq (.t 7) (ci 0)), M0 4 8]) .ret)), [(.tmp 4)], 9, false, false⟩

/-- eliminant/components.Embedded$1 -/
def AF74 : AFn := ⟨(.seq (.ops [A0 3 (.mv (.c (.bool .false)))]) (.seq (.ops [M0 4 0, A0 5 (.load .false 1 (.t 1)), A0 6 (.bin .neq (.t 4) (.t 5)), M0 7 6, M2 7 8 0, A2 7 9 (.load .false 1 (.t 1)), A2 7 10 (.bin .andNot (.t 8) (.t 9)), A2 7 11 (.bin .eql (.t 10) (.c (.int .u8 0))), A0 12 (.pick (.t 7) (.t 11) (.c (.bool .false))), M0 3 12]) .ret)), [(.tmp 3)], 13, true, true⟩

/-- eliminant/components.intersection -/
def S75_0 : ACode := .seq (.block 1 (.seq (.ops [A0 12 (.iaddr .none 1 (.t 8) (.t 10)), A0 13 (.load .false 1 (.t 12)), M0 5 13]) (.ops [M0 14 3, M0 15 5, A0 16 (.call (.c (.fn 53 [] [])) [(.t 14), (.t 15)]), M0 3 16]))) (.ops [A0 17 (.bin .add (.t 10) (ci 1)), M0 10 17])
def L75_1 : ACode := .seq (.ops [A0 11 (.bin .lss (.t 10) (.t 9))]) (.seq (.cond (.t 11) .skip (.exit 0)) S75_0)
def S75_2 : ACode := .seq (.ops [M0 18 3, M0 2 18]) .ret
def AF75 : AFn := ⟨(.seq (.ops [A0 2 (.mv (.c .nils))]) (.seq (.ops [A0 6 (.build z8 []), A0 7 (.bslice 1 8 z8 [(0, (8, (.t 6)))]), M0 3 7]) (.seq (.seq (.ops [M0 8 0, A0 9 (.len 1 (.t 8)), A0 10 (.mv (ci 0))]) (.block 0 (.loop L75_1))) S75_2))), [(.tmp 2)], 19, true, true⟩

/-- eliminant/hilbert.Independent -/
def S76_0 : ACode := .seq (.block 3 (.ops [M0 35 9, M0 36 11, A0 37 (.bin .shr (.t 35) (.t 36)), A0 38 (.bin .and (.t 37) (ci 1)), A0 39 (.bin .eql (.t 38) (ci 1)), M0 40 39, M4 40 41 7, M4 40 42 9, M4 40 43 11, A4 40 44 (.bin .shl (ci 1) (.t 43)), A4 40 45 (.bin .or (.t 42) (.t 44)), A4 40 46 (.call (.t 41) [(.t 45)]), A4 40 47 (.un .not (.t 46)), A0 48 (.pick (.t 40) (.c (.bool .true)) (.t 47)), M0 10 48])) (.ops [M0 33 11, A0 34 (.bin .add (.t 33) (ci 1)), M0 11 34])
def L76_1 : ACode := .seq (.seq (.ops [M0 27 10, M0 28 27, M2 28 29 11, M2 28 30 1, A2 28 31 (.bin .lss (.t 29) (.t 30)), A0 32 (.pick (.t 28) (.t 31) (.c (.bool .false)))]) (.cond (.t 32) .skip (.exit 2))) S76_0
def S76_2 : ACode := .seq (.ops [M0 49 10]) (.cond (.t 49) (.ops [M0 50 8, M0 51 9, A0 52 (.cvi .u8 (.t 51)), A0 53 (.bslice 1 1 [(.int .u8 0)] [(0, (1, (.t 52)))]), A0 54 (.app 1 1 (.t 50) (.t 53)), M0 8 54]) .skip)
def S76_3 : ACode := .ops [A0 55 (.bin .add (.t 21) (ci 1)), M0 21 55]
def S76_4 : ACode := .seq (.block 1 (.seq (.ops [M0 23 21, M0 9 23]) (.seq (.ops [M0 24 7, M0 25 9, A0 26 (.call (.t 24) [(.t 25)]), M0 10 26]) (.seq (.seq (.ops [A0 11 (.mv (ci 0))]) (.block 2 (.loop L76_1))) S76_2)))) S76_3
def L76_5 : ACode := .seq (.ops [A0 22 (.bin .lss (.t 21) (.t 20))]) (.seq (.cond (.t 22) .skip (.exit 0)) S76_4)
def S76_6 : ACode := .seq (.ops [M0 56 8, M0 4 56, A0 5 (.mv (ci 0))]) .ret
def S76_7 : ACode := .seq (.ops [A0 18 (.mkf 105 [] [(.t 2)]), M0 7 18]) (.seq (.ops [A0 8 (.mv (.c .nils))]) (.seq (.seq (.ops [M0 19 1, A0 20 (.bin .shl (ci 1) (.t 19)), A0 21 (.mv (ci 0))]) (.block 0 (.loop L76_5))) S76_6))
def AF76 : AFn := ⟨(.seq (.ops [A0 2 (.box (.t 0)), A0 4 (.mv (.c .nils)), A0 5 (.mv (ci 0))]) (.seq (.seq (.ops [A0 12 (.load .false 1 (.t 2)), M0 13 1, A0 14 (.call (.c (.fn 104 [] [])) [(.t 12), (.t 13)]), M0 6 14]) (.seq (.ops [M0 15 6, A0 16 (.bin .neq (.t 15) (ci 0))]) (.cond (.t 16) (.seq (.ops [M0 17 6, A0 4 (.mv (.c .nils)), M0 5 17]) .ret) .skip))) S76_7)), [(.tmp 4), (.tmp 5)], 57, true, true⟩

/-- math/bits.OnesCount8 -/
def AF77 : AFn := ⟨(.seq (.ops [A0 2 (.mv (ci 0))]) (.seq (.ops [M0 3 0, A0 4 (.idxs (.c (.str ⟨#[0, 1, 1, 2, 1, 2, 2, 3, 1, 2, 2, 3, 2, 3, 3, 4, 1, 2, 2, 3, 2, 3, 3, 4, 2, 3, 3, 4, 3, 4, 4, 5, 1, 2, 2, 3, 2, 3, 3, 4, 2, 3, 3, 4, 3, 4, 4, 5, 2, 3, 3, 4, 3, 4, 4, 5, 3, 4, 4, 5, 4, 5, 5, 6, 1, 2, 2, 3, 2, 3, 3, 4, 2, 3, 3, 4, 3, 4, 4, 5, 2, 3, 3, 4, 3, 4, 4, 5, 3, 4, 4, 5, 4, 5, 5, 6, 2, 3, 3, 4, 3, 4, 4, 5, 3, 4, 4, 5, 4, 5, 5, 6, 3, 4, 4, 5, 4, 5, 5, 6, 4, 5, 5, 6, 5, 6, 6, 7, 1, 2, 2, 3, 2, 3, 3, 4, 2, 3, 3, 4, 3, 4, 4, 5, 2, 3, 3, 4, 3, 4, 4, 5, 3, 4, 4, 5, 4, 5, 5, 6, 2, 3, 3, 4, 3, 4, 4, 5, 3, 4, 4, 5, 4, 5, 5, 6, 3, 4, 4, 5, 4, 5, 5, 6, 4, 5, 5, 6, 5, 6, 6, 7, 2, 3, 3, 4, 3, 4, 4, 5, 3, 4, 4, 5, 4, 5, 5, 6, 3, 4, 4, 5, 4, 5, 5, 6, 4, 5, 5, 6, 5, 6, 6, 7, 3, 4, 4, 5, 4, 5, 5, 6, 4, 5, 5, 6, 5, 6, 6, 7, 4, 5, 5, 6, 5, 6, 6, 7, 5, 6, 6, 7, 6, 7, 7, 8]⟩)) (.t 3)), A0 5 (.cvi .i64 (.t 4)), M0 2 5]) .ret)), [(.tmp 2)], 6, true, true⟩

/-- eliminant/eliminantlaw04.mono -/
def AF78 : AFn := ⟨(.seq (.ops [A0 6 (.alloc z8)]) (.seq (.ops [M0 7 0, M0 8 1, M0 9 2, A0 10 (.build z8 [(0, (1, (.t 7))), (1, (1, (.t 8))), (2, (1, (.t 9)))]), A6 (.store 8 (.t 6) (.t 10))]) .ret)), [(.cell 6 .true 8)], 11, true, true⟩

/-- eliminant/monomial.each -/
def AF79 : AFn := ⟨(.seq (.ops [A0 3 (.box (.t 0)), A0 4 (.box (.t 1)), A0 6 (.alloc z8)]) (.seq (.seq (.ops [A0 8 (.mv (ci 0))]) (.block 0 (.loop (.seq (.ops [A0 9 (.bin .lss (.t 8) (ci 8))]) (.seq (.cond (.t 9) .skip (.exit 0)) (.seq (.block 1 (.seq (.ops [M0 10 8, M0 7 10]) (.ops [M1 11 7, M1 12 2, M1 13 7, A1 14 (.iaddr (.some 8) 1 (.t 3) (.t 13)), A1 15 (.load .false 1 (.t 14)), M1 16 7, A1 17 (.iaddr (.some 8) 1 (.t 4) (.t 16)), A1 18 (.load .false 1 (.t 17)), A0 19 (.call (.t 12) [(.t 15), (.t 18)]), A1 20 (.iaddr (.some 8) 1 (.t 3) (.t 11)), A6 (.store 1 (.t 20) (.t 19))]))) (.ops [A0 21 (.bin .add (.t 8) (ci 1)), M0 8 21]))))))) (.seq (.ops [A0 22 (.load .true 8 (.t 3)), A6 (.store 8 (.t 6) (.t 22))]) .ret))), [(.cell 6 .true 8)], 23, true, true⟩

/-- eliminant/monomial.Mul$1 -/
def AF80 : AFn := ⟨(.seq (.ops [A0 4 (.mv (ci 0))]) (.seq (.ops [M0 5 0, M0 6 1, A0 7 (.bin .add (.t 5) (.t 6)), M0 4 7]) .ret)), [(.tmp 4)], 8, true, true⟩

/-- eliminant/monomial.Quo$1 -/
def AF81 : AFn := ⟨(.seq (.ops [A0 4 (.mv (ci 0))]) (.seq (.ops [M0 5 0, M0 6 1, A0 7 (.bin .sub (.t 5) (.t 6)), M0 4 7]) .ret)), [(.tmp 4)], 8, true, true⟩

/-- slices.Compare[[]int,int] -/
def AF82 : AFn := ⟨(.seq (.ops [A0 4 (.mv (ci 0))]) (.seq (.seq (.ops [M0 9 0, A0 10 (.len 1 (.t 9)), A0 11 (.mv (ci 0))]) (.block 0 (.loop (.seq (.ops [A0 12 (.bin .lss (.t 11) (.t 10))]) (.seq (.cond (.t 12) .skip (.exit 0)) (.seq (.block 1 (.seq (.ops [M0 13 11, A0 14 (.iaddr .none 1 (.t 9) (.t 11)), A0 15 (.load .false 1 (.t 14)), M0 5 13, M0 6 15]) (.seq (.seq (.ops [M0 16 5, M0 17 1, A0 18 (.len 1 (.t 17)), A0 19 (.bin .geq (.t 16) (.t 18))]) (.cond (.t 19) (.seq (.ops [A0 4 (.mv (ci 1))]) .ret) .skip)) (.seq (.ops [M0 20 1, M0 21 5, A0 22 (.iaddr .none 1 (.t 20) (.t 21)), A0 23 (.load .false 1 (.t 22)), M0 7 23]) (.seq (.ops [M0 24 6, M0 25 7, A0 26 (.call (.c (.fn 107 [] [])) [(.t 24), (.t 25)]), M0 8 26]) (.seq (.ops [M0 27 8, A0 28 (.bin .neq (.t 27) (ci 0))]) (.cond (.t 28) (.seq (.ops [M0 29 8, M0 4 29]) .ret) .skip))))))) (.ops [A0 30 (.bin .add (.t 11) (ci 1)), M0 11 30]))))))) (.seq (.seq (.ops [M0 31 0, A0 32 (.len 1 (.t 31)), M0 33 1, A0 34 (.len 1 (.t 33)), A0 35 (.bin .lss (.t 32) (.t 34))]) (.cond (.t 35) (.seq (.ops [A0 4 (.mv (ci (-1)))]) .ret) .skip)) (.seq (.ops [A0 4 (.mv (ci 0))]) .ret)))), [(.tmp 4)], 36, false, false⟩

/-- eliminant/monomial.Lcm$1 -/
def AF83 : AFn := ⟨(.seq (.ops [A0 4 (.mv (ci 0))]) (.seq (.ops [M0 5 0, M0 6 1, A0 7 (.minmax .true [(.t 5), (.t 6)]), M0 4 7]) .ret)), [(.tmp 4)], 8, true, true⟩

/-- eliminant/monomial.Gcd$1 -/
def AF84 : AFn := ⟨(.seq (.ops [A0 4 (.mv (ci 0))]) (.seq (.ops [M0 5 0, M0 6 1, A0 7 (.minmax .false [(.t 5), (.t 6)]), M0 4 7]) .ret)), [(.tmp 4)], 8, true, true⟩

/-- eliminant/eliminantref04.Bit -/
def AF85 : AFn := ⟨(.seq (.ops [A0 2 (.mv (.c (.int .u8 0)))]) (.seq (.ops [A0 3 (.mv (ci 1))]) (.seq (.seq (.ops [A0 4 (.mv (ci 0))]) (.block 0 (.loop (.seq (.seq (.ops [M0 5 4, M0 6 0, A0 7 (.bin .lss (.t 5) (.t 6))]) (.cond (.t 7) .skip (.exit 0))) (.seq (.block 1 (.ops [M0 10 3, A0 11 (.bin .mul (ci 2) (.t 10)), M0 3 11])) (.ops [M0 8 4, A0 9 (.bin .add (.t 8) (ci 1)), M0 4 9])))))) (.seq (.ops [M0 12 3, A0 13 (.cvi .u8 (.t 12)), M0 2 13]) .ret)))), [(.tmp 2)], 14, true, true⟩

/-- eliminant/monomial.All$1 -/
def S86_0 : ACode := .seq (.block 2 (.seq (.ops [M0 19 0, M0 20 8, A0 21 (.iaddr (.some 8) 1 (.t 3) (.t 19)), A6 (.store 1 (.t 21) (.t 20))]) (.ops [A0 22 (.load .false 1 (.t 4)), M0 23 0, A0 24 (.bin .add (.t 23) (ci 1)), M0 25 1, M0 26 8, A0 27 (.bin .sub (.t 25) (.t 26)), A0 28 (.call (.t 22) [(.t 24), (.t 27)])]))) (.ops [M0 17 8, A0 18 (.bin .sub (.t 17) (ci 1)), M0 8 18])
def L86_1 : ACode := .seq (.seq (.ops [M0 15 8, A0 16 (.bin .geq (.t 15) (ci 0))]) (.cond (.t 16) .skip (.exit 1))) S86_0
def S86_2 : ACode := .seq (.ops [M0 14 1, M0 8 14]) (.block 1 (.loop L86_1))
def AF86 : AFn := ⟨(.block 0 (.seq (.ops [M0 10 0, A0 11 (.bin .add (.t 10) (ci 1)), A0 12 (.load .false 1 (.t 2)), A0 13 (.bin .lss (.t 11) (.t 12)), M0 9 13]) (.cond (.t 9) S86_2 (.seq (.ops [M0 30 0, A0 31 (.load .false 1 (.t 2)), A0 32 (.bin .lss (.t 30) (.t 31)), M0 29 32]) (.cond (.t 29) (.seq (.ops [M0 33 0, M0 34 1, A0 35 (.iaddr (.some 8) 1 (.t 3) (.t 33)), A6 (.store 1 (.t 35) (.t 34))]) (.ops [A0 36 (.load .false 1 (.t 5)), A0 37 (.load .true 8 (.t 3)), A0 38 (.bslice 1 8 z8 [(0, (8, (.t 37)))]), A0 39 (.app 8 64 (.t 36) (.t 38)), A6 (.store 1 (.t 5) (.t 39))])) (.seq (.ops [M0 41 1, A0 42 (.bin .eql (.t 41) (ci 0)), M0 40 42]) (.cond (.t 40) (.ops [A0 43 (.load .false 1 (.t 5)), A0 44 (.load .true 8 (.t 3)), A0 45 (.bslice 1 8 z8 [(0, (8, (.t 44)))]), A0 46 (.app 8 64 (.t 43) (.t 45)), A6 (.store 1 (.t 5) (.t 46))]) .skip))))))), [], 47, true, true⟩

/-- slices.Clone[[]eliminant/api.Mono,eliminant/api.Mono] -/
def S87_0 : ACode := .seq (.ops [A0 5 (.bslice 0 8 [] []), M0 6 0, A0 7 (.app 8 64 (.t 5) (.t 6)), M0 2 7]) .ret
def AF87 : AFn := ⟨(.seq (.ops [A0 2 (.mv (.c .nils))]) (.seq (.seq (.ops [M0 3 0, A0 4 (.eqn 1 .false (.t 3) (.c .nils))]) (.cond (.t 4) (.seq (.ops [A0 2 (.mv (.c .nils))]) .ret) .skip)) S87_0)), [(.tmp 2)], 8, false, false⟩

/-- slices.DeleteFunc[[]eliminant/api.Mono,eliminant/api.Mono] -/
def S88_0 : ACode := .ops [M0 20 6, A0 21 (.bin .add (.t 20) (ci 1)), M0 6 21]
def S88_1 : ACode := .seq (.block 1 (.seq (.ops [M0 22 0, M0 23 6, A0 24 (.iaddr .none 8 (.t 22) (.t 23)), A0 25 (.load .true 8 (.t 24)), A0 7 (.alloc z8), A6 (.store 8 (.t 7) (.t 25))]) (.seq (.ops [M0 26 1, A0 27 (.load .true 8 (.t 7)), A0 28 (.call (.t 26) [(.t 27)]), A0 29 (.un .not (.t 28))]) (.cond (.t 29) (.seq (.ops [M0 30 0, M0 31 5, A0 32 (.load .true 8 (.t 7)), A0 33 (.iaddr .none 8 (.t 30) (.t 31)), A6 (.store 8 (.t 33) (.t 32))]) (.ops [M0 34 5, A0 35 (.bin .add (.t 34) (ci 1)), M0 5 35])) .skip)))) S88_0
def L88_2 : ACode := .seq (.seq (.ops [M0 16 6, M0 17 0, A0 18 (.len 1 (.t 17)), A0 19 (.bin .lss (.t 16) (.t 18))]) (.cond (.t 19) .skip (.exit 0))) S88_1
def S88_3 : ACode := .seq (.ops [M0 36 0, M0 37 5, A0 38 (.slc .sli 8 (.t 36) (.some (.t 37)) .none .none), A6 (.clr 8 z8 (.t 38))]) (.seq (.ops [M0 39 0, M0 40 5, A0 41 (.slc .sli 8 (.t 39) .none (.some (.t 40)) .none), M0 4 41]) .ret)
def S88_4 : ACode := .seq (.seq (.ops [M0 14 5, A0 15 (.bin .add (.t 14) (ci 1)), M0 6 15]) (.block 0 (.loop L88_2))) S88_3
def AF88 : AFn := ⟨(.seq (.ops [A0 4 (.mv (.c .nils))]) (.seq (.ops [M0 8 0, M0 9 1, A0 10 (.call (.c (.fn 97 [] [])) [(.t 8), (.t 9)]), M0 5 10]) (.seq (.seq (.ops [M0 11 5, A0 12 (.bin .eql (.t 11) (ci (-1)))]) (.cond (.t 12) (.seq (.ops [M0 13 0, M0 4 13]) .ret) .skip)) S88_4))), [(.tmp 4)], 42, false, false⟩

/-- eliminant/monomial.Minimal$1 -/
def AF89 : AFn := ⟨(.seq (.ops [A0 2 (.box (.t 0)), A0 3 (.mv (.c (.bool .false)))]) (.seq (.ops [A0 4 (.load .false 1 (.t 1)), A0 5 (.mkf 90 [] [(.t 2)]), A0 6 (.call (.c (.fn 64 [] [])) [(.t 4), (.t 5)]), M0 3 6]) .ret)), [(.tmp 3)], 7, true, true⟩

/-- eliminant/monomial.Minimal$1$1 -/
def AF90 : AFn := ⟨(.seq (.ops [A0 2 (.box (.t 0)), A0 3 (.mv (.c (.bool .false)))]) (.seq (.ops [A0 4 (.load .true 8 (.t 2)), A0 5 (.load .true 8 (.t 1)), A0 6 (.eqa .true 8 (.t 4) (.t 5)), M0 7 6, A2 7 8 (.load .true 8 (.t 2)), A2 7 9 (.load .true 8 (.t 1)), A2 7 10 (.call (.c (.fn 33 [] [])) [(.t 8), (.t 9)]), A0 11 (.pick (.t 7) (.t 10) (.c (.bool .false))), M0 3 11]) .ret)), [(.tmp 3)], 12, true, true⟩

/-- eliminant/monomial.Minimal$2 -/
def AF91 : AFn := ⟨(.seq (.ops [A0 2 (.box (.t 0)), A0 3 (.box (.t 1)), A0 4 (.mv (ci 0))]) (.seq (.ops [A0 5 (.load .true 8 (.t 3)), A0 6 (.load .true 8 (.t 2)), A0 7 (.call (.c (.fn 35 [] [])) [(.t 5), (.t 6)]), M0 4 7]) .ret)), [(.tmp 4)], 8, true, true⟩

/-- slices.Compact[[]eliminant/api.Mono,eliminant/api.Mono] -/
def S92_0 : ACode := .ops [M0 33 5, A0 34 (.bin .add (.t 33) (ci 1)), M0 5 34]
def S92_1 : ACode := .seq (.block 3 (.seq (.ops [M1 35 4, M1 36 5, A1 37 (.iaddr .none 8 (.t 35) (.t 36)), A1 38 (.load .true 8 (.t 37)), M1 39 4, M1 40 5, A1 41 (.bin .sub (.t 40) (ci 1)), A1 42 (.iaddr .none 8 (.t 39) (.t 41)), A1 43 (.load .true 8 (.t 42)), A1 44 (.eqa .true 8 (.t 38) (.t 43))]) (.cond (.t 44) (.seq (.ops [M0 45 0, M0 46 3, M0 47 4, M0 48 5, A0 49 (.iaddr .none 8 (.t 47) (.t 48)), A0 50 (.load .true 8 (.t 49)), A0 51 (.iaddr .none 8 (.t 45) (.t 46)), A6 (.store 8 (.t 51) (.t 50))]) (.ops [M0 52 3, A0 53 (.bin .add (.t 52) (ci 1)), M0 3 53])) .skip))) S92_0
def L92_2 : ACode := .seq (.seq (.ops [M0 29 5, M0 30 4, A0 31 (.len 1 (.t 30)), A0 32 (.bin .lss (.t 29) (.t 31))]) (.cond (.t 32) .skip (.exit 2))) S92_1
def S92_3 : ACode := .seq (.ops [M0 54 0, M0 55 3, A0 56 (.slc .sli 8 (.t 54) (.some (.t 55)) .none .none), A6 (.clr 8 z8 (.t 56))]) (.seq (.ops [M0 57 0, M0 58 3, A0 59 (.slc .sli 8 (.t 57) .none (.some (.t 58)) .none), M0 2 59]) .ret)
def S92_4 : ACode := .seq (.ops [M0 26 0, M0 27 3, A0 28 (.slc .sli 8 (.t 26) (.some (.t 27)) .none .none), M0 4 28]) (.seq (.seq (.ops [A0 5 (.mv (ci 1))]) (.block 2 (.loop L92_2))) S92_3)
def S92_5 : ACode := .ops [M0 14 3, A0 15 (.bin .add (.t 14) (ci 1)), M0 3 15]
def S92_6 : ACode := .seq (.block 1 (.seq (.ops [M1 16 0, M1 17 3, A1 18 (.iaddr .none 8 (.t 16) (.t 17)), A1 19 (.load .true 8 (.t 18)), M1 20 0, M1 21 3, A1 22 (.bin .sub (.t 21) (ci 1)), A1 23 (.iaddr .none 8 (.t 20) (.t 22)), A1 24 (.load .true 8 (.t 23)), A1 25 (.eqa .false 8 (.t 19) (.t 24))]) (.cond (.t 25) S92_4 .skip))) S92_5
def L92_7 : ACode := .seq (.seq (.ops [M0 10 3, M0 11 0, A0 12 (.len 1 (.t 11)), A0 13 (.bin .lss (.t 10) (.t 12))]) (.cond (.t 13) .skip (.exit 0))) S92_6
def S92_8 : ACode := .seq (.ops [M0 60 0, M0 2 60]) .ret
def S92_9 : ACode := .seq (.seq (.ops [A0 3 (.mv (ci 1))]) (.block 0 (.loop L92_7))) S92_8
def AF92 : AFn := ⟨(.seq (.ops [A0 2 (.mv (.c .nils))]) (.seq (.seq (.ops [M0 6 0, A0 7 (.len 1 (.t 6)), A0 8 (.bin .lss (.t 7) (ci 2))]) (.cond (.t 8) (.seq (.ops [M0 9 0, M0 2 9]) .ret) .skip)) S92_9)), [(.tmp 2)], 61, false, false⟩

/-- eliminant/monomial.In$1 -/
def AF93 : AFn := ⟨(.seq (.ops [A0 2 (.box (.t 0)), A0 3 (.mv (.c (.bool .false)))]) (.seq (.ops [A0 4 (.load .true 8 (.t 2)), A0 5 (.load .true 8 (.t 1)), A0 6 (.call (.c (.fn 33 [] [])) [(.t 4), (.t 5)]), M0 3 6]) .ret)), [(.tmp 3)], 7, true, true⟩

/-- eliminant/eliminantref04.lowest -/
def S94_0 : ACode := .ops [M0 10 5, A0 11 (.bin .add (.t 10) (ci 1)), M0 5 11]
def S94_1 : ACode := .seq (.block 1 (.seq (.ops [M1 12 1, M1 13 5, A1 14 (.iaddr .none 8 (.t 12) (.t 13)), A1 15 (.load .true 8 (.t 14)), A1 16 (.load .true 8 (.t 2)), A1 17 (.eqa .true 8 (.t 15) (.t 16)), M1 18 17, M3 18 19 1, M3 18 20 5, A3 18 21 (.iaddr .none 8 (.t 19) (.t 20)), A3 18 22 (.load .true 8 (.t 21)), A3 18 23 (.load .true 8 (.t 2)), A2 18 24 (.call (.c (.fn 34 [] [])) [(.t 22), (.t 23)]), A1 25 (.pick (.t 18) (.t 24) (.c (.bool .false)))]) (.cond (.t 25) (.seq (.ops [A0 4 (.mv (.c (.bool .false)))]) .ret) .skip))) S94_0
def L94_2 : ACode := .seq (.seq (.ops [M0 6 5, M0 7 1, A0 8 (.len 1 (.t 7)), A0 9 (.bin .lss (.t 6) (.t 8))]) (.cond (.t 9) .skip (.exit 0))) S94_1
def S94_3 : ACode := .seq (.ops [A0 4 (.mv (.c (.bool .true)))]) .ret
def AF94 : AFn := ⟨(.seq (.ops [A0 2 (.box (.t 0)), A0 4 (.mv (.c (.bool .false)))]) (.seq (.seq (.ops [A0 5 (.mv (ci 0))]) (.block 0 (.loop L94_2))) S94_3)), [(.tmp 4)], 26, true, true⟩

/-- eliminant/eliminantref04.insert -/
def S95_0 : ACode := .ops [M0 36 5, M0 37 0, M0 38 7, A0 39 (.iaddr .none 8 (.t 37) (.t 38)), A0 40 (.load .true 8 (.t 39)), A0 41 (.bslice 1 8 z8 [(0, (8, (.t 40)))]), A0 42 (.app 8 64 (.t 36) (.t 41)), M0 5 42]
def S95_1 : ACode := .ops [M0 13 7, A0 14 (.bin .add (.t 13) (ci 1)), M0 7 14]
def S95_2 : ACode := .seq (.block 1 (.seq (.seq (.ops [M1 15 6, A1 16 (.un .not (.t 15)), M1 17 16, A3 17 18 (.load .true 8 (.t 3)), M3 17 19 0, M3 17 20 7, A3 17 21 (.iaddr .none 8 (.t 19) (.t 20)), A3 17 22 (.load .true 8 (.t 21)), A2 17 23 (.call (.c (.fn 36 [] [])) [(.t 18), (.t 22)]), A3 17 24 (.bin .geq (.t 23) (ci 0)), A1 25 (.pick (.t 17) (.t 24) (.c (.bool .false)))]) (.cond (.t 25) (.seq (.ops [A0 6 (.mv (.c (.bool .true)))]) (.seq (.ops [M1 26 0, M1 27 7, A1 28 (.iaddr .none 8 (.t 26) (.t 27)), A1 29 (.load .true 8 (.t 28)), A1 30 (.load .true 8 (.t 3)), A1 31 (.eqa .true 8 (.t 29) (.t 30))]) (.cond (.t 31) (.ops [M0 32 5, A0 33 (.load .true 8 (.t 3)), A0 34 (.bslice 1 8 z8 [(0, (8, (.t 33)))]), A0 35 (.app 8 64 (.t 32) (.t 34)), M0 5 35]) .skip))) .skip)) S95_0)) S95_1
def L95_3 : ACode := .seq (.seq (.ops [M0 9 7, M0 10 0, A0 11 (.len 1 (.t 10)), A0 12 (.bin .lss (.t 9) (.t 11))]) (.cond (.t 12) .skip (.exit 0))) S95_2
def S95_4 : ACode := .seq (.ops [M0 49 5, M0 4 49]) .ret
def S95_5 : ACode := .seq (.seq (.ops [M0 43 6, A0 44 (.un .not (.t 43))]) (.cond (.t 44) (.ops [M0 45 5, A0 46 (.load .true 8 (.t 3)), A0 47 (.bslice 1 8 z8 [(0, (8, (.t 46)))]), A0 48 (.app 8 64 (.t 45) (.t 47)), M0 5 48]) .skip)) S95_4
def AF95 : AFn := ⟨(.seq (.ops [A0 3 (.box (.t 1)), A0 4 (.mv (.c .nils))]) (.seq (.ops [A0 8 (.bslice 0 8 [] []), M0 5 8]) (.seq (.ops [A0 6 (.mv (.c (.bool .false)))]) (.seq (.seq (.ops [A0 7 (.mv (ci 0))]) (.block 0 (.loop L95_3))) S95_5)))), [(.tmp 4)], 50, true, true⟩

/-- eliminant/eliminantref21.Gens -/
def S96_0 : ACode := .ops [M0 9 4, A0 10 (.bin .add (.t 9) (ci 1)), M0 4 10]
def S96_1 : ACode := .seq (.block 1 (.seq (.ops [M0 11 4, A0 12 (.iaddr (.some 8) 1 (.t 1) (.t 11)), A0 13 (.load .false 1 (.t 12)), A0 14 (.bin .gtr (.t 13) (ci 0))]) (.cond (.t 14) (.seq (.ops [A0 15 (.build z8 []), A0 5 (.alloc z8), A6 (.store 8 (.t 5) (.t 15))]) (.seq (.ops [M0 16 4, M0 17 4, A0 18 (.iaddr (.some 8) 1 (.t 1) (.t 17)), A0 19 (.load .false 1 (.t 18)), A0 20 (.iaddr (.some 8) 1 (.t 5) (.t 16)), A6 (.store 1 (.t 20) (.t 19))]) (.ops [M0 21 3, A0 22 (.load .true 8 (.t 5)), A0 23 (.bslice 1 8 z8 [(0, (8, (.t 22)))]), A0 24 (.app 8 64 (.t 21) (.t 23)), M0 3 24]))) .skip))) S96_0
def L96_2 : ACode := .seq (.seq (.ops [M0 7 4, A0 8 (.bin .lss (.t 7) (ci 8))]) (.cond (.t 8) .skip (.exit 0))) S96_1
def S96_3 : ACode := .seq (.ops [M0 25 3, M0 2 25]) .ret
def AF96 : AFn := ⟨(.seq (.ops [A0 1 (.box (.t 0)), A0 2 (.mv (.c .nils))]) (.seq (.ops [A0 6 (.bslice 0 8 [] []), M0 3 6]) (.seq (.seq (.ops [A0 4 (.mv (ci 0))]) (.block 0 (.loop L96_2))) S96_3))), [(.tmp 2)], 26, true, true⟩

/-- slices.IndexFunc[[]eliminant/api.Mono,eliminant/api.Mono] -/
def S97_0 : ACode := .ops [A0 18 (.bin .add (.t 8) (ci 1)), M0 8 18]
def S97_1 : ACode := .seq (.block 1 (.seq (.ops [M0 10 8, M0 5 10]) (.seq (.ops [M0 11 1, M0 12 0, M0 13 5, A0 14 (.iaddr .none 8 (.t 12) (.t 13)), A0 15 (.load .true 8 (.t 14)), A0 16 (.call (.t 11) [(.t 15)])]) (.cond (.t 16) (.seq (.ops [M0 17 5, M0 4 17]) .ret) .skip)))) S97_0
def L97_2 : ACode := .seq (.ops [A0 9 (.bin .lss (.t 8) (.t 7))]) (.seq (.cond (.t 9) .skip (.exit 0)) S97_1)
def S97_3 : ACode := .seq (.ops [A0 4 (.mv (ci (-1)))]) .ret
def AF97 : AFn := ⟨(.seq (.ops [A0 4 (.mv (ci 0))]) (.seq (.seq (.ops [M0 6 0, A0 7 (.len 1 (.t 6)), A0 8 (.mv (ci 0))]) (.block 0 (.loop L97_2))) S97_3)), [(.tmp 4)], 19, false, false⟩

/-- eliminant/components.inside -/
def S98_0 : ACode := .ops [A0 27 (.bin .add (.t 8) (ci 1)), M0 8 27]
def S98_1 : ACode := .seq (.block 1 (.seq (.ops [M0 10 8, A0 11 (.idx .false 8 1 (.t 7) (.t 8)), M0 5 10, M0 6 11]) (.seq (.ops [M0 12 6, A0 13 (.bin .gtr (.t 12) (ci 0)), M0 14 13, M2 14 15 5, A2 14 16 (.iaddr (.some 8) 1 (.t 3) (.t 15)), A2 14 17 (.load .false 1 (.t 16)), A2 14 18 (.bin .eql (.t 17) (ci 0)), M2 14 19 18, M4 19 20 5, A4 19 21 (.iaddr (.some 8) 1 (.t 3) (.t 20)), A4 19 22 (.load .false 1 (.t 21)), M4 19 23 6, A4 19 24 (.bin .gtr (.t 22) (.t 23)), A2 14 25 (.pick (.t 19) (.c (.bool .true)) (.t 24)), A0 26 (.pick (.t 14) (.t 25) (.c (.bool .false)))]) (.cond (.t 26) (.seq (.ops [A0 4 (.mv (.c (.bool .false)))]) .ret) .skip)))) S98_0
def L98_2 : ACode := .seq (.ops [A0 9 (.bin .lss (.t 8) (ci 8))]) (.seq (.cond (.t 9) .skip (.exit 0)) S98_1)
def S98_3 : ACode := .seq (.ops [A0 4 (.mv (.c (.bool .true)))]) .ret
def AF98 : AFn := ⟨(.seq (.ops [A0 2 (.box (.t 0)), A0 3 (.box (.t 1)), A0 4 (.mv (.c (.bool .false)))]) (.seq (.seq (.ops [A0 7 (.load .true 8 (.t 2)), A0 8 (.mv (ci 0))]) (.block 0 (.loop L98_2))) S98_3)), [(.tmp 4)], 28, true, true⟩

/-- slices.Contains[[]eliminant/api.Mono,eliminant/api.Mono] -/
def AF99 : AFn := ⟨(.seq (.ops [A0 3 (.box (.t 1)), A0 4 (.mv (.c (.bool .false)))]) (.seq (.ops [M0 5 0, A0 6 (.load .true 8 (.t 3)), A0 7 (.call (.c (.fn 108 [] [])) [(.t 5), (.t 6)]), A0 8 (.bin .geq (.t 7) (ci 0)), M0 4 8]) .ret)), [(.tmp 4)], 9, false, false⟩

/-- slices.pdqsortCmpFunc[eliminant/api.Mono] -/
def S100_0 : ACode := .seq (.ops [M0 106 0, M0 107 1, M0 108 2, M0 109 13, M0 110 4, A0 111 (.call (.c (.fn 116 [] [])) [(.t 106), (.t 107), (.t 108), (.t 109), (.t 110)]), M0 105 111, A0 112 (.ext (.t 105) 0), A0 113 (.ext (.t 105) 1), M0 16 112, M0 17 113]) (.seq (.ops [M0 114 17, M0 11 114]) (.seq (.ops [M0 115 16, M0 116 1, A0 117 (.bin .sub (.t 115) (.t 116)), M0 118 2, M0 119 16, A0 120 (.bin .sub (.t 118) (.t 119)), M0 18 117, M0 19 120]) (.seq (.ops [M0 121 12, A0 122 (.bin .quo (.t 121) (ci 8)), M0 20 122]) (.seq (.ops [M0 123 18, M0 124 19, A0 125 (.bin .lss (.t 123) (.t 124))]) (.cond (.t 125) (.seq (.ops [M0 126 18, M0 127 20, A0 128 (.bin .geq (.t 126) (.t 127)), M0 10 128]) (.seq (.ops [M0 129 0, M0 130 1, M0 131 16, M0 132 3, M0 133 4, A0 134 (.call (.c (.fn 100 [] [])) [(.t 129), (.t 130), (.t 131), (.t 132), (.t 133)])]) (.ops [M0 135 16, A0 136 (.bin .add (.t 135) (ci 1)), M0 1 136]))) (.seq (.ops [M0 137 19, M0 138 20, A0 139 (.bin .geq (.t 137) (.t 138)), M0 10 139]) (.seq (.ops [M0 140 0, M0 141 16, A0 142 (.bin .add (.t 141) (ci 1)), M0 143 2, M0 144 3, M0 145 4, A0 146 (.call (.c (.fn 100 [] [])) [(.t 140), (.t 142), (.t 143), (.t 144), (.t 145)])]) (.ops [M0 147 16, M0 2 147]))))))))
def S100_1 : ACode := .seq (.seq (.ops [M1 81 1, A1 82 (.bin .gtr (.t 81) (ci 0)), M1 83 82, M3 83 84 4, M3 83 85 0, M3 83 86 1, A3 83 87 (.bin .sub (.t 86) (ci 1)), A3 83 88 (.iaddr .none 8 (.t 85) (.t 87)), A3 83 89 (.load .true 8 (.t 88)), M3 83 90 0, M3 83 91 13, A3 83 92 (.iaddr .none 8 (.t 90) (.t 91)), A3 83 93 (.load .true 8 (.t 92)), A2 83 94 (.call (.t 84) [(.t 89), (.t 93)]), A3 83 95 (.bin .lss (.t 94) (ci 0)), A3 83 96 (.un .not (.t 95)), A1 97 (.pick (.t 83) (.t 96) (.c (.bool .false)))]) (.cond (.t 97) (.seq (.ops [M0 98 0, M0 99 1, M0 100 2, M0 101 13, M0 102 4, A0 103 (.call (.c (.fn 115 [] [])) [(.t 98), (.t 99), (.t 100), (.t 101), (.t 102)]), M0 15 103]) (.seq (.ops [M0 104 15, M0 1 104]) (.exit 1))) .skip)) S100_0
def S100_2 : ACode := .seq (.seq (.ops [M0 68 10, M0 69 68, M2 69 70 11, A0 71 (.pick (.t 69) (.t 70) (.c (.bool .false))), M0 72 71, M2 72 73 14, A2 72 74 (.bin .eql (.t 73) (ci 1)), A0 75 (.pick (.t 72) (.t 74) (.c (.bool .false)))]) (.cond (.t 75) (.seq (.ops [M0 76 0, M0 77 1, M0 78 2, M0 79 4, A0 80 (.call (.c (.fn 114 [] [])) [(.t 76), (.t 77), (.t 78), (.t 79)])]) (.cond (.t 80) .ret .skip)) .skip)) S100_1
def S100_3 : ACode := .seq (.ops [M0 48 0, M0 49 1, M0 50 2, M0 51 4, A0 52 (.call (.c (.fn 112 [] [])) [(.t 48), (.t 49), (.t 50), (.t 51)]), M0 47 52, A0 53 (.ext (.t 47) 0), A0 54 (.ext (.t 47) 1), M0 13 53, M0 14 54]) (.seq (.seq (.ops [M0 55 14, A0 56 (.bin .eql (.t 55) (ci 2))]) (.cond (.t 56) (.seq (.ops [M0 57 0, M0 58 1, M0 59 2, M0 60 4, A0 61 (.call (.c (.fn 113 [] [])) [(.t 57), (.t 58), (.t 59), (.t 60)])]) (.seq (.ops [M0 62 2, A0 63 (.bin .sub (.t 62) (ci 1)), M0 64 13, M0 65 1, A0 66 (.bin .sub (.t 64) (.t 65)), A0 67 (.bin .sub (.t 63) (.t 66)), M0 13 67]) (.ops [A0 14 (.mv (ci 1))]))) .skip)) S100_2)
def S100_4 : ACode := .seq (.seq (.ops [M0 38 10, A0 39 (.un .not (.t 38))]) (.cond (.t 39) (.seq (.ops [M0 40 0, M0 41 1, M0 42 2, M0 43 4, A0 44 (.call (.c (.fn 111 [] [])) [(.t 40), (.t 41), (.t 42), (.t 43)])]) (.ops [M0 45 3, A0 46 (.bin .sub (.t 45) (ci 1)), M0 3 46])) .skip)) S100_3
def S100_5 : ACode := .seq (.seq (.ops [M0 31 3, A0 32 (.bin .eql (.t 31) (ci 0))]) (.cond (.t 32) (.seq (.ops [M0 33 0, M0 34 1, M0 35 2, M0 36 4, A0 37 (.call (.c (.fn 110 [] [])) [(.t 33), (.t 34), (.t 35), (.t 36)])]) .ret) .skip)) S100_4
def L100_6 : ACode := .block 1 (.seq (.ops [M0 21 2, M0 22 1, A0 23 (.bin .sub (.t 21) (.t 22)), M0 12 23]) (.seq (.seq (.ops [M0 24 12, A0 25 (.bin .leq (.t 24) (ci 12))]) (.cond (.t 25) (.seq (.ops [M0 26 0, M0 27 1, M0 28 2, M0 29 4, A0 30 (.call (.c (.fn 109 [] [])) [(.t 26), (.t 27), (.t 28), (.t 29)])]) .ret) .skip)) S100_5))
def AF100 : AFn := ⟨(.seq (.ops [A0 10 (.mv (.c (.bool .true)))]) (.seq (.ops [A0 11 (.mv (.c (.bool .true)))]) (.block 0 (.loop L100_6)))), [], 148, false, false⟩

/-- math/bits.Len -/
def S101_0 : ACode := .seq (.ops [M0 6 0, A0 7 (.call (.c (.fn 118 [] [])) [(.t 6)]), M0 2 7]) .ret
def AF101 : AFn := ⟨(.seq (.ops [A0 2 (.mv (ci 0))]) (.seq (.cond (.c (.bool .false)) (.seq (.ops [M0 3 0, A0 4 (.cvi .u32 (.t 3)), A0 5 (.call (.c (.fn 117 [] [])) [(.t 4)]), M0 2 5]) .ret) .skip) S101_0)), [(.tmp 2)], 8, true, true⟩

/-- slices.Sort[[]uint8,uint8] -/
def AF102 : AFn := ⟨(.seq (.ops [M0 3 0, A0 4 (.len 1 (.t 3)), M0 2 4]) (.ops [M0 5 0, M0 6 2, M0 7 2, A0 8 (.cvi .u64 (.t 7)), A0 9 (.call (.c (.fn 101 [] [])) [(.t 8)]), A0 10 (.call (.c (.fn 119 [] [])) [(.t 5), (ci 0), (.t 6), (.t 9)])])), [], 11, false, false⟩

/-- slices.IndexFunc[[]uint8,uint8] -/
def S103_0 : ACode := .ops [A0 18 (.bin .add (.t 8) (ci 1)), M0 8 18]
def S103_1 : ACode := .seq (.block 1 (.seq (.ops [M0 10 8, M0 5 10]) (.seq (.ops [M0 11 1, M0 12 0, M0 13 5, A0 14 (.iaddr .none 1 (.t 12) (.t 13)), A0 15 (.load .false 1 (.t 14)), A0 16 (.call (.t 11) [(.t 15)])]) (.cond (.t 16) (.seq (.ops [M0 17 5, M0 4 17]) .ret) .skip)))) S103_0
def L103_2 : ACode := .seq (.ops [A0 9 (.bin .lss (.t 8) (.t 7))]) (.seq (.cond (.t 9) .skip (.exit 0)) S103_1)
def S103_3 : ACode := .seq (.ops [A0 4 (.mv (ci (-1)))]) .ret
def AF103 : AFn := ⟨(.seq (.ops [A0 4 (.mv (ci 0))]) (.seq (.seq (.ops [M0 6 0, A0 7 (.len 1 (.t 6)), A0 8 (.mv (ci 0))]) (.block 0 (.loop L103_2))) S103_3)), [(.tmp 4)], 19, false, false⟩

/-- eliminant/hilbert.check -/
def S104_0 : ACode := .seq (.ops [A0 4 (.mv (ci 0))]) .ret
def S104_1 : ACode := .seq (.seq (.ops [M0 16 0, A0 17 (.len 1 (.t 16)), A0 18 (.bin .gtr (.t 17) (ci 12)), M0 19 18, M4 19 20 0, A4 19 21 (.call (.c (.fn 64 [] [])) [(.t 20), (.c (.fn 121 [] []))]), A0 22 (.pick (.t 19) (.c (.bool .true)) (.t 21))]) (.cond (.t 22) (.seq (.ops [A0 4 (.mv (ci 2))]) .ret) .skip)) S104_0
def AF104 : AFn := ⟨(.seq (.ops [A0 3 (.box (.t 1)), A0 4 (.mv (ci 0))]) (.seq (.seq (.ops [A0 5 (.load .false 1 (.t 3)), A0 6 (.bin .lss (.t 5) (ci 0)), M0 7 6, A4 7 8 (.load .false 1 (.t 3)), A4 7 9 (.bin .gtr (.t 8) (ci 8)), A0 10 (.pick (.t 7) (.c (.bool .true)) (.t 9)), M0 11 10, M4 11 12 0, A4 11 13 (.mkf 120 [] [(.t 3)]), A4 11 14 (.call (.c (.fn 64 [] [])) [(.t 12), (.t 13)]), A0 15 (.pick (.t 11) (.c (.bool .true)) (.t 14))]) (.cond (.t 15) (.seq (.ops [A0 4 (.mv (ci 1))]) .ret) .skip)) S104_1)), [(.tmp 4)], 23, true, true⟩

/-- eliminant/hilbert.Independent$1 -/
def AF105 : AFn := ⟨(.seq (.ops [A0 2 (.box (.t 0)), A0 3 (.mv (.c (.bool .false)))]) (.seq (.ops [A0 4 (.load .false 1 (.t 1)), A0 5 (.mkf 106 [] [(.t 2)]), A0 6 (.call (.c (.fn 64 [] [])) [(.t 4), (.t 5)]), A0 7 (.un .not (.t 6)), M0 3 7]) .ret)), [(.tmp 3)], 8, true, true⟩

/-- eliminant/hilbert.Independent$1$1 -/
def AF106 : AFn := ⟨(.seq (.ops [A0 2 (.box (.t 0)), A0 3 (.mv (.c (.bool .false)))]) (.seq (.ops [A1 4 (.load .true 8 (.t 2)), A1 5 (.call (.c (.fn 43 [] [])) [(.t 4)]), A1 6 (.cvi .i64 (.t 5)), A1 7 (.load .false 1 (.t 1)), A1 8 (.bin .andNot (.t 6) (.t 7)), A1 9 (.bin .eql (.t 8) (ci 0)), M1 3 9]) .ret)), [(.tmp 3)], 10, true, true⟩

/-- cmp.Compare[int] -/
def AF107 : AFn := ⟨(.seq (.ops [A0 4 (.mv (ci 0))]) (.seq (.ops [M0 7 0, A0 8 (.call (.c (.fn 123 [] [])) [(.t 7)]), M0 5 8]) (.seq (.ops [M0 9 1, A0 10 (.call (.c (.fn 123 [] [])) [(.t 9)]), M0 6 10]) (.seq (.seq (.ops [M0 11 5]) (.cond (.t 11) (.seq (.seq (.ops [M0 12 6]) (.cond (.t 12) (.seq (.ops [A0 4 (.mv (ci 0))]) .ret) .skip)) (.seq (.ops [A0 4 (.mv (ci (-1)))]) .ret)) .skip)) (.seq (.seq (.ops [M0 13 6]) (.cond (.t 13) (.seq (.ops [A0 4 (.mv (ci 1))]) .ret) .skip)) (.seq (.seq (.ops [M0 14 0, M0 15 1, A0 16 (.bin .lss (.t 14) (.t 15))]) (.cond (.t 16) (.seq (.ops [A0 4 (.mv (ci (-1)))]) .ret) .skip)) (.seq (.seq (.ops [M0 17 0, M0 18 1, A0 19 (.bin .gtr (.t 17) (.t 18))]) (.cond (.t 19) (.seq (.ops [A0 4 (.mv (ci 1))]) .ret) .skip)) (.seq (.ops [A0 4 (.mv (ci 0))]) .ret)))))))), [(.tmp 4)], 20, true, true⟩

/-- slices.Index[[]eliminant/api.Mono,eliminant/api.Mono] -/
def S108_0 : ACode := .ops [A0 18 (.bin .add (.t 8) (ci 1)), M0 8 18]
def S108_1 : ACode := .seq (.block 1 (.seq (.ops [M0 10 8, M0 5 10]) (.seq (.ops [A1 11 (.load .true 8 (.t 3)), M1 12 0, M1 13 5, A1 14 (.iaddr .none 8 (.t 12) (.t 13)), A1 15 (.load .true 8 (.t 14)), A1 16 (.eqa .false 8 (.t 11) (.t 15))]) (.cond (.t 16) (.seq (.ops [M0 17 5, M0 4 17]) .ret) .skip)))) S108_0
def L108_2 : ACode := .seq (.ops [A0 9 (.bin .lss (.t 8) (.t 7))]) (.seq (.cond (.t 9) .skip (.exit 0)) S108_1)
def S108_3 : ACode := .seq (.ops [A0 4 (.mv (ci (-1)))]) .ret
def AF108 : AFn := ⟨(.seq (.ops [A0 3 (.box (.t 1)), A0 4 (.mv (ci 0))]) (.seq (.seq (.ops [M0 6 0, A0 7 (.len 1 (.t 6)), A0 8 (.mv (ci 0))]) (.block 0 (.loop L108_2))) S108_3)), [(.tmp 4)], 19, false, false⟩

/-- slices.insertionSortCmpFunc[eliminant/api.Mono] -/
def S109_0 : ACode := .seq (.block 3 (.ops [M1 37 0, M1 38 9, M1 39 0, M1 40 9, A1 41 (.bin .sub (.t 40) (ci 1)), M1 42 0, M1 43 9, A1 44 (.bin .sub (.t 43) (ci 1)), A1 45 (.iaddr .none 8 (.t 42) (.t 44)), A1 46 (.load .true 8 (.t 45)), M1 47 0, M1 48 9, A1 49 (.iaddr .none 8 (.t 47) (.t 48)), A1 50 (.load .true 8 (.t 49)), A1 51 (.iaddr .none 8 (.t 37) (.t 38)), A6 (.store 8 (.t 51) (.t 46)), A1 52 (.iaddr .none 8 (.t 39) (.t 41)), A6 (.store 8 (.t 52) (.t 50))])) (.ops [M0 35 9, A0 36 (.bin .sub (.t 35) (ci 1)), M0 9 36])
def L109_1 : ACode := .seq (.seq (.ops [M1 18 9, M1 19 1, A1 20 (.bin .gtr (.t 18) (.t 19)), M1 21 20, M3 21 22 3, M3 21 23 0, M3 21 24 9, A3 21 25 (.iaddr .none 8 (.t 23) (.t 24)), A3 21 26 (.load .true 8 (.t 25)), M3 21 27 0, M3 21 28 9, A3 21 29 (.bin .sub (.t 28) (ci 1)), A3 21 30 (.iaddr .none 8 (.t 27) (.t 29)), A3 21 31 (.load .true 8 (.t 30)), A2 21 32 (.call (.t 22) [(.t 26), (.t 31)]), A3 21 33 (.bin .lss (.t 32) (ci 0)), A1 34 (.pick (.t 21) (.t 33) (.c (.bool .false)))]) (.cond (.t 34) .skip (.exit 2))) S109_0
def S109_2 : ACode := .ops [M0 15 8, A0 16 (.bin .add (.t 15) (ci 1)), M0 8 16]
def S109_3 : ACode := .seq (.block 1 (.seq (.ops [M0 17 8, M0 9 17]) (.block 2 (.loop L109_1)))) S109_2
def L109_4 : ACode := .seq (.seq (.ops [M0 12 8, M0 13 2, A0 14 (.bin .lss (.t 12) (.t 13))]) (.cond (.t 14) .skip (.exit 0))) S109_3
def AF109 : AFn := ⟨(.seq (.ops [M0 10 1, A0 11 (.bin .add (.t 10) (ci 1)), M0 8 11]) (.block 0 (.loop L109_4))), [], 53, false, false⟩

/-- slices.heapSortCmpFunc[eliminant/api.Mono] -/
def S110_0 : ACode := .seq (.block 1 (.ops [M0 24 0, M0 25 11, M0 26 10, M0 27 8, M0 28 3, A0 29 (.call (.c (.fn 124 [] [])) [(.t 24), (.t 25), (.t 26), (.t 27), (.t 28)])])) (.ops [M0 22 11, A0 23 (.bin .sub (.t 22) (ci 1)), M0 11 23])
def L110_1 : ACode := .seq (.seq (.ops [M0 20 11, A0 21 (.bin .geq (.t 20) (ci 0))]) (.cond (.t 21) .skip (.exit 0))) S110_0
def S110_2 : ACode := .seq (.block 3 (.seq (.ops [M1 36 0, M1 37 8, M1 38 0, M1 39 8, M1 40 12, A1 41 (.bin .add (.t 39) (.t 40)), M1 42 0, M1 43 8, M1 44 12, A1 45 (.bin .add (.t 43) (.t 44)), A1 46 (.iaddr .none 8 (.t 42) (.t 45)), A1 47 (.load .true 8 (.t 46)), M1 48 0, M1 49 8, A1 50 (.iaddr .none 8 (.t 48) (.t 49)), A1 51 (.load .true 8 (.t 50)), A1 52 (.iaddr .none 8 (.t 36) (.t 37)), A6 (.store 8 (.t 52) (.t 47)), A1 53 (.iaddr .none 8 (.t 38) (.t 41)), A6 (.store 8 (.t 53) (.t 51))]) (.ops [M0 54 0, M0 55 9, M0 56 12, M0 57 8, M0 58 3, A0 59 (.call (.c (.fn 124 [] [])) [(.t 54), (.t 55), (.t 56), (.t 57), (.t 58)])]))) (.ops [M0 34 12, A0 35 (.bin .sub (.t 34) (ci 1)), M0 12 35])
def L110_3 : ACode := .seq (.seq (.ops [M0 32 12, A0 33 (.bin .geq (.t 32) (ci 0))]) (.cond (.t 33) .skip (.exit 2))) S110_2
def S110_4 : ACode := .seq (.ops [M0 30 10, A0 31 (.bin .sub (.t 30) (ci 1)), M0 12 31]) (.block 2 (.loop L110_3))
def AF110 : AFn := ⟨(.seq (.ops [M0 13 1, M0 8 13]) (.seq (.ops [A0 9 (.mv (ci 0))]) (.seq (.ops [M0 14 2, M0 15 1, A0 16 (.bin .sub (.t 14) (.t 15)), M0 10 16]) (.seq (.seq (.ops [M0 17 10, A0 18 (.bin .sub (.t 17) (ci 1)), A0 19 (.bin .quo (.t 18) (ci 2)), M0 11 19]) (.block 0 (.loop L110_1))) S110_4)))), [], 60, false, false⟩

/-- slices.breakPatternsCmpFunc[eliminant/api.Mono] -/
def S111_0 : ACode := .ops [M1 49 0, M1 50 11, M1 51 0, M1 52 1, M1 53 12, A1 54 (.bin .add (.t 52) (.t 53)), M1 55 0, M1 56 1, M1 57 12, A1 58 (.bin .add (.t 56) (.t 57)), A1 59 (.iaddr .none 8 (.t 55) (.t 58)), A1 60 (.load .true 8 (.t 59)), M1 61 0, M1 62 11, A1 63 (.iaddr .none 8 (.t 61) (.t 62)), A1 64 (.load .true 8 (.t 63)), A1 65 (.iaddr .none 8 (.t 49) (.t 50)), A6 (.store 8 (.t 65) (.t 60)), A1 66 (.iaddr .none 8 (.t 51) (.t 54)), A6 (.store 8 (.t 66) (.t 64))]
def S111_1 : ACode := .ops [M0 36 11, A0 37 (.bin .add (.t 36) (ci 1)), M0 11 37]
def S111_2 : ACode := .seq (.block 1 (.seq (.ops [A0 38 (.call (.c (.fn 126 [] [])) [(.t 9)]), M0 39 10, A0 40 (.bin .sub (.t 39) (.c (.int .u64 1))), A0 41 (.bin .and (.t 38) (.t 40)), A0 42 (.cvi .i64 (.t 41)), M0 12 42]) (.seq (.seq (.ops [M0 43 12, M0 44 8, A0 45 (.bin .geq (.t 43) (.t 44))]) (.cond (.t 45) (.ops [M0 46 12, M0 47 8, A0 48 (.bin .sub (.t 46) (.t 47)), M0 12 48]) .skip)) S111_0))) S111_1
def L111_3 : ACode := .seq (.seq (.ops [M0 28 11, M0 29 1, M0 30 8, A0 31 (.bin .quo (.t 30) (ci 4)), A0 32 (.bin .mul (.t 31) (ci 2)), A0 33 (.bin .add (.t 29) (.t 32)), A0 34 (.bin .add (.t 33) (ci 1)), A0 35 (.bin .leq (.t 28) (.t 34))]) (.cond (.t 35) .skip (.exit 0))) S111_2
def S111_4 : ACode := .seq (.ops [M0 18 8, A0 19 (.cvi .u64 (.t 18)), A0 9 (.alloc [(.int .u64 0)]), A6 (.store 1 (.t 9) (.t 19))]) (.seq (.ops [M0 20 8, A0 21 (.call (.c (.fn 125 [] [])) [(.t 20)]), M0 10 21]) (.seq (.ops [M0 22 1, M0 23 8, A0 24 (.bin .quo (.t 23) (ci 4)), A0 25 (.bin .mul (.t 24) (ci 2)), A0 26 (.bin .add (.t 22) (.t 25)), A0 27 (.bin .sub (.t 26) (ci 1)), M0 11 27]) (.block 0 (.loop L111_3))))
def AF111 : AFn := ⟨(.seq (.ops [M0 13 2, M0 14 1, A0 15 (.bin .sub (.t 13) (.t 14)), M0 8 15]) (.seq (.ops [M0 16 8, A0 17 (.bin .geq (.t 16) (ci 8))]) (.cond (.t 17) S111_4 .skip))), [], 67, false, false⟩

/-- slices.choosePivotCmpFunc[eliminant/api.Mono] -/
def S112_0 : ACode := .ops [M0 49 0, M0 50 12, M0 51 13, M0 52 14, M0 53 3, A0 54 (.call (.c (.fn 128 [] [])) [(.t 49), (.t 50), (.t 51), (.t 52), (.t 11), (.t 53)]), M0 13 54]
def S112_1 : ACode := .seq (.ops [A0 55 (.load .false 1 (.t 11))]) (.block 0 (.seq (.ops [A0 58 (.bin .eql (.t 55) (ci 0)), M0 57 58]) (.cond (.t 57) (.seq (.ops [M0 59 13, M0 8 59, A0 9 (.mv (ci 1))]) .ret) (.seq (.ops [A0 61 (.bin .eql (.t 55) (ci 12)), M0 60 61]) (.cond (.t 60) (.seq (.ops [M0 62 13, M0 8 62, A0 9 (.mv (ci 2))]) .ret) (.seq (.ops [M0 56 13, M0 8 56, A0 9 (.mv (ci 0))]) .ret))))))
def AF112 : AFn := ⟨(.seq (.ops [A0 8 (.mv (ci 0)), A0 9 (.mv (ci 0))]) (.seq (.ops [M0 15 2, M0 16 1, A0 17 (.bin .sub (.t 15) (.t 16)), M0 10 17]) (.seq (.ops [A0 11 (.alloc [(.int .i64 0)])]) (.seq (.ops [M0 18 1, M0 19 10, A0 20 (.bin .quo (.t 19) (ci 4)), A0 21 (.bin .mul (.t 20) (ci 1)), A0 22 (.bin .add (.t 18) (.t 21)), M0 12 22]) (.seq (.ops [M0 23 1, M0 24 10, A0 25 (.bin .quo (.t 24) (ci 4)), A0 26 (.bin .mul (.t 25) (ci 2)), A0 27 (.bin .add (.t 23) (.t 26)), M0 13 27]) (.seq (.ops [M0 28 1, M0 29 10, A0 30 (.bin .quo (.t 29) (ci 4)), A0 31 (.bin .mul (.t 30) (ci 3)), A0 32 (.bin .add (.t 28) (.t 31)), M0 14 32]) (.seq (.seq (.ops [M0 33 10, A0 34 (.bin .geq (.t 33) (ci 8))]) (.cond (.t 34) (.seq (.seq (.ops [M0 35 10, A0 36 (.bin .geq (.t 35) (ci 50))]) (.cond (.t 36) (.seq (.ops [M0 37 0, M0 38 12, M0 39 3, A0 40 (.call (.c (.fn 127 [] [])) [(.t 37), (.t 38), (.t 11), (.t 39)]), M0 12 40]) (.seq (.ops [M0 41 0, M0 42 13, M0 43 3, A0 44 (.call (.c (.fn 127 [] [])) [(.t 41), (.t 42), (.t 11), (.t 43)]), M0 13 44]) (.ops [M0 45 0, M0 46 14, M0 47 3, A0 48 (.call (.c (.fn 127 [] [])) [(.t 45), (.t 46), (.t 11), (.t 47)]), M0 14 48]))) .skip)) S112_0) .skip)) S112_1))))))), [(.tmp 8), (.tmp 9)], 63, false, false⟩

/-- slices.reverseRangeCmpFunc[eliminant/api.Mono] -/
def S113_0 : ACode := .block 1 (.seq (.ops [M1 16 0, M1 17 8, M1 18 0, M1 19 9, M1 20 0, M1 21 9, A1 22 (.iaddr .none 8 (.t 20) (.t 21)), A1 23 (.load .true 8 (.t 22)), M1 24 0, M1 25 8, A1 26 (.iaddr .none 8 (.t 24) (.t 25)), A1 27 (.load .true 8 (.t 26)), A1 28 (.iaddr .none 8 (.t 16) (.t 17)), A6 (.store 8 (.t 28) (.t 23)), A1 29 (.iaddr .none 8 (.t 18) (.t 19)), A6 (.store 8 (.t 29) (.t 27))]) (.seq (.ops [M0 30 8, A0 31 (.bin .add (.t 30) (ci 1)), M0 8 31]) (.ops [M0 32 9, A0 33 (.bin .sub (.t 32) (ci 1)), M0 9 33])))
def L113_1 : ACode := .seq (.seq (.ops [M0 13 8, M0 14 9, A0 15 (.bin .lss (.t 13) (.t 14))]) (.cond (.t 15) .skip (.exit 0))) S113_0
def AF113 : AFn := ⟨(.seq (.ops [M0 10 1, M0 8 10]) (.seq (.ops [M0 11 2, A0 12 (.bin .sub (.t 11) (ci 1)), M0 9 12]) (.block 0 (.loop L113_1)))), [], 34, false, false⟩

/-- slices.partialInsertionSortCmpFunc[eliminant/api.Mono] -/
def S114_0 : ACode := .block 3 (.ops [M0 37 9, A0 38 (.bin .add (.t 37) (ci 1)), M0 9 38])
def L114_1 : ACode := .seq (.seq (.ops [M1 19 9, M1 20 2, A1 21 (.bin .lss (.t 19) (.t 20)), M1 22 21, M3 22 23 3, M3 22 24 0, M3 22 25 9, A3 22 26 (.iaddr .none 8 (.t 24) (.t 25)), A3 22 27 (.load .true 8 (.t 26)), M3 22 28 0, M3 22 29 9, A3 22 30 (.bin .sub (.t 29) (ci 1)), A3 22 31 (.iaddr .none 8 (.t 28) (.t 30)), A3 22 32 (.load .true 8 (.t 31)), A2 22 33 (.call (.t 23) [(.t 27), (.t 32)]), A3 22 34 (.bin .lss (.t 33) (ci 0)), A3 22 35 (.un .not (.t 34)), A1 36 (.pick (.t 22) (.t 35) (.c (.bool .false)))]) (.cond (.t 36) .skip (.exit 2))) S114_0
def S114_2 : ACode := .ops [M1 85 0, M1 86 11, M1 87 0, M1 88 11, A1 89 (.bin .sub (.t 88) (ci 1)), M1 90 0, M1 91 11, A1 92 (.bin .sub (.t 91) (ci 1)), A1 93 (.iaddr .none 8 (.t 90) (.t 92)), A1 94 (.load .true 8 (.t 93)), M1 95 0, M1 96 11, A1 97 (.iaddr .none 8 (.t 95) (.t 96)), A1 98 (.load .true 8 (.t 97)), A1 99 (.iaddr .none 8 (.t 85) (.t 86)), A6 (.store 8 (.t 99) (.t 94)), A1 100 (.iaddr .none 8 (.t 87) (.t 89)), A6 (.store 8 (.t 100) (.t 98))]
def S114_3 : ACode := .ops [M0 70 11, A0 71 (.bin .sub (.t 70) (ci 1)), M0 11 71]
def S114_4 : ACode := .seq (.block 5 (.seq (.seq (.ops [M1 72 3, M1 73 0, M1 74 11, A1 75 (.iaddr .none 8 (.t 73) (.t 74)), A1 76 (.load .true 8 (.t 75)), M1 77 0, M1 78 11, A1 79 (.bin .sub (.t 78) (ci 1)), A1 80 (.iaddr .none 8 (.t 77) (.t 79)), A1 81 (.load .true 8 (.t 80)), A0 82 (.call (.t 72) [(.t 76), (.t 81)]), A1 83 (.bin .lss (.t 82) (ci 0)), A1 84 (.un .not (.t 83))]) (.cond (.t 84) (.exit 4) .skip)) S114_2)) S114_3
def L114_5 : ACode := .seq (.seq (.ops [M0 68 11, A0 69 (.bin .geq (.t 68) (ci 1))]) (.cond (.t 69) .skip (.exit 4))) S114_4
def S114_6 : ACode := .seq (.ops [M0 66 9, A0 67 (.bin .sub (.t 66) (ci 1)), M0 11 67]) (.block 4 (.loop L114_5))
def S114_7 : ACode := .ops [M1 125 0, M1 126 12, M1 127 0, M1 128 12, A1 129 (.bin .sub (.t 128) (ci 1)), M1 130 0, M1 131 12, A1 132 (.bin .sub (.t 131) (ci 1)), A1 133 (.iaddr .none 8 (.t 130) (.t 132)), A1 134 (.load .true 8 (.t 133)), M1 135 0, M1 136 12, A1 137 (.iaddr .none 8 (.t 135) (.t 136)), A1 138 (.load .true 8 (.t 137)), A1 139 (.iaddr .none 8 (.t 125) (.t 126)), A6 (.store 8 (.t 139) (.t 134)), A1 140 (.iaddr .none 8 (.t 127) (.t 129)), A6 (.store 8 (.t 140) (.t 138))]
def S114_8 : ACode := .ops [M0 110 12, A0 111 (.bin .add (.t 110) (ci 1)), M0 12 111]
def S114_9 : ACode := .seq (.block 7 (.seq (.seq (.ops [M1 112 3, M1 113 0, M1 114 12, A1 115 (.iaddr .none 8 (.t 113) (.t 114)), A1 116 (.load .true 8 (.t 115)), M1 117 0, M1 118 12, A1 119 (.bin .sub (.t 118) (ci 1)), A1 120 (.iaddr .none 8 (.t 117) (.t 119)), A1 121 (.load .true 8 (.t 120)), A0 122 (.call (.t 112) [(.t 116), (.t 121)]), A1 123 (.bin .lss (.t 122) (ci 0)), A1 124 (.un .not (.t 123))]) (.cond (.t 124) (.exit 6) .skip)) S114_7)) S114_8
def L114_10 : ACode := .seq (.seq (.ops [M0 107 12, M0 108 2, A0 109 (.bin .lss (.t 107) (.t 108))]) (.cond (.t 109) .skip (.exit 6))) S114_9
def S114_11 : ACode := .seq (.ops [M0 105 9, A0 106 (.bin .add (.t 105) (ci 1)), M0 12 106]) (.block 6 (.loop L114_10))
def S114_12 : ACode := .seq (.ops [M0 101 2, M0 102 9, A0 103 (.bin .sub (.t 101) (.t 102)), A0 104 (.bin .geq (.t 103) (ci 2))]) (.cond (.t 104) S114_11 .skip)
def S114_13 : ACode := .seq (.ops [M1 46 0, M1 47 9, M1 48 0, M1 49 9, A1 50 (.bin .sub (.t 49) (ci 1)), M1 51 0, M1 52 9, A1 53 (.bin .sub (.t 52) (ci 1)), A1 54 (.iaddr .none 8 (.t 51) (.t 53)), A1 55 (.load .true 8 (.t 54)), M1 56 0, M1 57 9, A1 58 (.iaddr .none 8 (.t 56) (.t 57)), A1 59 (.load .true 8 (.t 58)), A1 60 (.iaddr .none 8 (.t 46) (.t 47)), A6 (.store 8 (.t 60) (.t 55)), A1 61 (.iaddr .none 8 (.t 48) (.t 50)), A6 (.store 8 (.t 61) (.t 59))]) (.seq (.seq (.ops [M0 62 9, M0 63 1, A0 64 (.bin .sub (.t 62) (.t 63)), A0 65 (.bin .geq (.t 64) (ci 2))]) (.cond (.t 65) S114_6 .skip)) S114_12)
def S114_14 : ACode := .seq (.seq (.ops [M0 42 2, M0 43 1, A0 44 (.bin .sub (.t 42) (.t 43)), A0 45 (.bin .lss (.t 44) (ci 50))]) (.cond (.t 45) (.seq (.ops [A0 8 (.mv (.c (.bool .false)))]) .ret) .skip)) S114_13
def S114_15 : ACode := .seq (.seq (.ops [M0 39 9, M0 40 2, A0 41 (.bin .eql (.t 39) (.t 40))]) (.cond (.t 41) (.seq (.ops [A0 8 (.mv (.c (.bool .true)))]) .ret) .skip)) S114_14
def S114_16 : ACode := .ops [M0 17 10, A0 18 (.bin .add (.t 17) (ci 1)), M0 10 18]
def S114_17 : ACode := .seq (.block 1 (.seq (.block 2 (.loop L114_1)) S114_15)) S114_16
def L114_18 : ACode := .seq (.seq (.ops [M0 15 10, A0 16 (.bin .lss (.t 15) (ci 5))]) (.cond (.t 16) .skip (.exit 0))) S114_17
def S114_19 : ACode := .seq (.ops [A0 8 (.mv (.c (.bool .false)))]) .ret
def AF114 : AFn := ⟨(.seq (.ops [A0 8 (.mv (.c (.bool .false)))]) (.seq (.ops [M0 13 1, A0 14 (.bin .add (.t 13) (ci 1)), M0 9 14]) (.seq (.seq (.ops [A0 10 (.mv (ci 0))]) (.block 0 (.loop L114_18))) S114_19))), [(.tmp 8)], 141, false, false⟩
end Go.Mach.Ytl
