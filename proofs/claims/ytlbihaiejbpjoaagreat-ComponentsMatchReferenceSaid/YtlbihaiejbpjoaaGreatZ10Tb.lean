/-
  Pruned copy of the text Tb. By an AI agent.
-/
import Derived.Test.YtlbihaiejbpjoaaGreatProg
import Derived.KernelRfl
import Derived.Test.YtlbihaiejbpjoaaGreatZ10Ta0
import Derived.Test.YtlbihaiejbpjoaaGreatZ10Ta1
import Derived.Test.YtlbihaiejbpjoaaGreatZ10Ta2
import Derived.Test.YtlbihaiejbpjoaaGreatZ10Ta3
set_option maxRecDepth 20000
namespace Go.Mach
namespace Ytl
open Go.Proofs
def tab (f : Nat) : Option AFn := if f < 55 then (if f < 29 then (if f < 16 then (if f < 9 then (if f < 6 then (if f < 4 then (if f = 3 then some AF1003 else none) else (if f < 5 then (if f = 4 then some AF18 else none) else (if f = 5 then some AF24 else none))) else (if f < 7 then (if f = 6 then some AF52 else none) else (if f < 8 then (if f = 7 then some AF19 else none) else (if f = 8 then some AF1008 else none)))) else (if f < 12 then (if f < 10 then (if f = 9 then some AF20 else none) else (if f < 11 then (if f = 10 then some AF1010 else none) else (if f = 11 then some AF21 else none))) else (if f < 14 then (if f < 13 then (if f = 12 then some AF1012 else none) else (if f = 13 then some AF22 else none)) else (if f < 15 then (if f = 14 then some AF1014 else none) else (if f = 15 then some AF51 else none))))) else (if f < 22 then (if f < 19 then (if f < 17 then (if f = 16 then some AF62 else none) else (if f < 18 then (if f = 17 then some AF63 else none) else (if f = 18 then some AF53 else none))) else (if f < 20 then (if f = 19 then some AF59 else none) else (if f < 21 then (if f = 20 then some AF54 else none) else (if f = 21 then some AF1021 else none)))) else (if f < 25 then (if f < 23 then (if f = 22 then some AF64 else none) else (if f < 24 then (if f = 23 then some AF65 else none) else (if f = 24 then some AF45 else none))) else (if f < 27 then (if f < 26 then (if f = 25 then some AF66 else none) else (if f = 26 then some AF43 else none)) else (if f < 28 then (if f = 27 then some AF49 else none) else (if f = 28 then some AF67 else none)))))) else (if f < 42 then (if f < 35 then (if f < 32 then (if f < 30 then (if f = 29 then some AF68 else none) else (if f < 31 then (if f = 30 then some AF33 else none) else (if f = 31 then some AF69 else none))) else (if f < 33 then (if f = 32 then some AF70 else none) else (if f < 34 then (if f = 33 then some AF71 else none) else (if f = 34 then some AF35 else none)))) else (if f < 38 then (if f < 36 then (if f = 35 then some AF1035 else none) else (if f < 37 then (if f = 36 then some AF55 else none) else (if f = 37 then some AF1037 else none))) else (if f < 40 then (if f < 39 then (if f = 38 then some AF1038 else none) else (if f = 39 then some AF1039 else none)) else (if f < 41 then (if f = 40 then some AF72 else none) else (if f = 41 then some AF44 else none))))) else (if f < 48 then (if f < 45 then (if f < 43 then (if f = 42 then some AF73 else none) else (if f < 44 then (if f = 43 then some AF74 else none) else (if f = 44 then some AF75 else none))) else (if f < 46 then (if f = 45 then some AF96 else none) else (if f < 47 then (if f = 46 then some AF37 else none) else (if f = 47 then some AF38 else none)))) else (if f < 51 then (if f < 49 then (if f = 48 then some AF97 else none) else (if f < 50 then (if f = 49 then some AF87 else none) else (if f = 50 then some AF88 else none))) else (if f < 53 then (if f < 52 then (if f = 51 then some AF89 else none) else (if f = 52 then some AF90 else none)) else (if f < 54 then (if f = 53 then some AF91 else none) else (if f = 54 then some AF92 else none))))))) else (if f < 81 then (if f < 68 then (if f < 61 then (if f < 58 then (if f < 56 then (if f = 55 then some AF39 else none) else (if f < 57 then (if f = 56 then some AF98 else none) else (if f = 57 then some AF99 else none))) else (if f < 59 then (if f = 58 then some AF100 else none) else (if f < 60 then (if f = 59 then some AF101 else none) else (if f = 60 then some AF82 else none)))) else (if f < 64 then (if f < 62 then (if f = 61 then some AF47 else none) else (if f < 63 then (if f = 62 then some AF94 else none) else (if f = 63 then some AF95 else none))) else (if f < 66 then (if f < 65 then (if f = 64 then some AF1064 else none) else (if f = 65 then some AF36 else none)) else (if f < 67 then (if f = 66 then some AF102 else none) else (if f = 67 then some AF85 else none))))) else (if f < 74 then (if f < 71 then (if f < 69 then (if f = 68 then some AF103 else none) else (if f < 70 then (if f = 69 then some AF79 else none) else (if f = 70 then some AF83 else none))) else (if f < 72 then (if f = 71 then some AF84 else none) else (if f < 73 then (if f = 72 then some AF108 else none) else (if f = 73 then some AF109 else none)))) else (if f < 77 then (if f < 75 then (if f = 74 then some AF110 else none) else (if f < 76 then (if f = 75 then some AF111 else none) else (if f = 76 then some AF112 else none))) else (if f < 79 then (if f < 78 then (if f = 77 then some AF113 else none) else (if f = 78 then some AF114 else none)) else (if f < 80 then (if f = 79 then some AF115 else none) else (if f = 80 then some AF116 else none)))))) else (if f < 94 then (if f < 87 then (if f < 84 then (if f < 82 then (if f = 81 then some AF117 else none) else (if f < 83 then (if f = 82 then some AF118 else none) else (if f = 83 then some AF107 else none))) else (if f < 85 then (if f = 84 then some AF34 else none) else (if f < 86 then (if f = 85 then some AF119 else none) else (if f = 86 then some AF124 else none)))) else (if f < 90 then (if f < 88 then (if f = 87 then some AF125 else none) else (if f < 89 then (if f = 88 then some AF126 else none) else (if f = 89 then some AF127 else none))) else (if f < 92 then (if f < 91 then (if f = 90 then some AF128 else none) else (if f = 91 then some AF123 else none)) else (if f < 93 then (if f = 92 then some AF129 else none) else (if f = 93 then some AF130 else none))))) else (if f < 100 then (if f < 97 then (if f < 95 then (if f = 94 then some AF131 else none) else (if f < 96 then (if f = 95 then some AF132 else none) else (if f = 96 then some AF133 else none))) else (if f < 98 then (if f = 97 then some AF134 else none) else (if f < 99 then (if f = 98 then some AF135 else none) else (if f = 99 then some AF136 else none)))) else (if f < 103 then (if f < 101 then (if f = 100 then some AF137 else none) else (if f < 102 then (if f = 101 then some AF138 else none) else (if f = 102 then some AF139 else none))) else (if f < 105 then (if f < 104 then (if f = 103 then some AF140 else none) else (if f = 104 then some AF141 else none)) else (if f < 106 then (if f = 105 then some AF142 else none) else (if f = 106 then some AF143 else none)))))))
theorem tab_1003 : tab 3 = some AF1003 := rfl
theorem ok_1003 : trFn Tryz.prog 3 = some (AF1003.body, AF1003.res, AF1003.ntmps) := by kernel_rfl
theorem ok_18 : trFn Tryz.prog 4 = some (AF18.body, AF18.res, AF18.ntmps) := by kernel_rfl
theorem tab_24 : tab 5 = some AF24 := rfl
theorem ok_24 : trFn Tryz.prog 5 = some (AF24.body, AF24.res, AF24.ntmps) := by kernel_rfl
theorem tab_52 : tab 6 = some AF52 := rfl
theorem ok_52 : trFn Tryz.prog 6 = some (AF52.body, AF52.res, AF52.ntmps) := by kernel_rfl
theorem tab_19 : tab 7 = some AF19 := rfl
theorem ok_19 : trFn Tryz.prog 7 = some (AF19.body, AF19.res, AF19.ntmps) := by kernel_rfl
theorem tab_1008 : tab 8 = some AF1008 := rfl
theorem ok_1008 : trFn Tryz.prog 8 = some (AF1008.body, AF1008.res, AF1008.ntmps) := by kernel_rfl
theorem tab_20 : tab 9 = some AF20 := rfl
theorem ok_20 : trFn Tryz.prog 9 = some (AF20.body, AF20.res, AF20.ntmps) := by kernel_rfl
theorem tab_1010 : tab 10 = some AF1010 := rfl
theorem ok_1010 : trFn Tryz.prog 10 = some (AF1010.body, AF1010.res, AF1010.ntmps) := by kernel_rfl
theorem tab_21 : tab 11 = some AF21 := rfl
theorem ok_21 : trFn Tryz.prog 11 = some (AF21.body, AF21.res, AF21.ntmps) := by kernel_rfl
theorem tab_1012 : tab 12 = some AF1012 := rfl
theorem ok_1012 : trFn Tryz.prog 12 = some (AF1012.body, AF1012.res, AF1012.ntmps) := by kernel_rfl
theorem tab_22 : tab 13 = some AF22 := rfl
theorem ok_22 : trFn Tryz.prog 13 = some (AF22.body, AF22.res, AF22.ntmps) := by kernel_rfl
theorem tab_1014 : tab 14 = some AF1014 := rfl
theorem ok_1014 : trFn Tryz.prog 14 = some (AF1014.body, AF1014.res, AF1014.ntmps) := by kernel_rfl
theorem tab_51 : tab 15 = some AF51 := rfl
theorem ok_51 : trFn Tryz.prog 15 = some (AF51.body, AF51.res, AF51.ntmps) := by kernel_rfl
theorem tab_62 : tab 16 = some AF62 := rfl
theorem ok_62 : trFn Tryz.prog 16 = some (AF62.body, AF62.res, AF62.ntmps) := by kernel_rfl
theorem tab_63 : tab 17 = some AF63 := rfl
theorem ok_63 : trFn Tryz.prog 17 = some (AF63.body, AF63.res, AF63.ntmps) := by kernel_rfl
theorem tab_53 : tab 18 = some AF53 := rfl
theorem ok_53 : trFn Tryz.prog 18 = some (AF53.body, AF53.res, AF53.ntmps) := by kernel_rfl
theorem tab_59 : tab 19 = some AF59 := rfl
theorem ok_59 : trFn Tryz.prog 19 = some (AF59.body, AF59.res, AF59.ntmps) := by kernel_rfl
theorem tab_54 : tab 20 = some AF54 := rfl
theorem ok_54 : trFn Tryz.prog 20 = some (AF54.body, AF54.res, AF54.ntmps) := by kernel_rfl
theorem tab_1021 : tab 21 = some AF1021 := rfl
theorem ok_1021 : trFn Tryz.prog 21 = some (AF1021.body, AF1021.res, AF1021.ntmps) := by kernel_rfl
theorem tab_64 : tab 22 = some AF64 := rfl
theorem ok_64 : trFn Tryz.prog 22 = some (AF64.body, AF64.res, AF64.ntmps) := by kernel_rfl
theorem tab_65 : tab 23 = some AF65 := rfl
theorem ok_65 : trFn Tryz.prog 23 = some (AF65.body, AF65.res, AF65.ntmps) := by kernel_rfl
theorem tab_45 : tab 24 = some AF45 := rfl
theorem ok_45 : trFn Tryz.prog 24 = some (AF45.body, AF45.res, AF45.ntmps) := by kernel_rfl
theorem tab_66 : tab 25 = some AF66 := rfl
theorem ok_66 : trFn Tryz.prog 25 = some (AF66.body, AF66.res, AF66.ntmps) := by kernel_rfl
theorem tab_43 : tab 26 = some AF43 := rfl
theorem ok_43 : trFn Tryz.prog 26 = some (AF43.body, AF43.res, AF43.ntmps) := by kernel_rfl
theorem tab_49 : tab 27 = some AF49 := rfl
theorem ok_49 : trFn Tryz.prog 27 = some (AF49.body, AF49.res, AF49.ntmps) := by kernel_rfl
theorem tab_67 : tab 28 = some AF67 := rfl
theorem ok_67 : trFn Tryz.prog 28 = some (AF67.body, AF67.res, AF67.ntmps) := by kernel_rfl
theorem tab_68 : tab 29 = some AF68 := rfl
theorem ok_68 : trFn Tryz.prog 29 = some (AF68.body, AF68.res, AF68.ntmps) := by kernel_rfl
theorem tab_33 : tab 30 = some AF33 := rfl
theorem ok_33 : trFn Tryz.prog 30 = some (AF33.body, AF33.res, AF33.ntmps) := by kernel_rfl
theorem tab_69 : tab 31 = some AF69 := rfl
theorem ok_69 : trFn Tryz.prog 31 = some (AF69.body, AF69.res, AF69.ntmps) := by kernel_rfl
theorem tab_70 : tab 32 = some AF70 := rfl
theorem ok_70 : trFn Tryz.prog 32 = some (AF70.body, AF70.res, AF70.ntmps) := by kernel_rfl
theorem tab_71 : tab 33 = some AF71 := rfl
theorem ok_71 : trFn Tryz.prog 33 = some (AF71.body, AF71.res, AF71.ntmps) := by kernel_rfl
theorem tab_35 : tab 34 = some AF35 := rfl
theorem ok_35 : trFn Tryz.prog 34 = some (AF35.body, AF35.res, AF35.ntmps) := by kernel_rfl
theorem tab_1035 : tab 35 = some AF1035 := rfl
theorem ok_1035 : trFn Tryz.prog 35 = some (AF1035.body, AF1035.res, AF1035.ntmps) := by kernel_rfl
theorem tab_55 : tab 36 = some AF55 := rfl
theorem ok_55 : trFn Tryz.prog 36 = some (AF55.body, AF55.res, AF55.ntmps) := by kernel_rfl
theorem tab_1037 : tab 37 = some AF1037 := rfl
theorem ok_1037 : trFn Tryz.prog 37 = some (AF1037.body, AF1037.res, AF1037.ntmps) := by kernel_rfl
theorem tab_1038 : tab 38 = some AF1038 := rfl
theorem ok_1038 : trFn Tryz.prog 38 = some (AF1038.body, AF1038.res, AF1038.ntmps) := by kernel_rfl
theorem tab_1039 : tab 39 = some AF1039 := rfl
theorem ok_1039 : trFn Tryz.prog 39 = some (AF1039.body, AF1039.res, AF1039.ntmps) := by kernel_rfl
theorem tab_72 : tab 40 = some AF72 := rfl
theorem ok_72 : trFn Tryz.prog 40 = some (AF72.body, AF72.res, AF72.ntmps) := by kernel_rfl
theorem tab_44 : tab 41 = some AF44 := rfl
theorem ok_44 : trFn Tryz.prog 41 = some (AF44.body, AF44.res, AF44.ntmps) := by kernel_rfl
theorem tab_73 : tab 42 = some AF73 := rfl
theorem ok_73 : trFn Tryz.prog 42 = some (AF73.body, AF73.res, AF73.ntmps) := by kernel_rfl
theorem tab_74 : tab 43 = some AF74 := rfl
theorem ok_74 : trFn Tryz.prog 43 = some (AF74.body, AF74.res, AF74.ntmps) := by kernel_rfl
theorem tab_75 : tab 44 = some AF75 := rfl
theorem ok_75 : trFn Tryz.prog 44 = some (AF75.body, AF75.res, AF75.ntmps) := by kernel_rfl
theorem tab_96 : tab 45 = some AF96 := rfl
theorem ok_96 : trFn Tryz.prog 45 = some (AF96.body, AF96.res, AF96.ntmps) := by kernel_rfl
theorem tab_37 : tab 46 = some AF37 := rfl
theorem ok_37 : trFn Tryz.prog 46 = some (AF37.body, AF37.res, AF37.ntmps) := by kernel_rfl
theorem tab_38 : tab 47 = some AF38 := rfl
theorem ok_38 : trFn Tryz.prog 47 = some (AF38.body, AF38.res, AF38.ntmps) := by kernel_rfl
theorem tab_97 : tab 48 = some AF97 := rfl
theorem ok_97 : trFn Tryz.prog 48 = some (AF97.body, AF97.res, AF97.ntmps) := by kernel_rfl
theorem tab_87 : tab 49 = some AF87 := rfl
theorem ok_87 : trFn Tryz.prog 49 = some (AF87.body, AF87.res, AF87.ntmps) := by kernel_rfl
theorem tab_88 : tab 50 = some AF88 := rfl
theorem ok_88 : trFn Tryz.prog 50 = some (AF88.body, AF88.res, AF88.ntmps) := by kernel_rfl
theorem tab_89 : tab 51 = some AF89 := rfl
theorem ok_89 : trFn Tryz.prog 51 = some (AF89.body, AF89.res, AF89.ntmps) := by kernel_rfl
theorem tab_90 : tab 52 = some AF90 := rfl
theorem ok_90 : trFn Tryz.prog 52 = some (AF90.body, AF90.res, AF90.ntmps) := by kernel_rfl
theorem tab_91 : tab 53 = some AF91 := rfl
theorem ok_91 : trFn Tryz.prog 53 = some (AF91.body, AF91.res, AF91.ntmps) := by kernel_rfl
theorem tab_92 : tab 54 = some AF92 := rfl
theorem ok_92 : trFn Tryz.prog 54 = some (AF92.body, AF92.res, AF92.ntmps) := by kernel_rfl
theorem tab_39 : tab 55 = some AF39 := rfl
theorem ok_39 : trFn Tryz.prog 55 = some (AF39.body, AF39.res, AF39.ntmps) := by kernel_rfl
theorem tab_98 : tab 56 = some AF98 := rfl
theorem ok_98 : trFn Tryz.prog 56 = some (AF98.body, AF98.res, AF98.ntmps) := by kernel_rfl
theorem tab_99 : tab 57 = some AF99 := rfl
theorem ok_99 : trFn Tryz.prog 57 = some (AF99.body, AF99.res, AF99.ntmps) := by kernel_rfl
theorem tab_100 : tab 58 = some AF100 := rfl
theorem ok_100 : trFn Tryz.prog 58 = some (AF100.body, AF100.res, AF100.ntmps) := by kernel_rfl
theorem tab_101 : tab 59 = some AF101 := rfl
theorem ok_101 : trFn Tryz.prog 59 = some (AF101.body, AF101.res, AF101.ntmps) := by kernel_rfl
theorem tab_82 : tab 60 = some AF82 := rfl
theorem ok_82 : trFn Tryz.prog 60 = some (AF82.body, AF82.res, AF82.ntmps) := by kernel_rfl
theorem tab_47 : tab 61 = some AF47 := rfl
theorem ok_47 : trFn Tryz.prog 61 = some (AF47.body, AF47.res, AF47.ntmps) := by kernel_rfl
theorem tab_94 : tab 62 = some AF94 := rfl
theorem ok_94 : trFn Tryz.prog 62 = some (AF94.body, AF94.res, AF94.ntmps) := by kernel_rfl
theorem tab_95 : tab 63 = some AF95 := rfl
theorem ok_95 : trFn Tryz.prog 63 = some (AF95.body, AF95.res, AF95.ntmps) := by kernel_rfl
theorem tab_1064 : tab 64 = some AF1064 := rfl
theorem ok_1064 : trFn Tryz.prog 64 = some (AF1064.body, AF1064.res, AF1064.ntmps) := by kernel_rfl
theorem tab_36 : tab 65 = some AF36 := rfl
theorem ok_36 : trFn Tryz.prog 65 = some (AF36.body, AF36.res, AF36.ntmps) := by kernel_rfl
theorem tab_102 : tab 66 = some AF102 := rfl
theorem ok_102 : trFn Tryz.prog 66 = some (AF102.body, AF102.res, AF102.ntmps) := by kernel_rfl
theorem tab_85 : tab 67 = some AF85 := rfl
theorem ok_85 : trFn Tryz.prog 67 = some (AF85.body, AF85.res, AF85.ntmps) := by kernel_rfl
theorem tab_103 : tab 68 = some AF103 := rfl
theorem ok_103 : trFn Tryz.prog 68 = some (AF103.body, AF103.res, AF103.ntmps) := by kernel_rfl
theorem tab_79 : tab 69 = some AF79 := rfl
theorem ok_79 : trFn Tryz.prog 69 = some (AF79.body, AF79.res, AF79.ntmps) := by kernel_rfl
theorem tab_83 : tab 70 = some AF83 := rfl
theorem ok_83 : trFn Tryz.prog 70 = some (AF83.body, AF83.res, AF83.ntmps) := by kernel_rfl
theorem tab_84 : tab 71 = some AF84 := rfl
theorem ok_84 : trFn Tryz.prog 71 = some (AF84.body, AF84.res, AF84.ntmps) := by kernel_rfl
theorem tab_108 : tab 72 = some AF108 := rfl
theorem ok_108 : trFn Tryz.prog 72 = some (AF108.body, AF108.res, AF108.ntmps) := by kernel_rfl
theorem tab_109 : tab 73 = some AF109 := rfl
theorem ok_109 : trFn Tryz.prog 73 = some (AF109.body, AF109.res, AF109.ntmps) := by kernel_rfl
theorem tab_110 : tab 74 = some AF110 := rfl
theorem ok_110 : trFn Tryz.prog 74 = some (AF110.body, AF110.res, AF110.ntmps) := by kernel_rfl
theorem tab_111 : tab 75 = some AF111 := rfl
theorem ok_111 : trFn Tryz.prog 75 = some (AF111.body, AF111.res, AF111.ntmps) := by kernel_rfl
theorem tab_112 : tab 76 = some AF112 := rfl
theorem ok_112 : trFn Tryz.prog 76 = some (AF112.body, AF112.res, AF112.ntmps) := by kernel_rfl
theorem tab_113 : tab 77 = some AF113 := rfl
theorem ok_113 : trFn Tryz.prog 77 = some (AF113.body, AF113.res, AF113.ntmps) := by kernel_rfl
theorem tab_114 : tab 78 = some AF114 := rfl
theorem ok_114 : trFn Tryz.prog 78 = some (AF114.body, AF114.res, AF114.ntmps) := by kernel_rfl
theorem tab_115 : tab 79 = some AF115 := rfl
theorem ok_115 : trFn Tryz.prog 79 = some (AF115.body, AF115.res, AF115.ntmps) := by kernel_rfl
theorem tab_116 : tab 80 = some AF116 := rfl
theorem ok_116 : trFn Tryz.prog 80 = some (AF116.body, AF116.res, AF116.ntmps) := by kernel_rfl
theorem ok_117 : trFn Tryz.prog 81 = some (AF117.body, AF117.res, AF117.ntmps) := by kernel_rfl
theorem tab_118 : tab 82 = some AF118 := rfl
theorem ok_118 : trFn Tryz.prog 82 = some (AF118.body, AF118.res, AF118.ntmps) := by kernel_rfl
theorem tab_107 : tab 83 = some AF107 := rfl
theorem ok_107 : trFn Tryz.prog 83 = some (AF107.body, AF107.res, AF107.ntmps) := by kernel_rfl
theorem tab_34 : tab 84 = some AF34 := rfl
theorem ok_34 : trFn Tryz.prog 84 = some (AF34.body, AF34.res, AF34.ntmps) := by kernel_rfl
theorem tab_119 : tab 85 = some AF119 := rfl
theorem ok_119 : trFn Tryz.prog 85 = some (AF119.body, AF119.res, AF119.ntmps) := by kernel_rfl
theorem tab_124 : tab 86 = some AF124 := rfl
theorem ok_124 : trFn Tryz.prog 86 = some (AF124.body, AF124.res, AF124.ntmps) := by kernel_rfl
theorem tab_125 : tab 87 = some AF125 := rfl
theorem ok_125 : trFn Tryz.prog 87 = some (AF125.body, AF125.res, AF125.ntmps) := by kernel_rfl
theorem tab_126 : tab 88 = some AF126 := rfl
theorem ok_126 : trFn Tryz.prog 88 = some (AF126.body, AF126.res, AF126.ntmps) := by kernel_rfl
theorem tab_127 : tab 89 = some AF127 := rfl
theorem ok_127 : trFn Tryz.prog 89 = some (AF127.body, AF127.res, AF127.ntmps) := by kernel_rfl
theorem tab_128 : tab 90 = some AF128 := rfl
theorem ok_128 : trFn Tryz.prog 90 = some (AF128.body, AF128.res, AF128.ntmps) := by kernel_rfl
theorem tab_123 : tab 91 = some AF123 := rfl
theorem ok_123 : trFn Tryz.prog 91 = some (AF123.body, AF123.res, AF123.ntmps) := by kernel_rfl
theorem tab_129 : tab 92 = some AF129 := rfl
theorem ok_129 : trFn Tryz.prog 92 = some (AF129.body, AF129.res, AF129.ntmps) := by kernel_rfl
theorem tab_130 : tab 93 = some AF130 := rfl
theorem ok_130 : trFn Tryz.prog 93 = some (AF130.body, AF130.res, AF130.ntmps) := by kernel_rfl
theorem tab_131 : tab 94 = some AF131 := rfl
theorem ok_131 : trFn Tryz.prog 94 = some (AF131.body, AF131.res, AF131.ntmps) := by kernel_rfl
theorem tab_132 : tab 95 = some AF132 := rfl
theorem ok_132 : trFn Tryz.prog 95 = some (AF132.body, AF132.res, AF132.ntmps) := by kernel_rfl
theorem tab_133 : tab 96 = some AF133 := rfl
theorem ok_133 : trFn Tryz.prog 96 = some (AF133.body, AF133.res, AF133.ntmps) := by kernel_rfl
theorem tab_134 : tab 97 = some AF134 := rfl
theorem ok_134 : trFn Tryz.prog 97 = some (AF134.body, AF134.res, AF134.ntmps) := by kernel_rfl
theorem tab_135 : tab 98 = some AF135 := rfl
theorem ok_135 : trFn Tryz.prog 98 = some (AF135.body, AF135.res, AF135.ntmps) := by kernel_rfl
theorem tab_136 : tab 99 = some AF136 := rfl
theorem ok_136 : trFn Tryz.prog 99 = some (AF136.body, AF136.res, AF136.ntmps) := by kernel_rfl
theorem tab_137 : tab 100 = some AF137 := rfl
theorem ok_137 : trFn Tryz.prog 100 = some (AF137.body, AF137.res, AF137.ntmps) := by kernel_rfl
theorem tab_138 : tab 101 = some AF138 := rfl
theorem ok_138 : trFn Tryz.prog 101 = some (AF138.body, AF138.res, AF138.ntmps) := by kernel_rfl
theorem tab_139 : tab 102 = some AF139 := rfl
theorem ok_139 : trFn Tryz.prog 102 = some (AF139.body, AF139.res, AF139.ntmps) := by kernel_rfl
theorem tab_140 : tab 103 = some AF140 := rfl
theorem ok_140 : trFn Tryz.prog 103 = some (AF140.body, AF140.res, AF140.ntmps) := by kernel_rfl
theorem tab_141 : tab 104 = some AF141 := rfl
theorem ok_141 : trFn Tryz.prog 104 = some (AF141.body, AF141.res, AF141.ntmps) := by kernel_rfl
theorem tab_142 : tab 105 = some AF142 := rfl
theorem ok_142 : trFn Tryz.prog 105 = some (AF142.body, AF142.res, AF142.ntmps) := by kernel_rfl
theorem tab_143 : tab 106 = some AF143 := rfl
theorem ok_143 : trFn Tryz.prog 106 = some (AF143.body, AF143.res, AF143.ntmps) := by kernel_rfl
theorem tab_all (f : Nat) : FnOK Tryz.prog f (tab f) := (.ite (fun _ => (.ite (fun _ => (.ite (fun _ => (.ite (fun _ => (.ite (fun _ => (.ite (fun _ => (.leaf ok_1003)) (fun _ => (.ite (fun _ => (.leaf ok_18)) (fun _ => (.leaf ok_24)))))) (fun _ => (.ite (fun _ => (.leaf ok_52)) (fun _ => (.ite (fun _ => (.leaf ok_19)) (fun _ => (.leaf ok_1008)))))))) (fun _ => (.ite (fun _ => (.ite (fun _ => (.leaf ok_20)) (fun _ => (.ite (fun _ => (.leaf ok_1010)) (fun _ => (.leaf ok_21)))))) (fun _ => (.ite (fun _ => (.ite (fun _ => (.leaf ok_1012)) (fun _ => (.leaf ok_22)))) (fun _ => (.ite (fun _ => (.leaf ok_1014)) (fun _ => (.leaf ok_51)))))))))) (fun _ => (.ite (fun _ => (.ite (fun _ => (.ite (fun _ => (.leaf ok_62)) (fun _ => (.ite (fun _ => (.leaf ok_63)) (fun _ => (.leaf ok_53)))))) (fun _ => (.ite (fun _ => (.leaf ok_59)) (fun _ => (.ite (fun _ => (.leaf ok_54)) (fun _ => (.leaf ok_1021)))))))) (fun _ => (.ite (fun _ => (.ite (fun _ => (.leaf ok_64)) (fun _ => (.ite (fun _ => (.leaf ok_65)) (fun _ => (.leaf ok_45)))))) (fun _ => (.ite (fun _ => (.ite (fun _ => (.leaf ok_66)) (fun _ => (.leaf ok_43)))) (fun _ => (.ite (fun _ => (.leaf ok_49)) (fun _ => (.leaf ok_67)))))))))))) (fun _ => (.ite (fun _ => (.ite (fun _ => (.ite (fun _ => (.ite (fun _ => (.leaf ok_68)) (fun _ => (.ite (fun _ => (.leaf ok_33)) (fun _ => (.leaf ok_69)))))) (fun _ => (.ite (fun _ => (.leaf ok_70)) (fun _ => (.ite (fun _ => (.leaf ok_71)) (fun _ => (.leaf ok_35)))))))) (fun _ => (.ite (fun _ => (.ite (fun _ => (.leaf ok_1035)) (fun _ => (.ite (fun _ => (.leaf ok_55)) (fun _ => (.leaf ok_1037)))))) (fun _ => (.ite (fun _ => (.ite (fun _ => (.leaf ok_1038)) (fun _ => (.leaf ok_1039)))) (fun _ => (.ite (fun _ => (.leaf ok_72)) (fun _ => (.leaf ok_44)))))))))) (fun _ => (.ite (fun _ => (.ite (fun _ => (.ite (fun _ => (.leaf ok_73)) (fun _ => (.ite (fun _ => (.leaf ok_74)) (fun _ => (.leaf ok_75)))))) (fun _ => (.ite (fun _ => (.leaf ok_96)) (fun _ => (.ite (fun _ => (.leaf ok_37)) (fun _ => (.leaf ok_38)))))))) (fun _ => (.ite (fun _ => (.ite (fun _ => (.leaf ok_97)) (fun _ => (.ite (fun _ => (.leaf ok_87)) (fun _ => (.leaf ok_88)))))) (fun _ => (.ite (fun _ => (.ite (fun _ => (.leaf ok_89)) (fun _ => (.leaf ok_90)))) (fun _ => (.ite (fun _ => (.leaf ok_91)) (fun _ => (.leaf ok_92)))))))))))))) (fun _ => (.ite (fun _ => (.ite (fun _ => (.ite (fun _ => (.ite (fun _ => (.ite (fun _ => (.leaf ok_39)) (fun _ => (.ite (fun _ => (.leaf ok_98)) (fun _ => (.leaf ok_99)))))) (fun _ => (.ite (fun _ => (.leaf ok_100)) (fun _ => (.ite (fun _ => (.leaf ok_101)) (fun _ => (.leaf ok_82)))))))) (fun _ => (.ite (fun _ => (.ite (fun _ => (.leaf ok_47)) (fun _ => (.ite (fun _ => (.leaf ok_94)) (fun _ => (.leaf ok_95)))))) (fun _ => (.ite (fun _ => (.ite (fun _ => (.leaf ok_1064)) (fun _ => (.leaf ok_36)))) (fun _ => (.ite (fun _ => (.leaf ok_102)) (fun _ => (.leaf ok_85)))))))))) (fun _ => (.ite (fun _ => (.ite (fun _ => (.ite (fun _ => (.leaf ok_103)) (fun _ => (.ite (fun _ => (.leaf ok_79)) (fun _ => (.leaf ok_83)))))) (fun _ => (.ite (fun _ => (.leaf ok_84)) (fun _ => (.ite (fun _ => (.leaf ok_108)) (fun _ => (.leaf ok_109)))))))) (fun _ => (.ite (fun _ => (.ite (fun _ => (.leaf ok_110)) (fun _ => (.ite (fun _ => (.leaf ok_111)) (fun _ => (.leaf ok_112)))))) (fun _ => (.ite (fun _ => (.ite (fun _ => (.leaf ok_113)) (fun _ => (.leaf ok_114)))) (fun _ => (.ite (fun _ => (.leaf ok_115)) (fun _ => (.leaf ok_116)))))))))))) (fun _ => (.ite (fun _ => (.ite (fun _ => (.ite (fun _ => (.ite (fun _ => (.leaf ok_117)) (fun _ => (.ite (fun _ => (.leaf ok_118)) (fun _ => (.leaf ok_107)))))) (fun _ => (.ite (fun _ => (.leaf ok_34)) (fun _ => (.ite (fun _ => (.leaf ok_119)) (fun _ => (.leaf ok_124)))))))) (fun _ => (.ite (fun _ => (.ite (fun _ => (.leaf ok_125)) (fun _ => (.ite (fun _ => (.leaf ok_126)) (fun _ => (.leaf ok_127)))))) (fun _ => (.ite (fun _ => (.ite (fun _ => (.leaf ok_128)) (fun _ => (.leaf ok_123)))) (fun _ => (.ite (fun _ => (.leaf ok_129)) (fun _ => (.leaf ok_130)))))))))) (fun _ => (.ite (fun _ => (.ite (fun _ => (.ite (fun _ => (.leaf ok_131)) (fun _ => (.ite (fun _ => (.leaf ok_132)) (fun _ => (.leaf ok_133)))))) (fun _ => (.ite (fun _ => (.leaf ok_134)) (fun _ => (.ite (fun _ => (.leaf ok_135)) (fun _ => (.leaf ok_136)))))))) (fun _ => (.ite (fun _ => (.ite (fun _ => (.leaf ok_137)) (fun _ => (.ite (fun _ => (.leaf ok_138)) (fun _ => (.leaf ok_139)))))) (fun _ => (.ite (fun _ => (.ite (fun _ => (.leaf ok_140)) (fun _ => (.leaf ok_141)))) (fun _ => (.ite (fun _ => (.leaf ok_142)) (fun _ => (.leaf ok_143)))))))))))))))
theorem tabOK : TabOK Tryz.prog tab := tabOK_of fun f fd h => tab_all f fd h
end Ytl
end Go.Mach
