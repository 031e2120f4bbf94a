/-
  Pruned copy of the text Tb. By an AI agent.
-/
import Derived.Test.YtlbihaiejbpjoaaProg
import Derived.KernelRfl
import Derived.Test.YtlbihaiejbpjoaaZ3Ta0
import Derived.Test.YtlbihaiejbpjoaaZ3Ta1
import Derived.Test.YtlbihaiejbpjoaaZ3Ta2
import Derived.Test.YtlbihaiejbpjoaaZ3Ta3
set_option maxRecDepth 20000
namespace Go.Mach
namespace Ytl
open Go.Proofs
def tab (f : Nat) : Option AFn := if f < 97 then (if f < 66 then (if f < 43 then (if f < 22 then (if f < 19 then (if f < 18 then (if f = 3 then some AF3 else none) else (if f = 18 then some AF18 else none)) else (if f < 20 then (if f = 19 then some AF19 else none) else (if f < 21 then (if f = 20 then some AF20 else none) else (if f = 21 then some AF21 else none)))) else (if f < 35 then (if f < 33 then (if f = 22 then some AF22 else none) else (if f = 33 then some AF33 else none)) else (if f < 37 then (if f = 35 then some AF35 else none) else (if f < 39 then (if f = 37 then some AF37 else none) else (if f = 39 then some AF39 else none))))) else (if f < 54 then (if f < 49 then (if f < 45 then (if f = 43 then some AF43 else none) else (if f = 45 then some AF45 else none)) else (if f < 51 then (if f = 49 then some AF49 else none) else (if f < 53 then (if f = 51 then some AF51 else none) else (if f = 53 then some AF53 else none)))) else (if f < 63 then (if f < 62 then (if f = 54 then some AF54 else none) else (if f = 62 then some AF62 else none)) else (if f < 64 then (if f = 63 then some AF63 else none) else (if f < 65 then (if f = 64 then some AF64 else none) else (if f = 65 then some AF65 else none)))))) else (if f < 79 then (if f < 71 then (if f < 68 then (if f < 67 then (if f = 66 then some AF66 else none) else (if f = 67 then some AF67 else none)) else (if f < 69 then (if f = 68 then some AF68 else none) else (if f < 70 then (if f = 69 then some AF69 else none) else (if f = 70 then some AF70 else none)))) else (if f < 73 then (if f < 72 then (if f = 71 then some AF71 else none) else (if f = 72 then some AF72 else none)) else (if f < 74 then (if f = 73 then some AF73 else none) else (if f < 75 then (if f = 74 then some AF74 else none) else (if f = 75 then some AF75 else none))))) else (if f < 88 then (if f < 83 then (if f < 82 then (if f = 79 then some AF79 else none) else (if f = 82 then some AF82 else none)) else (if f < 84 then (if f = 83 then some AF83 else none) else (if f < 87 then (if f = 84 then some AF84 else none) else (if f = 87 then some AF87 else none)))) else (if f < 90 then (if f < 89 then (if f = 88 then some AF88 else none) else (if f = 89 then some AF89 else none)) else (if f < 91 then (if f = 90 then some AF90 else none) else (if f < 92 then (if f = 91 then some AF91 else none) else (if f = 92 then some AF92 else none))))))) else (if f < 123 then (if f < 110 then (if f < 102 then (if f < 99 then (if f < 98 then (if f = 97 then some AF97 else none) else (if f = 98 then some AF98 else none)) else (if f < 100 then (if f = 99 then some AF99 else none) else (if f < 101 then (if f = 100 then some AF100 else none) else (if f = 101 then some AF101 else none)))) else (if f < 107 then (if f < 103 then (if f = 102 then some AF102 else none) else (if f = 103 then some AF103 else none)) else (if f < 108 then (if f = 107 then some AF107 else none) else (if f < 109 then (if f = 108 then some AF108 else none) else (if f = 109 then some AF109 else none))))) else (if f < 115 then (if f < 112 then (if f < 111 then (if f = 110 then some AF110 else none) else (if f = 111 then some AF111 else none)) else (if f < 113 then (if f = 112 then some AF112 else none) else (if f < 114 then (if f = 113 then some AF113 else none) else (if f = 114 then some AF114 else none)))) else (if f < 117 then (if f < 116 then (if f = 115 then some AF115 else none) else (if f = 116 then some AF116 else none)) else (if f < 118 then (if f = 117 then some AF117 else none) else (if f < 119 then (if f = 118 then some AF118 else none) else (if f = 119 then some AF119 else none)))))) else (if f < 133 then (if f < 128 then (if f < 125 then (if f < 124 then (if f = 123 then some AF123 else none) else (if f = 124 then some AF124 else none)) else (if f < 126 then (if f = 125 then some AF125 else none) else (if f < 127 then (if f = 126 then some AF126 else none) else (if f = 127 then some AF127 else none)))) else (if f < 130 then (if f < 129 then (if f = 128 then some AF128 else none) else (if f = 129 then some AF129 else none)) else (if f < 131 then (if f = 130 then some AF130 else none) else (if f < 132 then (if f = 131 then some AF131 else none) else (if f = 132 then some AF132 else none))))) else (if f < 138 then (if f < 135 then (if f < 134 then (if f = 133 then some AF133 else none) else (if f = 134 then some AF134 else none)) else (if f < 136 then (if f = 135 then some AF135 else none) else (if f < 137 then (if f = 136 then some AF136 else none) else (if f = 137 then some AF137 else none)))) else (if f < 141 then (if f < 139 then (if f = 138 then some AF138 else none) else (if f < 140 then (if f = 139 then some AF139 else none) else (if f = 140 then some AF140 else none))) else (if f < 142 then (if f = 141 then some AF141 else none) else (if f < 143 then (if f = 142 then some AF142 else none) else (if f = 143 then some AF143 else none)))))))
theorem tab_3 : tab 3 = some AF3 := rfl
theorem ok_3 : trFn Try.prog 3 = some (AF3.body, AF3.res, AF3.ntmps) := by kernel_rfl
theorem ok_18 : trFn Try.prog 18 = some (AF18.body, AF18.res, AF18.ntmps) := by kernel_rfl
theorem tab_19 : tab 19 = some AF19 := rfl
theorem ok_19 : trFn Try.prog 19 = some (AF19.body, AF19.res, AF19.ntmps) := by kernel_rfl
theorem tab_20 : tab 20 = some AF20 := rfl
theorem ok_20 : trFn Try.prog 20 = some (AF20.body, AF20.res, AF20.ntmps) := by kernel_rfl
theorem tab_21 : tab 21 = some AF21 := rfl
theorem ok_21 : trFn Try.prog 21 = some (AF21.body, AF21.res, AF21.ntmps) := by kernel_rfl
theorem tab_22 : tab 22 = some AF22 := rfl
theorem ok_22 : trFn Try.prog 22 = some (AF22.body, AF22.res, AF22.ntmps) := by kernel_rfl
theorem tab_33 : tab 33 = some AF33 := rfl
theorem ok_33 : trFn Try.prog 33 = some (AF33.body, AF33.res, AF33.ntmps) := by kernel_rfl
theorem tab_35 : tab 35 = some AF35 := rfl
theorem ok_35 : trFn Try.prog 35 = some (AF35.body, AF35.res, AF35.ntmps) := by kernel_rfl
theorem tab_37 : tab 37 = some AF37 := rfl
theorem ok_37 : trFn Try.prog 37 = some (AF37.body, AF37.res, AF37.ntmps) := by kernel_rfl
theorem tab_39 : tab 39 = some AF39 := rfl
theorem ok_39 : trFn Try.prog 39 = some (AF39.body, AF39.res, AF39.ntmps) := by kernel_rfl
theorem tab_43 : tab 43 = some AF43 := rfl
theorem ok_43 : trFn Try.prog 43 = some (AF43.body, AF43.res, AF43.ntmps) := by kernel_rfl
theorem tab_45 : tab 45 = some AF45 := rfl
theorem ok_45 : trFn Try.prog 45 = some (AF45.body, AF45.res, AF45.ntmps) := by kernel_rfl
theorem tab_49 : tab 49 = some AF49 := rfl
theorem ok_49 : trFn Try.prog 49 = some (AF49.body, AF49.res, AF49.ntmps) := by kernel_rfl
theorem ok_51 : trFn Try.prog 51 = some (AF51.body, AF51.res, AF51.ntmps) := by kernel_rfl
theorem tab_53 : tab 53 = some AF53 := rfl
theorem ok_53 : trFn Try.prog 53 = some (AF53.body, AF53.res, AF53.ntmps) := by kernel_rfl
theorem ok_54 : trFn Try.prog 54 = some (AF54.body, AF54.res, AF54.ntmps) := by kernel_rfl
theorem ok_62 : trFn Try.prog 62 = some (AF62.body, AF62.res, AF62.ntmps) := by kernel_rfl
theorem ok_63 : trFn Try.prog 63 = some (AF63.body, AF63.res, AF63.ntmps) := by kernel_rfl
theorem tab_64 : tab 64 = some AF64 := rfl
theorem ok_64 : trFn Try.prog 64 = some (AF64.body, AF64.res, AF64.ntmps) := by kernel_rfl
theorem tab_65 : tab 65 = some AF65 := rfl
theorem ok_65 : trFn Try.prog 65 = some (AF65.body, AF65.res, AF65.ntmps) := by kernel_rfl
theorem tab_66 : tab 66 = some AF66 := rfl
theorem ok_66 : trFn Try.prog 66 = some (AF66.body, AF66.res, AF66.ntmps) := by kernel_rfl
theorem tab_67 : tab 67 = some AF67 := rfl
theorem ok_67 : trFn Try.prog 67 = some (AF67.body, AF67.res, AF67.ntmps) := by kernel_rfl
theorem tab_68 : tab 68 = some AF68 := rfl
theorem ok_68 : trFn Try.prog 68 = some (AF68.body, AF68.res, AF68.ntmps) := by kernel_rfl
theorem tab_69 : tab 69 = some AF69 := rfl
theorem ok_69 : trFn Try.prog 69 = some (AF69.body, AF69.res, AF69.ntmps) := by kernel_rfl
theorem tab_70 : tab 70 = some AF70 := rfl
theorem ok_70 : trFn Try.prog 70 = some (AF70.body, AF70.res, AF70.ntmps) := by kernel_rfl
theorem tab_71 : tab 71 = some AF71 := rfl
theorem ok_71 : trFn Try.prog 71 = some (AF71.body, AF71.res, AF71.ntmps) := by kernel_rfl
theorem tab_72 : tab 72 = some AF72 := rfl
theorem ok_72 : trFn Try.prog 72 = some (AF72.body, AF72.res, AF72.ntmps) := by kernel_rfl
theorem tab_73 : tab 73 = some AF73 := rfl
theorem ok_73 : trFn Try.prog 73 = some (AF73.body, AF73.res, AF73.ntmps) := by kernel_rfl
theorem tab_74 : tab 74 = some AF74 := rfl
theorem ok_74 : trFn Try.prog 74 = some (AF74.body, AF74.res, AF74.ntmps) := by kernel_rfl
theorem tab_75 : tab 75 = some AF75 := rfl
theorem ok_75 : trFn Try.prog 75 = some (AF75.body, AF75.res, AF75.ntmps) := by kernel_rfl
theorem tab_79 : tab 79 = some AF79 := rfl
theorem ok_79 : trFn Try.prog 79 = some (AF79.body, AF79.res, AF79.ntmps) := by kernel_rfl
theorem tab_82 : tab 82 = some AF82 := rfl
theorem ok_82 : trFn Try.prog 82 = some (AF82.body, AF82.res, AF82.ntmps) := by kernel_rfl
theorem tab_83 : tab 83 = some AF83 := rfl
theorem ok_83 : trFn Try.prog 83 = some (AF83.body, AF83.res, AF83.ntmps) := by kernel_rfl
theorem tab_84 : tab 84 = some AF84 := rfl
theorem ok_84 : trFn Try.prog 84 = some (AF84.body, AF84.res, AF84.ntmps) := by kernel_rfl
theorem tab_87 : tab 87 = some AF87 := rfl
theorem ok_87 : trFn Try.prog 87 = some (AF87.body, AF87.res, AF87.ntmps) := by kernel_rfl
theorem tab_88 : tab 88 = some AF88 := rfl
theorem ok_88 : trFn Try.prog 88 = some (AF88.body, AF88.res, AF88.ntmps) := by kernel_rfl
theorem tab_89 : tab 89 = some AF89 := rfl
theorem ok_89 : trFn Try.prog 89 = some (AF89.body, AF89.res, AF89.ntmps) := by kernel_rfl
theorem tab_90 : tab 90 = some AF90 := rfl
theorem ok_90 : trFn Try.prog 90 = some (AF90.body, AF90.res, AF90.ntmps) := by kernel_rfl
theorem tab_91 : tab 91 = some AF91 := rfl
theorem ok_91 : trFn Try.prog 91 = some (AF91.body, AF91.res, AF91.ntmps) := by kernel_rfl
theorem tab_92 : tab 92 = some AF92 := rfl
theorem ok_92 : trFn Try.prog 92 = some (AF92.body, AF92.res, AF92.ntmps) := by kernel_rfl
theorem tab_97 : tab 97 = some AF97 := rfl
theorem ok_97 : trFn Try.prog 97 = some (AF97.body, AF97.res, AF97.ntmps) := by kernel_rfl
theorem tab_98 : tab 98 = some AF98 := rfl
theorem ok_98 : trFn Try.prog 98 = some (AF98.body, AF98.res, AF98.ntmps) := by kernel_rfl
theorem tab_99 : tab 99 = some AF99 := rfl
theorem ok_99 : trFn Try.prog 99 = some (AF99.body, AF99.res, AF99.ntmps) := by kernel_rfl
theorem tab_100 : tab 100 = some AF100 := rfl
theorem ok_100 : trFn Try.prog 100 = some (AF100.body, AF100.res, AF100.ntmps) := by kernel_rfl
theorem tab_101 : tab 101 = some AF101 := rfl
theorem ok_101 : trFn Try.prog 101 = some (AF101.body, AF101.res, AF101.ntmps) := by kernel_rfl
theorem tab_102 : tab 102 = some AF102 := rfl
theorem ok_102 : trFn Try.prog 102 = some (AF102.body, AF102.res, AF102.ntmps) := by kernel_rfl
theorem tab_103 : tab 103 = some AF103 := rfl
theorem ok_103 : trFn Try.prog 103 = some (AF103.body, AF103.res, AF103.ntmps) := by kernel_rfl
theorem tab_107 : tab 107 = some AF107 := rfl
theorem ok_107 : trFn Try.prog 107 = some (AF107.body, AF107.res, AF107.ntmps) := by kernel_rfl
theorem tab_108 : tab 108 = some AF108 := rfl
theorem ok_108 : trFn Try.prog 108 = some (AF108.body, AF108.res, AF108.ntmps) := by kernel_rfl
theorem tab_109 : tab 109 = some AF109 := rfl
theorem ok_109 : trFn Try.prog 109 = some (AF109.body, AF109.res, AF109.ntmps) := by kernel_rfl
theorem tab_110 : tab 110 = some AF110 := rfl
theorem ok_110 : trFn Try.prog 110 = some (AF110.body, AF110.res, AF110.ntmps) := by kernel_rfl
theorem tab_111 : tab 111 = some AF111 := rfl
theorem ok_111 : trFn Try.prog 111 = some (AF111.body, AF111.res, AF111.ntmps) := by kernel_rfl
theorem tab_112 : tab 112 = some AF112 := rfl
theorem ok_112 : trFn Try.prog 112 = some (AF112.body, AF112.res, AF112.ntmps) := by kernel_rfl
theorem tab_113 : tab 113 = some AF113 := rfl
theorem ok_113 : trFn Try.prog 113 = some (AF113.body, AF113.res, AF113.ntmps) := by kernel_rfl
theorem tab_114 : tab 114 = some AF114 := rfl
theorem ok_114 : trFn Try.prog 114 = some (AF114.body, AF114.res, AF114.ntmps) := by kernel_rfl
theorem tab_115 : tab 115 = some AF115 := rfl
theorem ok_115 : trFn Try.prog 115 = some (AF115.body, AF115.res, AF115.ntmps) := by kernel_rfl
theorem tab_116 : tab 116 = some AF116 := rfl
theorem ok_116 : trFn Try.prog 116 = some (AF116.body, AF116.res, AF116.ntmps) := by kernel_rfl
theorem ok_117 : trFn Try.prog 117 = some (AF117.body, AF117.res, AF117.ntmps) := by kernel_rfl
theorem tab_118 : tab 118 = some AF118 := rfl
theorem ok_118 : trFn Try.prog 118 = some (AF118.body, AF118.res, AF118.ntmps) := by kernel_rfl
theorem tab_119 : tab 119 = some AF119 := rfl
theorem ok_119 : trFn Try.prog 119 = some (AF119.body, AF119.res, AF119.ntmps) := by kernel_rfl
theorem tab_123 : tab 123 = some AF123 := rfl
theorem ok_123 : trFn Try.prog 123 = some (AF123.body, AF123.res, AF123.ntmps) := by kernel_rfl
theorem tab_124 : tab 124 = some AF124 := rfl
theorem ok_124 : trFn Try.prog 124 = some (AF124.body, AF124.res, AF124.ntmps) := by kernel_rfl
theorem tab_125 : tab 125 = some AF125 := rfl
theorem ok_125 : trFn Try.prog 125 = some (AF125.body, AF125.res, AF125.ntmps) := by kernel_rfl
theorem tab_126 : tab 126 = some AF126 := rfl
theorem ok_126 : trFn Try.prog 126 = some (AF126.body, AF126.res, AF126.ntmps) := by kernel_rfl
theorem tab_127 : tab 127 = some AF127 := rfl
theorem ok_127 : trFn Try.prog 127 = some (AF127.body, AF127.res, AF127.ntmps) := by kernel_rfl
theorem tab_128 : tab 128 = some AF128 := rfl
theorem ok_128 : trFn Try.prog 128 = some (AF128.body, AF128.res, AF128.ntmps) := by kernel_rfl
theorem tab_129 : tab 129 = some AF129 := rfl
theorem ok_129 : trFn Try.prog 129 = some (AF129.body, AF129.res, AF129.ntmps) := by kernel_rfl
theorem tab_130 : tab 130 = some AF130 := rfl
theorem ok_130 : trFn Try.prog 130 = some (AF130.body, AF130.res, AF130.ntmps) := by kernel_rfl
theorem tab_131 : tab 131 = some AF131 := rfl
theorem ok_131 : trFn Try.prog 131 = some (AF131.body, AF131.res, AF131.ntmps) := by kernel_rfl
theorem tab_132 : tab 132 = some AF132 := rfl
theorem ok_132 : trFn Try.prog 132 = some (AF132.body, AF132.res, AF132.ntmps) := by kernel_rfl
theorem tab_133 : tab 133 = some AF133 := rfl
theorem ok_133 : trFn Try.prog 133 = some (AF133.body, AF133.res, AF133.ntmps) := by kernel_rfl
theorem tab_134 : tab 134 = some AF134 := rfl
theorem ok_134 : trFn Try.prog 134 = some (AF134.body, AF134.res, AF134.ntmps) := by kernel_rfl
theorem tab_135 : tab 135 = some AF135 := rfl
theorem ok_135 : trFn Try.prog 135 = some (AF135.body, AF135.res, AF135.ntmps) := by kernel_rfl
theorem tab_136 : tab 136 = some AF136 := rfl
theorem ok_136 : trFn Try.prog 136 = some (AF136.body, AF136.res, AF136.ntmps) := by kernel_rfl
theorem tab_137 : tab 137 = some AF137 := rfl
theorem ok_137 : trFn Try.prog 137 = some (AF137.body, AF137.res, AF137.ntmps) := by kernel_rfl
theorem tab_138 : tab 138 = some AF138 := rfl
theorem ok_138 : trFn Try.prog 138 = some (AF138.body, AF138.res, AF138.ntmps) := by kernel_rfl
theorem tab_139 : tab 139 = some AF139 := rfl
theorem ok_139 : trFn Try.prog 139 = some (AF139.body, AF139.res, AF139.ntmps) := by kernel_rfl
theorem tab_140 : tab 140 = some AF140 := rfl
theorem ok_140 : trFn Try.prog 140 = some (AF140.body, AF140.res, AF140.ntmps) := by kernel_rfl
theorem tab_141 : tab 141 = some AF141 := rfl
theorem ok_141 : trFn Try.prog 141 = some (AF141.body, AF141.res, AF141.ntmps) := by kernel_rfl
theorem tab_142 : tab 142 = some AF142 := rfl
theorem ok_142 : trFn Try.prog 142 = some (AF142.body, AF142.res, AF142.ntmps) := by kernel_rfl
theorem tab_143 : tab 143 = some AF143 := rfl
theorem ok_143 : trFn Try.prog 143 = some (AF143.body, AF143.res, AF143.ntmps) := by kernel_rfl
theorem tab_all (f : Nat) : FnOK Try.prog f (tab f) := (.ite (fun _ => (.ite (fun _ => (.ite (fun _ => (.ite (fun _ => (.ite (fun _ => (.ite (fun _ => (.leaf ok_3)) (fun _ => (.leaf ok_18)))) (fun _ => (.ite (fun _ => (.leaf ok_19)) (fun _ => (.ite (fun _ => (.leaf ok_20)) (fun _ => (.leaf ok_21)))))))) (fun _ => (.ite (fun _ => (.ite (fun _ => (.leaf ok_22)) (fun _ => (.leaf ok_33)))) (fun _ => (.ite (fun _ => (.leaf ok_35)) (fun _ => (.ite (fun _ => (.leaf ok_37)) (fun _ => (.leaf ok_39)))))))))) (fun _ => (.ite (fun _ => (.ite (fun _ => (.ite (fun _ => (.leaf ok_43)) (fun _ => (.leaf ok_45)))) (fun _ => (.ite (fun _ => (.leaf ok_49)) (fun _ => (.ite (fun _ => (.leaf ok_51)) (fun _ => (.leaf ok_53)))))))) (fun _ => (.ite (fun _ => (.ite (fun _ => (.leaf ok_54)) (fun _ => (.leaf ok_62)))) (fun _ => (.ite (fun _ => (.leaf ok_63)) (fun _ => (.ite (fun _ => (.leaf ok_64)) (fun _ => (.leaf ok_65)))))))))))) (fun _ => (.ite (fun _ => (.ite (fun _ => (.ite (fun _ => (.ite (fun _ => (.leaf ok_66)) (fun _ => (.leaf ok_67)))) (fun _ => (.ite (fun _ => (.leaf ok_68)) (fun _ => (.ite (fun _ => (.leaf ok_69)) (fun _ => (.leaf ok_70)))))))) (fun _ => (.ite (fun _ => (.ite (fun _ => (.leaf ok_71)) (fun _ => (.leaf ok_72)))) (fun _ => (.ite (fun _ => (.leaf ok_73)) (fun _ => (.ite (fun _ => (.leaf ok_74)) (fun _ => (.leaf ok_75)))))))))) (fun _ => (.ite (fun _ => (.ite (fun _ => (.ite (fun _ => (.leaf ok_79)) (fun _ => (.leaf ok_82)))) (fun _ => (.ite (fun _ => (.leaf ok_83)) (fun _ => (.ite (fun _ => (.leaf ok_84)) (fun _ => (.leaf ok_87)))))))) (fun _ => (.ite (fun _ => (.ite (fun _ => (.leaf ok_88)) (fun _ => (.leaf ok_89)))) (fun _ => (.ite (fun _ => (.leaf ok_90)) (fun _ => (.ite (fun _ => (.leaf ok_91)) (fun _ => (.leaf ok_92)))))))))))))) (fun _ => (.ite (fun _ => (.ite (fun _ => (.ite (fun _ => (.ite (fun _ => (.ite (fun _ => (.leaf ok_97)) (fun _ => (.leaf ok_98)))) (fun _ => (.ite (fun _ => (.leaf ok_99)) (fun _ => (.ite (fun _ => (.leaf ok_100)) (fun _ => (.leaf ok_101)))))))) (fun _ => (.ite (fun _ => (.ite (fun _ => (.leaf ok_102)) (fun _ => (.leaf ok_103)))) (fun _ => (.ite (fun _ => (.leaf ok_107)) (fun _ => (.ite (fun _ => (.leaf ok_108)) (fun _ => (.leaf ok_109)))))))))) (fun _ => (.ite (fun _ => (.ite (fun _ => (.ite (fun _ => (.leaf ok_110)) (fun _ => (.leaf ok_111)))) (fun _ => (.ite (fun _ => (.leaf ok_112)) (fun _ => (.ite (fun _ => (.leaf ok_113)) (fun _ => (.leaf ok_114)))))))) (fun _ => (.ite (fun _ => (.ite (fun _ => (.leaf ok_115)) (fun _ => (.leaf ok_116)))) (fun _ => (.ite (fun _ => (.leaf ok_117)) (fun _ => (.ite (fun _ => (.leaf ok_118)) (fun _ => (.leaf ok_119)))))))))))) (fun _ => (.ite (fun _ => (.ite (fun _ => (.ite (fun _ => (.ite (fun _ => (.leaf ok_123)) (fun _ => (.leaf ok_124)))) (fun _ => (.ite (fun _ => (.leaf ok_125)) (fun _ => (.ite (fun _ => (.leaf ok_126)) (fun _ => (.leaf ok_127)))))))) (fun _ => (.ite (fun _ => (.ite (fun _ => (.leaf ok_128)) (fun _ => (.leaf ok_129)))) (fun _ => (.ite (fun _ => (.leaf ok_130)) (fun _ => (.ite (fun _ => (.leaf ok_131)) (fun _ => (.leaf ok_132)))))))))) (fun _ => (.ite (fun _ => (.ite (fun _ => (.ite (fun _ => (.leaf ok_133)) (fun _ => (.leaf ok_134)))) (fun _ => (.ite (fun _ => (.leaf ok_135)) (fun _ => (.ite (fun _ => (.leaf ok_136)) (fun _ => (.leaf ok_137)))))))) (fun _ => (.ite (fun _ => (.ite (fun _ => (.leaf ok_138)) (fun _ => (.ite (fun _ => (.leaf ok_139)) (fun _ => (.leaf ok_140)))))) (fun _ => (.ite (fun _ => (.leaf ok_141)) (fun _ => (.ite (fun _ => (.leaf ok_142)) (fun _ => (.leaf ok_143)))))))))))))))
theorem tabOK : TabOK Try.prog tab := tabOK_of fun f fd h => tab_all f fd h
end Ytl
end Go.Mach
