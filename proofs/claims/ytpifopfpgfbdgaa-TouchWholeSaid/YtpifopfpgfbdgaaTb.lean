/-
  The table of the functions, and that it is the program's. Written by a program. By an AI agent.
-/
import Derived.Test.YtpifopfpgfbdgaaProg
import Derived.KernelRfl
import Derived.Test.YtpifopfpgfbdgaaTa0
import Derived.Test.YtpifopfpgfbdgaaTa1
import Derived.Test.YtpifopfpgfbdgaaTa2
import Derived.Test.YtpifopfpgfbdgaaTa3
set_option maxRecDepth 20000
namespace Go.Mach
namespace Ytl
open Go.Proofs
def tab (f : Nat) : Option AFn := if f < 50 then (if f < 26 then (if f < 14 then (if f < 8 then (if f < 5 then (if f < 4 then (if f = 3 then some AF3 else none) else (if f = 4 then some AF4 else none)) else (if f < 6 then (if f = 5 then some AF5 else none) else (if f < 7 then (if f = 6 then some AF6 else none) else (if f = 7 then some AF7 else none)))) else (if f < 11 then (if f < 9 then (if f = 8 then some AF8 else none) else (if f < 10 then (if f = 9 then some AF9 else none) else (if f = 10 then some AF10 else none))) else (if f < 12 then (if f = 11 then some AF11 else none) else (if f < 13 then (if f = 12 then some AF12 else none) else (if f = 13 then some AF13 else none))))) else (if f < 20 then (if f < 17 then (if f < 15 then (if f = 14 then some AF14 else none) else (if f < 16 then (if f = 15 then some AF15 else none) else (if f = 16 then some AF16 else none))) else (if f < 18 then (if f = 17 then some AF17 else none) else (if f < 19 then (if f = 18 then some AF18 else none) else (if f = 19 then some AF19 else none)))) else (if f < 23 then (if f < 21 then (if f = 20 then some AF20 else none) else (if f < 22 then (if f = 21 then some AF21 else none) else (if f = 22 then some AF22 else none))) else (if f < 24 then (if f = 23 then some AF23 else none) else (if f < 25 then (if f = 24 then some AF24 else none) else (if f = 25 then some AF25 else none)))))) else (if f < 38 then (if f < 32 then (if f < 29 then (if f < 27 then (if f = 26 then some AF26 else none) else (if f < 28 then (if f = 27 then some AF27 else none) else (if f = 28 then some AF28 else none))) else (if f < 30 then (if f = 29 then some AF29 else none) else (if f < 31 then (if f = 30 then some AF30 else none) else (if f = 31 then some AF31 else none)))) else (if f < 35 then (if f < 33 then (if f = 32 then some AF32 else none) else (if f < 34 then (if f = 33 then some AF33 else none) else (if f = 34 then some AF34 else none))) else (if f < 36 then (if f = 35 then some AF35 else none) else (if f < 37 then (if f = 36 then some AF36 else none) else (if f = 37 then some AF37 else none))))) else (if f < 44 then (if f < 41 then (if f < 39 then (if f = 38 then some AF38 else none) else (if f < 40 then (if f = 39 then some AF39 else none) else (if f = 40 then some AF40 else none))) else (if f < 42 then (if f = 41 then some AF41 else none) else (if f < 43 then (if f = 42 then some AF42 else none) else (if f = 43 then some AF43 else none)))) else (if f < 47 then (if f < 45 then (if f = 44 then some AF44 else none) else (if f < 46 then (if f = 45 then some AF45 else none) else (if f = 46 then some AF46 else none))) else (if f < 48 then (if f = 47 then some AF47 else none) else (if f < 49 then (if f = 48 then some AF48 else none) else (if f = 49 then some AF49 else none))))))) else (if f < 74 then (if f < 62 then (if f < 56 then (if f < 53 then (if f < 51 then (if f = 50 then some AF50 else none) else (if f < 52 then (if f = 51 then some AF51 else none) else (if f = 52 then some AF52 else none))) else (if f < 54 then (if f = 53 then some AF53 else none) else (if f < 55 then (if f = 54 then some AF54 else none) else (if f = 55 then some AF55 else none)))) else (if f < 59 then (if f < 57 then (if f = 56 then some AF56 else none) else (if f < 58 then (if f = 57 then some AF57 else none) else (if f = 58 then some AF58 else none))) else (if f < 60 then (if f = 59 then some AF59 else none) else (if f < 61 then (if f = 60 then some AF60 else none) else (if f = 61 then some AF61 else none))))) else (if f < 68 then (if f < 65 then (if f < 63 then (if f = 62 then some AF62 else none) else (if f < 64 then (if f = 63 then some AF63 else none) else (if f = 64 then some AF64 else none))) else (if f < 66 then (if f = 65 then some AF65 else none) else (if f < 67 then (if f = 66 then some AF66 else none) else (if f = 67 then some AF67 else none)))) else (if f < 71 then (if f < 69 then (if f = 68 then some AF68 else none) else (if f < 70 then (if f = 69 then some AF69 else none) else (if f = 70 then some AF70 else none))) else (if f < 72 then (if f = 71 then some AF71 else none) else (if f < 73 then (if f = 72 then some AF72 else none) else (if f = 73 then some AF73 else none)))))) else (if f < 86 then (if f < 80 then (if f < 77 then (if f < 75 then (if f = 74 then some AF74 else none) else (if f < 76 then (if f = 75 then some AF75 else none) else (if f = 76 then some AF76 else none))) else (if f < 78 then (if f = 77 then some AF77 else none) else (if f < 79 then (if f = 78 then some AF78 else none) else (if f = 79 then some AF79 else none)))) else (if f < 83 then (if f < 81 then (if f = 80 then some AF80 else none) else (if f < 82 then (if f = 81 then some AF81 else none) else (if f = 82 then some AF82 else none))) else (if f < 84 then (if f = 83 then some AF83 else none) else (if f < 85 then (if f = 84 then some AF84 else none) else (if f = 85 then some AF85 else none))))) else (if f < 92 then (if f < 89 then (if f < 87 then (if f = 86 then some AF86 else none) else (if f < 88 then (if f = 87 then some AF87 else none) else (if f = 88 then some AF88 else none))) else (if f < 90 then (if f = 89 then some AF89 else none) else (if f < 91 then (if f = 90 then some AF90 else none) else (if f = 91 then some AF91 else none)))) else (if f < 95 then (if f < 93 then (if f = 92 then some AF92 else none) else (if f < 94 then (if f = 93 then some AF93 else none) else (if f = 94 then some AF94 else none))) else (if f < 96 then (if f = 95 then some AF95 else none) else (if f < 97 then (if f = 96 then some AF96 else none) else (if f = 97 then some AF97 else none)))))))
theorem tab_3 : tab 3 = some AF3 := rfl
theorem ok_3 : trFn Try.prog 3 = some (AF3.body, AF3.res, AF3.ntmps) := by kernel_rfl
theorem tab_4 : tab 4 = some AF4 := rfl
theorem ok_4 : trFn Try.prog 4 = some (AF4.body, AF4.res, AF4.ntmps) := by kernel_rfl
theorem tab_5 : tab 5 = some AF5 := rfl
theorem ok_5 : trFn Try.prog 5 = some (AF5.body, AF5.res, AF5.ntmps) := by kernel_rfl
theorem tab_6 : tab 6 = some AF6 := rfl
theorem ok_6 : trFn Try.prog 6 = some (AF6.body, AF6.res, AF6.ntmps) := by kernel_rfl
theorem tab_7 : tab 7 = some AF7 := rfl
theorem ok_7 : trFn Try.prog 7 = some (AF7.body, AF7.res, AF7.ntmps) := by kernel_rfl
theorem tab_8 : tab 8 = some AF8 := rfl
theorem ok_8 : trFn Try.prog 8 = some (AF8.body, AF8.res, AF8.ntmps) := by kernel_rfl
theorem tab_9 : tab 9 = some AF9 := rfl
theorem ok_9 : trFn Try.prog 9 = some (AF9.body, AF9.res, AF9.ntmps) := by kernel_rfl
theorem tab_10 : tab 10 = some AF10 := rfl
theorem ok_10 : trFn Try.prog 10 = some (AF10.body, AF10.res, AF10.ntmps) := by kernel_rfl
theorem tab_11 : tab 11 = some AF11 := rfl
theorem ok_11 : trFn Try.prog 11 = some (AF11.body, AF11.res, AF11.ntmps) := by kernel_rfl
theorem tab_12 : tab 12 = some AF12 := rfl
theorem ok_12 : trFn Try.prog 12 = some (AF12.body, AF12.res, AF12.ntmps) := by kernel_rfl
theorem tab_13 : tab 13 = some AF13 := rfl
theorem ok_13 : trFn Try.prog 13 = some (AF13.body, AF13.res, AF13.ntmps) := by kernel_rfl
theorem tab_14 : tab 14 = some AF14 := rfl
theorem ok_14 : trFn Try.prog 14 = some (AF14.body, AF14.res, AF14.ntmps) := by kernel_rfl
theorem tab_15 : tab 15 = some AF15 := rfl
theorem ok_15 : trFn Try.prog 15 = some (AF15.body, AF15.res, AF15.ntmps) := by kernel_rfl
theorem tab_16 : tab 16 = some AF16 := rfl
theorem ok_16 : trFn Try.prog 16 = some (AF16.body, AF16.res, AF16.ntmps) := by kernel_rfl
theorem tab_17 : tab 17 = some AF17 := rfl
theorem ok_17 : trFn Try.prog 17 = some (AF17.body, AF17.res, AF17.ntmps) := by kernel_rfl
theorem tab_18 : tab 18 = some AF18 := rfl
theorem ok_18 : trFn Try.prog 18 = some (AF18.body, AF18.res, AF18.ntmps) := by kernel_rfl
theorem tab_19 : tab 19 = some AF19 := rfl
theorem ok_19 : trFn Try.prog 19 = some (AF19.body, AF19.res, AF19.ntmps) := by kernel_rfl
theorem tab_20 : tab 20 = some AF20 := rfl
theorem ok_20 : trFn Try.prog 20 = some (AF20.body, AF20.res, AF20.ntmps) := by kernel_rfl
theorem tab_21 : tab 21 = some AF21 := rfl
theorem ok_21 : trFn Try.prog 21 = some (AF21.body, AF21.res, AF21.ntmps) := by kernel_rfl
theorem tab_22 : tab 22 = some AF22 := rfl
theorem ok_22 : trFn Try.prog 22 = some (AF22.body, AF22.res, AF22.ntmps) := by kernel_rfl
theorem tab_23 : tab 23 = some AF23 := rfl
theorem ok_23 : trFn Try.prog 23 = some (AF23.body, AF23.res, AF23.ntmps) := by kernel_rfl
theorem tab_24 : tab 24 = some AF24 := rfl
theorem ok_24 : trFn Try.prog 24 = some (AF24.body, AF24.res, AF24.ntmps) := by kernel_rfl
theorem tab_25 : tab 25 = some AF25 := rfl
theorem ok_25 : trFn Try.prog 25 = some (AF25.body, AF25.res, AF25.ntmps) := by kernel_rfl
theorem tab_26 : tab 26 = some AF26 := rfl
theorem ok_26 : trFn Try.prog 26 = some (AF26.body, AF26.res, AF26.ntmps) := by kernel_rfl
theorem tab_27 : tab 27 = some AF27 := rfl
theorem ok_27 : trFn Try.prog 27 = some (AF27.body, AF27.res, AF27.ntmps) := by kernel_rfl
theorem tab_28 : tab 28 = some AF28 := rfl
theorem ok_28 : trFn Try.prog 28 = some (AF28.body, AF28.res, AF28.ntmps) := by kernel_rfl
theorem tab_29 : tab 29 = some AF29 := rfl
theorem ok_29 : trFn Try.prog 29 = some (AF29.body, AF29.res, AF29.ntmps) := by kernel_rfl
theorem tab_30 : tab 30 = some AF30 := rfl
theorem ok_30 : trFn Try.prog 30 = some (AF30.body, AF30.res, AF30.ntmps) := by kernel_rfl
theorem tab_31 : tab 31 = some AF31 := rfl
theorem ok_31 : trFn Try.prog 31 = some (AF31.body, AF31.res, AF31.ntmps) := by kernel_rfl
theorem tab_32 : tab 32 = some AF32 := rfl
theorem ok_32 : trFn Try.prog 32 = some (AF32.body, AF32.res, AF32.ntmps) := by kernel_rfl
theorem tab_33 : tab 33 = some AF33 := rfl
theorem ok_33 : trFn Try.prog 33 = some (AF33.body, AF33.res, AF33.ntmps) := by kernel_rfl
theorem tab_34 : tab 34 = some AF34 := rfl
theorem ok_34 : trFn Try.prog 34 = some (AF34.body, AF34.res, AF34.ntmps) := by kernel_rfl
theorem tab_35 : tab 35 = some AF35 := rfl
theorem ok_35 : trFn Try.prog 35 = some (AF35.body, AF35.res, AF35.ntmps) := by kernel_rfl
theorem tab_36 : tab 36 = some AF36 := rfl
theorem ok_36 : trFn Try.prog 36 = some (AF36.body, AF36.res, AF36.ntmps) := by kernel_rfl
theorem tab_37 : tab 37 = some AF37 := rfl
theorem ok_37 : trFn Try.prog 37 = some (AF37.body, AF37.res, AF37.ntmps) := by kernel_rfl
theorem tab_38 : tab 38 = some AF38 := rfl
theorem ok_38 : trFn Try.prog 38 = some (AF38.body, AF38.res, AF38.ntmps) := by kernel_rfl
theorem tab_39 : tab 39 = some AF39 := rfl
theorem ok_39 : trFn Try.prog 39 = some (AF39.body, AF39.res, AF39.ntmps) := by kernel_rfl
theorem tab_40 : tab 40 = some AF40 := rfl
theorem ok_40 : trFn Try.prog 40 = some (AF40.body, AF40.res, AF40.ntmps) := by kernel_rfl
theorem tab_41 : tab 41 = some AF41 := rfl
theorem ok_41 : trFn Try.prog 41 = some (AF41.body, AF41.res, AF41.ntmps) := by kernel_rfl
theorem tab_42 : tab 42 = some AF42 := rfl
theorem ok_42 : trFn Try.prog 42 = some (AF42.body, AF42.res, AF42.ntmps) := by kernel_rfl
theorem tab_43 : tab 43 = some AF43 := rfl
theorem ok_43 : trFn Try.prog 43 = some (AF43.body, AF43.res, AF43.ntmps) := by kernel_rfl
theorem tab_44 : tab 44 = some AF44 := rfl
theorem ok_44 : trFn Try.prog 44 = some (AF44.body, AF44.res, AF44.ntmps) := by kernel_rfl
theorem tab_45 : tab 45 = some AF45 := rfl
theorem ok_45 : trFn Try.prog 45 = some (AF45.body, AF45.res, AF45.ntmps) := by kernel_rfl
theorem tab_46 : tab 46 = some AF46 := rfl
theorem ok_46 : trFn Try.prog 46 = some (AF46.body, AF46.res, AF46.ntmps) := by kernel_rfl
theorem tab_47 : tab 47 = some AF47 := rfl
theorem ok_47 : trFn Try.prog 47 = some (AF47.body, AF47.res, AF47.ntmps) := by kernel_rfl
theorem tab_48 : tab 48 = some AF48 := rfl
theorem ok_48 : trFn Try.prog 48 = some (AF48.body, AF48.res, AF48.ntmps) := by kernel_rfl
theorem tab_49 : tab 49 = some AF49 := rfl
theorem ok_49 : trFn Try.prog 49 = some (AF49.body, AF49.res, AF49.ntmps) := by kernel_rfl
theorem tab_50 : tab 50 = some AF50 := rfl
theorem ok_50 : trFn Try.prog 50 = some (AF50.body, AF50.res, AF50.ntmps) := by kernel_rfl
theorem tab_51 : tab 51 = some AF51 := rfl
theorem ok_51 : trFn Try.prog 51 = some (AF51.body, AF51.res, AF51.ntmps) := by kernel_rfl
theorem tab_52 : tab 52 = some AF52 := rfl
theorem ok_52 : trFn Try.prog 52 = some (AF52.body, AF52.res, AF52.ntmps) := by kernel_rfl
theorem tab_53 : tab 53 = some AF53 := rfl
theorem ok_53 : trFn Try.prog 53 = some (AF53.body, AF53.res, AF53.ntmps) := by kernel_rfl
theorem tab_54 : tab 54 = some AF54 := rfl
theorem ok_54 : trFn Try.prog 54 = some (AF54.body, AF54.res, AF54.ntmps) := by kernel_rfl
theorem tab_55 : tab 55 = some AF55 := rfl
theorem ok_55 : trFn Try.prog 55 = some (AF55.body, AF55.res, AF55.ntmps) := by kernel_rfl
theorem tab_56 : tab 56 = some AF56 := rfl
theorem ok_56 : trFn Try.prog 56 = some (AF56.body, AF56.res, AF56.ntmps) := by kernel_rfl
theorem tab_57 : tab 57 = some AF57 := rfl
theorem ok_57 : trFn Try.prog 57 = some (AF57.body, AF57.res, AF57.ntmps) := by kernel_rfl
theorem tab_58 : tab 58 = some AF58 := rfl
theorem ok_58 : trFn Try.prog 58 = some (AF58.body, AF58.res, AF58.ntmps) := by kernel_rfl
theorem tab_59 : tab 59 = some AF59 := rfl
theorem ok_59 : trFn Try.prog 59 = some (AF59.body, AF59.res, AF59.ntmps) := by kernel_rfl
theorem tab_60 : tab 60 = some AF60 := rfl
theorem ok_60 : trFn Try.prog 60 = some (AF60.body, AF60.res, AF60.ntmps) := by kernel_rfl
theorem tab_61 : tab 61 = some AF61 := rfl
theorem ok_61 : trFn Try.prog 61 = some (AF61.body, AF61.res, AF61.ntmps) := by kernel_rfl
theorem tab_62 : tab 62 = some AF62 := rfl
theorem ok_62 : trFn Try.prog 62 = some (AF62.body, AF62.res, AF62.ntmps) := by kernel_rfl
theorem tab_63 : tab 63 = some AF63 := rfl
theorem ok_63 : trFn Try.prog 63 = some (AF63.body, AF63.res, AF63.ntmps) := by kernel_rfl
theorem tab_64 : tab 64 = some AF64 := rfl
theorem ok_64 : trFn Try.prog 64 = some (AF64.body, AF64.res, AF64.ntmps) := by kernel_rfl
theorem tab_65 : tab 65 = some AF65 := rfl
theorem ok_65 : trFn Try.prog 65 = some (AF65.body, AF65.res, AF65.ntmps) := by kernel_rfl
theorem tab_66 : tab 66 = some AF66 := rfl
theorem ok_66 : trFn Try.prog 66 = some (AF66.body, AF66.res, AF66.ntmps) := by kernel_rfl
theorem tab_67 : tab 67 = some AF67 := rfl
theorem ok_67 : trFn Try.prog 67 = some (AF67.body, AF67.res, AF67.ntmps) := by kernel_rfl
theorem tab_68 : tab 68 = some AF68 := rfl
theorem ok_68 : trFn Try.prog 68 = some (AF68.body, AF68.res, AF68.ntmps) := by kernel_rfl
theorem tab_69 : tab 69 = some AF69 := rfl
theorem ok_69 : trFn Try.prog 69 = some (AF69.body, AF69.res, AF69.ntmps) := by kernel_rfl
theorem tab_70 : tab 70 = some AF70 := rfl
theorem ok_70 : trFn Try.prog 70 = some (AF70.body, AF70.res, AF70.ntmps) := by kernel_rfl
theorem tab_71 : tab 71 = some AF71 := rfl
theorem ok_71 : trFn Try.prog 71 = some (AF71.body, AF71.res, AF71.ntmps) := by kernel_rfl
theorem tab_72 : tab 72 = some AF72 := rfl
theorem ok_72 : trFn Try.prog 72 = some (AF72.body, AF72.res, AF72.ntmps) := by kernel_rfl
theorem tab_73 : tab 73 = some AF73 := rfl
theorem ok_73 : trFn Try.prog 73 = some (AF73.body, AF73.res, AF73.ntmps) := by kernel_rfl
theorem tab_74 : tab 74 = some AF74 := rfl
theorem ok_74 : trFn Try.prog 74 = some (AF74.body, AF74.res, AF74.ntmps) := by kernel_rfl
theorem tab_75 : tab 75 = some AF75 := rfl
theorem ok_75 : trFn Try.prog 75 = some (AF75.body, AF75.res, AF75.ntmps) := by kernel_rfl
theorem tab_76 : tab 76 = some AF76 := rfl
theorem ok_76 : trFn Try.prog 76 = some (AF76.body, AF76.res, AF76.ntmps) := by kernel_rfl
theorem tab_77 : tab 77 = some AF77 := rfl
theorem ok_77 : trFn Try.prog 77 = some (AF77.body, AF77.res, AF77.ntmps) := by kernel_rfl
theorem tab_78 : tab 78 = some AF78 := rfl
theorem ok_78 : trFn Try.prog 78 = some (AF78.body, AF78.res, AF78.ntmps) := by kernel_rfl
theorem tab_79 : tab 79 = some AF79 := rfl
theorem ok_79 : trFn Try.prog 79 = some (AF79.body, AF79.res, AF79.ntmps) := by kernel_rfl
theorem tab_80 : tab 80 = some AF80 := rfl
theorem ok_80 : trFn Try.prog 80 = some (AF80.body, AF80.res, AF80.ntmps) := by kernel_rfl
theorem tab_81 : tab 81 = some AF81 := rfl
theorem ok_81 : trFn Try.prog 81 = some (AF81.body, AF81.res, AF81.ntmps) := by kernel_rfl
theorem tab_82 : tab 82 = some AF82 := rfl
theorem ok_82 : trFn Try.prog 82 = some (AF82.body, AF82.res, AF82.ntmps) := by kernel_rfl
theorem tab_83 : tab 83 = some AF83 := rfl
theorem ok_83 : trFn Try.prog 83 = some (AF83.body, AF83.res, AF83.ntmps) := by kernel_rfl
theorem tab_84 : tab 84 = some AF84 := rfl
theorem ok_84 : trFn Try.prog 84 = some (AF84.body, AF84.res, AF84.ntmps) := by kernel_rfl
theorem tab_85 : tab 85 = some AF85 := rfl
theorem ok_85 : trFn Try.prog 85 = some (AF85.body, AF85.res, AF85.ntmps) := by kernel_rfl
theorem tab_86 : tab 86 = some AF86 := rfl
theorem ok_86 : trFn Try.prog 86 = some (AF86.body, AF86.res, AF86.ntmps) := by kernel_rfl
theorem tab_87 : tab 87 = some AF87 := rfl
theorem ok_87 : trFn Try.prog 87 = some (AF87.body, AF87.res, AF87.ntmps) := by kernel_rfl
theorem tab_88 : tab 88 = some AF88 := rfl
theorem ok_88 : trFn Try.prog 88 = some (AF88.body, AF88.res, AF88.ntmps) := by kernel_rfl
theorem tab_89 : tab 89 = some AF89 := rfl
theorem ok_89 : trFn Try.prog 89 = some (AF89.body, AF89.res, AF89.ntmps) := by kernel_rfl
theorem tab_90 : tab 90 = some AF90 := rfl
theorem ok_90 : trFn Try.prog 90 = some (AF90.body, AF90.res, AF90.ntmps) := by kernel_rfl
theorem tab_91 : tab 91 = some AF91 := rfl
theorem ok_91 : trFn Try.prog 91 = some (AF91.body, AF91.res, AF91.ntmps) := by kernel_rfl
theorem tab_92 : tab 92 = some AF92 := rfl
theorem ok_92 : trFn Try.prog 92 = some (AF92.body, AF92.res, AF92.ntmps) := by kernel_rfl
theorem tab_93 : tab 93 = some AF93 := rfl
theorem ok_93 : trFn Try.prog 93 = some (AF93.body, AF93.res, AF93.ntmps) := by kernel_rfl
theorem tab_94 : tab 94 = some AF94 := rfl
theorem ok_94 : trFn Try.prog 94 = some (AF94.body, AF94.res, AF94.ntmps) := by kernel_rfl
theorem tab_95 : tab 95 = some AF95 := rfl
theorem ok_95 : trFn Try.prog 95 = some (AF95.body, AF95.res, AF95.ntmps) := by kernel_rfl
theorem tab_96 : tab 96 = some AF96 := rfl
theorem ok_96 : trFn Try.prog 96 = some (AF96.body, AF96.res, AF96.ntmps) := by kernel_rfl
theorem tab_97 : tab 97 = some AF97 := rfl
theorem ok_97 : trFn Try.prog 97 = some (AF97.body, AF97.res, AF97.ntmps) := by kernel_rfl
theorem tab_all (f : Nat) : FnOK Try.prog f (tab f) := (.ite (fun _ => (.ite (fun _ => (.ite (fun _ => (.ite (fun _ => (.ite (fun _ => (.ite (fun _ => (.leaf ok_3)) (fun _ => (.leaf ok_4)))) (fun _ => (.ite (fun _ => (.leaf ok_5)) (fun _ => (.ite (fun _ => (.leaf ok_6)) (fun _ => (.leaf ok_7)))))))) (fun _ => (.ite (fun _ => (.ite (fun _ => (.leaf ok_8)) (fun _ => (.ite (fun _ => (.leaf ok_9)) (fun _ => (.leaf ok_10)))))) (fun _ => (.ite (fun _ => (.leaf ok_11)) (fun _ => (.ite (fun _ => (.leaf ok_12)) (fun _ => (.leaf ok_13)))))))))) (fun _ => (.ite (fun _ => (.ite (fun _ => (.ite (fun _ => (.leaf ok_14)) (fun _ => (.ite (fun _ => (.leaf ok_15)) (fun _ => (.leaf ok_16)))))) (fun _ => (.ite (fun _ => (.leaf ok_17)) (fun _ => (.ite (fun _ => (.leaf ok_18)) (fun _ => (.leaf ok_19)))))))) (fun _ => (.ite (fun _ => (.ite (fun _ => (.leaf ok_20)) (fun _ => (.ite (fun _ => (.leaf ok_21)) (fun _ => (.leaf ok_22)))))) (fun _ => (.ite (fun _ => (.leaf ok_23)) (fun _ => (.ite (fun _ => (.leaf ok_24)) (fun _ => (.leaf ok_25)))))))))))) (fun _ => (.ite (fun _ => (.ite (fun _ => (.ite (fun _ => (.ite (fun _ => (.leaf ok_26)) (fun _ => (.ite (fun _ => (.leaf ok_27)) (fun _ => (.leaf ok_28)))))) (fun _ => (.ite (fun _ => (.leaf ok_29)) (fun _ => (.ite (fun _ => (.leaf ok_30)) (fun _ => (.leaf ok_31)))))))) (fun _ => (.ite (fun _ => (.ite (fun _ => (.leaf ok_32)) (fun _ => (.ite (fun _ => (.leaf ok_33)) (fun _ => (.leaf ok_34)))))) (fun _ => (.ite (fun _ => (.leaf ok_35)) (fun _ => (.ite (fun _ => (.leaf ok_36)) (fun _ => (.leaf ok_37)))))))))) (fun _ => (.ite (fun _ => (.ite (fun _ => (.ite (fun _ => (.leaf ok_38)) (fun _ => (.ite (fun _ => (.leaf ok_39)) (fun _ => (.leaf ok_40)))))) (fun _ => (.ite (fun _ => (.leaf ok_41)) (fun _ => (.ite (fun _ => (.leaf ok_42)) (fun _ => (.leaf ok_43)))))))) (fun _ => (.ite (fun _ => (.ite (fun _ => (.leaf ok_44)) (fun _ => (.ite (fun _ => (.leaf ok_45)) (fun _ => (.leaf ok_46)))))) (fun _ => (.ite (fun _ => (.leaf ok_47)) (fun _ => (.ite (fun _ => (.leaf ok_48)) (fun _ => (.leaf ok_49)))))))))))))) (fun _ => (.ite (fun _ => (.ite (fun _ => (.ite (fun _ => (.ite (fun _ => (.ite (fun _ => (.leaf ok_50)) (fun _ => (.ite (fun _ => (.leaf ok_51)) (fun _ => (.leaf ok_52)))))) (fun _ => (.ite (fun _ => (.leaf ok_53)) (fun _ => (.ite (fun _ => (.leaf ok_54)) (fun _ => (.leaf ok_55)))))))) (fun _ => (.ite (fun _ => (.ite (fun _ => (.leaf ok_56)) (fun _ => (.ite (fun _ => (.leaf ok_57)) (fun _ => (.leaf ok_58)))))) (fun _ => (.ite (fun _ => (.leaf ok_59)) (fun _ => (.ite (fun _ => (.leaf ok_60)) (fun _ => (.leaf ok_61)))))))))) (fun _ => (.ite (fun _ => (.ite (fun _ => (.ite (fun _ => (.leaf ok_62)) (fun _ => (.ite (fun _ => (.leaf ok_63)) (fun _ => (.leaf ok_64)))))) (fun _ => (.ite (fun _ => (.leaf ok_65)) (fun _ => (.ite (fun _ => (.leaf ok_66)) (fun _ => (.leaf ok_67)))))))) (fun _ => (.ite (fun _ => (.ite (fun _ => (.leaf ok_68)) (fun _ => (.ite (fun _ => (.leaf ok_69)) (fun _ => (.leaf ok_70)))))) (fun _ => (.ite (fun _ => (.leaf ok_71)) (fun _ => (.ite (fun _ => (.leaf ok_72)) (fun _ => (.leaf ok_73)))))))))))) (fun _ => (.ite (fun _ => (.ite (fun _ => (.ite (fun _ => (.ite (fun _ => (.leaf ok_74)) (fun _ => (.ite (fun _ => (.leaf ok_75)) (fun _ => (.leaf ok_76)))))) (fun _ => (.ite (fun _ => (.leaf ok_77)) (fun _ => (.ite (fun _ => (.leaf ok_78)) (fun _ => (.leaf ok_79)))))))) (fun _ => (.ite (fun _ => (.ite (fun _ => (.leaf ok_80)) (fun _ => (.ite (fun _ => (.leaf ok_81)) (fun _ => (.leaf ok_82)))))) (fun _ => (.ite (fun _ => (.leaf ok_83)) (fun _ => (.ite (fun _ => (.leaf ok_84)) (fun _ => (.leaf ok_85)))))))))) (fun _ => (.ite (fun _ => (.ite (fun _ => (.ite (fun _ => (.leaf ok_86)) (fun _ => (.ite (fun _ => (.leaf ok_87)) (fun _ => (.leaf ok_88)))))) (fun _ => (.ite (fun _ => (.leaf ok_89)) (fun _ => (.ite (fun _ => (.leaf ok_90)) (fun _ => (.leaf ok_91)))))))) (fun _ => (.ite (fun _ => (.ite (fun _ => (.leaf ok_92)) (fun _ => (.ite (fun _ => (.leaf ok_93)) (fun _ => (.leaf ok_94)))))) (fun _ => (.ite (fun _ => (.leaf ok_95)) (fun _ => (.ite (fun _ => (.leaf ok_96)) (fun _ => (.leaf ok_97)))))))))))))))
theorem tabOK : TabOK Try.prog tab := tabOK_of fun f fd h => tab_all f fd h
end Ytl
end Go.Mach
