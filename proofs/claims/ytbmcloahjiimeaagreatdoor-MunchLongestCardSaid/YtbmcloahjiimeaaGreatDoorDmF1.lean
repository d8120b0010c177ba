/- The program's functions, compiled for the D-machine (printed by a program of mine). -/
import Derived.Test.YtbmcloahjiimeaaGreatDoorDmF0
namespace Go.Proofs.YtbmcloahjiimeaaGreatDoor.Dm
open Go Go.Dm
/-- syntagm/dfa.split -/
noncomputable def df99 : DFunc := ⟨59, [.cell s4 256 true],
 (.seq (.reg [⟨(some s2), .box 22 (.t s0), none⟩, ⟨(some s3), .box 70 (.t s1), none⟩, ⟨(some s4), .alloc [(.int .i64 0), (.int .i64 0), (.int .i64 0), (.int .i64 0), (.int .i64 0), (.int .i64 0), (.int .i64 0), (.int .i64 0), (.int .i64 0), (.int .i64 0), (.int .i64 0), (.int .i64 0), (.int .i64 0), (.int .i64 0), (.int .i64 0), (.int .i64 0), (.int .i64 0), (.int .i64 0), (.int .i64 0), (.int .i64 0), (.int .i64 0), (.int .i64 0), (.int .i64 0), (.int .i64 0), (.int .i64 0), (.int .i64 0), (.int .i64 0), (.int .i64 0), (.int .i64 0), (.int .i64 0), (.int .i64 0), (.int .i64 0), (.int .i64 0), (.int .i64 0), (.int .i64 0), (.int .i64 0), (.int .i64 0), (.int .i64 0), (.int .i64 0), (.int .i64 0), (.int .i64 0), (.int .i64 0), (.int .i64 0), (.int .i64 0), (.int .i64 0), (.int .i64 0), (.int .i64 0), (.int .i64 0), (.int .i64 0), (.int .i64 0), (.int .i64 0), (.int .i64 0), (.int .i64 0), (.int .i64 0), (.int .i64 0), (.int .i64 0), (.int .i64 0), (.int .i64 0), (.int .i64 0), (.int .i64 0), (.int .i64 0), (.int .i64 0), (.int .i64 0), (.int .i64 0), (.int .i64 0), (.int .i64 0), (.int .i64 0), (.int .i64 0), (.int .i64 0), (.int .i64 0), (.int .i64 0), (.int .i64 0), (.int .i64 0), (.int .i64 0), (.int .i64 0), (.int .i64 0), (.int .i64 0), (.int .i64 0), (.int .i64 0), (.int .i64 0), (.int .i64 0), (.int .i64 0), (.int .i64 0), (.int .i64 0), (.int .i64 0), (.int .i64 0), (.int .i64 0), (.int .i64 0), (.int .i64 0), (.int .i64 0), (.int .i64 0), (.int .i64 0), (.int .i64 0), (.int .i64 0), (.int .i64 0), (.int .i64 0), (.int .i64 0), (.int .i64 0), (.int .i64 0), (.int .i64 0), (.int .i64 0), (.int .i64 0), (.int .i64 0), (.int .i64 0), (.int .i64 0), (.int .i64 0), (.int .i64 0), (.int .i64 0), (.int .i64 0), (.int .i64 0), (.int .i64 0), (.int .i64 0), (.int .i64 0), (.int .i64 0), (.int .i64 0), (.int .i64 0), (.int .i64 0), (.int .i64 0), (.int .i64 0), (.int .i64 0), (.int .i64 0), (.int .i64 0), (.int .i64 0), (.int .i64 0), (.int .i64 0), (.int .i64 0), (.int .i64 0), (.int .i64 0), (.int .i64 0), (.int .i64 0), (.int .i64 0), (.int .i64 0), (.int .i64 0), (.int .i64 0), (.int .i64 0), (.int .i64 0), (.int .i64 0), (.int .i64 0), (.int .i64 0), (.int .i64 0), (.int .i64 0), (.int .i64 0), (.int .i64 0), (.int .i64 0), (.int .i64 0), (.int .i64 0), (.int .i64 0), (.int .i64 0), (.int .i64 0), (.int .i64 0), (.int .i64 0), (.int .i64 0), (.int .i64 0), (.int .i64 0), (.int .i64 0), (.int .i64 0), (.int .i64 0), (.int .i64 0), (.int .i64 0), (.int .i64 0), (.int .i64 0), (.int .i64 0), (.int .i64 0), (.int .i64 0), (.int .i64 0), (.int .i64 0), (.int .i64 0), (.int .i64 0), (.int .i64 0), (.int .i64 0), (.int .i64 0), (.int .i64 0), (.int .i64 0), (.int .i64 0), (.int .i64 0), (.int .i64 0), (.int .i64 0), (.int .i64 0), (.int .i64 0), (.int .i64 0), (.int .i64 0), (.int .i64 0), (.int .i64 0), (.int .i64 0), (.int .i64 0), (.int .i64 0), (.int .i64 0), (.int .i64 0), (.int .i64 0), (.int .i64 0), (.int .i64 0), (.int .i64 0), (.int .i64 0), (.int .i64 0), (.int .i64 0), (.int .i64 0), (.int .i64 0), (.int .i64 0), (.int .i64 0), (.int .i64 0), (.int .i64 0), (.int .i64 0), (.int .i64 0), (.int .i64 0), (.int .i64 0), (.int .i64 0), (.int .i64 0), (.int .i64 0), (.int .i64 0), (.int .i64 0), (.int .i64 0), (.int .i64 0), (.int .i64 0), (.int .i64 0), (.int .i64 0), (.int .i64 0), (.int .i64 0), (.int .i64 0), (.int .i64 0), (.int .i64 0), (.int .i64 0), (.int .i64 0), (.int .i64 0), (.int .i64 0), (.int .i64 0), (.int .i64 0), (.int .i64 0), (.int .i64 0), (.int .i64 0), (.int .i64 0), (.int .i64 0), (.int .i64 0), (.int .i64 0), (.int .i64 0), (.int .i64 0), (.int .i64 0), (.int .i64 0), (.int .i64 0), (.int .i64 0), (.int .i64 0), (.int .i64 0), (.int .i64 0), (.int .i64 0), (.int .i64 0), (.int .i64 0), (.int .i64 0), (.int .i64 0), (.int .i64 0), (.int .i64 0), (.int .i64 0), (.int .i64 0), (.int .i64 0), (.int .i64 0), (.int .i64 0), (.int .i64 0), (.int .i64 0)] 22, none⟩])
 (.seq (.seq (.reg [⟨none, .fldA 0 (.t s3), none⟩, ⟨none, .load1 (.l 0), none⟩, ⟨(some s15), .bin .neq (.l 0) (.c (.int .i64 1)), none⟩])
 (.cond (.t s15) (.seq (.seq (.reg [⟨none, .fldA 5 (.t s3), none⟩, ⟨(some s17), .load1 (.l 0), none⟩, ⟨(some s18), .len .slice (.l 0), none⟩, ⟨(some s19), .mv (.c (.int .i64 0)), none⟩])
 (.block 0 (.loop (.seq (.reg [⟨(some s20), .bin .lss (.t s19) (.t s18), none⟩])
 (.seq (.cond (.t s20) .skip (.exit 0))
 (.seq (.block 1 (.seq (.reg [⟨none, .idxS 6 (.t s17) (.t s19), none⟩, ⟨none, .loadN 6 (.l 0), none⟩, ⟨(some s6), .alloc [(.int .i64 0), (.int .u64 0), (.int .u64 0), (.int .u64 0), (.int .u64 0), (.slice none 0 0 false)] 70, none⟩, ⟨none, .storeN 6 (.l 0) (.l 1), none⟩])
 (.reg [⟨none, .loadN 256 (.t s2), none⟩, ⟨none, .loadN 6 (.t s6), none⟩, ⟨none, .call (.c (.func (.func 99) [] [])) [(.l 1), (.l 0)], none⟩, ⟨none, .storeN 256 (.t s2) (.l 0), none⟩])))
 (.reg [⟨none, .bin .add (.t s19) (.c (.int .i64 1)), none⟩, ⟨(some s19), .mv (.l 0), none⟩])))))))
 (.seq (.reg [⟨none, .loadN 256 (.t s2), none⟩, ⟨none, .storeN 256 (.t s4) (.l 0), none⟩])
 .ret)) .skip))
 (.seq (.reg [⟨none, .mkMap, none⟩, ⟨(some s7), .mv (.l 0), none⟩])
 (.seq (.seq (.reg [⟨(some s29), .loadN 256 (.t s2), none⟩, ⟨(some s30), .mv (.c (.int .i64 0)), none⟩])
 (.block 2 (.loop (.seq (.reg [⟨(some s31), .bin .lss (.t s30) (.c (.int .i64 256)), none⟩])
 (.seq (.cond (.t s31) .skip (.exit 2))
 (.seq (.block 3 (.seq (.reg [⟨none, .mv (.t s30), none⟩, ⟨none, .idxV 256 1 false (.t s29) (.t s30), none⟩, ⟨(some s8), .mv (.l 1), none⟩, ⟨(some s9), .mv (.l 1), none⟩])
 (.seq (.reg [⟨none, .mv (.t s9), none⟩, ⟨none, .build [(.int .i64 0), (.int .i64 0)] [(0, 1, (.l 0)), (1, 1, (.c (.int .i64 0)))], none⟩, ⟨(some s10), .alloc [(.int .i64 0), (.int .i64 0)] 52, none⟩, ⟨none, .storeN 2 (.l 0) (.l 1), none⟩])
 (.seq (.seq (.reg [⟨none, .loadN 6 (.t s3), none⟩, ⟨none, .mv (.t s8), none⟩, ⟨none, .toInt .u8 (.l 0), none⟩, ⟨(some s39), .call (.c (.func (.func 57) [] [])) [(.l 2), (.l 0)], none⟩])
 (.cond (.t s39) (.reg [⟨none, .idxA 2 1 (.t s10) (.c (.int .i64 1)), none⟩, ⟨none, .store1 (.l 0) (.c (.int .i64 1)), none⟩]) .skip))
 (.seq (.reg [⟨none, .mv (.t s7), none⟩, ⟨none, .loadN 2 (.t s10), none⟩, ⟨none, .mapGet (.agg [.int, .int]) (.int .i64 0) true (.l 1) (.l 0), none⟩, ⟨none, .mv (.l 0), none⟩, ⟨none, .ext 0 (.l 0), none⟩, ⟨none, .ext 1 (.l 1), none⟩, ⟨(some s11), .mv (.l 1), none⟩, ⟨(some s12), .mv (.l 1), none⟩])
 (.seq (.seq (.reg [⟨none, .mv (.t s12), none⟩, ⟨(some s48), .un .not (.l 0), none⟩])
 (.cond (.t s48) (.seq (.reg [⟨none, .mv (.t s7), none⟩, ⟨none, .len .map (.l 0), none⟩, ⟨(some s11), .mv (.l 0), none⟩])
 (.reg [⟨none, .mv (.t s7), none⟩, ⟨none, .loadN 2 (.t s10), none⟩, ⟨none, .mv (.t s11), none⟩, ⟨none, .mapSet (.agg [.int, .int]) (.l 2) (.l 1) (.l 0), none⟩])) .skip))
 (.reg [⟨none, .mv (.t s8), none⟩, ⟨none, .mv (.t s11), none⟩, ⟨none, .idxA 256 1 (.t s2) (.l 1), none⟩, ⟨none, .store1 (.l 0) (.l 1), none⟩])))))))
 (.reg [⟨none, .bin .add (.t s30) (.c (.int .i64 1)), none⟩, ⟨(some s30), .mv (.l 0), none⟩])))))))
 (.seq (.reg [⟨none, .loadN 256 (.t s2), none⟩, ⟨none, .storeN 256 (.t s4) (.l 0), none⟩])
 .ret)))))⟩
/-- (*syntagm/nfa.Machine).closed -/
noncomputable def df100 : DFunc := ⟨62, [.tmp s4],
 (.seq (.reg [⟨(some s4), .mv (.c (.slice none 0 0 false)), none⟩])
 (.scope (.seq (.reg [⟨none, .mv (.t s0), none⟩, ⟨none, .nilc (.l 0), none⟩, ⟨none, .fldA 0 (.l 0), none⟩, ⟨none, .load1 (.l 0), none⟩, ⟨none, .len .slice (.l 0), none⟩, ⟨none, .mkSlice 4 1 1 [(.bool false)] (.l 0) (.l 0), none⟩, ⟨(some s5), .mv (.l 0), none⟩])
 (.seq (.reg [⟨(some s6), .mv (.c (.slice none 0 0 false)), none⟩])
 (.seq (.label 0)
 (.seq (.block 0 (.loop (.seq (.seq (.reg [⟨none, .mv (.t s1), none⟩, ⟨none, .len .slice (.l 0), none⟩, ⟨(some s16), .bin .gtr (.l 0) (.c (.int .i64 0)), none⟩])
 (.cond (.t s16) .skip (.exit 0)))
 (.block 1 (.seq (.reg [⟨none, .mv (.t s1), none⟩, ⟨none, .mv (.t s1), none⟩, ⟨none, .len .slice (.l 0), none⟩, ⟨none, .bin .sub (.l 0) (.c (.int .i64 1)), none⟩, ⟨none, .idxS 1 (.l 3) (.l 0), none⟩, ⟨none, .load1 (.l 0), none⟩, ⟨(some s7), .mv (.l 0), none⟩])
 (.seq (.reg [⟨none, .mv (.t s1), none⟩, ⟨none, .mv (.t s1), none⟩, ⟨none, .len .slice (.l 0), none⟩, ⟨none, .bin .sub (.l 0) (.c (.int .i64 1)), none⟩, ⟨none, .slSl 1 (.l 3) none (some (.l 0)) none, none⟩, ⟨(some s1), .mv (.l 0), none⟩])
 (.seq (.seq (.reg [⟨none, .mv (.t s7), none⟩, ⟨none, .bin .lss (.l 0) (.c (.int .i64 0)), none⟩, ⟨none, .mv (.l 0), none⟩, ⟨none, .mv (.t s7), (some ((.l 0), false))⟩, ⟨none, .mv (.t s5), (some ((.l 1), false))⟩, ⟨none, .len .slice (.l 0), (some ((.l 2), false))⟩, ⟨none, .bin .geq (.l 2) (.l 0), (some ((.l 3), false))⟩, ⟨none, .pick (.l 4) (.c (.bool true)) (.l 0), none⟩, ⟨none, .mv (.l 0), none⟩, ⟨none, .mv (.t s5), (some ((.l 0), false))⟩, ⟨none, .mv (.t s7), (some ((.l 1), false))⟩, ⟨none, .idxS 1 (.l 1) (.l 0), (some ((.l 2), false))⟩, ⟨none, .load1 (.l 0), (some ((.l 3), false))⟩, ⟨(some s41), .pick (.l 4) (.c (.bool true)) (.l 0), none⟩])
 (.cond (.t s41) (.exit 1) .skip))
 (.seq (.reg [⟨none, .mv (.t s5), none⟩, ⟨none, .mv (.t s7), none⟩, ⟨none, .idxS 1 (.l 1) (.l 0), none⟩, ⟨none, .store1 (.l 0) (.c (.bool true)), none⟩])
 (.seq (.reg [⟨none, .mv (.t s6), none⟩, ⟨none, .mv (.t s7), none⟩, ⟨none, .bslice 3 [(.int .i64 0)] [(0, 1, (.l 0))] 1, none⟩, ⟨none, .append 3 1 8 (.l 2) (.l 0), none⟩, ⟨(some s6), .mv (.l 0), none⟩])
 (.reg [⟨none, .mv (.t s1), none⟩, ⟨none, .mv (.t s0), none⟩, ⟨none, .nilc (.l 0), none⟩, ⟨none, .fldA 0 (.l 0), none⟩, ⟨none, .load1 (.l 0), none⟩, ⟨none, .mv (.t s7), none⟩, ⟨none, .idxS 9 (.l 1) (.l 0), none⟩, ⟨none, .fldA 0 (.l 0), none⟩, ⟨none, .load1 (.l 0), none⟩, ⟨none, .append 3 1 8 (.l 8) (.l 0), none⟩, ⟨(some s1), .mv (.l 0), none⟩]))))))))))
 (.seq (.reg [⟨none, .mv (.t s6), none⟩, ⟨none, .call (.c (.func (.func 110) [] [])) [(.l 0)], none⟩])
 (.seq (.reg [⟨none, .mv (.t s6), none⟩, ⟨(some s4), .mv (.l 0), none⟩])
 .ret))))))))⟩
/-- (*syntagm/regex.reader).peek -/
noncomputable def df101 : DFunc := ⟨23, [.tmp s2, .tmp s3],
 (.seq (.reg [⟨(some s2), .mv (.c (.int .u8 0)), none⟩, ⟨(some s3), .mv (.c (.bool false)), none⟩])
 (.seq (.seq (.draw [(⟨(some s4), .mv (.t s0), none⟩, ⟨0, 0⟩), (⟨(some s5), .nilc (.t s4), none⟩, ⟨0, 0⟩), (⟨(some s6), .fldA 1 (.t s5), none⟩, ⟨0, 0⟩), (⟨(some s7), .load1 (.t s6), none⟩, ⟨0, 0⟩), (⟨(some s8), .mv (.t s0), none⟩, ⟨0, 0⟩), (⟨(some s9), .nilc (.t s8), none⟩, ⟨0, 0⟩), (⟨(some s10), .fldA 0 (.t s9), none⟩, ⟨0, 0⟩), (⟨(some s11), .load1 (.t s10), none⟩, ⟨0, 0⟩), (⟨(some s12), .len .str (.t s11), none⟩, ⟨0, 0⟩), (⟨(some s13), .bin .geq (.t s7) (.t s12), none⟩, ⟨0, 0⟩)] 1)
 (.cond (.t s13) (.seq (.reg [⟨(some s2), .mv (.c (.int .u8 0)), none⟩, ⟨(some s3), .mv (.c (.bool false)), none⟩])
 .ret) .skip))
 (.seq (.draw [(⟨(some s14), .mv (.t s0), none⟩, ⟨0, 0⟩), (⟨(some s15), .nilc (.t s14), none⟩, ⟨0, 0⟩), (⟨(some s16), .fldA 0 (.t s15), none⟩, ⟨0, 0⟩), (⟨(some s17), .load1 (.t s16), none⟩, ⟨0, 0⟩), (⟨(some s18), .mv (.t s0), none⟩, ⟨0, 0⟩), (⟨(some s19), .nilc (.t s18), none⟩, ⟨0, 0⟩), (⟨(some s20), .fldA 1 (.t s19), none⟩, ⟨0, 0⟩), (⟨(some s21), .load1 (.t s20), none⟩, ⟨0, 0⟩), (⟨(some s22), .idxStr (.t s17) (.t s21), none⟩, ⟨0, 0⟩), (⟨(some s2), .mv (.t s22), none⟩, ⟨0, 0⟩), (⟨(some s3), .mv (.c (.bool true)), none⟩, ⟨0, 0⟩)] 3)
 .ret)))⟩
/-- (*syntagm/regex.reader).behind -/
noncomputable def df102 : DFunc := ⟨37, [.cell s4 6 true],
 (.seq (.reg [⟨(some s3), .box 70 (.t s1), none⟩, ⟨(some s4), .alloc [(.int .i64 0), (.int .u64 0), (.int .u64 0), (.int .u64 0), (.int .u64 0), (.slice none 0 0 false)] 70, none⟩])
 (.seq (.reg [⟨none, .loadN 6 (.t s3), none⟩, ⟨none, .bslice 70 [(.int .i64 0), (.int .u64 0), (.int .u64 0), (.int .u64 0), (.int .u64 0), (.slice none 0 0 false)] [(0, 6, (.l 0))] 1, none⟩, ⟨none, .build [(.int .i64 0), (.int .u64 0), (.int .u64 0), (.int .u64 0), (.int .u64 0), (.slice none 0 0 false)] [(0, 1, (.c (.int .i64 4))), (5, 1, (.l 0))], none⟩, ⟨(some s5), .alloc [(.int .i64 0), (.int .u64 0), (.int .u64 0), (.int .u64 0), (.int .u64 0), (.slice none 0 0 false)] 70, none⟩, ⟨none, .storeN 6 (.l 0) (.l 1), none⟩])
 (.seq (.block 0 (.seq (.reg [⟨none, .mv (.t s0), none⟩, ⟨none, .call (.c (.func (.func 83) [] [])) [(.l 0), (.c (.int .u8 42))], none⟩, ⟨(some s9), .mv (.l 0), none⟩])
 (.cond (.t s9) (.seq (.reg [⟨none, .mv (.t s0), none⟩, ⟨none, .loadN 6 (.t s5), none⟩, ⟨none, .call (.c (.func (.func 56) [] [])) [(.l 0)], none⟩, ⟨none, .call (.c (.func (.func 102) [] [])) [(.l 2), (.l 0)], none⟩, ⟨none, .storeN 6 (.t s4) (.l 0), none⟩])
 .ret) (.seq (.reg [⟨none, .mv (.t s0), none⟩, ⟨none, .call (.c (.func (.func 83) [] [])) [(.l 0), (.c (.int .u8 43))], none⟩, ⟨(some s16), .mv (.l 0), none⟩])
 (.cond (.t s16) (.seq (.reg [⟨none, .mv (.t s0), none⟩, ⟨none, .loadN 6 (.t s3), none⟩, ⟨none, .loadN 6 (.t s5), none⟩, ⟨none, .bslice 70 [(.int .i64 0), (.int .u64 0), (.int .u64 0), (.int .u64 0), (.int .u64 0), (.slice none 0 0 false), (.int .i64 0), (.int .u64 0), (.int .u64 0), (.int .u64 0), (.int .u64 0), (.slice none 0 0 false)] [(0, 6, (.l 1)), (6, 6, (.l 0))] 2, none⟩, ⟨none, .build [(.int .i64 0), (.int .u64 0), (.int .u64 0), (.int .u64 0), (.int .u64 0), (.slice none 0 0 false)] [(0, 1, (.c (.int .i64 2))), (5, 1, (.l 0))], none⟩, ⟨none, .call (.c (.func (.func 56) [] [])) [(.l 0)], none⟩, ⟨none, .call (.c (.func (.func 102) [] [])) [(.l 5), (.l 0)], none⟩, ⟨none, .storeN 6 (.t s4) (.l 0), none⟩])
 .ret) (.seq (.reg [⟨none, .mv (.t s0), none⟩, ⟨none, .call (.c (.func (.func 83) [] [])) [(.l 0), (.c (.int .u8 63))], none⟩, ⟨(some s26), .mv (.l 0), none⟩])
 (.cond (.t s26) (.seq (.reg [⟨none, .mv (.t s0), none⟩, ⟨none, .loadN 6 (.t s3), none⟩, ⟨none, .build [(.int .i64 0), (.int .u64 0), (.int .u64 0), (.int .u64 0), (.int .u64 0), (.slice none 0 0 false)] [], none⟩, ⟨none, .bslice 70 [(.int .i64 0), (.int .u64 0), (.int .u64 0), (.int .u64 0), (.int .u64 0), (.slice none 0 0 false), (.int .i64 0), (.int .u64 0), (.int .u64 0), (.int .u64 0), (.int .u64 0), (.slice none 0 0 false)] [(0, 6, (.l 1)), (6, 6, (.l 0))] 2, none⟩, ⟨none, .build [(.int .i64 0), (.int .u64 0), (.int .u64 0), (.int .u64 0), (.int .u64 0), (.slice none 0 0 false)] [(0, 1, (.c (.int .i64 3))), (5, 1, (.l 0))], none⟩, ⟨none, .call (.c (.func (.func 56) [] [])) [(.l 0)], none⟩, ⟨none, .call (.c (.func (.func 102) [] [])) [(.l 5), (.l 0)], none⟩, ⟨none, .storeN 6 (.t s4) (.l 0), none⟩])
 .ret) .skip)))))))
 (.seq (.reg [⟨none, .loadN 6 (.t s3), none⟩, ⟨none, .storeN 6 (.t s4) (.l 0), none⟩])
 .ret))))⟩
/-- (*syntagm/regex.reader).atom -/
noncomputable def df103 : DFunc := ⟨46, [.cell s2 6 true],
 (.seq (.reg [⟨(some s2), .alloc [(.int .i64 0), (.int .u64 0), (.int .u64 0), (.int .u64 0), (.int .u64 0), (.slice none 0 0 false)] 70, none⟩])
 (.seq (.reg [⟨none, .build [(.int .i64 0), (.int .u64 0), (.int .u64 0), (.int .u64 0), (.int .u64 0), (.slice none 0 0 false)] [(0, 1, (.c (.int .i64 1)))], none⟩, ⟨(some s3), .alloc [(.int .i64 0), (.int .u64 0), (.int .u64 0), (.int .u64 0), (.int .u64 0), (.slice none 0 0 false)] 70, none⟩, ⟨none, .storeN 6 (.l 0) (.l 1), none⟩])
 (.seq (.seq (.reg [⟨none, .mv (.t s0), none⟩, ⟨none, .call (.c (.func (.func 111) [] [])) [(.l 0)], none⟩, ⟨(some s4), .mv (.l 0), none⟩])
 (.seq (.reg [⟨(some s9), .mv (.t s4), none⟩])
 (.block 0 (.seq (.reg [⟨none, .bin .eql (.t s9) (.c (.int .u8 40)), none⟩, ⟨(some s12), .mv (.l 0), none⟩])
 (.cond (.t s12) (.seq (.reg [⟨none, .mv (.t s0), none⟩, ⟨none, .call (.c (.func (.func 54) [] [])) [(.l 0)], none⟩, ⟨(some s5), .alloc [(.int .i64 0), (.int .u64 0), (.int .u64 0), (.int .u64 0), (.int .u64 0), (.slice none 0 0 false)] 70, none⟩, ⟨none, .storeN 6 (.l 0) (.l 1), none⟩])
 (.seq (.seq (.reg [⟨none, .mv (.t s0), none⟩, ⟨none, .call (.c (.func (.func 83) [] [])) [(.l 0), (.c (.int .u8 41))], none⟩, ⟨(some s18), .un .not (.l 0), none⟩])
 (.cond (.t s18) (.reg [⟨none, .mv (.t s0), none⟩, ⟨none, .call (.c (.func (.func 55) [] [])) [(.l 0)], none⟩]) .skip))
 (.seq (.reg [⟨none, .loadN 6 (.t s5), none⟩, ⟨none, .storeN 6 (.t s2) (.l 0), none⟩])
 .ret))) (.seq (.reg [⟨none, .bin .eql (.t s9) (.c (.int .u8 91)), none⟩, ⟨(some s22), .mv (.l 0), none⟩])
 (.cond (.t s22) (.seq (.reg [⟨none, .mv (.t s0), none⟩, ⟨none, .call (.c (.func (.func 112) [] [])) [(.l 0)], none⟩, ⟨none, .storeN 6 (.t s2) (.l 0), none⟩])
 .ret) (.seq (.reg [⟨none, .bin .eql (.t s9) (.c (.int .u8 46)), none⟩, ⟨(some s26), .mv (.l 0), none⟩])
 (.cond (.t s26) (.seq (.reg [⟨none, .call (.c (.func (.func 113) [] [])) [(.t s3), (.c (.int .u8 10))], none⟩])
 (.seq (.reg [⟨none, .loadN 6 (.t s3), none⟩, ⟨none, .call (.c (.func (.func 114) [] [])) [(.l 0)], none⟩, ⟨none, .storeN 6 (.t s2) (.l 0), none⟩])
 .ret)) (.seq (.reg [⟨none, .bin .eql (.t s9) (.c (.int .u8 92)), none⟩, ⟨(some s31), .mv (.l 0), none⟩])
 (.cond (.t s31) (.reg [⟨none, .mv (.t s0), none⟩, ⟨none, .call (.c (.func (.func 115) [] [])) [(.l 0)], none⟩, ⟨none, .call (.c (.func (.func 113) [] [])) [(.t s3), (.l 0)], none⟩]) (.seq (.seq (.reg [⟨none, .bin .eql (.t s9) (.c (.int .u8 42)), none⟩, ⟨(some s36), .mv (.l 0), none⟩])
 (.cond (.t s36) .skip (.seq (.reg [⟨none, .bin .eql (.t s9) (.c (.int .u8 43)), none⟩, ⟨(some s36), .mv (.l 0), none⟩])
 (.cond (.t s36) .skip (.seq (.reg [⟨none, .bin .eql (.t s9) (.c (.int .u8 63)), none⟩, ⟨(some s36), .mv (.l 0), none⟩])
 (.cond (.t s36) .skip (.seq (.reg [⟨none, .bin .eql (.t s9) (.c (.int .u8 93)), none⟩, ⟨(some s36), .mv (.l 0), none⟩])
 (.cond (.t s36) .skip (.seq (.reg [⟨none, .bin .eql (.t s9) (.c (.int .u8 124)), none⟩, ⟨(some s36), .mv (.l 0), none⟩])
 (.cond (.t s36) .skip (.reg [⟨none, .bin .eql (.t s9) (.c (.int .u8 41)), none⟩, ⟨(some s36), .mv (.l 0), none⟩])))))))))))
 (.cond (.t s36) (.reg [⟨none, .mv (.t s0), none⟩, ⟨none, .call (.c (.func (.func 55) [] [])) [(.l 0)], none⟩]) (.reg [⟨none, .mv (.t s4), none⟩, ⟨none, .call (.c (.func (.func 113) [] [])) [(.t s3), (.l 0)], none⟩]))))))))))))))
 (.seq (.reg [⟨none, .loadN 6 (.t s3), none⟩, ⟨none, .storeN 6 (.t s2) (.l 0), none⟩])
 .ret))))⟩
/-- internal/strconv.Itoa -/
noncomputable def df106 : DFunc := ⟨5, [.tmp s2],
 (.seq (.reg [⟨(some s2), .mv (.c (.str [])), none⟩])
 (.seq (.reg [⟨none, .mv (.t s0), none⟩, ⟨none, .call (.c (.func (.func 117) [] [])) [(.l 0), (.c (.int .i64 10))], none⟩, ⟨(some s2), .mv (.l 0), none⟩])
 .ret))⟩
/-- internal/strconv.FormatUint -/
noncomputable def df107 : DFunc := ⟨32, [.tmp s4],
 (.seq (.reg [⟨(some s4), .mv (.c (.str [])), none⟩])
 (.seq (.seq (.reg [⟨none, .mv (.t s1), none⟩, ⟨(some s10), .bin .eql (.l 0) (.c (.int .i64 10)), none⟩])
 (.cond (.t s10) (.seq (.seq (.reg [⟨none, .mv (.t s0), none⟩, ⟨(some s12), .bin .lss (.l 0) (.c (.int .u64 100)), none⟩])
 (.cond (.t s12) (.seq (.reg [⟨none, .mv (.t s0), none⟩, ⟨none, .toInt .i64 (.l 0), none⟩, ⟨none, .call (.c (.func (.func 118) [] [])) [(.l 0)], none⟩, ⟨(some s4), .mv (.l 0), none⟩])
 .ret) .skip))
 (.seq (.reg [⟨(some s5), .alloc [(.int .u8 0), (.int .u8 0), (.int .u8 0), (.int .u8 0), (.int .u8 0), (.int .u8 0), (.int .u8 0), (.int .u8 0), (.int .u8 0), (.int .u8 0), (.int .u8 0), (.int .u8 0), (.int .u8 0), (.int .u8 0), (.int .u8 0), (.int .u8 0), (.int .u8 0), (.int .u8 0), (.int .u8 0), (.int .u8 0), (.int .u8 0), (.int .u8 0), (.int .u8 0), (.int .u8 0)] 175, none⟩])
 (.seq (.reg [⟨none, .mv (.t s0), none⟩, ⟨none, .call (.c (.func (.func 119) [] [])) [(.l 0)], none⟩, ⟨(some s6), .mv (.l 0), none⟩])
 (.seq (.reg [⟨none, .mv (.t s6), none⟩, ⟨none, .slArr 24 1 (.t s5) none (some (.l 0)) none, none⟩, ⟨none, .mv (.t s0), none⟩, ⟨none, .call (.c (.func (.func 120) [] [])) [(.l 1), (.l 0)], none⟩])
 (.seq (.reg [⟨none, .mv (.t s6), none⟩, ⟨none, .slArr 24 1 (.t s5) none (some (.l 0)) none, none⟩, ⟨none, .toStr (.l 0), none⟩, ⟨(some s4), .mv (.l 0), none⟩])
 .ret))))) .skip))
 (.seq (.reg [⟨none, .mv (.t s0), none⟩, ⟨none, .mv (.t s1), none⟩, ⟨none, .call (.c (.func (.func 121) [] [])) [(.c (.slice none 0 0 false)), (.l 1), (.l 0), (.c (.bool false)), (.c (.bool false))], none⟩, ⟨none, .mv (.l 0), none⟩, ⟨none, .ext 0 (.l 0), none⟩, ⟨none, .ext 1 (.l 1), none⟩, ⟨none, .mv (.l 1), none⟩, ⟨(some s8), .mv (.l 1), none⟩])
 (.seq (.reg [⟨none, .mv (.t s8), none⟩, ⟨(some s4), .mv (.l 0), none⟩])
 .ret))))⟩
/-- slices.IndexFunc[[]int,int] -/
noncomputable def df108 : DFunc := ⟨19, [.tmp s4],
 (.seq (.reg [⟨(some s4), .mv (.c (.int .i64 0)), none⟩])
 (.seq (.seq (.reg [⟨none, .mv (.t s0), none⟩, ⟨(some s7), .len .slice (.l 0), none⟩, ⟨(some s8), .mv (.c (.int .i64 0)), none⟩])
 (.block 0 (.loop (.seq (.reg [⟨(some s9), .bin .lss (.t s8) (.t s7), none⟩])
 (.seq (.cond (.t s9) .skip (.exit 0))
 (.seq (.block 1 (.seq (.reg [⟨none, .mv (.t s8), none⟩, ⟨(some s5), .mv (.l 0), none⟩])
 (.seq (.reg [⟨none, .mv (.t s1), none⟩, ⟨none, .mv (.t s0), none⟩, ⟨none, .mv (.t s5), none⟩, ⟨none, .idxS 1 (.l 1) (.l 0), none⟩, ⟨none, .load1 (.l 0), none⟩, ⟨(some s16), .call (.l 4) [(.l 0)], none⟩])
 (.cond (.t s16) (.seq (.reg [⟨none, .mv (.t s5), none⟩, ⟨(some s4), .mv (.l 0), none⟩])
 .ret) .skip))))
 (.reg [⟨none, .bin .add (.t s8) (.c (.int .i64 1)), none⟩, ⟨(some s8), .mv (.l 0), none⟩])))))))
 (.seq (.reg [⟨(some s4), .mv (.c (.int .i64 (-1))), none⟩])
 .ret)))⟩
/-- (*syntagm/nfa.Machine).free -/
noncomputable def df109 : DFunc := ⟨24, [],
 (.draw [(⟨(some s6), .mv (.t s0), none⟩, ⟨0, 2⟩), (⟨(some s7), .nilc (.t s6), none⟩, ⟨0, 2⟩), (⟨(some s8), .fldA 0 (.t s7), none⟩, ⟨0, 2⟩), (⟨(some s9), .load1 (.t s8), none⟩, ⟨0, 2⟩), (⟨(some s10), .mv (.t s1), none⟩, ⟨0, 2⟩), (⟨(some s11), .mv (.t s0), none⟩, ⟨0, 1⟩), (⟨(some s12), .nilc (.t s11), none⟩, ⟨0, 1⟩), (⟨(some s13), .fldA 0 (.t s12), none⟩, ⟨0, 1⟩), (⟨(some s14), .load1 (.t s13), none⟩, ⟨0, 1⟩), (⟨(some s15), .mv (.t s1), none⟩, ⟨0, 1⟩), (⟨(some s16), .idxS 9 (.t s14) (.t s15), none⟩, ⟨0, 1⟩), (⟨(some s17), .fldA 0 (.t s16), none⟩, ⟨0, 1⟩), (⟨(some s18), .load1 (.t s17), none⟩, ⟨0, 1⟩), (⟨(some s19), .mv (.t s2), none⟩, ⟨0, 0⟩), (⟨(some s20), .bslice 3 [(.int .i64 0)] [(0, 1, (.t s19))] 1, none⟩, ⟨0, 1⟩), (⟨(some s21), .append 3 1 8 (.t s18) (.t s20), none⟩, ⟨1, 2⟩), (⟨(some s22), .idxS 9 (.t s9) (.t s10), none⟩, ⟨2, 2⟩), (⟨(some s23), .fldA 0 (.t s22), none⟩, ⟨2, 2⟩), (⟨none, .store1 (.t s23) (.t s21), none⟩, ⟨2, 3⟩)] 0)⟩
/-- slices.Sort[[]int,int] -/
noncomputable def df110 : DFunc := ⟨11, [],
 (.seq (.reg [⟨none, .mv (.t s0), none⟩, ⟨none, .len .slice (.l 0), none⟩, ⟨(some s2), .mv (.l 0), none⟩])
 (.reg [⟨none, .mv (.t s0), none⟩, ⟨none, .mv (.t s2), none⟩, ⟨none, .mv (.t s2), none⟩, ⟨none, .toInt .u64 (.l 0), none⟩, ⟨none, .call (.c (.func (.func 123) [] [])) [(.l 0)], none⟩, ⟨none, .call (.c (.func (.func 122) [] [])) [(.l 4), (.c (.int .i64 0)), (.l 3), (.l 0)], none⟩]))⟩
/-- (*syntagm/regex.reader).next -/
noncomputable def df111 : DFunc := ⟨22, [.tmp s2],
 (.seq (.reg [⟨(some s2), .mv (.c (.int .u8 0)), none⟩])
 (.seq (.reg [⟨none, .mv (.t s0), none⟩, ⟨none, .call (.c (.func (.func 101) [] [])) [(.l 0)], none⟩, ⟨none, .mv (.l 0), none⟩, ⟨none, .ext 0 (.l 0), none⟩, ⟨none, .ext 1 (.l 1), none⟩, ⟨(some s3), .mv (.l 1), none⟩, ⟨(some s4), .mv (.l 1), none⟩])
 (.seq (.seq (.reg [⟨none, .mv (.t s4), none⟩, ⟨(some s11), .un .not (.l 0), none⟩])
 (.cond (.t s11) (.reg [⟨none, .mv (.t s0), none⟩, ⟨none, .call (.c (.func (.func 55) [] [])) [(.l 0)], none⟩]) .skip))
 (.seq (.reg [⟨none, .mv (.t s0), none⟩, ⟨none, .nilc (.l 0), none⟩, ⟨none, .fldA 1 (.l 0), none⟩, ⟨none, .load1 (.l 0), none⟩, ⟨none, .bin .add (.l 0) (.c (.int .i64 1)), none⟩, ⟨none, .nilc (.l 4), none⟩, ⟨none, .fldA 1 (.l 0), none⟩, ⟨none, .store1 (.l 0) (.l 2), none⟩])
 (.seq (.reg [⟨none, .mv (.t s3), none⟩, ⟨(some s2), .mv (.l 0), none⟩])
 .ret)))))⟩
/-- (*syntagm/regex.reader).class -/
noncomputable def df112 : DFunc := ⟨41, [.cell s2 6 true],
 (.seq (.reg [⟨(some s2), .alloc [(.int .i64 0), (.int .u64 0), (.int .u64 0), (.int .u64 0), (.int .u64 0), (.slice none 0 0 false)] 70, none⟩])
 (.seq (.reg [⟨none, .build [(.int .i64 0), (.int .u64 0), (.int .u64 0), (.int .u64 0), (.int .u64 0), (.slice none 0 0 false)] [(0, 1, (.c (.int .i64 1)))], none⟩, ⟨(some s3), .alloc [(.int .i64 0), (.int .u64 0), (.int .u64 0), (.int .u64 0), (.int .u64 0), (.slice none 0 0 false)] 70, none⟩, ⟨none, .storeN 6 (.l 0) (.l 1), none⟩])
 (.seq (.reg [⟨none, .mv (.t s0), none⟩, ⟨none, .call (.c (.func (.func 83) [] [])) [(.l 0), (.c (.int .u8 94))], none⟩, ⟨(some s4), .mv (.l 0), none⟩])
 (.seq (.block 0 (.loop (.seq (.seq (.reg [⟨none, .mv (.t s0), none⟩, ⟨none, .call (.c (.func (.func 83) [] [])) [(.l 0), (.c (.int .u8 93))], none⟩, ⟨(some s13), .un .not (.l 0), none⟩])
 (.cond (.t s13) .skip (.exit 0)))
 (.block 1 (.seq (.reg [⟨none, .mv (.t s0), none⟩, ⟨none, .call (.c (.func (.func 124) [] [])) [(.l 0)], none⟩, ⟨(some s5), .mv (.l 0), none⟩])
 (.seq (.reg [⟨none, .mv (.t s5), none⟩, ⟨(some s6), .mv (.l 0), none⟩])
 (.seq (.seq (.reg [⟨none, .mv (.t s0), none⟩, ⟨(some s18), .call (.c (.func (.func 83) [] [])) [(.l 0), (.c (.int .u8 45))], none⟩])
 (.cond (.t s18) (.reg [⟨none, .mv (.t s0), none⟩, ⟨none, .call (.c (.func (.func 124) [] [])) [(.l 0)], none⟩, ⟨(some s6), .mv (.l 0), none⟩]) .skip))
 (.seq (.seq (.reg [⟨none, .mv (.t s6), none⟩, ⟨none, .mv (.t s5), none⟩, ⟨(some s23), .bin .lss (.l 1) (.l 0), none⟩])
 (.cond (.t s23) (.reg [⟨none, .mv (.t s0), none⟩, ⟨none, .call (.c (.func (.func 55) [] [])) [(.l 0)], none⟩]) .skip))
 (.seq (.reg [⟨none, .mv (.t s5), none⟩, ⟨none, .toInt .i64 (.l 0), none⟩, ⟨(some s7), .mv (.l 0), none⟩])
 (.block 2 (.loop (.seq (.seq (.reg [⟨none, .mv (.t s7), none⟩, ⟨none, .mv (.t s6), none⟩, ⟨none, .toInt .i64 (.l 0), none⟩, ⟨(some s31), .bin .leq (.l 2) (.l 0), none⟩])
 (.cond (.t s31) .skip (.exit 2)))
 (.seq (.block 3 (.reg [⟨none, .mv (.t s7), none⟩, ⟨none, .toInt .u8 (.l 0), none⟩, ⟨none, .call (.c (.func (.func 113) [] [])) [(.t s3), (.l 0)], none⟩]))
 (.reg [⟨none, .mv (.t s7), none⟩, ⟨none, .bin .add (.l 0) (.c (.int .i64 1)), none⟩, ⟨(some s7), .mv (.l 0), none⟩]))))))))))))))
 (.seq (.seq (.reg [⟨(some s37), .mv (.t s4), none⟩])
 (.cond (.t s37) (.reg [⟨none, .loadN 6 (.t s3), none⟩, ⟨none, .call (.c (.func (.func 114) [] [])) [(.l 0)], none⟩, ⟨none, .storeN 6 (.t s3) (.l 0), none⟩]) .skip))
 (.seq (.reg [⟨none, .loadN 6 (.t s3), none⟩, ⟨none, .storeN 6 (.t s2) (.l 0), none⟩])
 .ret))))))⟩
/-- syntagm/regex.add -/
noncomputable def df113 : DFunc := ⟨18, [],
 (.draw [(⟨(some s4), .mv (.t s0), none⟩, ⟨0, 0⟩), (⟨(some s5), .mv (.t s1), none⟩, ⟨0, 0⟩), (⟨(some s6), .bin .shr (.t s5) (.c (.int .u64 6)), none⟩, ⟨0, 0⟩), (⟨(some s7), .nilc (.t s4), none⟩, ⟨0, 0⟩), (⟨(some s8), .fldA 1 (.t s7), none⟩, ⟨0, 0⟩), (⟨(some s9), .idxA 4 1 (.t s8) (.t s6), none⟩, ⟨0, 0⟩), (⟨(some s10), .load1 (.t s9), none⟩, ⟨0, 0⟩), (⟨(some s11), .mv (.t s1), none⟩, ⟨0, 0⟩), (⟨(some s12), .bin .and (.t s11) (.c (.int .u8 63)), none⟩, ⟨0, 0⟩), (⟨(some s13), .bin .shl (.c (.int .u64 1)) (.t s12), none⟩, ⟨0, 0⟩), (⟨(some s14), .bin .or (.t s10) (.t s13), none⟩, ⟨0, 0⟩), (⟨(some s15), .nilc (.t s4), none⟩, ⟨0, 0⟩), (⟨(some s16), .fldA 1 (.t s15), none⟩, ⟨0, 0⟩), (⟨(some s17), .idxA 4 1 (.t s16) (.t s6), none⟩, ⟨0, 0⟩), (⟨none, .store1 (.t s17) (.t s14), none⟩, ⟨0, 1⟩)] 0)⟩
/-- syntagm/regex.others -/
noncomputable def df114 : DFunc := ⟨17, [.cell s2 6 true],
 (.seq (.reg [⟨(some s1), .box 70 (.t s0), none⟩, ⟨(some s2), .alloc [(.int .i64 0), (.int .u64 0), (.int .u64 0), (.int .u64 0), (.int .u64 0), (.slice none 0 0 false)] 70, none⟩])
 (.seq (.seq (.reg [⟨(some s4), .mv (.c (.int .i64 0)), none⟩])
 (.block 0 (.loop (.seq (.reg [⟨(some s5), .bin .lss (.t s4) (.c (.int .i64 4)), none⟩])
 (.seq (.cond (.t s5) .skip (.exit 0))
 (.seq (.block 1 (.seq (.reg [⟨none, .mv (.t s4), none⟩, ⟨(some s3), .mv (.l 0), none⟩])
 (.reg [⟨none, .mv (.t s3), none⟩, ⟨none, .mv (.t s3), none⟩, ⟨none, .fldA 1 (.t s1), none⟩, ⟨none, .idxA 4 1 (.l 0) (.l 1), none⟩, ⟨none, .load1 (.l 0), none⟩, ⟨none, .un .xor (.l 0), none⟩, ⟨none, .fldA 1 (.t s1), none⟩, ⟨none, .idxA 4 1 (.l 0) (.l 6), none⟩, ⟨none, .store1 (.l 0) (.l 2), none⟩])))
 (.reg [⟨none, .bin .add (.t s4) (.c (.int .i64 1)), none⟩, ⟨(some s4), .mv (.l 0), none⟩])))))))
 (.seq (.reg [⟨none, .loadN 6 (.t s1), none⟩, ⟨none, .storeN 6 (.t s2) (.l 0), none⟩])
 .ret)))⟩
/-- (*syntagm/regex.reader).character -/
noncomputable def df115 : DFunc := ⟨37, [.tmp s2],
 (.seq (.reg [⟨(some s2), .mv (.c (.int .u8 0)), none⟩])
 (.seq (.reg [⟨none, .mkMap, none⟩, ⟨none, .mapSet (.one .int) (.l 0) (.c (.int .u8 110)) (.c (.int .u8 10)), none⟩, ⟨none, .mapSet (.one .int) (.l 1) (.c (.int .u8 116)) (.c (.int .u8 9)), none⟩, ⟨none, .mapSet (.one .int) (.l 2) (.c (.int .u8 114)) (.c (.int .u8 13)), none⟩, ⟨none, .mapSet (.one .int) (.l 3) (.c (.int .u8 115)) (.c (.int .u8 32)), none⟩, ⟨none, .mv (.l 4), none⟩, ⟨(some s3), .mv (.l 0), none⟩])
 (.seq (.reg [⟨none, .mv (.t s0), none⟩, ⟨none, .call (.c (.func (.func 111) [] [])) [(.l 0)], none⟩, ⟨(some s4), .mv (.l 0), none⟩])
 (.seq (.reg [⟨none, .mv (.t s3), none⟩, ⟨none, .mv (.t s4), none⟩, ⟨none, .mapGet (.one .int) (.int .u8 0) true (.l 1) (.l 0), none⟩, ⟨none, .mv (.l 0), none⟩, ⟨none, .ext 0 (.l 0), none⟩, ⟨none, .ext 1 (.l 1), none⟩, ⟨(some s5), .mv (.l 1), none⟩, ⟨(some s6), .mv (.l 1), none⟩])
 (.seq (.block 0 (.seq (.reg [⟨none, .mv (.t s6), none⟩, ⟨(some s18), .mv (.l 0), none⟩])
 (.cond (.t s18) (.seq (.reg [⟨none, .mv (.t s5), none⟩, ⟨(some s2), .mv (.l 0), none⟩])
 .ret) (.seq (.reg [⟨none, .mv (.t s4), none⟩, ⟨none, .bin .eql (.l 0) (.c (.int .u8 120)), none⟩, ⟨(some s21), .mv (.l 0), none⟩])
 (.cond (.t s21) (.seq (.reg [⟨none, .mv (.t s0), none⟩, ⟨none, .call (.c (.func (.func 125) [] [])) [(.l 0)], none⟩, ⟨(some s7), .mv (.l 0), none⟩])
 (.seq (.reg [⟨none, .mv (.t s7), none⟩, ⟨none, .bin .shl (.l 0) (.c (.int .u64 4)), none⟩, ⟨none, .mv (.t s0), none⟩, ⟨none, .call (.c (.func (.func 125) [] [])) [(.l 0)], none⟩, ⟨none, .bin .or (.l 2) (.l 0), none⟩, ⟨(some s2), .mv (.l 0), none⟩])
 .ret)) (.seq (.reg [⟨none, .mv (.t s4), none⟩, ⟨none, .call (.c (.func (.func 126) [] [])) [(.l 0)], none⟩, ⟨(some s31), .mv (.l 0), none⟩])
 (.cond (.t s31) (.reg [⟨none, .mv (.t s0), none⟩, ⟨none, .call (.c (.func (.func 55) [] [])) [(.l 0)], none⟩]) .skip)))))))
 (.seq (.reg [⟨none, .mv (.t s4), none⟩, ⟨(some s2), .mv (.l 0), none⟩])
 .ret))))))⟩
/-- internal/strconv.FormatInt -/
noncomputable def df117 : DFunc := ⟨54, [.tmp s4],
 (.seq (.reg [⟨(some s4), .mv (.c (.str [])), none⟩])
 (.seq (.seq (.reg [⟨none, .mv (.t s1), none⟩, ⟨(some s11), .bin .eql (.l 0) (.c (.int .i64 10)), none⟩])
 (.cond (.t s11) (.seq (.seq (.reg [⟨none, .mv (.t s0), none⟩, ⟨none, .bin .leq (.c (.int .i64 0)) (.l 0), none⟩, ⟨none, .mv (.l 0), none⟩, ⟨none, .mv (.t s0), (some ((.l 0), true))⟩, ⟨none, .bin .lss (.l 0) (.c (.int .i64 100)), (some ((.l 1), true))⟩, ⟨(some s17), .pick (.l 2) (.l 0) (.c (.bool false)), none⟩])
 (.cond (.t s17) (.seq (.reg [⟨none, .mv (.t s0), none⟩, ⟨none, .call (.c (.func (.func 118) [] [])) [(.l 0)], none⟩, ⟨(some s4), .mv (.l 0), none⟩])
 .ret) .skip))
 (.seq (.reg [⟨(some s5), .alloc [(.int .u8 0), (.int .u8 0), (.int .u8 0), (.int .u8 0), (.int .u8 0), (.int .u8 0), (.int .u8 0), (.int .u8 0), (.int .u8 0), (.int .u8 0), (.int .u8 0), (.int .u8 0), (.int .u8 0), (.int .u8 0), (.int .u8 0), (.int .u8 0), (.int .u8 0), (.int .u8 0), (.int .u8 0), (.int .u8 0), (.int .u8 0), (.int .u8 0), (.int .u8 0), (.int .u8 0)] 175, none⟩])
 (.seq (.reg [⟨none, .mv (.t s0), none⟩, ⟨none, .toInt .u64 (.l 0), none⟩, ⟨(some s6), .mv (.l 0), none⟩])
 (.seq (.seq (.reg [⟨none, .mv (.t s0), none⟩, ⟨(some s23), .bin .lss (.l 0) (.c (.int .i64 0)), none⟩])
 (.cond (.t s23) (.reg [⟨none, .mv (.t s6), none⟩, ⟨none, .un .neg (.l 0), none⟩, ⟨(some s6), .mv (.l 0), none⟩]) .skip))
 (.seq (.reg [⟨none, .mv (.t s6), none⟩, ⟨none, .call (.c (.func (.func 119) [] [])) [(.l 0)], none⟩, ⟨(some s7), .mv (.l 0), none⟩])
 (.seq (.reg [⟨none, .mv (.t s7), none⟩, ⟨none, .bin .add (.c (.int .i64 1)) (.l 0), none⟩, ⟨none, .slArr 24 1 (.t s5) (some (.c (.int .i64 1))) (some (.l 0)) none, none⟩, ⟨none, .mv (.t s6), none⟩, ⟨none, .call (.c (.func (.func 120) [] [])) [(.l 1), (.l 0)], none⟩])
 (.seq (.seq (.reg [⟨none, .mv (.t s0), none⟩, ⟨(some s34), .bin .lss (.l 0) (.c (.int .i64 0)), none⟩])
 (.cond (.t s34) (.seq (.reg [⟨none, .idxA 24 1 (.t s5) (.c (.int .i64 0)), none⟩, ⟨none, .store1 (.l 0) (.c (.int .u8 45)), none⟩])
 (.seq (.reg [⟨none, .mv (.t s7), none⟩, ⟨none, .bin .add (.c (.int .i64 1)) (.l 0), none⟩, ⟨none, .slArr 24 1 (.t s5) none (some (.l 0)) none, none⟩, ⟨none, .toStr (.l 0), none⟩, ⟨(some s4), .mv (.l 0), none⟩])
 .ret)) .skip))
 (.seq (.reg [⟨none, .mv (.t s7), none⟩, ⟨none, .bin .add (.c (.int .i64 1)) (.l 0), none⟩, ⟨none, .slArr 24 1 (.t s5) (some (.c (.int .i64 1))) (some (.l 0)) none, none⟩, ⟨none, .toStr (.l 0), none⟩, ⟨(some s4), .mv (.l 0), none⟩])
 .ret)))))))) .skip))
 (.seq (.reg [⟨none, .mv (.t s0), none⟩, ⟨none, .toInt .u64 (.l 0), none⟩, ⟨none, .mv (.t s1), none⟩, ⟨none, .mv (.t s0), none⟩, ⟨none, .bin .lss (.l 0) (.c (.int .i64 0)), none⟩, ⟨none, .call (.c (.func (.func 121) [] [])) [(.c (.slice none 0 0 false)), (.l 3), (.l 2), (.l 0), (.c (.bool false))], none⟩, ⟨none, .mv (.l 0), none⟩, ⟨none, .ext 0 (.l 0), none⟩, ⟨none, .ext 1 (.l 1), none⟩, ⟨none, .mv (.l 1), none⟩, ⟨(some s9), .mv (.l 1), none⟩])
 (.seq (.reg [⟨none, .mv (.t s9), none⟩, ⟨(some s4), .mv (.l 0), none⟩])
 .ret))))⟩
/-- internal/strconv.small -/
noncomputable def df118 : DFunc := ⟨15, [.tmp s2],
 (.seq (.reg [⟨(some s2), .mv (.c (.str [])), none⟩])
 (.seq (.seq (.reg [⟨none, .mv (.t s0), none⟩, ⟨(some s4), .bin .lss (.l 0) (.c (.int .i64 10)), none⟩])
 (.cond (.t s4) (.seq (.reg [⟨none, .mv (.t s0), none⟩, ⟨none, .mv (.t s0), none⟩, ⟨none, .bin .add (.l 0) (.c (.int .i64 1)), none⟩, ⟨none, .slStr (.c (.str [48, 49, 50, 51, 52, 53, 54, 55, 56, 57, 97, 98, 99, 100, 101, 102, 103, 104, 105, 106, 107, 108, 109, 110, 111, 112, 113, 114, 115, 116, 117, 118, 119, 120, 121, 122])) (some (.l 2)) (some (.l 0)), none⟩, ⟨(some s2), .mv (.l 0), none⟩])
 .ret) .skip))
 (.seq (.reg [⟨none, .mv (.t s0), none⟩, ⟨none, .bin .mul (.l 0) (.c (.int .i64 2)), none⟩, ⟨none, .mv (.t s0), none⟩, ⟨none, .bin .mul (.l 0) (.c (.int .i64 2)), none⟩, ⟨none, .bin .add (.l 0) (.c (.int .i64 2)), none⟩, ⟨none, .slStr (.c (.str [48, 48, 48, 49, 48, 50, 48, 51, 48, 52, 48, 53, 48, 54, 48, 55, 48, 56, 48, 57, 49, 48, 49, 49, 49, 50, 49, 51, 49, 52, 49, 53, 49, 54, 49, 55, 49, 56, 49, 57, 50, 48, 50, 49, 50, 50, 50, 51, 50, 52, 50, 53, 50, 54, 50, 55, 50, 56, 50, 57, 51, 48, 51, 49, 51, 50, 51, 51, 51, 52, 51, 53, 51, 54, 51, 55, 51, 56, 51, 57, 52, 48, 52, 49, 52, 50, 52, 51, 52, 52, 52, 53, 52, 54, 52, 55, 52, 56, 52, 57, 53, 48, 53, 49, 53, 50, 53, 51, 53, 52, 53, 53, 53, 54, 53, 55, 53, 56, 53, 57, 54, 48, 54, 49, 54, 50, 54, 51, 54, 52, 54, 53, 54, 54, 54, 55, 54, 56, 54, 57, 55, 48, 55, 49, 55, 50, 55, 51, 55, 52, 55, 53, 55, 54, 55, 55, 55, 56, 55, 57, 56, 48, 56, 49, 56, 50, 56, 51, 56, 52, 56, 53, 56, 54, 56, 55, 56, 56, 56, 57, 57, 48, 57, 49, 57, 50, 57, 51, 57, 52, 57, 53, 57, 54, 57, 55, 57, 56, 57, 57])) (some (.l 3)) (some (.l 0)), none⟩, ⟨(some s2), .mv (.l 0), none⟩])
 .ret)))⟩
/-- internal/strconv.numDigits -/
noncomputable def df119 : DFunc := ⟨15, [.tmp s2],
 (.seq (.reg [⟨(some s2), .mv (.c (.int .i64 0)), none⟩])
 (.seq (.reg [⟨none, .mv (.t s0), none⟩, ⟨none, .call (.c (.func (.func 128) [] [])) [(.l 0)], none⟩, ⟨none, .call (.c (.func (.func 127) [] [])) [(.l 0)], none⟩, ⟨(some s3), .mv (.l 0), none⟩])
 (.seq (.reg [⟨none, .mv (.t s3), none⟩, ⟨none, .mv (.t s0), none⟩, ⟨none, .mv (.t s3), none⟩, ⟨none, .idxA 20 1 (.c (.ptr (some (2, 0)))) (.l 0), none⟩, ⟨none, .load1 (.l 0), none⟩, ⟨none, .bin .geq (.l 3) (.l 0), none⟩, ⟨none, .call (.c (.func (.func 129) [] [])) [(.l 0)], none⟩, ⟨none, .bin .add (.l 6) (.l 0), none⟩, ⟨(some s2), .mv (.l 0), none⟩])
 .ret)))⟩
/-- internal/strconv.formatBase10 -/
noncomputable def df120 : DFunc := ⟨167, [],
 (.seq (.reg [⟨none, .mv (.t s0), none⟩, ⟨none, .len .slice (.l 0), none⟩, ⟨(some s4), .mv (.l 0), none⟩])
 (.seq (.block 0 (.loop (.seq (.seq (.reg [⟨none, .mv (.t s4), none⟩, ⟨(some s20), .bin .geq (.l 0) (.c (.int .i64 8)), none⟩])
 (.cond (.t s20) .skip (.exit 0)))
 (.block 1 (.seq (.reg [⟨none, .mv (.t s1), none⟩, ⟨none, .bin .rem (.l 0) (.c (.int .u64 100000000)), none⟩, ⟨none, .toInt .u32 (.l 0), none⟩, ⟨(some s5), .mv (.l 0), none⟩])
 (.seq (.reg [⟨none, .mv (.t s1), none⟩, ⟨none, .bin .quo (.l 0) (.c (.int .u64 100000000)), none⟩, ⟨(some s1), .mv (.l 0), none⟩])
 (.seq (.reg [⟨none, .mv (.t s5), none⟩, ⟨none, .bin .quo (.l 0) (.c (.int .u32 10000)), none⟩, ⟨none, .mv (.t s5), none⟩, ⟨none, .bin .rem (.l 0) (.c (.int .u32 10000)), none⟩, ⟨(some s6), .mv (.l 2), none⟩, ⟨(some s7), .mv (.l 1), none⟩])
 (.seq (.reg [⟨none, .mv (.t s7), none⟩, ⟨none, .bin .quo (.l 0) (.c (.int .u32 100)), none⟩, ⟨none, .bin .mul (.l 0) (.c (.int .u32 2)), none⟩, ⟨none, .mv (.t s7), none⟩, ⟨none, .bin .rem (.l 0) (.c (.int .u32 100)), none⟩, ⟨none, .bin .mul (.l 0) (.c (.int .u32 2)), none⟩, ⟨(some s8), .mv (.l 3), none⟩, ⟨(some s9), .mv (.l 1), none⟩])
 (.seq (.reg [⟨none, .mv (.t s6), none⟩, ⟨none, .bin .quo (.l 0) (.c (.int .u32 100)), none⟩, ⟨none, .bin .mul (.l 0) (.c (.int .u32 2)), none⟩, ⟨none, .mv (.t s6), none⟩, ⟨none, .bin .rem (.l 0) (.c (.int .u32 100)), none⟩, ⟨none, .bin .mul (.l 0) (.c (.int .u32 2)), none⟩, ⟨(some s10), .mv (.l 3), none⟩, ⟨(some s11), .mv (.l 1), none⟩])
 (.seq (.draw [(⟨(some s42), .mv (.t s0), none⟩, ⟨0, 0⟩), (⟨(some s43), .mv (.t s4), none⟩, ⟨0, 0⟩), (⟨(some s44), .bin .sub (.t s43) (.c (.int .i64 1)), none⟩, ⟨0, 0⟩), (⟨(some s45), .mv (.t s0), none⟩, ⟨0, 1⟩), (⟨(some s46), .mv (.t s4), none⟩, ⟨0, 1⟩), (⟨(some s47), .bin .sub (.t s46) (.c (.int .i64 2)), none⟩, ⟨0, 1⟩), (⟨(some s48), .mv (.t s9), none⟩, ⟨0, 0⟩), (⟨(some s49), .bin .add (.t s48) (.c (.int .u32 1)), none⟩, ⟨0, 0⟩), (⟨(some s50), .idxStr (.c (.str [48, 48, 48, 49, 48, 50, 48, 51, 48, 52, 48, 53, 48, 54, 48, 55, 48, 56, 48, 57, 49, 48, 49, 49, 49, 50, 49, 51, 49, 52, 49, 53, 49, 54, 49, 55, 49, 56, 49, 57, 50, 48, 50, 49, 50, 50, 50, 51, 50, 52, 50, 53, 50, 54, 50, 55, 50, 56, 50, 57, 51, 48, 51, 49, 51, 50, 51, 51, 51, 52, 51, 53, 51, 54, 51, 55, 51, 56, 51, 57, 52, 48, 52, 49, 52, 50, 52, 51, 52, 52, 52, 53, 52, 54, 52, 55, 52, 56, 52, 57, 53, 48, 53, 49, 53, 50, 53, 51, 53, 52, 53, 53, 53, 54, 53, 55, 53, 56, 53, 57, 54, 48, 54, 49, 54, 50, 54, 51, 54, 52, 54, 53, 54, 54, 54, 55, 54, 56, 54, 57, 55, 48, 55, 49, 55, 50, 55, 51, 55, 52, 55, 53, 55, 54, 55, 55, 55, 56, 55, 57, 56, 48, 56, 49, 56, 50, 56, 51, 56, 52, 56, 53, 56, 54, 56, 55, 56, 56, 56, 57, 57, 48, 57, 49, 57, 50, 57, 51, 57, 52, 57, 53, 57, 54, 57, 55, 57, 56, 57, 57])) (.t s49), none⟩, ⟨0, 0⟩), (⟨(some s51), .mv (.t s9), none⟩, ⟨0, 1⟩), (⟨(some s52), .idxStr (.c (.str [48, 48, 48, 49, 48, 50, 48, 51, 48, 52, 48, 53, 48, 54, 48, 55, 48, 56, 48, 57, 49, 48, 49, 49, 49, 50, 49, 51, 49, 52, 49, 53, 49, 54, 49, 55, 49, 56, 49, 57, 50, 48, 50, 49, 50, 50, 50, 51, 50, 52, 50, 53, 50, 54, 50, 55, 50, 56, 50, 57, 51, 48, 51, 49, 51, 50, 51, 51, 51, 52, 51, 53, 51, 54, 51, 55, 51, 56, 51, 57, 52, 48, 52, 49, 52, 50, 52, 51, 52, 52, 52, 53, 52, 54, 52, 55, 52, 56, 52, 57, 53, 48, 53, 49, 53, 50, 53, 51, 53, 52, 53, 53, 53, 54, 53, 55, 53, 56, 53, 57, 54, 48, 54, 49, 54, 50, 54, 51, 54, 52, 54, 53, 54, 54, 54, 55, 54, 56, 54, 57, 55, 48, 55, 49, 55, 50, 55, 51, 55, 52, 55, 53, 55, 54, 55, 55, 55, 56, 55, 57, 56, 48, 56, 49, 56, 50, 56, 51, 56, 52, 56, 53, 56, 54, 56, 55, 56, 56, 56, 57, 57, 48, 57, 49, 57, 50, 57, 51, 57, 52, 57, 53, 57, 54, 57, 55, 57, 56, 57, 57])) (.t s51), none⟩, ⟨0, 1⟩), (⟨(some s53), .idxS 1 (.t s42) (.t s44), none⟩, ⟨0, 0⟩), (⟨none, .store1 (.t s53) (.t s50), none⟩, ⟨0, 1⟩), (⟨(some s54), .idxS 1 (.t s45) (.t s47), none⟩, ⟨1, 1⟩), (⟨none, .store1 (.t s54) (.t s52), none⟩, ⟨1, 2⟩)] 7)
 (.seq (.draw [(⟨(some s55), .mv (.t s0), none⟩, ⟨0, 0⟩), (⟨(some s56), .mv (.t s4), none⟩, ⟨0, 0⟩), (⟨(some s57), .bin .sub (.t s56) (.c (.int .i64 3)), none⟩, ⟨0, 0⟩), (⟨(some s58), .mv (.t s0), none⟩, ⟨0, 1⟩), (⟨(some s59), .mv (.t s4), none⟩, ⟨0, 1⟩), (⟨(some s60), .bin .sub (.t s59) (.c (.int .i64 4)), none⟩, ⟨0, 1⟩), (⟨(some s61), .mv (.t s8), none⟩, ⟨0, 0⟩), (⟨(some s62), .bin .add (.t s61) (.c (.int .u32 1)), none⟩, ⟨0, 0⟩), (⟨(some s63), .idxStr (.c (.str [48, 48, 48, 49, 48, 50, 48, 51, 48, 52, 48, 53, 48, 54, 48, 55, 48, 56, 48, 57, 49, 48, 49, 49, 49, 50, 49, 51, 49, 52, 49, 53, 49, 54, 49, 55, 49, 56, 49, 57, 50, 48, 50, 49, 50, 50, 50, 51, 50, 52, 50, 53, 50, 54, 50, 55, 50, 56, 50, 57, 51, 48, 51, 49, 51, 50, 51, 51, 51, 52, 51, 53, 51, 54, 51, 55, 51, 56, 51, 57, 52, 48, 52, 49, 52, 50, 52, 51, 52, 52, 52, 53, 52, 54, 52, 55, 52, 56, 52, 57, 53, 48, 53, 49, 53, 50, 53, 51, 53, 52, 53, 53, 53, 54, 53, 55, 53, 56, 53, 57, 54, 48, 54, 49, 54, 50, 54, 51, 54, 52, 54, 53, 54, 54, 54, 55, 54, 56, 54, 57, 55, 48, 55, 49, 55, 50, 55, 51, 55, 52, 55, 53, 55, 54, 55, 55, 55, 56, 55, 57, 56, 48, 56, 49, 56, 50, 56, 51, 56, 52, 56, 53, 56, 54, 56, 55, 56, 56, 56, 57, 57, 48, 57, 49, 57, 50, 57, 51, 57, 52, 57, 53, 57, 54, 57, 55, 57, 56, 57, 57])) (.t s62), none⟩, ⟨0, 0⟩), (⟨(some s64), .mv (.t s8), none⟩, ⟨0, 1⟩), (⟨(some s65), .idxStr (.c (.str [48, 48, 48, 49, 48, 50, 48, 51, 48, 52, 48, 53, 48, 54, 48, 55, 48, 56, 48, 57, 49, 48, 49, 49, 49, 50, 49, 51, 49, 52, 49, 53, 49, 54, 49, 55, 49, 56, 49, 57, 50, 48, 50, 49, 50, 50, 50, 51, 50, 52, 50, 53, 50, 54, 50, 55, 50, 56, 50, 57, 51, 48, 51, 49, 51, 50, 51, 51, 51, 52, 51, 53, 51, 54, 51, 55, 51, 56, 51, 57, 52, 48, 52, 49, 52, 50, 52, 51, 52, 52, 52, 53, 52, 54, 52, 55, 52, 56, 52, 57, 53, 48, 53, 49, 53, 50, 53, 51, 53, 52, 53, 53, 53, 54, 53, 55, 53, 56, 53, 57, 54, 48, 54, 49, 54, 50, 54, 51, 54, 52, 54, 53, 54, 54, 54, 55, 54, 56, 54, 57, 55, 48, 55, 49, 55, 50, 55, 51, 55, 52, 55, 53, 55, 54, 55, 55, 55, 56, 55, 57, 56, 48, 56, 49, 56, 50, 56, 51, 56, 52, 56, 53, 56, 54, 56, 55, 56, 56, 56, 57, 57, 48, 57, 49, 57, 50, 57, 51, 57, 52, 57, 53, 57, 54, 57, 55, 57, 56, 57, 57])) (.t s64), none⟩, ⟨0, 1⟩), (⟨(some s66), .idxS 1 (.t s55) (.t s57), none⟩, ⟨0, 0⟩), (⟨none, .store1 (.t s66) (.t s63), none⟩, ⟨0, 1⟩), (⟨(some s67), .idxS 1 (.t s58) (.t s60), none⟩, ⟨1, 1⟩), (⟨none, .store1 (.t s67) (.t s65), none⟩, ⟨1, 2⟩)] 8)
 (.seq (.draw [(⟨(some s68), .mv (.t s0), none⟩, ⟨0, 0⟩), (⟨(some s69), .mv (.t s4), none⟩, ⟨0, 0⟩), (⟨(some s70), .bin .sub (.t s69) (.c (.int .i64 5)), none⟩, ⟨0, 0⟩), (⟨(some s71), .mv (.t s0), none⟩, ⟨0, 1⟩), (⟨(some s72), .mv (.t s4), none⟩, ⟨0, 1⟩), (⟨(some s73), .bin .sub (.t s72) (.c (.int .i64 6)), none⟩, ⟨0, 1⟩), (⟨(some s74), .mv (.t s11), none⟩, ⟨0, 0⟩), (⟨(some s75), .bin .add (.t s74) (.c (.int .u32 1)), none⟩, ⟨0, 0⟩), (⟨(some s76), .idxStr (.c (.str [48, 48, 48, 49, 48, 50, 48, 51, 48, 52, 48, 53, 48, 54, 48, 55, 48, 56, 48, 57, 49, 48, 49, 49, 49, 50, 49, 51, 49, 52, 49, 53, 49, 54, 49, 55, 49, 56, 49, 57, 50, 48, 50, 49, 50, 50, 50, 51, 50, 52, 50, 53, 50, 54, 50, 55, 50, 56, 50, 57, 51, 48, 51, 49, 51, 50, 51, 51, 51, 52, 51, 53, 51, 54, 51, 55, 51, 56, 51, 57, 52, 48, 52, 49, 52, 50, 52, 51, 52, 52, 52, 53, 52, 54, 52, 55, 52, 56, 52, 57, 53, 48, 53, 49, 53, 50, 53, 51, 53, 52, 53, 53, 53, 54, 53, 55, 53, 56, 53, 57, 54, 48, 54, 49, 54, 50, 54, 51, 54, 52, 54, 53, 54, 54, 54, 55, 54, 56, 54, 57, 55, 48, 55, 49, 55, 50, 55, 51, 55, 52, 55, 53, 55, 54, 55, 55, 55, 56, 55, 57, 56, 48, 56, 49, 56, 50, 56, 51, 56, 52, 56, 53, 56, 54, 56, 55, 56, 56, 56, 57, 57, 48, 57, 49, 57, 50, 57, 51, 57, 52, 57, 53, 57, 54, 57, 55, 57, 56, 57, 57])) (.t s75), none⟩, ⟨0, 0⟩), (⟨(some s77), .mv (.t s11), none⟩, ⟨0, 1⟩), (⟨(some s78), .idxStr (.c (.str [48, 48, 48, 49, 48, 50, 48, 51, 48, 52, 48, 53, 48, 54, 48, 55, 48, 56, 48, 57, 49, 48, 49, 49, 49, 50, 49, 51, 49, 52, 49, 53, 49, 54, 49, 55, 49, 56, 49, 57, 50, 48, 50, 49, 50, 50, 50, 51, 50, 52, 50, 53, 50, 54, 50, 55, 50, 56, 50, 57, 51, 48, 51, 49, 51, 50, 51, 51, 51, 52, 51, 53, 51, 54, 51, 55, 51, 56, 51, 57, 52, 48, 52, 49, 52, 50, 52, 51, 52, 52, 52, 53, 52, 54, 52, 55, 52, 56, 52, 57, 53, 48, 53, 49, 53, 50, 53, 51, 53, 52, 53, 53, 53, 54, 53, 55, 53, 56, 53, 57, 54, 48, 54, 49, 54, 50, 54, 51, 54, 52, 54, 53, 54, 54, 54, 55, 54, 56, 54, 57, 55, 48, 55, 49, 55, 50, 55, 51, 55, 52, 55, 53, 55, 54, 55, 55, 55, 56, 55, 57, 56, 48, 56, 49, 56, 50, 56, 51, 56, 52, 56, 53, 56, 54, 56, 55, 56, 56, 56, 57, 57, 48, 57, 49, 57, 50, 57, 51, 57, 52, 57, 53, 57, 54, 57, 55, 57, 56, 57, 57])) (.t s77), none⟩, ⟨0, 1⟩), (⟨(some s79), .idxS 1 (.t s68) (.t s70), none⟩, ⟨0, 0⟩), (⟨none, .store1 (.t s79) (.t s76), none⟩, ⟨0, 1⟩), (⟨(some s80), .idxS 1 (.t s71) (.t s73), none⟩, ⟨1, 1⟩), (⟨none, .store1 (.t s80) (.t s78), none⟩, ⟨1, 2⟩)] 9)
 (.seq (.draw [(⟨(some s81), .mv (.t s0), none⟩, ⟨0, 0⟩), (⟨(some s82), .mv (.t s4), none⟩, ⟨0, 0⟩), (⟨(some s83), .bin .sub (.t s82) (.c (.int .i64 7)), none⟩, ⟨0, 0⟩), (⟨(some s84), .mv (.t s0), none⟩, ⟨0, 1⟩), (⟨(some s85), .mv (.t s4), none⟩, ⟨0, 1⟩), (⟨(some s86), .bin .sub (.t s85) (.c (.int .i64 8)), none⟩, ⟨0, 1⟩), (⟨(some s87), .mv (.t s10), none⟩, ⟨0, 0⟩), (⟨(some s88), .bin .add (.t s87) (.c (.int .u32 1)), none⟩, ⟨0, 0⟩), (⟨(some s89), .idxStr (.c (.str [48, 48, 48, 49, 48, 50, 48, 51, 48, 52, 48, 53, 48, 54, 48, 55, 48, 56, 48, 57, 49, 48, 49, 49, 49, 50, 49, 51, 49, 52, 49, 53, 49, 54, 49, 55, 49, 56, 49, 57, 50, 48, 50, 49, 50, 50, 50, 51, 50, 52, 50, 53, 50, 54, 50, 55, 50, 56, 50, 57, 51, 48, 51, 49, 51, 50, 51, 51, 51, 52, 51, 53, 51, 54, 51, 55, 51, 56, 51, 57, 52, 48, 52, 49, 52, 50, 52, 51, 52, 52, 52, 53, 52, 54, 52, 55, 52, 56, 52, 57, 53, 48, 53, 49, 53, 50, 53, 51, 53, 52, 53, 53, 53, 54, 53, 55, 53, 56, 53, 57, 54, 48, 54, 49, 54, 50, 54, 51, 54, 52, 54, 53, 54, 54, 54, 55, 54, 56, 54, 57, 55, 48, 55, 49, 55, 50, 55, 51, 55, 52, 55, 53, 55, 54, 55, 55, 55, 56, 55, 57, 56, 48, 56, 49, 56, 50, 56, 51, 56, 52, 56, 53, 56, 54, 56, 55, 56, 56, 56, 57, 57, 48, 57, 49, 57, 50, 57, 51, 57, 52, 57, 53, 57, 54, 57, 55, 57, 56, 57, 57])) (.t s88), none⟩, ⟨0, 0⟩), (⟨(some s90), .mv (.t s10), none⟩, ⟨0, 1⟩), (⟨(some s91), .idxStr (.c (.str [48, 48, 48, 49, 48, 50, 48, 51, 48, 52, 48, 53, 48, 54, 48, 55, 48, 56, 48, 57, 49, 48, 49, 49, 49, 50, 49, 51, 49, 52, 49, 53, 49, 54, 49, 55, 49, 56, 49, 57, 50, 48, 50, 49, 50, 50, 50, 51, 50, 52, 50, 53, 50, 54, 50, 55, 50, 56, 50, 57, 51, 48, 51, 49, 51, 50, 51, 51, 51, 52, 51, 53, 51, 54, 51, 55, 51, 56, 51, 57, 52, 48, 52, 49, 52, 50, 52, 51, 52, 52, 52, 53, 52, 54, 52, 55, 52, 56, 52, 57, 53, 48, 53, 49, 53, 50, 53, 51, 53, 52, 53, 53, 53, 54, 53, 55, 53, 56, 53, 57, 54, 48, 54, 49, 54, 50, 54, 51, 54, 52, 54, 53, 54, 54, 54, 55, 54, 56, 54, 57, 55, 48, 55, 49, 55, 50, 55, 51, 55, 52, 55, 53, 55, 54, 55, 55, 55, 56, 55, 57, 56, 48, 56, 49, 56, 50, 56, 51, 56, 52, 56, 53, 56, 54, 56, 55, 56, 56, 56, 57, 57, 48, 57, 49, 57, 50, 57, 51, 57, 52, 57, 53, 57, 54, 57, 55, 57, 56, 57, 57])) (.t s90), none⟩, ⟨0, 1⟩), (⟨(some s92), .idxS 1 (.t s81) (.t s83), none⟩, ⟨0, 0⟩), (⟨none, .store1 (.t s92) (.t s89), none⟩, ⟨0, 1⟩), (⟨(some s93), .idxS 1 (.t s84) (.t s86), none⟩, ⟨1, 1⟩), (⟨none, .store1 (.t s93) (.t s91), none⟩, ⟨1, 2⟩)] 10)
 (.reg [⟨none, .mv (.t s4), none⟩, ⟨none, .bin .sub (.l 0) (.c (.int .i64 8)), none⟩, ⟨(some s4), .mv (.l 0), none⟩]))))))))))))))
 (.seq (.reg [⟨none, .mv (.t s1), none⟩, ⟨none, .toInt .u32 (.l 0), none⟩, ⟨(some s12), .mv (.l 0), none⟩])
 (.seq (.seq (.reg [⟨none, .mv (.t s4), none⟩, ⟨(some s99), .bin .geq (.l 0) (.c (.int .i64 4)), none⟩])
 (.cond (.t s99) (.seq (.reg [⟨none, .mv (.t s12), none⟩, ⟨none, .bin .rem (.l 0) (.c (.int .u32 10000)), none⟩, ⟨(some s13), .mv (.l 0), none⟩])
 (.seq (.reg [⟨none, .mv (.t s12), none⟩, ⟨none, .bin .quo (.l 0) (.c (.int .u32 10000)), none⟩, ⟨(some s12), .mv (.l 0), none⟩])
 (.seq (.reg [⟨none, .mv (.t s13), none⟩, ⟨none, .bin .quo (.l 0) (.c (.int .u32 100)), none⟩, ⟨none, .bin .mul (.l 0) (.c (.int .u32 2)), none⟩, ⟨none, .mv (.t s13), none⟩, ⟨none, .bin .rem (.l 0) (.c (.int .u32 100)), none⟩, ⟨none, .bin .mul (.l 0) (.c (.int .u32 2)), none⟩, ⟨(some s14), .mv (.l 3), none⟩, ⟨(some s15), .mv (.l 1), none⟩])
 (.seq (.draw [(⟨(some s110), .mv (.t s0), none⟩, ⟨0, 0⟩), (⟨(some s111), .mv (.t s4), none⟩, ⟨0, 0⟩), (⟨(some s112), .bin .sub (.t s111) (.c (.int .i64 1)), none⟩, ⟨0, 0⟩), (⟨(some s113), .mv (.t s0), none⟩, ⟨0, 1⟩), (⟨(some s114), .mv (.t s4), none⟩, ⟨0, 1⟩), (⟨(some s115), .bin .sub (.t s114) (.c (.int .i64 2)), none⟩, ⟨0, 1⟩), (⟨(some s116), .mv (.t s15), none⟩, ⟨0, 0⟩), (⟨(some s117), .bin .add (.t s116) (.c (.int .u32 1)), none⟩, ⟨0, 0⟩), (⟨(some s118), .idxStr (.c (.str [48, 48, 48, 49, 48, 50, 48, 51, 48, 52, 48, 53, 48, 54, 48, 55, 48, 56, 48, 57, 49, 48, 49, 49, 49, 50, 49, 51, 49, 52, 49, 53, 49, 54, 49, 55, 49, 56, 49, 57, 50, 48, 50, 49, 50, 50, 50, 51, 50, 52, 50, 53, 50, 54, 50, 55, 50, 56, 50, 57, 51, 48, 51, 49, 51, 50, 51, 51, 51, 52, 51, 53, 51, 54, 51, 55, 51, 56, 51, 57, 52, 48, 52, 49, 52, 50, 52, 51, 52, 52, 52, 53, 52, 54, 52, 55, 52, 56, 52, 57, 53, 48, 53, 49, 53, 50, 53, 51, 53, 52, 53, 53, 53, 54, 53, 55, 53, 56, 53, 57, 54, 48, 54, 49, 54, 50, 54, 51, 54, 52, 54, 53, 54, 54, 54, 55, 54, 56, 54, 57, 55, 48, 55, 49, 55, 50, 55, 51, 55, 52, 55, 53, 55, 54, 55, 55, 55, 56, 55, 57, 56, 48, 56, 49, 56, 50, 56, 51, 56, 52, 56, 53, 56, 54, 56, 55, 56, 56, 56, 57, 57, 48, 57, 49, 57, 50, 57, 51, 57, 52, 57, 53, 57, 54, 57, 55, 57, 56, 57, 57])) (.t s117), none⟩, ⟨0, 0⟩), (⟨(some s119), .mv (.t s15), none⟩, ⟨0, 1⟩), (⟨(some s120), .idxStr (.c (.str [48, 48, 48, 49, 48, 50, 48, 51, 48, 52, 48, 53, 48, 54, 48, 55, 48, 56, 48, 57, 49, 48, 49, 49, 49, 50, 49, 51, 49, 52, 49, 53, 49, 54, 49, 55, 49, 56, 49, 57, 50, 48, 50, 49, 50, 50, 50, 51, 50, 52, 50, 53, 50, 54, 50, 55, 50, 56, 50, 57, 51, 48, 51, 49, 51, 50, 51, 51, 51, 52, 51, 53, 51, 54, 51, 55, 51, 56, 51, 57, 52, 48, 52, 49, 52, 50, 52, 51, 52, 52, 52, 53, 52, 54, 52, 55, 52, 56, 52, 57, 53, 48, 53, 49, 53, 50, 53, 51, 53, 52, 53, 53, 53, 54, 53, 55, 53, 56, 53, 57, 54, 48, 54, 49, 54, 50, 54, 51, 54, 52, 54, 53, 54, 54, 54, 55, 54, 56, 54, 57, 55, 48, 55, 49, 55, 50, 55, 51, 55, 52, 55, 53, 55, 54, 55, 55, 55, 56, 55, 57, 56, 48, 56, 49, 56, 50, 56, 51, 56, 52, 56, 53, 56, 54, 56, 55, 56, 56, 56, 57, 57, 48, 57, 49, 57, 50, 57, 51, 57, 52, 57, 53, 57, 54, 57, 55, 57, 56, 57, 57])) (.t s119), none⟩, ⟨0, 1⟩), (⟨(some s121), .idxS 1 (.t s110) (.t s112), none⟩, ⟨0, 0⟩), (⟨none, .store1 (.t s121) (.t s118), none⟩, ⟨0, 1⟩), (⟨(some s122), .idxS 1 (.t s113) (.t s115), none⟩, ⟨1, 1⟩), (⟨none, .store1 (.t s122) (.t s120), none⟩, ⟨1, 2⟩)] 17)
 (.seq (.draw [(⟨(some s123), .mv (.t s0), none⟩, ⟨0, 0⟩), (⟨(some s124), .mv (.t s4), none⟩, ⟨0, 0⟩), (⟨(some s125), .bin .sub (.t s124) (.c (.int .i64 3)), none⟩, ⟨0, 0⟩), (⟨(some s126), .mv (.t s0), none⟩, ⟨0, 1⟩), (⟨(some s127), .mv (.t s4), none⟩, ⟨0, 1⟩), (⟨(some s128), .bin .sub (.t s127) (.c (.int .i64 4)), none⟩, ⟨0, 1⟩), (⟨(some s129), .mv (.t s14), none⟩, ⟨0, 0⟩), (⟨(some s130), .bin .add (.t s129) (.c (.int .u32 1)), none⟩, ⟨0, 0⟩), (⟨(some s131), .idxStr (.c (.str [48, 48, 48, 49, 48, 50, 48, 51, 48, 52, 48, 53, 48, 54, 48, 55, 48, 56, 48, 57, 49, 48, 49, 49, 49, 50, 49, 51, 49, 52, 49, 53, 49, 54, 49, 55, 49, 56, 49, 57, 50, 48, 50, 49, 50, 50, 50, 51, 50, 52, 50, 53, 50, 54, 50, 55, 50, 56, 50, 57, 51, 48, 51, 49, 51, 50, 51, 51, 51, 52, 51, 53, 51, 54, 51, 55, 51, 56, 51, 57, 52, 48, 52, 49, 52, 50, 52, 51, 52, 52, 52, 53, 52, 54, 52, 55, 52, 56, 52, 57, 53, 48, 53, 49, 53, 50, 53, 51, 53, 52, 53, 53, 53, 54, 53, 55, 53, 56, 53, 57, 54, 48, 54, 49, 54, 50, 54, 51, 54, 52, 54, 53, 54, 54, 54, 55, 54, 56, 54, 57, 55, 48, 55, 49, 55, 50, 55, 51, 55, 52, 55, 53, 55, 54, 55, 55, 55, 56, 55, 57, 56, 48, 56, 49, 56, 50, 56, 51, 56, 52, 56, 53, 56, 54, 56, 55, 56, 56, 56, 57, 57, 48, 57, 49, 57, 50, 57, 51, 57, 52, 57, 53, 57, 54, 57, 55, 57, 56, 57, 57])) (.t s130), none⟩, ⟨0, 0⟩), (⟨(some s132), .mv (.t s14), none⟩, ⟨0, 1⟩), (⟨(some s133), .idxStr (.c (.str [48, 48, 48, 49, 48, 50, 48, 51, 48, 52, 48, 53, 48, 54, 48, 55, 48, 56, 48, 57, 49, 48, 49, 49, 49, 50, 49, 51, 49, 52, 49, 53, 49, 54, 49, 55, 49, 56, 49, 57, 50, 48, 50, 49, 50, 50, 50, 51, 50, 52, 50, 53, 50, 54, 50, 55, 50, 56, 50, 57, 51, 48, 51, 49, 51, 50, 51, 51, 51, 52, 51, 53, 51, 54, 51, 55, 51, 56, 51, 57, 52, 48, 52, 49, 52, 50, 52, 51, 52, 52, 52, 53, 52, 54, 52, 55, 52, 56, 52, 57, 53, 48, 53, 49, 53, 50, 53, 51, 53, 52, 53, 53, 53, 54, 53, 55, 53, 56, 53, 57, 54, 48, 54, 49, 54, 50, 54, 51, 54, 52, 54, 53, 54, 54, 54, 55, 54, 56, 54, 57, 55, 48, 55, 49, 55, 50, 55, 51, 55, 52, 55, 53, 55, 54, 55, 55, 55, 56, 55, 57, 56, 48, 56, 49, 56, 50, 56, 51, 56, 52, 56, 53, 56, 54, 56, 55, 56, 56, 56, 57, 57, 48, 57, 49, 57, 50, 57, 51, 57, 52, 57, 53, 57, 54, 57, 55, 57, 56, 57, 57])) (.t s132), none⟩, ⟨0, 1⟩), (⟨(some s134), .idxS 1 (.t s123) (.t s125), none⟩, ⟨0, 0⟩), (⟨none, .store1 (.t s134) (.t s131), none⟩, ⟨0, 1⟩), (⟨(some s135), .idxS 1 (.t s126) (.t s128), none⟩, ⟨1, 1⟩), (⟨none, .store1 (.t s135) (.t s133), none⟩, ⟨1, 2⟩)] 18)
 (.reg [⟨none, .mv (.t s4), none⟩, ⟨none, .bin .sub (.l 0) (.c (.int .i64 4)), none⟩, ⟨(some s4), .mv (.l 0), none⟩])))))) .skip))
 (.seq (.seq (.reg [⟨none, .mv (.t s4), none⟩, ⟨(some s139), .bin .geq (.l 0) (.c (.int .i64 2)), none⟩])
 (.cond (.t s139) (.seq (.reg [⟨none, .mv (.t s12), none⟩, ⟨none, .bin .rem (.l 0) (.c (.int .u32 100)), none⟩, ⟨none, .bin .mul (.l 0) (.c (.int .u32 2)), none⟩, ⟨(some s16), .mv (.l 0), none⟩])
 (.seq (.reg [⟨none, .mv (.t s12), none⟩, ⟨none, .bin .quo (.l 0) (.c (.int .u32 100)), none⟩, ⟨(some s12), .mv (.l 0), none⟩])
 (.seq (.draw [(⟨(some s145), .mv (.t s0), none⟩, ⟨0, 0⟩), (⟨(some s146), .mv (.t s4), none⟩, ⟨0, 0⟩), (⟨(some s147), .bin .sub (.t s146) (.c (.int .i64 1)), none⟩, ⟨0, 0⟩), (⟨(some s148), .mv (.t s0), none⟩, ⟨0, 1⟩), (⟨(some s149), .mv (.t s4), none⟩, ⟨0, 1⟩), (⟨(some s150), .bin .sub (.t s149) (.c (.int .i64 2)), none⟩, ⟨0, 1⟩), (⟨(some s151), .mv (.t s16), none⟩, ⟨0, 0⟩), (⟨(some s152), .bin .add (.t s151) (.c (.int .u32 1)), none⟩, ⟨0, 0⟩), (⟨(some s153), .idxStr (.c (.str [48, 48, 48, 49, 48, 50, 48, 51, 48, 52, 48, 53, 48, 54, 48, 55, 48, 56, 48, 57, 49, 48, 49, 49, 49, 50, 49, 51, 49, 52, 49, 53, 49, 54, 49, 55, 49, 56, 49, 57, 50, 48, 50, 49, 50, 50, 50, 51, 50, 52, 50, 53, 50, 54, 50, 55, 50, 56, 50, 57, 51, 48, 51, 49, 51, 50, 51, 51, 51, 52, 51, 53, 51, 54, 51, 55, 51, 56, 51, 57, 52, 48, 52, 49, 52, 50, 52, 51, 52, 52, 52, 53, 52, 54, 52, 55, 52, 56, 52, 57, 53, 48, 53, 49, 53, 50, 53, 51, 53, 52, 53, 53, 53, 54, 53, 55, 53, 56, 53, 57, 54, 48, 54, 49, 54, 50, 54, 51, 54, 52, 54, 53, 54, 54, 54, 55, 54, 56, 54, 57, 55, 48, 55, 49, 55, 50, 55, 51, 55, 52, 55, 53, 55, 54, 55, 55, 55, 56, 55, 57, 56, 48, 56, 49, 56, 50, 56, 51, 56, 52, 56, 53, 56, 54, 56, 55, 56, 56, 56, 57, 57, 48, 57, 49, 57, 50, 57, 51, 57, 52, 57, 53, 57, 54, 57, 55, 57, 56, 57, 57])) (.t s152), none⟩, ⟨0, 0⟩), (⟨(some s154), .mv (.t s16), none⟩, ⟨0, 1⟩), (⟨(some s155), .idxStr (.c (.str [48, 48, 48, 49, 48, 50, 48, 51, 48, 52, 48, 53, 48, 54, 48, 55, 48, 56, 48, 57, 49, 48, 49, 49, 49, 50, 49, 51, 49, 52, 49, 53, 49, 54, 49, 55, 49, 56, 49, 57, 50, 48, 50, 49, 50, 50, 50, 51, 50, 52, 50, 53, 50, 54, 50, 55, 50, 56, 50, 57, 51, 48, 51, 49, 51, 50, 51, 51, 51, 52, 51, 53, 51, 54, 51, 55, 51, 56, 51, 57, 52, 48, 52, 49, 52, 50, 52, 51, 52, 52, 52, 53, 52, 54, 52, 55, 52, 56, 52, 57, 53, 48, 53, 49, 53, 50, 53, 51, 53, 52, 53, 53, 53, 54, 53, 55, 53, 56, 53, 57, 54, 48, 54, 49, 54, 50, 54, 51, 54, 52, 54, 53, 54, 54, 54, 55, 54, 56, 54, 57, 55, 48, 55, 49, 55, 50, 55, 51, 55, 52, 55, 53, 55, 54, 55, 55, 55, 56, 55, 57, 56, 48, 56, 49, 56, 50, 56, 51, 56, 52, 56, 53, 56, 54, 56, 55, 56, 56, 56, 57, 57, 48, 57, 49, 57, 50, 57, 51, 57, 52, 57, 53, 57, 54, 57, 55, 57, 56, 57, 57])) (.t s154), none⟩, ⟨0, 1⟩), (⟨(some s156), .idxS 1 (.t s145) (.t s147), none⟩, ⟨0, 0⟩), (⟨none, .store1 (.t s156) (.t s153), none⟩, ⟨0, 1⟩), (⟨(some s157), .idxS 1 (.t s148) (.t s150), none⟩, ⟨1, 1⟩), (⟨none, .store1 (.t s157) (.t s155), none⟩, ⟨1, 2⟩)] 23)
 (.reg [⟨none, .mv (.t s4), none⟩, ⟨none, .bin .sub (.l 0) (.c (.int .i64 2)), none⟩, ⟨(some s4), .mv (.l 0), none⟩])))) .skip))
 (.seq (.reg [⟨none, .mv (.t s4), none⟩, ⟨(some s161), .bin .gtr (.l 0) (.c (.int .i64 0)), none⟩])
 (.cond (.t s161) (.reg [⟨none, .mv (.t s0), none⟩, ⟨none, .mv (.t s12), none⟩, ⟨none, .bin .add (.c (.int .u32 48)) (.l 0), none⟩, ⟨none, .toInt .u8 (.l 0), none⟩, ⟨none, .idxS 1 (.l 3) (.c (.int .i64 0)), none⟩, ⟨none, .store1 (.l 0) (.l 1), none⟩]) .skip)))))))⟩
/-- internal/strconv.formatBits -/
noncomputable def df121 : DFunc := ⟨102, [.tmp s10, .tmp s11],
 (.seq (.reg [⟨(some s10), .mv (.c (.slice none 0 0 false)), none⟩, ⟨(some s11), .mv (.c (.str [])), none⟩])
 (.seq (.seq (.reg [⟨none, .mv (.t s2), none⟩, ⟨none, .bin .lss (.l 0) (.c (.int .i64 2)), none⟩, ⟨none, .mv (.l 0), none⟩, ⟨none, .mv (.t s2), (some ((.l 0), false))⟩, ⟨none, .bin .eql (.l 0) (.c (.int .i64 10)), (some ((.l 1), false))⟩, ⟨none, .pick (.l 2) (.c (.bool true)) (.l 0), none⟩, ⟨none, .mv (.l 0), none⟩, ⟨none, .mv (.t s2), (some ((.l 0), false))⟩, ⟨none, .bin .gtr (.l 0) (.c (.int .i64 36)), (some ((.l 1), false))⟩, ⟨(some s28), .pick (.l 2) (.c (.bool true)) (.l 0), none⟩])
 (.cond (.t s28) (.reg [⟨none, .mkI 9 (.c (.str [115, 116, 114, 99, 111, 110, 118, 58, 32, 105, 108, 108, 101, 103, 97, 108, 32, 65, 112, 112, 101, 110, 100, 73, 110, 116, 47, 70, 111, 114, 109, 97, 116, 73, 110, 116, 32, 98, 97, 115, 101])), none⟩, ⟨none, .panic (.l 0), none⟩]) .skip))
 (.seq (.reg [⟨(some s12), .alloc [(.int .u8 0), (.int .u8 0), (.int .u8 0), (.int .u8 0), (.int .u8 0), (.int .u8 0), (.int .u8 0), (.int .u8 0), (.int .u8 0), (.int .u8 0), (.int .u8 0), (.int .u8 0), (.int .u8 0), (.int .u8 0), (.int .u8 0), (.int .u8 0), (.int .u8 0), (.int .u8 0), (.int .u8 0), (.int .u8 0), (.int .u8 0), (.int .u8 0), (.int .u8 0), (.int .u8 0), (.int .u8 0), (.int .u8 0), (.int .u8 0), (.int .u8 0), (.int .u8 0), (.int .u8 0), (.int .u8 0), (.int .u8 0), (.int .u8 0), (.int .u8 0), (.int .u8 0), (.int .u8 0), (.int .u8 0), (.int .u8 0), (.int .u8 0), (.int .u8 0), (.int .u8 0), (.int .u8 0), (.int .u8 0), (.int .u8 0), (.int .u8 0), (.int .u8 0), (.int .u8 0), (.int .u8 0), (.int .u8 0), (.int .u8 0), (.int .u8 0), (.int .u8 0), (.int .u8 0), (.int .u8 0), (.int .u8 0), (.int .u8 0), (.int .u8 0), (.int .u8 0), (.int .u8 0), (.int .u8 0), (.int .u8 0), (.int .u8 0), (.int .u8 0), (.int .u8 0), (.int .u8 0)] 185, none⟩])
 (.seq (.reg [⟨(some s13), .mv (.c (.int .i64 65)), none⟩])
 (.seq (.seq (.reg [⟨(some s30), .mv (.t s3), none⟩])
 (.cond (.t s30) (.reg [⟨none, .mv (.t s1), none⟩, ⟨none, .un .neg (.l 0), none⟩, ⟨(some s1), .mv (.l 0), none⟩]) .skip))
 (.seq (.seq (.reg [⟨none, .mv (.t s2), none⟩, ⟨(some s34), .call (.c (.func (.func 130) [] [])) [(.l 0)], none⟩])
 (.cond (.t s34) (.seq (.reg [⟨none, .mv (.t s2), none⟩, ⟨none, .toInt .u64 (.l 0), none⟩, ⟨none, .call (.c (.func (.func 131) [] [])) [(.l 0)], none⟩, ⟨none, .toInt .u64 (.l 0), none⟩, ⟨(some s14), .mv (.l 0), none⟩])
 (.seq (.reg [⟨none, .mv (.t s2), none⟩, ⟨none, .toInt .u64 (.l 0), none⟩, ⟨(some s15), .mv (.l 0), none⟩])
 (.seq (.reg [⟨none, .mv (.t s2), none⟩, ⟨none, .toInt .u64 (.l 0), none⟩, ⟨none, .bin .sub (.l 0) (.c (.int .u64 1)), none⟩, ⟨(some s16), .mv (.l 0), none⟩])
 (.seq (.block 0 (.loop (.seq (.seq (.reg [⟨none, .mv (.t s1), none⟩, ⟨none, .mv (.t s15), none⟩, ⟨(some s46), .bin .geq (.l 1) (.l 0), none⟩])
 (.cond (.t s46) .skip (.exit 0)))
 (.block 1 (.seq (.reg [⟨none, .mv (.t s13), none⟩, ⟨none, .bin .sub (.l 0) (.c (.int .i64 1)), none⟩, ⟨(some s13), .mv (.l 0), none⟩])
 (.seq (.reg [⟨none, .mv (.t s13), none⟩, ⟨none, .mv (.t s1), none⟩, ⟨none, .mv (.t s16), none⟩, ⟨none, .bin .and (.l 1) (.l 0), none⟩, ⟨none, .idxStr (.c (.str [48, 49, 50, 51, 52, 53, 54, 55, 56, 57, 97, 98, 99, 100, 101, 102, 103, 104, 105, 106, 107, 108, 109, 110, 111, 112, 113, 114, 115, 116, 117, 118, 119, 120, 121, 122])) (.l 0), none⟩, ⟨none, .idxA 65 1 (.t s12) (.l 4), none⟩, ⟨none, .store1 (.l 0) (.l 1), none⟩])
 (.reg [⟨none, .mv (.t s1), none⟩, ⟨none, .mv (.t s14), none⟩, ⟨none, .bin .shr (.l 1) (.l 0), none⟩, ⟨(some s1), .mv (.l 0), none⟩])))))))
 (.seq (.reg [⟨none, .mv (.t s13), none⟩, ⟨none, .bin .sub (.l 0) (.c (.int .i64 1)), none⟩, ⟨(some s13), .mv (.l 0), none⟩])
 (.reg [⟨none, .mv (.t s13), none⟩, ⟨none, .mv (.t s1), none⟩, ⟨none, .idxStr (.c (.str [48, 49, 50, 51, 52, 53, 54, 55, 56, 57, 97, 98, 99, 100, 101, 102, 103, 104, 105, 106, 107, 108, 109, 110, 111, 112, 113, 114, 115, 116, 117, 118, 119, 120, 121, 122])) (.l 0), none⟩, ⟨none, .idxA 65 1 (.t s12) (.l 2), none⟩, ⟨none, .store1 (.l 0) (.l 1), none⟩])))))) (.seq (.reg [⟨none, .mv (.t s2), none⟩, ⟨none, .toInt .u64 (.l 0), none⟩, ⟨(some s17), .mv (.l 0), none⟩])
 (.seq (.block 2 (.loop (.seq (.seq (.reg [⟨none, .mv (.t s1), none⟩, ⟨none, .mv (.t s17), none⟩, ⟨(some s68), .bin .geq (.l 1) (.l 0), none⟩])
 (.cond (.t s68) .skip (.exit 2)))
 (.block 3 (.seq (.reg [⟨none, .mv (.t s13), none⟩, ⟨none, .bin .sub (.l 0) (.c (.int .i64 1)), none⟩, ⟨(some s13), .mv (.l 0), none⟩])
 (.seq (.reg [⟨none, .mv (.t s1), none⟩, ⟨none, .mv (.t s17), none⟩, ⟨none, .bin .quo (.l 1) (.l 0), none⟩, ⟨(some s18), .mv (.l 0), none⟩])
 (.seq (.reg [⟨none, .mv (.t s13), none⟩, ⟨none, .mv (.t s1), none⟩, ⟨none, .mv (.t s18), none⟩, ⟨none, .mv (.t s17), none⟩, ⟨none, .bin .mul (.l 1) (.l 0), none⟩, ⟨none, .bin .sub (.l 3) (.l 0), none⟩, ⟨none, .idxStr (.c (.str [48, 49, 50, 51, 52, 53, 54, 55, 56, 57, 97, 98, 99, 100, 101, 102, 103, 104, 105, 106, 107, 108, 109, 110, 111, 112, 113, 114, 115, 116, 117, 118, 119, 120, 121, 122])) (.l 0), none⟩, ⟨none, .idxA 65 1 (.t s12) (.l 6), none⟩, ⟨none, .store1 (.l 0) (.l 1), none⟩])
 (.reg [⟨none, .mv (.t s18), none⟩, ⟨(some s1), .mv (.l 0), none⟩]))))))))
 (.seq (.reg [⟨none, .mv (.t s13), none⟩, ⟨none, .bin .sub (.l 0) (.c (.int .i64 1)), none⟩, ⟨(some s13), .mv (.l 0), none⟩])
 (.reg [⟨none, .mv (.t s13), none⟩, ⟨none, .mv (.t s1), none⟩, ⟨none, .idxStr (.c (.str [48, 49, 50, 51, 52, 53, 54, 55, 56, 57, 97, 98, 99, 100, 101, 102, 103, 104, 105, 106, 107, 108, 109, 110, 111, 112, 113, 114, 115, 116, 117, 118, 119, 120, 121, 122])) (.l 0), none⟩, ⟨none, .idxA 65 1 (.t s12) (.l 2), none⟩, ⟨none, .store1 (.l 0) (.l 1), none⟩]))))))
 (.seq (.seq (.reg [⟨(some s89), .mv (.t s3), none⟩])
 (.cond (.t s89) (.seq (.reg [⟨none, .mv (.t s13), none⟩, ⟨none, .bin .sub (.l 0) (.c (.int .i64 1)), none⟩, ⟨(some s13), .mv (.l 0), none⟩])
 (.reg [⟨none, .mv (.t s13), none⟩, ⟨none, .idxA 65 1 (.t s12) (.l 0), none⟩, ⟨none, .store1 (.l 0) (.c (.int .u8 45)), none⟩])) .skip))
 (.seq (.seq (.reg [⟨(some s94), .mv (.t s4), none⟩])
 (.cond (.t s94) (.seq (.reg [⟨none, .mv (.t s0), none⟩, ⟨none, .mv (.t s13), none⟩, ⟨none, .slArr 65 1 (.t s12) (some (.l 0)) none none, none⟩, ⟨none, .append 5 1 1 (.l 2) (.l 0), none⟩, ⟨(some s10), .mv (.l 0), none⟩])
 .ret) .skip))
 (.seq (.reg [⟨none, .mv (.t s13), none⟩, ⟨none, .slArr 65 1 (.t s12) (some (.l 0)) none none, none⟩, ⟨none, .toStr (.l 0), none⟩, ⟨(some s11), .mv (.l 0), none⟩])
 .ret)))))))))⟩
/-- slices.pdqsortOrdered[int] -/
noncomputable def df122 : DFunc := ⟨134, [],
 (.seq (.reg [⟨(some s8), .mv (.c (.bool true)), none⟩])
 (.seq (.reg [⟨(some s9), .mv (.c (.bool true)), none⟩])
 (.block 0 (.loop (.block 1 (.seq (.reg [⟨none, .mv (.t s2), none⟩, ⟨none, .mv (.t s1), none⟩, ⟨none, .bin .sub (.l 1) (.l 0), none⟩, ⟨(some s10), .mv (.l 0), none⟩])
 (.seq (.seq (.reg [⟨none, .mv (.t s10), none⟩, ⟨(some s23), .bin .leq (.l 0) (.c (.int .i64 12)), none⟩])
 (.cond (.t s23) (.seq (.reg [⟨none, .mv (.t s0), none⟩, ⟨none, .mv (.t s1), none⟩, ⟨none, .mv (.t s2), none⟩, ⟨none, .call (.c (.func (.func 132) [] [])) [(.l 2), (.l 1), (.l 0)], none⟩])
 .ret) .skip))
 (.seq (.seq (.reg [⟨none, .mv (.t s3), none⟩, ⟨(some s29), .bin .eql (.l 0) (.c (.int .i64 0)), none⟩])
 (.cond (.t s29) (.seq (.reg [⟨none, .mv (.t s0), none⟩, ⟨none, .mv (.t s1), none⟩, ⟨none, .mv (.t s2), none⟩, ⟨none, .call (.c (.func (.func 133) [] [])) [(.l 2), (.l 1), (.l 0)], none⟩])
 .ret) .skip))
 (.seq (.seq (.reg [⟨none, .mv (.t s8), none⟩, ⟨(some s35), .un .not (.l 0), none⟩])
 (.cond (.t s35) (.seq (.reg [⟨none, .mv (.t s0), none⟩, ⟨none, .mv (.t s1), none⟩, ⟨none, .mv (.t s2), none⟩, ⟨none, .call (.c (.func (.func 134) [] [])) [(.l 2), (.l 1), (.l 0)], none⟩])
 (.reg [⟨none, .mv (.t s3), none⟩, ⟨none, .bin .sub (.l 0) (.c (.int .i64 1)), none⟩, ⟨(some s3), .mv (.l 0), none⟩])) .skip))
 (.seq (.reg [⟨none, .mv (.t s0), none⟩, ⟨none, .mv (.t s1), none⟩, ⟨none, .mv (.t s2), none⟩, ⟨none, .call (.c (.func (.func 135) [] [])) [(.l 2), (.l 1), (.l 0)], none⟩, ⟨none, .mv (.l 0), none⟩, ⟨none, .ext 0 (.l 0), none⟩, ⟨none, .ext 1 (.l 1), none⟩, ⟨(some s11), .mv (.l 1), none⟩, ⟨(some s12), .mv (.l 1), none⟩])
 (.seq (.seq (.reg [⟨none, .mv (.t s12), none⟩, ⟨(some s50), .bin .eql (.l 0) (.c (.int .i64 2)), none⟩])
 (.cond (.t s50) (.seq (.reg [⟨none, .mv (.t s0), none⟩, ⟨none, .mv (.t s1), none⟩, ⟨none, .mv (.t s2), none⟩, ⟨none, .call (.c (.func (.func 136) [] [])) [(.l 2), (.l 1), (.l 0)], none⟩])
 (.seq (.reg [⟨none, .mv (.t s2), none⟩, ⟨none, .bin .sub (.l 0) (.c (.int .i64 1)), none⟩, ⟨none, .mv (.t s11), none⟩, ⟨none, .mv (.t s1), none⟩, ⟨none, .bin .sub (.l 1) (.l 0), none⟩, ⟨none, .bin .sub (.l 3) (.l 0), none⟩, ⟨(some s11), .mv (.l 0), none⟩])
 (.reg [⟨(some s12), .mv (.c (.int .i64 1)), none⟩]))) .skip))
 (.seq (.seq (.reg [⟨none, .mv (.t s8), none⟩, ⟨none, .mv (.l 0), none⟩, ⟨none, .mv (.t s9), (some ((.l 0), true))⟩, ⟨none, .pick (.l 1) (.l 0) (.c (.bool false)), none⟩, ⟨none, .mv (.l 0), none⟩, ⟨none, .mv (.t s12), (some ((.l 0), true))⟩, ⟨none, .bin .eql (.l 0) (.c (.int .i64 1)), (some ((.l 1), true))⟩, ⟨(some s68), .pick (.l 2) (.l 0) (.c (.bool false)), none⟩])
 (.cond (.t s68) (.seq (.reg [⟨none, .mv (.t s0), none⟩, ⟨none, .mv (.t s1), none⟩, ⟨none, .mv (.t s2), none⟩, ⟨(some s72), .call (.c (.func (.func 137) [] [])) [(.l 2), (.l 1), (.l 0)], none⟩])
 (.cond (.t s72) .ret .skip)) .skip))
 (.seq (.seq (.draw [(⟨(some s73), .mv (.t s1), none⟩, ⟨0, 0⟩), (⟨(some s74), .bin .gtr (.t s73) (.c (.int .i64 0)), none⟩, ⟨0, 0⟩), (⟨(some s75), .mv (.t s74), none⟩, ⟨0, 0⟩), (⟨(some s76), .mv (.t s0), (some ((.t s75), true))⟩, ⟨0, 0⟩), (⟨(some s77), .mv (.t s1), (some ((.t s75), true))⟩, ⟨0, 0⟩), (⟨(some s78), .bin .sub (.t s77) (.c (.int .i64 1)), (some ((.t s75), true))⟩, ⟨0, 0⟩), (⟨(some s79), .idxS 1 (.t s76) (.t s78), (some ((.t s75), true))⟩, ⟨0, 0⟩), (⟨(some s80), .load1 (.t s79), (some ((.t s75), true))⟩, ⟨0, 0⟩), (⟨(some s81), .mv (.t s0), (some ((.t s75), true))⟩, ⟨0, 0⟩), (⟨(some s82), .mv (.t s11), (some ((.t s75), true))⟩, ⟨0, 0⟩), (⟨(some s83), .idxS 1 (.t s81) (.t s82), (some ((.t s75), true))⟩, ⟨0, 0⟩), (⟨(some s84), .load1 (.t s83), (some ((.t s75), true))⟩, ⟨0, 0⟩), (⟨(some s85), .call (.c (.func (.func 138) [] [])) [(.t s80), (.t s84)], (some ((.t s75), true))⟩, ⟨0, 1⟩), (⟨(some s86), .un .not (.t s85), (some ((.t s75), true))⟩, ⟨1, 1⟩), (⟨(some s87), .pick (.t s75) (.t s86) (.c (.bool false)), none⟩, ⟨1, 1⟩)] 17)
 (.cond (.t s87) (.seq (.reg [⟨none, .mv (.t s0), none⟩, ⟨none, .mv (.t s1), none⟩, ⟨none, .mv (.t s2), none⟩, ⟨none, .mv (.t s11), none⟩, ⟨none, .call (.c (.func (.func 139) [] [])) [(.l 3), (.l 2), (.l 1), (.l 0)], none⟩, ⟨(some s13), .mv (.l 0), none⟩])
 (.seq (.reg [⟨none, .mv (.t s13), none⟩, ⟨(some s1), .mv (.l 0), none⟩])
 (.exit 1))) .skip))
 (.seq (.reg [⟨none, .mv (.t s0), none⟩, ⟨none, .mv (.t s1), none⟩, ⟨none, .mv (.t s2), none⟩, ⟨none, .mv (.t s11), none⟩, ⟨none, .call (.c (.func (.func 140) [] [])) [(.l 3), (.l 2), (.l 1), (.l 0)], none⟩, ⟨none, .mv (.l 0), none⟩, ⟨none, .ext 0 (.l 0), none⟩, ⟨none, .ext 1 (.l 1), none⟩, ⟨(some s14), .mv (.l 1), none⟩, ⟨(some s15), .mv (.l 1), none⟩])
 (.seq (.reg [⟨none, .mv (.t s15), none⟩, ⟨(some s9), .mv (.l 0), none⟩])
 (.seq (.reg [⟨none, .mv (.t s14), none⟩, ⟨none, .mv (.t s1), none⟩, ⟨none, .bin .sub (.l 1) (.l 0), none⟩, ⟨none, .mv (.t s2), none⟩, ⟨none, .mv (.t s14), none⟩, ⟨none, .bin .sub (.l 1) (.l 0), none⟩, ⟨(some s16), .mv (.l 3), none⟩, ⟨(some s17), .mv (.l 1), none⟩])
 (.seq (.reg [⟨none, .mv (.t s10), none⟩, ⟨none, .bin .quo (.l 0) (.c (.int .i64 8)), none⟩, ⟨(some s18), .mv (.l 0), none⟩])
 (.seq (.reg [⟨none, .mv (.t s16), none⟩, ⟨none, .mv (.t s17), none⟩, ⟨(some s113), .bin .lss (.l 1) (.l 0), none⟩])
 (.cond (.t s113) (.seq (.reg [⟨none, .mv (.t s16), none⟩, ⟨none, .mv (.t s18), none⟩, ⟨none, .bin .geq (.l 1) (.l 0), none⟩, ⟨(some s8), .mv (.l 0), none⟩])
 (.seq (.reg [⟨none, .mv (.t s0), none⟩, ⟨none, .mv (.t s1), none⟩, ⟨none, .mv (.t s14), none⟩, ⟨none, .mv (.t s3), none⟩, ⟨none, .call (.c (.func (.func 122) [] [])) [(.l 3), (.l 2), (.l 1), (.l 0)], none⟩])
 (.reg [⟨none, .mv (.t s14), none⟩, ⟨none, .bin .add (.l 0) (.c (.int .i64 1)), none⟩, ⟨(some s1), .mv (.l 0), none⟩]))) (.seq (.reg [⟨none, .mv (.t s17), none⟩, ⟨none, .mv (.t s18), none⟩, ⟨none, .bin .geq (.l 1) (.l 0), none⟩, ⟨(some s8), .mv (.l 0), none⟩])
 (.seq (.reg [⟨none, .mv (.t s0), none⟩, ⟨none, .mv (.t s14), none⟩, ⟨none, .bin .add (.l 0) (.c (.int .i64 1)), none⟩, ⟨none, .mv (.t s2), none⟩, ⟨none, .mv (.t s3), none⟩, ⟨none, .call (.c (.func (.func 122) [] [])) [(.l 4), (.l 2), (.l 1), (.l 0)], none⟩])
 (.reg [⟨none, .mv (.t s14), none⟩, ⟨(some s2), .mv (.l 0), none⟩]))))))))))))))))))))))⟩
/-- math/bits.Len -/
noncomputable def df123 : DFunc := ⟨8, [.tmp s2],
 (.seq (.reg [⟨(some s2), .mv (.c (.int .i64 0)), none⟩])
 (.seq (.cond (.c (.bool false)) (.seq (.reg [⟨none, .mv (.t s0), none⟩, ⟨none, .toInt .u32 (.l 0), none⟩, ⟨none, .call (.c (.func (.func 141) [] [])) [(.l 0)], none⟩, ⟨(some s2), .mv (.l 0), none⟩])
 .ret) .skip)
 (.seq (.reg [⟨none, .mv (.t s0), none⟩, ⟨none, .call (.c (.func (.func 128) [] [])) [(.l 0)], none⟩, ⟨(some s2), .mv (.l 0), none⟩])
 .ret)))⟩
/-- (*syntagm/regex.reader).one -/
noncomputable def df124 : DFunc := ⟨19, [.tmp s2],
 (.seq (.reg [⟨(some s2), .mv (.c (.int .u8 0)), none⟩])
 (.seq (.seq (.reg [⟨none, .mv (.t s0), none⟩, ⟨(some s5), .call (.c (.func (.func 83) [] [])) [(.l 0), (.c (.int .u8 92))], none⟩])
 (.cond (.t s5) (.seq (.reg [⟨none, .mv (.t s0), none⟩, ⟨none, .call (.c (.func (.func 115) [] [])) [(.l 0)], none⟩, ⟨(some s2), .mv (.l 0), none⟩])
 .ret) .skip))
 (.seq (.reg [⟨none, .mv (.t s0), none⟩, ⟨none, .call (.c (.func (.func 111) [] [])) [(.l 0)], none⟩, ⟨(some s3), .mv (.l 0), none⟩])
 (.seq (.seq (.reg [⟨none, .mv (.t s3), none⟩, ⟨none, .bin .eql (.l 0) (.c (.int .u8 93)), none⟩, ⟨none, .mv (.l 0), none⟩, ⟨none, .mv (.t s3), (some ((.l 0), false))⟩, ⟨none, .bin .eql (.l 0) (.c (.int .u8 45)), (some ((.l 1), false))⟩, ⟨(some s15), .pick (.l 2) (.c (.bool true)) (.l 0), none⟩])
 (.cond (.t s15) (.reg [⟨none, .mv (.t s0), none⟩, ⟨none, .call (.c (.func (.func 55) [] [])) [(.l 0)], none⟩]) .skip))
 (.seq (.reg [⟨none, .mv (.t s3), none⟩, ⟨(some s2), .mv (.l 0), none⟩])
 .ret)))))⟩
/-- (*syntagm/regex.reader).digit -/
noncomputable def df125 : DFunc := ⟨13, [.tmp s2],
 (.seq (.reg [⟨(some s2), .mv (.c (.int .u8 0)), none⟩])
 (.seq (.reg [⟨none, .mv (.t s0), none⟩, ⟨none, .call (.c (.func (.func 111) [] [])) [(.l 0)], none⟩, ⟨none, .call (.c (.func (.func 142) [] [])) [(.c (.str [48, 49, 50, 51, 52, 53, 54, 55, 56, 57, 97, 98, 99, 100, 101, 102])), (.l 0)], none⟩, ⟨(some s3), .mv (.l 0), none⟩])
 (.seq (.seq (.reg [⟨none, .mv (.t s3), none⟩, ⟨(some s8), .bin .lss (.l 0) (.c (.int .i64 0)), none⟩])
 (.cond (.t s8) (.reg [⟨none, .mv (.t s0), none⟩, ⟨none, .call (.c (.func (.func 55) [] [])) [(.l 0)], none⟩]) .skip))
 (.seq (.reg [⟨none, .mv (.t s3), none⟩, ⟨none, .toInt .u8 (.l 0), none⟩, ⟨(some s2), .mv (.l 0), none⟩])
 .ret))))⟩
/-- syntagm/regex.word -/
noncomputable def df126 : DFunc := ⟨25, [.tmp s2],
 (.seq (.reg [⟨(some s2), .mv (.c (.bool false)), none⟩])
 (.seq (.reg [⟨none, .mv (.t s0), none⟩, ⟨none, .bin .leq (.c (.int .u8 97)) (.l 0), none⟩, ⟨none, .mv (.l 0), none⟩, ⟨none, .mv (.t s0), (some ((.l 0), true))⟩, ⟨none, .bin .leq (.l 0) (.c (.int .u8 122)), (some ((.l 1), true))⟩, ⟨none, .pick (.l 2) (.l 0) (.c (.bool false)), none⟩, ⟨none, .mv (.l 0), none⟩, ⟨none, .mv (.t s0), (some ((.l 0), false))⟩, ⟨none, .bin .leq (.c (.int .u8 65)) (.l 0), (some ((.l 1), false))⟩, ⟨none, .mv (.l 0), (some ((.l 2), false))⟩, ⟨none, .mv (.t s0), (some ((.l 0), true))⟩, ⟨none, .bin .leq (.l 0) (.c (.int .u8 90)), (some ((.l 1), true))⟩, ⟨none, .pick (.l 2) (.l 0) (.c (.bool false)), (some ((.l 5), false))⟩, ⟨none, .pick (.l 6) (.c (.bool true)) (.l 0), none⟩, ⟨none, .mv (.l 0), none⟩, ⟨none, .mv (.t s0), (some ((.l 0), false))⟩, ⟨none, .bin .leq (.c (.int .u8 48)) (.l 0), (some ((.l 1), false))⟩, ⟨none, .mv (.l 0), (some ((.l 2), false))⟩, ⟨none, .mv (.t s0), (some ((.l 0), true))⟩, ⟨none, .bin .leq (.l 0) (.c (.int .u8 57)), (some ((.l 1), true))⟩, ⟨none, .pick (.l 2) (.l 0) (.c (.bool false)), (some ((.l 5), false))⟩, ⟨none, .pick (.l 6) (.c (.bool true)) (.l 0), none⟩, ⟨(some s2), .mv (.l 0), none⟩])
 .ret))⟩
/-- internal/strconv.log10Pow2 -/
noncomputable def df127 : DFunc := ⟨6, [.tmp s2],
 (.seq (.reg [⟨(some s2), .mv (.c (.int .i64 0)), none⟩])
 (.seq (.reg [⟨none, .mv (.t s0), none⟩, ⟨none, .bin .mul (.l 0) (.c (.int .i64 78913)), none⟩, ⟨none, .bin .shr (.l 0) (.c (.int .u64 18)), none⟩, ⟨(some s2), .mv (.l 0), none⟩])
 .ret))⟩
/-- math/bits.Len64 -/
noncomputable def df128 : DFunc := ⟨25, [.tmp s2],
 (.seq (.reg [⟨(some s2), .mv (.c (.int .i64 0)), none⟩])
 (.seq (.seq (.reg [⟨none, .mv (.t s0), none⟩, ⟨(some s4), .bin .geq (.l 0) (.c (.int .u64 4294967296)), none⟩])
 (.cond (.t s4) (.seq (.reg [⟨none, .mv (.t s0), none⟩, ⟨none, .bin .shr (.l 0) (.c (.int .u64 32)), none⟩, ⟨(some s0), .mv (.l 0), none⟩])
 (.reg [⟨(some s2), .mv (.c (.int .i64 32)), none⟩])) .skip))
 (.seq (.seq (.reg [⟨none, .mv (.t s0), none⟩, ⟨(some s8), .bin .geq (.l 0) (.c (.int .u64 65536)), none⟩])
 (.cond (.t s8) (.seq (.reg [⟨none, .mv (.t s0), none⟩, ⟨none, .bin .shr (.l 0) (.c (.int .u64 16)), none⟩, ⟨(some s0), .mv (.l 0), none⟩])
 (.reg [⟨none, .mv (.t s2), none⟩, ⟨none, .bin .add (.l 0) (.c (.int .i64 16)), none⟩, ⟨(some s2), .mv (.l 0), none⟩])) .skip))
 (.seq (.seq (.reg [⟨none, .mv (.t s0), none⟩, ⟨(some s14), .bin .geq (.l 0) (.c (.int .u64 256)), none⟩])
 (.cond (.t s14) (.seq (.reg [⟨none, .mv (.t s0), none⟩, ⟨none, .bin .shr (.l 0) (.c (.int .u64 8)), none⟩, ⟨(some s0), .mv (.l 0), none⟩])
 (.reg [⟨none, .mv (.t s2), none⟩, ⟨none, .bin .add (.l 0) (.c (.int .i64 8)), none⟩, ⟨(some s2), .mv (.l 0), none⟩])) .skip))
 (.seq (.reg [⟨none, .mv (.t s2), none⟩, ⟨none, .mv (.t s0), none⟩, ⟨none, .toInt .u8 (.l 0), none⟩, ⟨none, .idxStr (.c (.str [0, 1, 2, 2, 3, 3, 3, 3, 4, 4, 4, 4, 4, 4, 4, 4, 5, 5, 5, 5, 5, 5, 5, 5, 5, 5, 5, 5, 5, 5, 5, 5, 6, 6, 6, 6, 6, 6, 6, 6, 6, 6, 6, 6, 6, 6, 6, 6, 6, 6, 6, 6, 6, 6, 6, 6, 6, 6, 6, 6, 6, 6, 6, 6, 7, 7, 7, 7, 7, 7, 7, 7, 7, 7, 7, 7, 7, 7, 7, 7, 7, 7, 7, 7, 7, 7, 7, 7, 7, 7, 7, 7, 7, 7, 7, 7, 7, 7, 7, 7, 7, 7, 7, 7, 7, 7, 7, 7, 7, 7, 7, 7, 7, 7, 7, 7, 7, 7, 7, 7, 7, 7, 7, 7, 7, 7, 7, 7, 8, 8, 8, 8, 8, 8, 8, 8, 8, 8, 8, 8, 8, 8, 8, 8, 8, 8, 8, 8, 8, 8, 8, 8, 8, 8, 8, 8, 8, 8, 8, 8, 8, 8, 8, 8, 8, 8, 8, 8, 8, 8, 8, 8, 8, 8, 8, 8, 8, 8, 8, 8, 8, 8, 8, 8, 8, 8, 8, 8, 8, 8, 8, 8, 8, 8, 8, 8, 8, 8, 8, 8, 8, 8, 8, 8, 8, 8, 8, 8, 8, 8, 8, 8, 8, 8, 8, 8, 8, 8, 8, 8, 8, 8, 8, 8, 8, 8, 8, 8, 8, 8, 8, 8, 8, 8, 8, 8, 8, 8, 8, 8, 8, 8, 8, 8, 8, 8, 8, 8, 8, 8, 8, 8, 8, 8, 8, 8])) (.l 0), none⟩, ⟨none, .toInt .i64 (.l 0), none⟩, ⟨none, .bin .add (.l 4) (.l 0), none⟩, ⟨(some s2), .mv (.l 0), none⟩])
 .ret)))))⟩
/-- internal/strconv.bool2[int] -/
noncomputable def df129 : DFunc := ⟨4, [.tmp s2],
 (.seq (.reg [⟨(some s2), .mv (.c (.int .i64 0)), none⟩])
 (.seq (.seq (.reg [⟨(some s3), .mv (.t s0), none⟩])
 (.cond (.t s3) (.seq (.reg [⟨(some s2), .mv (.c (.int .i64 1)), none⟩])
 .ret) .skip))
 (.seq (.reg [⟨(some s2), .mv (.c (.int .i64 0)), none⟩])
 .ret)))⟩
/-- internal/strconv.isPowerOfTwo -/
noncomputable def df130 : DFunc := ⟨8, [.tmp s2],
 (.seq (.reg [⟨(some s2), .mv (.c (.bool false)), none⟩])
 (.seq (.reg [⟨none, .mv (.t s0), none⟩, ⟨none, .mv (.t s0), none⟩, ⟨none, .bin .sub (.l 0) (.c (.int .i64 1)), none⟩, ⟨none, .bin .and (.l 2) (.l 0), none⟩, ⟨none, .bin .eql (.l 0) (.c (.int .i64 0)), none⟩, ⟨(some s2), .mv (.l 0), none⟩])
 .ret))⟩
/-- math/bits.TrailingZeros -/
noncomputable def df131 : DFunc := ⟨8, [.tmp s2],
 (.seq (.reg [⟨(some s2), .mv (.c (.int .i64 0)), none⟩])
 (.seq (.cond (.c (.bool false)) (.seq (.reg [⟨none, .mv (.t s0), none⟩, ⟨none, .toInt .u32 (.l 0), none⟩, ⟨none, .call (.c (.func (.func 143) [] [])) [(.l 0)], none⟩, ⟨(some s2), .mv (.l 0), none⟩])
 .ret) .skip)
 (.seq (.reg [⟨none, .mv (.t s0), none⟩, ⟨none, .call (.c (.func (.func 49) [] [])) [(.l 0)], none⟩, ⟨(some s2), .mv (.l 0), none⟩])
 .ret)))⟩
/-- slices.insertionSortOrdered[int] -/
noncomputable def df132 : DFunc := ⟨49, [],
 (.seq (.reg [⟨none, .mv (.t s1), none⟩, ⟨none, .bin .add (.l 0) (.c (.int .i64 1)), none⟩, ⟨(some s6), .mv (.l 0), none⟩])
 (.block 0 (.loop (.seq (.seq (.reg [⟨none, .mv (.t s6), none⟩, ⟨none, .mv (.t s2), none⟩, ⟨(some s12), .bin .lss (.l 1) (.l 0), none⟩])
 (.cond (.t s12) .skip (.exit 0)))
 (.seq (.block 1 (.seq (.reg [⟨none, .mv (.t s6), none⟩, ⟨(some s7), .mv (.l 0), none⟩])
 (.block 2 (.loop (.seq (.seq (.draw [(⟨(some s16), .mv (.t s7), none⟩, ⟨0, 0⟩), (⟨(some s17), .mv (.t s1), none⟩, ⟨0, 0⟩), (⟨(some s18), .bin .gtr (.t s16) (.t s17), none⟩, ⟨0, 0⟩), (⟨(some s19), .mv (.t s18), none⟩, ⟨0, 0⟩), (⟨(some s20), .mv (.t s0), (some ((.t s19), true))⟩, ⟨0, 0⟩), (⟨(some s21), .mv (.t s7), (some ((.t s19), true))⟩, ⟨0, 0⟩), (⟨(some s22), .idxS 1 (.t s20) (.t s21), (some ((.t s19), true))⟩, ⟨0, 0⟩), (⟨(some s23), .load1 (.t s22), (some ((.t s19), true))⟩, ⟨0, 0⟩), (⟨(some s24), .mv (.t s0), (some ((.t s19), true))⟩, ⟨0, 0⟩), (⟨(some s25), .mv (.t s7), (some ((.t s19), true))⟩, ⟨0, 0⟩), (⟨(some s26), .bin .sub (.t s25) (.c (.int .i64 1)), (some ((.t s19), true))⟩, ⟨0, 0⟩), (⟨(some s27), .idxS 1 (.t s24) (.t s26), (some ((.t s19), true))⟩, ⟨0, 0⟩), (⟨(some s28), .load1 (.t s27), (some ((.t s19), true))⟩, ⟨0, 0⟩), (⟨(some s29), .call (.c (.func (.func 138) [] [])) [(.t s23), (.t s28)], (some ((.t s19), true))⟩, ⟨0, 1⟩), (⟨(some s30), .pick (.t s19) (.t s29) (.c (.bool false)), none⟩, ⟨1, 1⟩)] 4)
 (.cond (.t s30) .skip (.exit 2)))
 (.seq (.block 3 (.draw [(⟨(some s33), .mv (.t s0), none⟩, ⟨0, 0⟩), (⟨(some s34), .mv (.t s7), none⟩, ⟨0, 0⟩), (⟨(some s35), .mv (.t s0), none⟩, ⟨0, 1⟩), (⟨(some s36), .mv (.t s7), none⟩, ⟨0, 1⟩), (⟨(some s37), .bin .sub (.t s36) (.c (.int .i64 1)), none⟩, ⟨0, 1⟩), (⟨(some s38), .mv (.t s0), none⟩, ⟨0, 0⟩), (⟨(some s39), .mv (.t s7), none⟩, ⟨0, 0⟩), (⟨(some s40), .bin .sub (.t s39) (.c (.int .i64 1)), none⟩, ⟨0, 0⟩), (⟨(some s41), .idxS 1 (.t s38) (.t s40), none⟩, ⟨0, 0⟩), (⟨(some s42), .load1 (.t s41), none⟩, ⟨0, 0⟩), (⟨(some s43), .mv (.t s0), none⟩, ⟨0, 0⟩), (⟨(some s44), .mv (.t s7), none⟩, ⟨0, 0⟩), (⟨(some s45), .idxS 1 (.t s43) (.t s44), none⟩, ⟨0, 0⟩), (⟨(some s46), .load1 (.t s45), none⟩, ⟨0, 0⟩), (⟨(some s47), .idxS 1 (.t s33) (.t s34), none⟩, ⟨0, 0⟩), (⟨none, .store1 (.t s47) (.t s42), none⟩, ⟨0, 1⟩), (⟨(some s48), .idxS 1 (.t s35) (.t s37), none⟩, ⟨1, 1⟩), (⟨none, .store1 (.t s48) (.t s46), none⟩, ⟨1, 2⟩)] 6))
 (.reg [⟨none, .mv (.t s7), none⟩, ⟨none, .bin .sub (.l 0) (.c (.int .i64 1)), none⟩, ⟨(some s7), .mv (.l 0), none⟩])))))))
 (.reg [⟨none, .mv (.t s6), none⟩, ⟨none, .bin .add (.l 0) (.c (.int .i64 1)), none⟩, ⟨(some s6), .mv (.l 0), none⟩]))))))⟩
/-- slices.heapSortOrdered[int] -/
noncomputable def df133 : DFunc := ⟨56, [],
 (.seq (.reg [⟨none, .mv (.t s1), none⟩, ⟨(some s6), .mv (.l 0), none⟩])
 (.seq (.reg [⟨(some s7), .mv (.c (.int .i64 0)), none⟩])
 (.seq (.reg [⟨none, .mv (.t s2), none⟩, ⟨none, .mv (.t s1), none⟩, ⟨none, .bin .sub (.l 1) (.l 0), none⟩, ⟨(some s8), .mv (.l 0), none⟩])
 (.seq (.seq (.reg [⟨none, .mv (.t s8), none⟩, ⟨none, .bin .sub (.l 0) (.c (.int .i64 1)), none⟩, ⟨none, .bin .quo (.l 0) (.c (.int .i64 2)), none⟩, ⟨(some s9), .mv (.l 0), none⟩])
 (.block 0 (.loop (.seq (.seq (.reg [⟨none, .mv (.t s9), none⟩, ⟨(some s19), .bin .geq (.l 0) (.c (.int .i64 0)), none⟩])
 (.cond (.t s19) .skip (.exit 0)))
 (.seq (.block 1 (.reg [⟨none, .mv (.t s0), none⟩, ⟨none, .mv (.t s9), none⟩, ⟨none, .mv (.t s8), none⟩, ⟨none, .mv (.t s6), none⟩, ⟨none, .call (.c (.func (.func 144) [] [])) [(.l 3), (.l 2), (.l 1), (.l 0)], none⟩]))
 (.reg [⟨none, .mv (.t s9), none⟩, ⟨none, .bin .sub (.l 0) (.c (.int .i64 1)), none⟩, ⟨(some s9), .mv (.l 0), none⟩]))))))
 (.seq (.reg [⟨none, .mv (.t s8), none⟩, ⟨none, .bin .sub (.l 0) (.c (.int .i64 1)), none⟩, ⟨(some s10), .mv (.l 0), none⟩])
 (.block 2 (.loop (.seq (.seq (.reg [⟨none, .mv (.t s10), none⟩, ⟨(some s30), .bin .geq (.l 0) (.c (.int .i64 0)), none⟩])
 (.cond (.t s30) .skip (.exit 2)))
 (.seq (.block 3 (.seq (.draw [(⟨(some s33), .mv (.t s0), none⟩, ⟨0, 0⟩), (⟨(some s34), .mv (.t s6), none⟩, ⟨0, 0⟩), (⟨(some s35), .mv (.t s0), none⟩, ⟨0, 1⟩), (⟨(some s36), .mv (.t s6), none⟩, ⟨0, 1⟩), (⟨(some s37), .mv (.t s10), none⟩, ⟨0, 1⟩), (⟨(some s38), .bin .add (.t s36) (.t s37), none⟩, ⟨0, 1⟩), (⟨(some s39), .mv (.t s0), none⟩, ⟨0, 0⟩), (⟨(some s40), .mv (.t s6), none⟩, ⟨0, 0⟩), (⟨(some s41), .mv (.t s10), none⟩, ⟨0, 0⟩), (⟨(some s42), .bin .add (.t s40) (.t s41), none⟩, ⟨0, 0⟩), (⟨(some s43), .idxS 1 (.t s39) (.t s42), none⟩, ⟨0, 0⟩), (⟨(some s44), .load1 (.t s43), none⟩, ⟨0, 0⟩), (⟨(some s45), .mv (.t s0), none⟩, ⟨0, 0⟩), (⟨(some s46), .mv (.t s6), none⟩, ⟨0, 0⟩), (⟨(some s47), .idxS 1 (.t s45) (.t s46), none⟩, ⟨0, 0⟩), (⟨(some s48), .load1 (.t s47), none⟩, ⟨0, 0⟩), (⟨(some s49), .idxS 1 (.t s33) (.t s34), none⟩, ⟨0, 0⟩), (⟨none, .store1 (.t s49) (.t s44), none⟩, ⟨0, 1⟩), (⟨(some s50), .idxS 1 (.t s35) (.t s38), none⟩, ⟨1, 1⟩), (⟨none, .store1 (.t s50) (.t s48), none⟩, ⟨1, 2⟩)] 10)
 (.reg [⟨none, .mv (.t s0), none⟩, ⟨none, .mv (.t s7), none⟩, ⟨none, .mv (.t s10), none⟩, ⟨none, .mv (.t s6), none⟩, ⟨none, .call (.c (.func (.func 144) [] [])) [(.l 3), (.l 2), (.l 1), (.l 0)], none⟩])))
 (.reg [⟨none, .mv (.t s10), none⟩, ⟨none, .bin .sub (.l 0) (.c (.int .i64 1)), none⟩, ⟨(some s10), .mv (.l 0), none⟩]))))))))))⟩
/-- slices.breakPatternsOrdered[int] -/
noncomputable def df134 : DFunc := ⟨65, [],
 (.seq (.reg [⟨none, .mv (.t s2), none⟩, ⟨none, .mv (.t s1), none⟩, ⟨none, .bin .sub (.l 1) (.l 0), none⟩, ⟨(some s6), .mv (.l 0), none⟩])
 (.seq (.reg [⟨none, .mv (.t s6), none⟩, ⟨(some s15), .bin .geq (.l 0) (.c (.int .i64 8)), none⟩])
 (.cond (.t s15) (.seq (.reg [⟨none, .mv (.t s6), none⟩, ⟨none, .toInt .u64 (.l 0), none⟩, ⟨(some s7), .alloc [(.int .u64 0)] 196, none⟩, ⟨none, .store1 (.l 0) (.l 1), none⟩])
 (.seq (.reg [⟨none, .mv (.t s6), none⟩, ⟨none, .call (.c (.func (.func 145) [] [])) [(.l 0)], none⟩, ⟨(some s8), .mv (.l 0), none⟩])
 (.seq (.reg [⟨none, .mv (.t s1), none⟩, ⟨none, .mv (.t s6), none⟩, ⟨none, .bin .quo (.l 0) (.c (.int .i64 4)), none⟩, ⟨none, .bin .mul (.l 0) (.c (.int .i64 2)), none⟩, ⟨none, .bin .add (.l 3) (.l 0), none⟩, ⟨none, .bin .sub (.l 0) (.c (.int .i64 1)), none⟩, ⟨(some s9), .mv (.l 0), none⟩])
 (.block 0 (.loop (.seq (.seq (.reg [⟨none, .mv (.t s9), none⟩, ⟨none, .mv (.t s1), none⟩, ⟨none, .mv (.t s6), none⟩, ⟨none, .bin .quo (.l 0) (.c (.int .i64 4)), none⟩, ⟨none, .bin .mul (.l 0) (.c (.int .i64 2)), none⟩, ⟨none, .bin .add (.l 3) (.l 0), none⟩, ⟨none, .bin .add (.l 0) (.c (.int .i64 1)), none⟩, ⟨(some s33), .bin .leq (.l 6) (.l 0), none⟩])
 (.cond (.t s33) .skip (.exit 0)))
 (.seq (.block 1 (.seq (.reg [⟨none, .call (.c (.func (.func 146) [] [])) [(.t s7)], none⟩, ⟨none, .mv (.t s8), none⟩, ⟨none, .bin .sub (.l 0) (.c (.int .u64 1)), none⟩, ⟨none, .bin .and (.l 2) (.l 0), none⟩, ⟨none, .toInt .i64 (.l 0), none⟩, ⟨(some s10), .mv (.l 0), none⟩])
 (.seq (.seq (.reg [⟨none, .mv (.t s10), none⟩, ⟨none, .mv (.t s6), none⟩, ⟨(some s43), .bin .geq (.l 1) (.l 0), none⟩])
 (.cond (.t s43) (.reg [⟨none, .mv (.t s10), none⟩, ⟨none, .mv (.t s6), none⟩, ⟨none, .bin .sub (.l 1) (.l 0), none⟩, ⟨(some s10), .mv (.l 0), none⟩]) .skip))
 (.draw [(⟨(some s47), .mv (.t s0), none⟩, ⟨0, 0⟩), (⟨(some s48), .mv (.t s9), none⟩, ⟨0, 0⟩), (⟨(some s49), .mv (.t s0), none⟩, ⟨0, 1⟩), (⟨(some s50), .mv (.t s1), none⟩, ⟨0, 1⟩), (⟨(some s51), .mv (.t s10), none⟩, ⟨0, 1⟩), (⟨(some s52), .bin .add (.t s50) (.t s51), none⟩, ⟨0, 1⟩), (⟨(some s53), .mv (.t s0), none⟩, ⟨0, 0⟩), (⟨(some s54), .mv (.t s1), none⟩, ⟨0, 0⟩), (⟨(some s55), .mv (.t s10), none⟩, ⟨0, 0⟩), (⟨(some s56), .bin .add (.t s54) (.t s55), none⟩, ⟨0, 0⟩), (⟨(some s57), .idxS 1 (.t s53) (.t s56), none⟩, ⟨0, 0⟩), (⟨(some s58), .load1 (.t s57), none⟩, ⟨0, 0⟩), (⟨(some s59), .mv (.t s0), none⟩, ⟨0, 0⟩), (⟨(some s60), .mv (.t s9), none⟩, ⟨0, 0⟩), (⟨(some s61), .idxS 1 (.t s59) (.t s60), none⟩, ⟨0, 0⟩), (⟨(some s62), .load1 (.t s61), none⟩, ⟨0, 0⟩), (⟨(some s63), .idxS 1 (.t s47) (.t s48), none⟩, ⟨0, 0⟩), (⟨none, .store1 (.t s63) (.t s58), none⟩, ⟨0, 1⟩), (⟨(some s64), .idxS 1 (.t s49) (.t s52), none⟩, ⟨1, 1⟩), (⟨none, .store1 (.t s64) (.t s62), none⟩, ⟨1, 2⟩)] 10))))
 (.reg [⟨none, .mv (.t s9), none⟩, ⟨none, .bin .add (.l 0) (.c (.int .i64 1)), none⟩, ⟨(some s9), .mv (.l 0), none⟩])))))))) .skip)))⟩
/-- slices.choosePivotOrdered[int] -/
noncomputable def df135 : DFunc := ⟨57, [.tmp s6, .tmp s7],
 (.seq (.reg [⟨(some s6), .mv (.c (.int .i64 0)), none⟩, ⟨(some s7), .mv (.c (.int .i64 0)), none⟩])
 (.seq (.reg [⟨none, .mv (.t s2), none⟩, ⟨none, .mv (.t s1), none⟩, ⟨none, .bin .sub (.l 1) (.l 0), none⟩, ⟨(some s8), .mv (.l 0), none⟩])
 (.seq (.reg [⟨(some s9), .alloc [(.int .i64 0)] 3, none⟩])
 (.seq (.reg [⟨none, .mv (.t s1), none⟩, ⟨none, .mv (.t s8), none⟩, ⟨none, .bin .quo (.l 0) (.c (.int .i64 4)), none⟩, ⟨none, .bin .mul (.l 0) (.c (.int .i64 1)), none⟩, ⟨none, .bin .add (.l 3) (.l 0), none⟩, ⟨(some s10), .mv (.l 0), none⟩])
 (.seq (.reg [⟨none, .mv (.t s1), none⟩, ⟨none, .mv (.t s8), none⟩, ⟨none, .bin .quo (.l 0) (.c (.int .i64 4)), none⟩, ⟨none, .bin .mul (.l 0) (.c (.int .i64 2)), none⟩, ⟨none, .bin .add (.l 3) (.l 0), none⟩, ⟨(some s11), .mv (.l 0), none⟩])
 (.seq (.reg [⟨none, .mv (.t s1), none⟩, ⟨none, .mv (.t s8), none⟩, ⟨none, .bin .quo (.l 0) (.c (.int .i64 4)), none⟩, ⟨none, .bin .mul (.l 0) (.c (.int .i64 3)), none⟩, ⟨none, .bin .add (.l 3) (.l 0), none⟩, ⟨(some s12), .mv (.l 0), none⟩])
 (.seq (.seq (.reg [⟨none, .mv (.t s8), none⟩, ⟨(some s32), .bin .geq (.l 0) (.c (.int .i64 8)), none⟩])
 (.cond (.t s32) (.seq (.seq (.reg [⟨none, .mv (.t s8), none⟩, ⟨(some s34), .bin .geq (.l 0) (.c (.int .i64 50)), none⟩])
 (.cond (.t s34) (.seq (.reg [⟨none, .mv (.t s0), none⟩, ⟨none, .mv (.t s10), none⟩, ⟨none, .call (.c (.func (.func 147) [] [])) [(.l 1), (.l 0), (.t s9)], none⟩, ⟨(some s10), .mv (.l 0), none⟩])
 (.seq (.reg [⟨none, .mv (.t s0), none⟩, ⟨none, .mv (.t s11), none⟩, ⟨none, .call (.c (.func (.func 147) [] [])) [(.l 1), (.l 0), (.t s9)], none⟩, ⟨(some s11), .mv (.l 0), none⟩])
 (.reg [⟨none, .mv (.t s0), none⟩, ⟨none, .mv (.t s12), none⟩, ⟨none, .call (.c (.func (.func 147) [] [])) [(.l 1), (.l 0), (.t s9)], none⟩, ⟨(some s12), .mv (.l 0), none⟩]))) .skip))
 (.reg [⟨none, .mv (.t s0), none⟩, ⟨none, .mv (.t s10), none⟩, ⟨none, .mv (.t s11), none⟩, ⟨none, .mv (.t s12), none⟩, ⟨none, .call (.c (.func (.func 148) [] [])) [(.l 3), (.l 2), (.l 1), (.l 0), (.t s9)], none⟩, ⟨(some s11), .mv (.l 0), none⟩])) .skip))
 (.seq (.reg [⟨(some s49), .load1 (.t s9), none⟩])
 (.block 0 (.seq (.reg [⟨none, .bin .eql (.t s49) (.c (.int .i64 0)), none⟩, ⟨(some s51), .mv (.l 0), none⟩])
 (.cond (.t s51) (.seq (.reg [⟨none, .mv (.t s11), none⟩, ⟨(some s6), .mv (.l 0), none⟩, ⟨(some s7), .mv (.c (.int .i64 1)), none⟩])
 .ret) (.seq (.reg [⟨none, .bin .eql (.t s49) (.c (.int .i64 12)), none⟩, ⟨(some s54), .mv (.l 0), none⟩])
 (.cond (.t s54) (.seq (.reg [⟨none, .mv (.t s11), none⟩, ⟨(some s6), .mv (.l 0), none⟩, ⟨(some s7), .mv (.c (.int .i64 2)), none⟩])
 .ret) (.seq (.reg [⟨none, .mv (.t s11), none⟩, ⟨(some s6), .mv (.l 0), none⟩, ⟨(some s7), .mv (.c (.int .i64 0)), none⟩])
 .ret))))))))))))))⟩
/-- slices.reverseRangeOrdered[int] -/
noncomputable def df136 : DFunc := ⟨32, [],
 (.seq (.reg [⟨none, .mv (.t s1), none⟩, ⟨(some s6), .mv (.l 0), none⟩])
 (.seq (.reg [⟨none, .mv (.t s2), none⟩, ⟨none, .bin .sub (.l 0) (.c (.int .i64 1)), none⟩, ⟨(some s7), .mv (.l 0), none⟩])
 (.block 0 (.loop (.seq (.seq (.reg [⟨none, .mv (.t s6), none⟩, ⟨none, .mv (.t s7), none⟩, ⟨(some s13), .bin .lss (.l 1) (.l 0), none⟩])
 (.cond (.t s13) .skip (.exit 0)))
 (.block 1 (.seq (.draw [(⟨(some s14), .mv (.t s0), none⟩, ⟨0, 0⟩), (⟨(some s15), .mv (.t s6), none⟩, ⟨0, 0⟩), (⟨(some s16), .mv (.t s0), none⟩, ⟨0, 1⟩), (⟨(some s17), .mv (.t s7), none⟩, ⟨0, 1⟩), (⟨(some s18), .mv (.t s0), none⟩, ⟨0, 0⟩), (⟨(some s19), .mv (.t s7), none⟩, ⟨0, 0⟩), (⟨(some s20), .idxS 1 (.t s18) (.t s19), none⟩, ⟨0, 0⟩), (⟨(some s21), .load1 (.t s20), none⟩, ⟨0, 0⟩), (⟨(some s22), .mv (.t s0), none⟩, ⟨0, 0⟩), (⟨(some s23), .mv (.t s6), none⟩, ⟨0, 0⟩), (⟨(some s24), .idxS 1 (.t s22) (.t s23), none⟩, ⟨0, 0⟩), (⟨(some s25), .load1 (.t s24), none⟩, ⟨0, 0⟩), (⟨(some s26), .idxS 1 (.t s14) (.t s15), none⟩, ⟨0, 0⟩), (⟨none, .store1 (.t s26) (.t s21), none⟩, ⟨0, 1⟩), (⟨(some s27), .idxS 1 (.t s16) (.t s17), none⟩, ⟨1, 1⟩), (⟨none, .store1 (.t s27) (.t s25), none⟩, ⟨1, 2⟩)] 3)
 (.seq (.reg [⟨none, .mv (.t s6), none⟩, ⟨none, .bin .add (.l 0) (.c (.int .i64 1)), none⟩, ⟨(some s6), .mv (.l 0), none⟩])
 (.reg [⟨none, .mv (.t s7), none⟩, ⟨none, .bin .sub (.l 0) (.c (.int .i64 1)), none⟩, ⟨(some s7), .mv (.l 0), none⟩])))))))))⟩
/-- slices.partialInsertionSortOrdered[int] -/
noncomputable def df137 : DFunc := ⟨133, [.tmp s6],
 (.seq (.reg [⟨(some s6), .mv (.c (.bool false)), none⟩])
 (.seq (.reg [⟨none, .mv (.t s1), none⟩, ⟨none, .bin .add (.l 0) (.c (.int .i64 1)), none⟩, ⟨(some s7), .mv (.l 0), none⟩])
 (.seq (.seq (.reg [⟨(some s8), .mv (.c (.int .i64 0)), none⟩])
 (.block 0 (.loop (.seq (.seq (.reg [⟨none, .mv (.t s8), none⟩, ⟨(some s14), .bin .lss (.l 0) (.c (.int .i64 5)), none⟩])
 (.cond (.t s14) .skip (.exit 0)))
 (.seq (.block 1 (.seq (.block 2 (.loop (.seq (.seq (.draw [(⟨(some s17), .mv (.t s7), none⟩, ⟨0, 0⟩), (⟨(some s18), .mv (.t s2), none⟩, ⟨0, 0⟩), (⟨(some s19), .bin .lss (.t s17) (.t s18), none⟩, ⟨0, 0⟩), (⟨(some s20), .mv (.t s19), none⟩, ⟨0, 0⟩), (⟨(some s21), .mv (.t s0), (some ((.t s20), true))⟩, ⟨0, 0⟩), (⟨(some s22), .mv (.t s7), (some ((.t s20), true))⟩, ⟨0, 0⟩), (⟨(some s23), .idxS 1 (.t s21) (.t s22), (some ((.t s20), true))⟩, ⟨0, 0⟩), (⟨(some s24), .load1 (.t s23), (some ((.t s20), true))⟩, ⟨0, 0⟩), (⟨(some s25), .mv (.t s0), (some ((.t s20), true))⟩, ⟨0, 0⟩), (⟨(some s26), .mv (.t s7), (some ((.t s20), true))⟩, ⟨0, 0⟩), (⟨(some s27), .bin .sub (.t s26) (.c (.int .i64 1)), (some ((.t s20), true))⟩, ⟨0, 0⟩), (⟨(some s28), .idxS 1 (.t s25) (.t s27), (some ((.t s20), true))⟩, ⟨0, 0⟩), (⟨(some s29), .load1 (.t s28), (some ((.t s20), true))⟩, ⟨0, 0⟩), (⟨(some s30), .call (.c (.func (.func 138) [] [])) [(.t s24), (.t s29)], (some ((.t s20), true))⟩, ⟨0, 1⟩), (⟨(some s31), .un .not (.t s30), (some ((.t s20), true))⟩, ⟨1, 1⟩), (⟨(some s32), .pick (.t s20) (.t s31) (.c (.bool false)), none⟩, ⟨1, 1⟩)] 5)
 (.cond (.t s32) .skip (.exit 2)))
 (.block 3 (.reg [⟨none, .mv (.t s7), none⟩, ⟨none, .bin .add (.l 0) (.c (.int .i64 1)), none⟩, ⟨(some s7), .mv (.l 0), none⟩])))))
 (.seq (.seq (.reg [⟨none, .mv (.t s7), none⟩, ⟨none, .mv (.t s2), none⟩, ⟨(some s37), .bin .eql (.l 1) (.l 0), none⟩])
 (.cond (.t s37) (.seq (.reg [⟨(some s6), .mv (.c (.bool true)), none⟩])
 .ret) .skip))
 (.seq (.seq (.reg [⟨none, .mv (.t s2), none⟩, ⟨none, .mv (.t s1), none⟩, ⟨none, .bin .sub (.l 1) (.l 0), none⟩, ⟨(some s41), .bin .lss (.l 0) (.c (.int .i64 50)), none⟩])
 (.cond (.t s41) (.seq (.reg [⟨(some s6), .mv (.c (.bool false)), none⟩])
 .ret) .skip))
 (.seq (.draw [(⟨(some s42), .mv (.t s0), none⟩, ⟨0, 0⟩), (⟨(some s43), .mv (.t s7), none⟩, ⟨0, 0⟩), (⟨(some s44), .mv (.t s0), none⟩, ⟨0, 1⟩), (⟨(some s45), .mv (.t s7), none⟩, ⟨0, 1⟩), (⟨(some s46), .bin .sub (.t s45) (.c (.int .i64 1)), none⟩, ⟨0, 1⟩), (⟨(some s47), .mv (.t s0), none⟩, ⟨0, 0⟩), (⟨(some s48), .mv (.t s7), none⟩, ⟨0, 0⟩), (⟨(some s49), .bin .sub (.t s48) (.c (.int .i64 1)), none⟩, ⟨0, 0⟩), (⟨(some s50), .idxS 1 (.t s47) (.t s49), none⟩, ⟨0, 0⟩), (⟨(some s51), .load1 (.t s50), none⟩, ⟨0, 0⟩), (⟨(some s52), .mv (.t s0), none⟩, ⟨0, 0⟩), (⟨(some s53), .mv (.t s7), none⟩, ⟨0, 0⟩), (⟨(some s54), .idxS 1 (.t s52) (.t s53), none⟩, ⟨0, 0⟩), (⟨(some s55), .load1 (.t s54), none⟩, ⟨0, 0⟩), (⟨(some s56), .idxS 1 (.t s42) (.t s43), none⟩, ⟨0, 0⟩), (⟨none, .store1 (.t s56) (.t s51), none⟩, ⟨0, 1⟩), (⟨(some s57), .idxS 1 (.t s44) (.t s46), none⟩, ⟨1, 1⟩), (⟨none, .store1 (.t s57) (.t s55), none⟩, ⟨1, 2⟩)] 11)
 (.seq (.seq (.reg [⟨none, .mv (.t s7), none⟩, ⟨none, .mv (.t s1), none⟩, ⟨none, .bin .sub (.l 1) (.l 0), none⟩, ⟨(some s61), .bin .geq (.l 0) (.c (.int .i64 2)), none⟩])
 (.cond (.t s61) (.seq (.reg [⟨none, .mv (.t s7), none⟩, ⟨none, .bin .sub (.l 0) (.c (.int .i64 1)), none⟩, ⟨(some s9), .mv (.l 0), none⟩])
 (.block 4 (.loop (.seq (.seq (.reg [⟨none, .mv (.t s9), none⟩, ⟨(some s65), .bin .geq (.l 0) (.c (.int .i64 1)), none⟩])
 (.cond (.t s65) .skip (.exit 4)))
 (.seq (.block 5 (.seq (.seq (.draw [(⟨(some s68), .mv (.t s0), none⟩, ⟨0, 0⟩), (⟨(some s69), .mv (.t s9), none⟩, ⟨0, 0⟩), (⟨(some s70), .idxS 1 (.t s68) (.t s69), none⟩, ⟨0, 0⟩), (⟨(some s71), .load1 (.t s70), none⟩, ⟨0, 0⟩), (⟨(some s72), .mv (.t s0), none⟩, ⟨0, 0⟩), (⟨(some s73), .mv (.t s9), none⟩, ⟨0, 0⟩), (⟨(some s74), .bin .sub (.t s73) (.c (.int .i64 1)), none⟩, ⟨0, 0⟩), (⟨(some s75), .idxS 1 (.t s72) (.t s74), none⟩, ⟨0, 0⟩), (⟨(some s76), .load1 (.t s75), none⟩, ⟨0, 0⟩), (⟨(some s77), .call (.c (.func (.func 138) [] [])) [(.t s71), (.t s76)], none⟩, ⟨0, 1⟩), (⟨(some s78), .un .not (.t s77), none⟩, ⟨1, 1⟩)] 16)
 (.cond (.t s78) (.exit 4) .skip))
 (.draw [(⟨(some s79), .mv (.t s0), none⟩, ⟨0, 0⟩), (⟨(some s80), .mv (.t s9), none⟩, ⟨0, 0⟩), (⟨(some s81), .mv (.t s0), none⟩, ⟨0, 1⟩), (⟨(some s82), .mv (.t s9), none⟩, ⟨0, 1⟩), (⟨(some s83), .bin .sub (.t s82) (.c (.int .i64 1)), none⟩, ⟨0, 1⟩), (⟨(some s84), .mv (.t s0), none⟩, ⟨0, 0⟩), (⟨(some s85), .mv (.t s9), none⟩, ⟨0, 0⟩), (⟨(some s86), .bin .sub (.t s85) (.c (.int .i64 1)), none⟩, ⟨0, 0⟩), (⟨(some s87), .idxS 1 (.t s84) (.t s86), none⟩, ⟨0, 0⟩), (⟨(some s88), .load1 (.t s87), none⟩, ⟨0, 0⟩), (⟨(some s89), .mv (.t s0), none⟩, ⟨0, 0⟩), (⟨(some s90), .mv (.t s9), none⟩, ⟨0, 0⟩), (⟨(some s91), .idxS 1 (.t s89) (.t s90), none⟩, ⟨0, 0⟩), (⟨(some s92), .load1 (.t s91), none⟩, ⟨0, 0⟩), (⟨(some s93), .idxS 1 (.t s79) (.t s80), none⟩, ⟨0, 0⟩), (⟨none, .store1 (.t s93) (.t s88), none⟩, ⟨0, 1⟩), (⟨(some s94), .idxS 1 (.t s81) (.t s83), none⟩, ⟨1, 1⟩), (⟨none, .store1 (.t s94) (.t s92), none⟩, ⟨1, 2⟩)] 17)))
 (.reg [⟨none, .mv (.t s9), none⟩, ⟨none, .bin .sub (.l 0) (.c (.int .i64 1)), none⟩, ⟨(some s9), .mv (.l 0), none⟩])))))) .skip))
 (.seq (.reg [⟨none, .mv (.t s2), none⟩, ⟨none, .mv (.t s7), none⟩, ⟨none, .bin .sub (.l 1) (.l 0), none⟩, ⟨(some s98), .bin .geq (.l 0) (.c (.int .i64 2)), none⟩])
 (.cond (.t s98) (.seq (.reg [⟨none, .mv (.t s7), none⟩, ⟨none, .bin .add (.l 0) (.c (.int .i64 1)), none⟩, ⟨(some s10), .mv (.l 0), none⟩])
 (.block 6 (.loop (.seq (.seq (.reg [⟨none, .mv (.t s10), none⟩, ⟨none, .mv (.t s2), none⟩, ⟨(some s103), .bin .lss (.l 1) (.l 0), none⟩])
 (.cond (.t s103) .skip (.exit 6)))
 (.seq (.block 7 (.seq (.seq (.draw [(⟨(some s106), .mv (.t s0), none⟩, ⟨0, 0⟩), (⟨(some s107), .mv (.t s10), none⟩, ⟨0, 0⟩), (⟨(some s108), .idxS 1 (.t s106) (.t s107), none⟩, ⟨0, 0⟩), (⟨(some s109), .load1 (.t s108), none⟩, ⟨0, 0⟩), (⟨(some s110), .mv (.t s0), none⟩, ⟨0, 0⟩), (⟨(some s111), .mv (.t s10), none⟩, ⟨0, 0⟩), (⟨(some s112), .bin .sub (.t s111) (.c (.int .i64 1)), none⟩, ⟨0, 0⟩), (⟨(some s113), .idxS 1 (.t s110) (.t s112), none⟩, ⟨0, 0⟩), (⟨(some s114), .load1 (.t s113), none⟩, ⟨0, 0⟩), (⟨(some s115), .call (.c (.func (.func 138) [] [])) [(.t s109), (.t s114)], none⟩, ⟨0, 1⟩), (⟨(some s116), .un .not (.t s115), none⟩, ⟨1, 1⟩)] 22)
 (.cond (.t s116) (.exit 6) .skip))
 (.draw [(⟨(some s117), .mv (.t s0), none⟩, ⟨0, 0⟩), (⟨(some s118), .mv (.t s10), none⟩, ⟨0, 0⟩), (⟨(some s119), .mv (.t s0), none⟩, ⟨0, 1⟩), (⟨(some s120), .mv (.t s10), none⟩, ⟨0, 1⟩), (⟨(some s121), .bin .sub (.t s120) (.c (.int .i64 1)), none⟩, ⟨0, 1⟩), (⟨(some s122), .mv (.t s0), none⟩, ⟨0, 0⟩), (⟨(some s123), .mv (.t s10), none⟩, ⟨0, 0⟩), (⟨(some s124), .bin .sub (.t s123) (.c (.int .i64 1)), none⟩, ⟨0, 0⟩), (⟨(some s125), .idxS 1 (.t s122) (.t s124), none⟩, ⟨0, 0⟩), (⟨(some s126), .load1 (.t s125), none⟩, ⟨0, 0⟩), (⟨(some s127), .mv (.t s0), none⟩, ⟨0, 0⟩), (⟨(some s128), .mv (.t s10), none⟩, ⟨0, 0⟩), (⟨(some s129), .idxS 1 (.t s127) (.t s128), none⟩, ⟨0, 0⟩), (⟨(some s130), .load1 (.t s129), none⟩, ⟨0, 0⟩), (⟨(some s131), .idxS 1 (.t s117) (.t s118), none⟩, ⟨0, 0⟩), (⟨none, .store1 (.t s131) (.t s126), none⟩, ⟨0, 1⟩), (⟨(some s132), .idxS 1 (.t s119) (.t s121), none⟩, ⟨1, 1⟩), (⟨none, .store1 (.t s132) (.t s130), none⟩, ⟨1, 2⟩)] 23)))
 (.reg [⟨none, .mv (.t s10), none⟩, ⟨none, .bin .add (.l 0) (.c (.int .i64 1)), none⟩, ⟨(some s10), .mv (.l 0), none⟩])))))) .skip))))))))
 (.reg [⟨none, .mv (.t s8), none⟩, ⟨none, .bin .add (.l 0) (.c (.int .i64 1)), none⟩, ⟨(some s8), .mv (.l 0), none⟩]))))))
 (.seq (.reg [⟨(some s6), .mv (.c (.bool false)), none⟩])
 .ret))))⟩
/-- cmp.Less[int] -/
noncomputable def df138 : DFunc := ⟨17, [.tmp s4],
 (.seq (.reg [⟨(some s4), .mv (.c (.bool false)), none⟩])
 (.seq (.reg [⟨none, .mv (.t s0), none⟩, ⟨none, .call (.c (.func (.func 149) [] [])) [(.l 0)], none⟩, ⟨none, .mv (.l 0), none⟩, ⟨none, .mv (.t s1), (some ((.l 0), true))⟩, ⟨none, .call (.c (.func (.func 149) [] [])) [(.l 0)], (some ((.l 1), true))⟩, ⟨none, .un .not (.l 0), (some ((.l 2), true))⟩, ⟨none, .pick (.l 3) (.l 0) (.c (.bool false)), none⟩, ⟨none, .mv (.l 0), none⟩, ⟨none, .mv (.t s0), (some ((.l 0), false))⟩, ⟨none, .mv (.t s1), (some ((.l 1), false))⟩, ⟨none, .bin .lss (.l 1) (.l 0), (some ((.l 2), false))⟩, ⟨none, .pick (.l 3) (.c (.bool true)) (.l 0), none⟩, ⟨(some s4), .mv (.l 0), none⟩])
 .ret))⟩
/-- slices.partitionEqualOrdered[int] -/
noncomputable def df139 : DFunc := ⟨84, [.tmp s8],
 (.seq (.reg [⟨(some s8), .mv (.c (.int .i64 0)), none⟩])
 (.seq (.draw [(⟨(some s11), .mv (.t s0), none⟩, ⟨0, 0⟩), (⟨(some s12), .mv (.t s1), none⟩, ⟨0, 0⟩), (⟨(some s13), .mv (.t s0), none⟩, ⟨0, 1⟩), (⟨(some s14), .mv (.t s3), none⟩, ⟨0, 1⟩), (⟨(some s15), .mv (.t s0), none⟩, ⟨0, 0⟩), (⟨(some s16), .mv (.t s3), none⟩, ⟨0, 0⟩), (⟨(some s17), .idxS 1 (.t s15) (.t s16), none⟩, ⟨0, 0⟩), (⟨(some s18), .load1 (.t s17), none⟩, ⟨0, 0⟩), (⟨(some s19), .mv (.t s0), none⟩, ⟨0, 0⟩), (⟨(some s20), .mv (.t s1), none⟩, ⟨0, 0⟩), (⟨(some s21), .idxS 1 (.t s19) (.t s20), none⟩, ⟨0, 0⟩), (⟨(some s22), .load1 (.t s21), none⟩, ⟨0, 0⟩), (⟨(some s23), .idxS 1 (.t s11) (.t s12), none⟩, ⟨0, 0⟩), (⟨none, .store1 (.t s23) (.t s18), none⟩, ⟨0, 1⟩), (⟨(some s24), .idxS 1 (.t s13) (.t s14), none⟩, ⟨1, 1⟩), (⟨none, .store1 (.t s24) (.t s22), none⟩, ⟨1, 2⟩)] 1)
 (.seq (.reg [⟨none, .mv (.t s1), none⟩, ⟨none, .bin .add (.l 0) (.c (.int .i64 1)), none⟩, ⟨none, .mv (.t s2), none⟩, ⟨none, .bin .sub (.l 0) (.c (.int .i64 1)), none⟩, ⟨(some s9), .mv (.l 2), none⟩, ⟨(some s10), .mv (.l 1), none⟩])
 (.seq (.block 0 (.loop (.block 1 (.seq (.block 2 (.loop (.seq (.seq (.draw [(⟨(some s29), .mv (.t s9), none⟩, ⟨0, 0⟩), (⟨(some s30), .mv (.t s10), none⟩, ⟨0, 0⟩), (⟨(some s31), .bin .leq (.t s29) (.t s30), none⟩, ⟨0, 0⟩), (⟨(some s32), .mv (.t s31), none⟩, ⟨0, 0⟩), (⟨(some s33), .mv (.t s0), (some ((.t s32), true))⟩, ⟨0, 0⟩), (⟨(some s34), .mv (.t s1), (some ((.t s32), true))⟩, ⟨0, 0⟩), (⟨(some s35), .idxS 1 (.t s33) (.t s34), (some ((.t s32), true))⟩, ⟨0, 0⟩), (⟨(some s36), .load1 (.t s35), (some ((.t s32), true))⟩, ⟨0, 0⟩), (⟨(some s37), .mv (.t s0), (some ((.t s32), true))⟩, ⟨0, 0⟩), (⟨(some s38), .mv (.t s9), (some ((.t s32), true))⟩, ⟨0, 0⟩), (⟨(some s39), .idxS 1 (.t s37) (.t s38), (some ((.t s32), true))⟩, ⟨0, 0⟩), (⟨(some s40), .load1 (.t s39), (some ((.t s32), true))⟩, ⟨0, 0⟩), (⟨(some s41), .call (.c (.func (.func 138) [] [])) [(.t s36), (.t s40)], (some ((.t s32), true))⟩, ⟨0, 1⟩), (⟨(some s42), .un .not (.t s41), (some ((.t s32), true))⟩, ⟨1, 1⟩), (⟨(some s43), .pick (.t s32) (.t s42) (.c (.bool false)), none⟩, ⟨1, 1⟩)] 3)
 (.cond (.t s43) .skip (.exit 2)))
 (.block 3 (.reg [⟨none, .mv (.t s9), none⟩, ⟨none, .bin .add (.l 0) (.c (.int .i64 1)), none⟩, ⟨(some s9), .mv (.l 0), none⟩])))))
 (.seq (.block 4 (.loop (.seq (.seq (.draw [(⟨(some s46), .mv (.t s9), none⟩, ⟨0, 0⟩), (⟨(some s47), .mv (.t s10), none⟩, ⟨0, 0⟩), (⟨(some s48), .bin .leq (.t s46) (.t s47), none⟩, ⟨0, 0⟩), (⟨(some s49), .mv (.t s48), none⟩, ⟨0, 0⟩), (⟨(some s50), .mv (.t s0), (some ((.t s49), true))⟩, ⟨0, 0⟩), (⟨(some s51), .mv (.t s1), (some ((.t s49), true))⟩, ⟨0, 0⟩), (⟨(some s52), .idxS 1 (.t s50) (.t s51), (some ((.t s49), true))⟩, ⟨0, 0⟩), (⟨(some s53), .load1 (.t s52), (some ((.t s49), true))⟩, ⟨0, 0⟩), (⟨(some s54), .mv (.t s0), (some ((.t s49), true))⟩, ⟨0, 0⟩), (⟨(some s55), .mv (.t s10), (some ((.t s49), true))⟩, ⟨0, 0⟩), (⟨(some s56), .idxS 1 (.t s54) (.t s55), (some ((.t s49), true))⟩, ⟨0, 0⟩), (⟨(some s57), .load1 (.t s56), (some ((.t s49), true))⟩, ⟨0, 0⟩), (⟨(some s58), .call (.c (.func (.func 138) [] [])) [(.t s53), (.t s57)], (some ((.t s49), true))⟩, ⟨0, 1⟩), (⟨(some s59), .pick (.t s49) (.t s58) (.c (.bool false)), none⟩, ⟨1, 1⟩)] 5)
 (.cond (.t s59) .skip (.exit 4)))
 (.block 5 (.reg [⟨none, .mv (.t s10), none⟩, ⟨none, .bin .sub (.l 0) (.c (.int .i64 1)), none⟩, ⟨(some s10), .mv (.l 0), none⟩])))))
 (.seq (.seq (.reg [⟨none, .mv (.t s9), none⟩, ⟨none, .mv (.t s10), none⟩, ⟨(some s64), .bin .gtr (.l 1) (.l 0), none⟩])
 (.cond (.t s64) (.exit 0) .skip))
 (.seq (.draw [(⟨(some s65), .mv (.t s0), none⟩, ⟨0, 0⟩), (⟨(some s66), .mv (.t s9), none⟩, ⟨0, 0⟩), (⟨(some s67), .mv (.t s0), none⟩, ⟨0, 1⟩), (⟨(some s68), .mv (.t s10), none⟩, ⟨0, 1⟩), (⟨(some s69), .mv (.t s0), none⟩, ⟨0, 0⟩), (⟨(some s70), .mv (.t s10), none⟩, ⟨0, 0⟩), (⟨(some s71), .idxS 1 (.t s69) (.t s70), none⟩, ⟨0, 0⟩), (⟨(some s72), .load1 (.t s71), none⟩, ⟨0, 0⟩), (⟨(some s73), .mv (.t s0), none⟩, ⟨0, 0⟩), (⟨(some s74), .mv (.t s9), none⟩, ⟨0, 0⟩), (⟨(some s75), .idxS 1 (.t s73) (.t s74), none⟩, ⟨0, 0⟩), (⟨(some s76), .load1 (.t s75), none⟩, ⟨0, 0⟩), (⟨(some s77), .idxS 1 (.t s65) (.t s66), none⟩, ⟨0, 0⟩), (⟨none, .store1 (.t s77) (.t s72), none⟩, ⟨0, 1⟩), (⟨(some s78), .idxS 1 (.t s67) (.t s68), none⟩, ⟨1, 1⟩), (⟨none, .store1 (.t s78) (.t s76), none⟩, ⟨1, 2⟩)] 8)
 (.seq (.reg [⟨none, .mv (.t s9), none⟩, ⟨none, .bin .add (.l 0) (.c (.int .i64 1)), none⟩, ⟨(some s9), .mv (.l 0), none⟩])
 (.reg [⟨none, .mv (.t s10), none⟩, ⟨none, .bin .sub (.l 0) (.c (.int .i64 1)), none⟩, ⟨(some s10), .mv (.l 0), none⟩])))))))))
 (.seq (.reg [⟨none, .mv (.t s9), none⟩, ⟨(some s8), .mv (.l 0), none⟩])
 .ret)))))⟩
/-- slices.partitionOrdered[int] -/
noncomputable def df140 : DFunc := ⟨168, [.tmp s8, .tmp s9],
 (.seq (.reg [⟨(some s8), .mv (.c (.int .i64 0)), none⟩, ⟨(some s9), .mv (.c (.bool false)), none⟩])
 (.seq (.draw [(⟨(some s12), .mv (.t s0), none⟩, ⟨0, 0⟩), (⟨(some s13), .mv (.t s1), none⟩, ⟨0, 0⟩), (⟨(some s14), .mv (.t s0), none⟩, ⟨0, 1⟩), (⟨(some s15), .mv (.t s3), none⟩, ⟨0, 1⟩), (⟨(some s16), .mv (.t s0), none⟩, ⟨0, 0⟩), (⟨(some s17), .mv (.t s3), none⟩, ⟨0, 0⟩), (⟨(some s18), .idxS 1 (.t s16) (.t s17), none⟩, ⟨0, 0⟩), (⟨(some s19), .load1 (.t s18), none⟩, ⟨0, 0⟩), (⟨(some s20), .mv (.t s0), none⟩, ⟨0, 0⟩), (⟨(some s21), .mv (.t s1), none⟩, ⟨0, 0⟩), (⟨(some s22), .idxS 1 (.t s20) (.t s21), none⟩, ⟨0, 0⟩), (⟨(some s23), .load1 (.t s22), none⟩, ⟨0, 0⟩), (⟨(some s24), .idxS 1 (.t s12) (.t s13), none⟩, ⟨0, 0⟩), (⟨none, .store1 (.t s24) (.t s19), none⟩, ⟨0, 1⟩), (⟨(some s25), .idxS 1 (.t s14) (.t s15), none⟩, ⟨1, 1⟩), (⟨none, .store1 (.t s25) (.t s23), none⟩, ⟨1, 2⟩)] 1)
 (.seq (.reg [⟨none, .mv (.t s1), none⟩, ⟨none, .bin .add (.l 0) (.c (.int .i64 1)), none⟩, ⟨none, .mv (.t s2), none⟩, ⟨none, .bin .sub (.l 0) (.c (.int .i64 1)), none⟩, ⟨(some s10), .mv (.l 2), none⟩, ⟨(some s11), .mv (.l 1), none⟩])
 (.seq (.block 0 (.loop (.seq (.seq (.draw [(⟨(some s30), .mv (.t s10), none⟩, ⟨0, 0⟩), (⟨(some s31), .mv (.t s11), none⟩, ⟨0, 0⟩), (⟨(some s32), .bin .leq (.t s30) (.t s31), none⟩, ⟨0, 0⟩), (⟨(some s33), .mv (.t s32), none⟩, ⟨0, 0⟩), (⟨(some s34), .mv (.t s0), (some ((.t s33), true))⟩, ⟨0, 0⟩), (⟨(some s35), .mv (.t s10), (some ((.t s33), true))⟩, ⟨0, 0⟩), (⟨(some s36), .idxS 1 (.t s34) (.t s35), (some ((.t s33), true))⟩, ⟨0, 0⟩), (⟨(some s37), .load1 (.t s36), (some ((.t s33), true))⟩, ⟨0, 0⟩), (⟨(some s38), .mv (.t s0), (some ((.t s33), true))⟩, ⟨0, 0⟩), (⟨(some s39), .mv (.t s1), (some ((.t s33), true))⟩, ⟨0, 0⟩), (⟨(some s40), .idxS 1 (.t s38) (.t s39), (some ((.t s33), true))⟩, ⟨0, 0⟩), (⟨(some s41), .load1 (.t s40), (some ((.t s33), true))⟩, ⟨0, 0⟩), (⟨(some s42), .call (.c (.func (.func 138) [] [])) [(.t s37), (.t s41)], (some ((.t s33), true))⟩, ⟨0, 1⟩), (⟨(some s43), .pick (.t s33) (.t s42) (.c (.bool false)), none⟩, ⟨1, 1⟩)] 3)
 (.cond (.t s43) .skip (.exit 0)))
 (.block 1 (.reg [⟨none, .mv (.t s10), none⟩, ⟨none, .bin .add (.l 0) (.c (.int .i64 1)), none⟩, ⟨(some s10), .mv (.l 0), none⟩])))))
 (.seq (.block 2 (.loop (.seq (.seq (.draw [(⟨(some s46), .mv (.t s10), none⟩, ⟨0, 0⟩), (⟨(some s47), .mv (.t s11), none⟩, ⟨0, 0⟩), (⟨(some s48), .bin .leq (.t s46) (.t s47), none⟩, ⟨0, 0⟩), (⟨(some s49), .mv (.t s48), none⟩, ⟨0, 0⟩), (⟨(some s50), .mv (.t s0), (some ((.t s49), true))⟩, ⟨0, 0⟩), (⟨(some s51), .mv (.t s11), (some ((.t s49), true))⟩, ⟨0, 0⟩), (⟨(some s52), .idxS 1 (.t s50) (.t s51), (some ((.t s49), true))⟩, ⟨0, 0⟩), (⟨(some s53), .load1 (.t s52), (some ((.t s49), true))⟩, ⟨0, 0⟩), (⟨(some s54), .mv (.t s0), (some ((.t s49), true))⟩, ⟨0, 0⟩), (⟨(some s55), .mv (.t s1), (some ((.t s49), true))⟩, ⟨0, 0⟩), (⟨(some s56), .idxS 1 (.t s54) (.t s55), (some ((.t s49), true))⟩, ⟨0, 0⟩), (⟨(some s57), .load1 (.t s56), (some ((.t s49), true))⟩, ⟨0, 0⟩), (⟨(some s58), .call (.c (.func (.func 138) [] [])) [(.t s53), (.t s57)], (some ((.t s49), true))⟩, ⟨0, 1⟩), (⟨(some s59), .un .not (.t s58), (some ((.t s49), true))⟩, ⟨1, 1⟩), (⟨(some s60), .pick (.t s49) (.t s59) (.c (.bool false)), none⟩, ⟨1, 1⟩)] 5)
 (.cond (.t s60) .skip (.exit 2)))
 (.block 3 (.reg [⟨none, .mv (.t s11), none⟩, ⟨none, .bin .sub (.l 0) (.c (.int .i64 1)), none⟩, ⟨(some s11), .mv (.l 0), none⟩])))))
 (.seq (.seq (.reg [⟨none, .mv (.t s10), none⟩, ⟨none, .mv (.t s11), none⟩, ⟨(some s65), .bin .gtr (.l 1) (.l 0), none⟩])
 (.cond (.t s65) (.seq (.draw [(⟨(some s66), .mv (.t s0), none⟩, ⟨0, 0⟩), (⟨(some s67), .mv (.t s11), none⟩, ⟨0, 0⟩), (⟨(some s68), .mv (.t s0), none⟩, ⟨0, 1⟩), (⟨(some s69), .mv (.t s1), none⟩, ⟨0, 1⟩), (⟨(some s70), .mv (.t s0), none⟩, ⟨0, 0⟩), (⟨(some s71), .mv (.t s1), none⟩, ⟨0, 0⟩), (⟨(some s72), .idxS 1 (.t s70) (.t s71), none⟩, ⟨0, 0⟩), (⟨(some s73), .load1 (.t s72), none⟩, ⟨0, 0⟩), (⟨(some s74), .mv (.t s0), none⟩, ⟨0, 0⟩), (⟨(some s75), .mv (.t s11), none⟩, ⟨0, 0⟩), (⟨(some s76), .idxS 1 (.t s74) (.t s75), none⟩, ⟨0, 0⟩), (⟨(some s77), .load1 (.t s76), none⟩, ⟨0, 0⟩), (⟨(some s78), .idxS 1 (.t s66) (.t s67), none⟩, ⟨0, 0⟩), (⟨none, .store1 (.t s78) (.t s73), none⟩, ⟨0, 1⟩), (⟨(some s79), .idxS 1 (.t s68) (.t s69), none⟩, ⟨1, 1⟩), (⟨none, .store1 (.t s79) (.t s77), none⟩, ⟨1, 2⟩)] 8)
 (.seq (.reg [⟨none, .mv (.t s11), none⟩, ⟨(some s8), .mv (.l 0), none⟩, ⟨(some s9), .mv (.c (.bool true)), none⟩])
 .ret)) .skip))
 (.seq (.draw [(⟨(some s81), .mv (.t s0), none⟩, ⟨0, 0⟩), (⟨(some s82), .mv (.t s10), none⟩, ⟨0, 0⟩), (⟨(some s83), .mv (.t s0), none⟩, ⟨0, 1⟩), (⟨(some s84), .mv (.t s11), none⟩, ⟨0, 1⟩), (⟨(some s85), .mv (.t s0), none⟩, ⟨0, 0⟩), (⟨(some s86), .mv (.t s11), none⟩, ⟨0, 0⟩), (⟨(some s87), .idxS 1 (.t s85) (.t s86), none⟩, ⟨0, 0⟩), (⟨(some s88), .load1 (.t s87), none⟩, ⟨0, 0⟩), (⟨(some s89), .mv (.t s0), none⟩, ⟨0, 0⟩), (⟨(some s90), .mv (.t s10), none⟩, ⟨0, 0⟩), (⟨(some s91), .idxS 1 (.t s89) (.t s90), none⟩, ⟨0, 0⟩), (⟨(some s92), .load1 (.t s91), none⟩, ⟨0, 0⟩), (⟨(some s93), .idxS 1 (.t s81) (.t s82), none⟩, ⟨0, 0⟩), (⟨none, .store1 (.t s93) (.t s88), none⟩, ⟨0, 1⟩), (⟨(some s94), .idxS 1 (.t s83) (.t s84), none⟩, ⟨1, 1⟩), (⟨none, .store1 (.t s94) (.t s92), none⟩, ⟨1, 2⟩)] 10)
 (.seq (.reg [⟨none, .mv (.t s10), none⟩, ⟨none, .bin .add (.l 0) (.c (.int .i64 1)), none⟩, ⟨(some s10), .mv (.l 0), none⟩])
 (.seq (.reg [⟨none, .mv (.t s11), none⟩, ⟨none, .bin .sub (.l 0) (.c (.int .i64 1)), none⟩, ⟨(some s11), .mv (.l 0), none⟩])
 (.seq (.block 4 (.loop (.block 5 (.seq (.block 6 (.loop (.seq (.seq (.draw [(⟨(some s99), .mv (.t s10), none⟩, ⟨0, 0⟩), (⟨(some s100), .mv (.t s11), none⟩, ⟨0, 0⟩), (⟨(some s101), .bin .leq (.t s99) (.t s100), none⟩, ⟨0, 0⟩), (⟨(some s102), .mv (.t s101), none⟩, ⟨0, 0⟩), (⟨(some s103), .mv (.t s0), (some ((.t s102), true))⟩, ⟨0, 0⟩), (⟨(some s104), .mv (.t s10), (some ((.t s102), true))⟩, ⟨0, 0⟩), (⟨(some s105), .idxS 1 (.t s103) (.t s104), (some ((.t s102), true))⟩, ⟨0, 0⟩), (⟨(some s106), .load1 (.t s105), (some ((.t s102), true))⟩, ⟨0, 0⟩), (⟨(some s107), .mv (.t s0), (some ((.t s102), true))⟩, ⟨0, 0⟩), (⟨(some s108), .mv (.t s1), (some ((.t s102), true))⟩, ⟨0, 0⟩), (⟨(some s109), .idxS 1 (.t s107) (.t s108), (some ((.t s102), true))⟩, ⟨0, 0⟩), (⟨(some s110), .load1 (.t s109), (some ((.t s102), true))⟩, ⟨0, 0⟩), (⟨(some s111), .call (.c (.func (.func 138) [] [])) [(.t s106), (.t s110)], (some ((.t s102), true))⟩, ⟨0, 1⟩), (⟨(some s112), .pick (.t s102) (.t s111) (.c (.bool false)), none⟩, ⟨1, 1⟩)] 13)
 (.cond (.t s112) .skip (.exit 6)))
 (.block 7 (.reg [⟨none, .mv (.t s10), none⟩, ⟨none, .bin .add (.l 0) (.c (.int .i64 1)), none⟩, ⟨(some s10), .mv (.l 0), none⟩])))))
 (.seq (.block 8 (.loop (.seq (.seq (.draw [(⟨(some s115), .mv (.t s10), none⟩, ⟨0, 0⟩), (⟨(some s116), .mv (.t s11), none⟩, ⟨0, 0⟩), (⟨(some s117), .bin .leq (.t s115) (.t s116), none⟩, ⟨0, 0⟩), (⟨(some s118), .mv (.t s117), none⟩, ⟨0, 0⟩), (⟨(some s119), .mv (.t s0), (some ((.t s118), true))⟩, ⟨0, 0⟩), (⟨(some s120), .mv (.t s11), (some ((.t s118), true))⟩, ⟨0, 0⟩), (⟨(some s121), .idxS 1 (.t s119) (.t s120), (some ((.t s118), true))⟩, ⟨0, 0⟩), (⟨(some s122), .load1 (.t s121), (some ((.t s118), true))⟩, ⟨0, 0⟩), (⟨(some s123), .mv (.t s0), (some ((.t s118), true))⟩, ⟨0, 0⟩), (⟨(some s124), .mv (.t s1), (some ((.t s118), true))⟩, ⟨0, 0⟩), (⟨(some s125), .idxS 1 (.t s123) (.t s124), (some ((.t s118), true))⟩, ⟨0, 0⟩), (⟨(some s126), .load1 (.t s125), (some ((.t s118), true))⟩, ⟨0, 0⟩), (⟨(some s127), .call (.c (.func (.func 138) [] [])) [(.t s122), (.t s126)], (some ((.t s118), true))⟩, ⟨0, 1⟩), (⟨(some s128), .un .not (.t s127), (some ((.t s118), true))⟩, ⟨1, 1⟩), (⟨(some s129), .pick (.t s118) (.t s128) (.c (.bool false)), none⟩, ⟨1, 1⟩)] 15)
 (.cond (.t s129) .skip (.exit 8)))
 (.block 9 (.reg [⟨none, .mv (.t s11), none⟩, ⟨none, .bin .sub (.l 0) (.c (.int .i64 1)), none⟩, ⟨(some s11), .mv (.l 0), none⟩])))))
 (.seq (.seq (.reg [⟨none, .mv (.t s10), none⟩, ⟨none, .mv (.t s11), none⟩, ⟨(some s134), .bin .gtr (.l 1) (.l 0), none⟩])
 (.cond (.t s134) (.exit 4) .skip))
 (.seq (.draw [(⟨(some s135), .mv (.t s0), none⟩, ⟨0, 0⟩), (⟨(some s136), .mv (.t s10), none⟩, ⟨0, 0⟩), (⟨(some s137), .mv (.t s0), none⟩, ⟨0, 1⟩), (⟨(some s138), .mv (.t s11), none⟩, ⟨0, 1⟩), (⟨(some s139), .mv (.t s0), none⟩, ⟨0, 0⟩), (⟨(some s140), .mv (.t s11), none⟩, ⟨0, 0⟩), (⟨(some s141), .idxS 1 (.t s139) (.t s140), none⟩, ⟨0, 0⟩), (⟨(some s142), .load1 (.t s141), none⟩, ⟨0, 0⟩), (⟨(some s143), .mv (.t s0), none⟩, ⟨0, 0⟩), (⟨(some s144), .mv (.t s10), none⟩, ⟨0, 0⟩), (⟨(some s145), .idxS 1 (.t s143) (.t s144), none⟩, ⟨0, 0⟩), (⟨(some s146), .load1 (.t s145), none⟩, ⟨0, 0⟩), (⟨(some s147), .idxS 1 (.t s135) (.t s136), none⟩, ⟨0, 0⟩), (⟨none, .store1 (.t s147) (.t s142), none⟩, ⟨0, 1⟩), (⟨(some s148), .idxS 1 (.t s137) (.t s138), none⟩, ⟨1, 1⟩), (⟨none, .store1 (.t s148) (.t s146), none⟩, ⟨1, 2⟩)] 18)
 (.seq (.reg [⟨none, .mv (.t s10), none⟩, ⟨none, .bin .add (.l 0) (.c (.int .i64 1)), none⟩, ⟨(some s10), .mv (.l 0), none⟩])
 (.reg [⟨none, .mv (.t s11), none⟩, ⟨none, .bin .sub (.l 0) (.c (.int .i64 1)), none⟩, ⟨(some s11), .mv (.l 0), none⟩])))))))))
 (.seq (.draw [(⟨(some s153), .mv (.t s0), none⟩, ⟨0, 0⟩), (⟨(some s154), .mv (.t s11), none⟩, ⟨0, 0⟩), (⟨(some s155), .mv (.t s0), none⟩, ⟨0, 1⟩), (⟨(some s156), .mv (.t s1), none⟩, ⟨0, 1⟩), (⟨(some s157), .mv (.t s0), none⟩, ⟨0, 0⟩), (⟨(some s158), .mv (.t s1), none⟩, ⟨0, 0⟩), (⟨(some s159), .idxS 1 (.t s157) (.t s158), none⟩, ⟨0, 0⟩), (⟨(some s160), .load1 (.t s159), none⟩, ⟨0, 0⟩), (⟨(some s161), .mv (.t s0), none⟩, ⟨0, 0⟩), (⟨(some s162), .mv (.t s11), none⟩, ⟨0, 0⟩), (⟨(some s163), .idxS 1 (.t s161) (.t s162), none⟩, ⟨0, 0⟩), (⟨(some s164), .load1 (.t s163), none⟩, ⟨0, 0⟩), (⟨(some s165), .idxS 1 (.t s153) (.t s154), none⟩, ⟨0, 0⟩), (⟨none, .store1 (.t s165) (.t s160), none⟩, ⟨0, 1⟩), (⟨(some s166), .idxS 1 (.t s155) (.t s156), none⟩, ⟨1, 1⟩), (⟨none, .store1 (.t s166) (.t s164), none⟩, ⟨1, 2⟩)] 21)
 (.seq (.reg [⟨none, .mv (.t s11), none⟩, ⟨(some s8), .mv (.l 0), none⟩, ⟨(some s9), .mv (.c (.bool false)), none⟩])
 .ret))))))))))))⟩
/-- math/bits.Len32 -/
noncomputable def df141 : DFunc := ⟨19, [.tmp s2],
 (.seq (.reg [⟨(some s2), .mv (.c (.int .i64 0)), none⟩])
 (.seq (.seq (.reg [⟨none, .mv (.t s0), none⟩, ⟨(some s4), .bin .geq (.l 0) (.c (.int .u32 65536)), none⟩])
 (.cond (.t s4) (.seq (.reg [⟨none, .mv (.t s0), none⟩, ⟨none, .bin .shr (.l 0) (.c (.int .u64 16)), none⟩, ⟨(some s0), .mv (.l 0), none⟩])
 (.reg [⟨(some s2), .mv (.c (.int .i64 16)), none⟩])) .skip))
 (.seq (.seq (.reg [⟨none, .mv (.t s0), none⟩, ⟨(some s8), .bin .geq (.l 0) (.c (.int .u32 256)), none⟩])
 (.cond (.t s8) (.seq (.reg [⟨none, .mv (.t s0), none⟩, ⟨none, .bin .shr (.l 0) (.c (.int .u64 8)), none⟩, ⟨(some s0), .mv (.l 0), none⟩])
 (.reg [⟨none, .mv (.t s2), none⟩, ⟨none, .bin .add (.l 0) (.c (.int .i64 8)), none⟩, ⟨(some s2), .mv (.l 0), none⟩])) .skip))
 (.seq (.reg [⟨none, .mv (.t s2), none⟩, ⟨none, .mv (.t s0), none⟩, ⟨none, .toInt .u8 (.l 0), none⟩, ⟨none, .idxStr (.c (.str [0, 1, 2, 2, 3, 3, 3, 3, 4, 4, 4, 4, 4, 4, 4, 4, 5, 5, 5, 5, 5, 5, 5, 5, 5, 5, 5, 5, 5, 5, 5, 5, 6, 6, 6, 6, 6, 6, 6, 6, 6, 6, 6, 6, 6, 6, 6, 6, 6, 6, 6, 6, 6, 6, 6, 6, 6, 6, 6, 6, 6, 6, 6, 6, 7, 7, 7, 7, 7, 7, 7, 7, 7, 7, 7, 7, 7, 7, 7, 7, 7, 7, 7, 7, 7, 7, 7, 7, 7, 7, 7, 7, 7, 7, 7, 7, 7, 7, 7, 7, 7, 7, 7, 7, 7, 7, 7, 7, 7, 7, 7, 7, 7, 7, 7, 7, 7, 7, 7, 7, 7, 7, 7, 7, 7, 7, 7, 7, 8, 8, 8, 8, 8, 8, 8, 8, 8, 8, 8, 8, 8, 8, 8, 8, 8, 8, 8, 8, 8, 8, 8, 8, 8, 8, 8, 8, 8, 8, 8, 8, 8, 8, 8, 8, 8, 8, 8, 8, 8, 8, 8, 8, 8, 8, 8, 8, 8, 8, 8, 8, 8, 8, 8, 8, 8, 8, 8, 8, 8, 8, 8, 8, 8, 8, 8, 8, 8, 8, 8, 8, 8, 8, 8, 8, 8, 8, 8, 8, 8, 8, 8, 8, 8, 8, 8, 8, 8, 8, 8, 8, 8, 8, 8, 8, 8, 8, 8, 8, 8, 8, 8, 8, 8, 8, 8, 8, 8, 8, 8, 8, 8, 8, 8, 8, 8, 8, 8, 8, 8, 8, 8, 8, 8, 8, 8, 8])) (.l 0), none⟩, ⟨none, .toInt .i64 (.l 0), none⟩, ⟨none, .bin .add (.l 4) (.l 0), none⟩, ⟨(some s2), .mv (.l 0), none⟩])
 .ret))))⟩
/-- strings.IndexByte -/
noncomputable def df142 : DFunc := ⟨8, [.tmp s4],
 (.seq (.reg [⟨(some s4), .mv (.c (.int .i64 0)), none⟩])
 (.seq (.reg [⟨none, .mv (.t s0), none⟩, ⟨none, .mv (.t s1), none⟩, ⟨none, .call (.c (.func (.func 150) [] [])) [(.l 1), (.l 0)], none⟩, ⟨(some s4), .mv (.l 0), none⟩])
 .ret))⟩
/-- math/bits.TrailingZeros32 -/
noncomputable def df143 : DFunc := ⟨14, [.tmp s2],
 (.seq (.reg [⟨(some s2), .mv (.c (.int .i64 0)), none⟩])
 (.seq (.seq (.reg [⟨none, .mv (.t s0), none⟩, ⟨(some s4), .bin .eql (.l 0) (.c (.int .u32 0)), none⟩])
 (.cond (.t s4) (.seq (.reg [⟨(some s2), .mv (.c (.int .i64 32)), none⟩])
 .ret) .skip))
 (.seq (.reg [⟨none, .mv (.t s0), none⟩, ⟨none, .mv (.t s0), none⟩, ⟨none, .un .neg (.l 0), none⟩, ⟨none, .bin .and (.l 2) (.l 0), none⟩, ⟨none, .bin .mul (.l 0) (.c (.int .u32 125613361)), none⟩, ⟨none, .bin .shr (.l 0) (.c (.int .u64 27)), none⟩, ⟨none, .idxA 32 1 (.c (.ptr (some (3, 0)))) (.l 0), none⟩, ⟨none, .load1 (.l 0), none⟩, ⟨none, .toInt .i64 (.l 0), none⟩, ⟨(some s2), .mv (.l 0), none⟩])
 .ret)))⟩
/-- slices.siftDownOrdered[int] -/
noncomputable def df144 : DFunc := ⟨76, [],
 (.seq (.reg [⟨none, .mv (.t s1), none⟩, ⟨(some s8), .mv (.l 0), none⟩])
 (.block 0 (.loop (.block 1 (.seq (.reg [⟨none, .mv (.t s8), none⟩, ⟨none, .bin .mul (.c (.int .i64 2)) (.l 0), none⟩, ⟨none, .bin .add (.l 0) (.c (.int .i64 1)), none⟩, ⟨(some s9), .mv (.l 0), none⟩])
 (.seq (.seq (.reg [⟨none, .mv (.t s9), none⟩, ⟨none, .mv (.t s2), none⟩, ⟨(some s16), .bin .geq (.l 1) (.l 0), none⟩])
 (.cond (.t s16) (.exit 0) .skip))
 (.seq (.seq (.draw [(⟨(some s17), .mv (.t s9), none⟩, ⟨0, 0⟩), (⟨(some s18), .bin .add (.t s17) (.c (.int .i64 1)), none⟩, ⟨0, 0⟩), (⟨(some s19), .mv (.t s2), none⟩, ⟨0, 0⟩), (⟨(some s20), .bin .lss (.t s18) (.t s19), none⟩, ⟨0, 0⟩), (⟨(some s21), .mv (.t s20), none⟩, ⟨0, 0⟩), (⟨(some s22), .mv (.t s0), (some ((.t s21), true))⟩, ⟨0, 0⟩), (⟨(some s23), .mv (.t s3), (some ((.t s21), true))⟩, ⟨0, 0⟩), (⟨(some s24), .mv (.t s9), (some ((.t s21), true))⟩, ⟨0, 0⟩), (⟨(some s25), .bin .add (.t s23) (.t s24), (some ((.t s21), true))⟩, ⟨0, 0⟩), (⟨(some s26), .idxS 1 (.t s22) (.t s25), (some ((.t s21), true))⟩, ⟨0, 0⟩), (⟨(some s27), .load1 (.t s26), (some ((.t s21), true))⟩, ⟨0, 0⟩), (⟨(some s28), .mv (.t s0), (some ((.t s21), true))⟩, ⟨0, 0⟩), (⟨(some s29), .mv (.t s3), (some ((.t s21), true))⟩, ⟨0, 0⟩), (⟨(some s30), .mv (.t s9), (some ((.t s21), true))⟩, ⟨0, 0⟩), (⟨(some s31), .bin .add (.t s29) (.t s30), (some ((.t s21), true))⟩, ⟨0, 0⟩), (⟨(some s32), .bin .add (.t s31) (.c (.int .i64 1)), (some ((.t s21), true))⟩, ⟨0, 0⟩), (⟨(some s33), .idxS 1 (.t s28) (.t s32), (some ((.t s21), true))⟩, ⟨0, 0⟩), (⟨(some s34), .load1 (.t s33), (some ((.t s21), true))⟩, ⟨0, 0⟩), (⟨(some s35), .call (.c (.func (.func 138) [] [])) [(.t s27), (.t s34)], (some ((.t s21), true))⟩, ⟨0, 1⟩), (⟨(some s36), .pick (.t s21) (.t s35) (.c (.bool false)), none⟩, ⟨1, 1⟩)] 3)
 (.cond (.t s36) (.reg [⟨none, .mv (.t s9), none⟩, ⟨none, .bin .add (.l 0) (.c (.int .i64 1)), none⟩, ⟨(some s9), .mv (.l 0), none⟩]) .skip))
 (.seq (.seq (.draw [(⟨(some s39), .mv (.t s0), none⟩, ⟨0, 0⟩), (⟨(some s40), .mv (.t s3), none⟩, ⟨0, 0⟩), (⟨(some s41), .mv (.t s8), none⟩, ⟨0, 0⟩), (⟨(some s42), .bin .add (.t s40) (.t s41), none⟩, ⟨0, 0⟩), (⟨(some s43), .idxS 1 (.t s39) (.t s42), none⟩, ⟨0, 0⟩), (⟨(some s44), .load1 (.t s43), none⟩, ⟨0, 0⟩), (⟨(some s45), .mv (.t s0), none⟩, ⟨0, 0⟩), (⟨(some s46), .mv (.t s3), none⟩, ⟨0, 0⟩), (⟨(some s47), .mv (.t s9), none⟩, ⟨0, 0⟩), (⟨(some s48), .bin .add (.t s46) (.t s47), none⟩, ⟨0, 0⟩), (⟨(some s49), .idxS 1 (.t s45) (.t s48), none⟩, ⟨0, 0⟩), (⟨(some s50), .load1 (.t s49), none⟩, ⟨0, 0⟩), (⟨(some s51), .call (.c (.func (.func 138) [] [])) [(.t s44), (.t s50)], none⟩, ⟨0, 1⟩), (⟨(some s52), .un .not (.t s51), none⟩, ⟨1, 1⟩)] 5)
 (.cond (.t s52) .ret .skip))
 (.seq (.draw [(⟨(some s53), .mv (.t s0), none⟩, ⟨0, 0⟩), (⟨(some s54), .mv (.t s3), none⟩, ⟨0, 0⟩), (⟨(some s55), .mv (.t s8), none⟩, ⟨0, 0⟩), (⟨(some s56), .bin .add (.t s54) (.t s55), none⟩, ⟨0, 0⟩), (⟨(some s57), .mv (.t s0), none⟩, ⟨0, 1⟩), (⟨(some s58), .mv (.t s3), none⟩, ⟨0, 1⟩), (⟨(some s59), .mv (.t s9), none⟩, ⟨0, 1⟩), (⟨(some s60), .bin .add (.t s58) (.t s59), none⟩, ⟨0, 1⟩), (⟨(some s61), .mv (.t s0), none⟩, ⟨0, 0⟩), (⟨(some s62), .mv (.t s3), none⟩, ⟨0, 0⟩), (⟨(some s63), .mv (.t s9), none⟩, ⟨0, 0⟩), (⟨(some s64), .bin .add (.t s62) (.t s63), none⟩, ⟨0, 0⟩), (⟨(some s65), .idxS 1 (.t s61) (.t s64), none⟩, ⟨0, 0⟩), (⟨(some s66), .load1 (.t s65), none⟩, ⟨0, 0⟩), (⟨(some s67), .mv (.t s0), none⟩, ⟨0, 0⟩), (⟨(some s68), .mv (.t s3), none⟩, ⟨0, 0⟩), (⟨(some s69), .mv (.t s8), none⟩, ⟨0, 0⟩), (⟨(some s70), .bin .add (.t s68) (.t s69), none⟩, ⟨0, 0⟩), (⟨(some s71), .idxS 1 (.t s67) (.t s70), none⟩, ⟨0, 0⟩), (⟨(some s72), .load1 (.t s71), none⟩, ⟨0, 0⟩), (⟨(some s73), .idxS 1 (.t s53) (.t s56), none⟩, ⟨0, 0⟩), (⟨none, .store1 (.t s73) (.t s66), none⟩, ⟨0, 1⟩), (⟨(some s74), .idxS 1 (.t s57) (.t s60), none⟩, ⟨1, 1⟩), (⟨none, .store1 (.t s74) (.t s72), none⟩, ⟨1, 2⟩)] 6)
 (.reg [⟨none, .mv (.t s9), none⟩, ⟨(some s8), .mv (.l 0), none⟩]))))))))))⟩
/-- slices.nextPowerOfTwo -/
noncomputable def df145 : DFunc := ⟨7, [.tmp s2],
 (.seq (.reg [⟨(some s2), .mv (.c (.int .u64 0)), none⟩])
 (.seq (.reg [⟨none, .mv (.t s0), none⟩, ⟨none, .toInt .u64 (.l 0), none⟩, ⟨none, .call (.c (.func (.func 123) [] [])) [(.l 0)], none⟩, ⟨none, .bin .shl (.c (.int .u64 1)) (.l 0), none⟩, ⟨(some s2), .mv (.l 0), none⟩])
 .ret))⟩
/-- (*slices.xorshift).Next -/
noncomputable def df146 : DFunc := ⟨33, [.tmp s2],
 (.seq (.reg [⟨(some s2), .mv (.c (.int .u64 0)), none⟩])
 (.seq (.draw [(⟨(some s3), .mv (.t s0), none⟩, ⟨0, 0⟩), (⟨(some s4), .nilc (.t s3), none⟩, ⟨0, 0⟩), (⟨(some s5), .load1 (.t s4), none⟩, ⟨0, 0⟩), (⟨(some s6), .mv (.t s0), none⟩, ⟨0, 0⟩), (⟨(some s7), .nilc (.t s6), none⟩, ⟨0, 0⟩), (⟨(some s8), .load1 (.t s7), none⟩, ⟨0, 0⟩), (⟨(some s9), .bin .shl (.t s8) (.c (.int .u64 13)), none⟩, ⟨0, 0⟩), (⟨(some s10), .bin .xor (.t s5) (.t s9), none⟩, ⟨0, 0⟩), (⟨(some s11), .nilc (.t s3), none⟩, ⟨0, 0⟩), (⟨none, .store1 (.t s11) (.t s10), none⟩, ⟨0, 1⟩)] 1)
 (.seq (.draw [(⟨(some s12), .mv (.t s0), none⟩, ⟨0, 0⟩), (⟨(some s13), .nilc (.t s12), none⟩, ⟨0, 0⟩), (⟨(some s14), .load1 (.t s13), none⟩, ⟨0, 0⟩), (⟨(some s15), .mv (.t s0), none⟩, ⟨0, 0⟩), (⟨(some s16), .nilc (.t s15), none⟩, ⟨0, 0⟩), (⟨(some s17), .load1 (.t s16), none⟩, ⟨0, 0⟩), (⟨(some s18), .bin .shr (.t s17) (.c (.int .u64 7)), none⟩, ⟨0, 0⟩), (⟨(some s19), .bin .xor (.t s14) (.t s18), none⟩, ⟨0, 0⟩), (⟨(some s20), .nilc (.t s12), none⟩, ⟨0, 0⟩), (⟨none, .store1 (.t s20) (.t s19), none⟩, ⟨0, 1⟩)] 2)
 (.seq (.draw [(⟨(some s21), .mv (.t s0), none⟩, ⟨0, 0⟩), (⟨(some s22), .nilc (.t s21), none⟩, ⟨0, 0⟩), (⟨(some s23), .load1 (.t s22), none⟩, ⟨0, 0⟩), (⟨(some s24), .mv (.t s0), none⟩, ⟨0, 0⟩), (⟨(some s25), .nilc (.t s24), none⟩, ⟨0, 0⟩), (⟨(some s26), .load1 (.t s25), none⟩, ⟨0, 0⟩), (⟨(some s27), .bin .shl (.t s26) (.c (.int .u64 17)), none⟩, ⟨0, 0⟩), (⟨(some s28), .bin .xor (.t s23) (.t s27), none⟩, ⟨0, 0⟩), (⟨(some s29), .nilc (.t s21), none⟩, ⟨0, 0⟩), (⟨none, .store1 (.t s29) (.t s28), none⟩, ⟨0, 1⟩)] 3)
 (.seq (.reg [⟨none, .mv (.t s0), none⟩, ⟨none, .nilc (.l 0), none⟩, ⟨none, .load1 (.l 0), none⟩, ⟨(some s2), .mv (.l 0), none⟩])
 .ret)))))⟩
/-- slices.medianAdjacentOrdered[int] -/
noncomputable def df147 : DFunc := ⟨15, [.tmp s6],
 (.seq (.reg [⟨(some s6), .mv (.c (.int .i64 0)), none⟩])
 (.seq (.reg [⟨none, .mv (.t s0), none⟩, ⟨none, .mv (.t s1), none⟩, ⟨none, .bin .sub (.l 0) (.c (.int .i64 1)), none⟩, ⟨none, .mv (.t s1), none⟩, ⟨none, .mv (.t s1), none⟩, ⟨none, .bin .add (.l 0) (.c (.int .i64 1)), none⟩, ⟨none, .mv (.t s2), none⟩, ⟨none, .call (.c (.func (.func 148) [] [])) [(.l 6), (.l 4), (.l 3), (.l 1), (.l 0)], none⟩, ⟨(some s6), .mv (.l 0), none⟩])
 .ret))⟩
/-- slices.medianOrdered[int] -/
noncomputable def df148 : DFunc := ⟨36, [.tmp s10],
 (.seq (.reg [⟨(some s10), .mv (.c (.int .i64 0)), none⟩])
 (.seq (.reg [⟨none, .mv (.t s0), none⟩, ⟨none, .mv (.t s1), none⟩, ⟨none, .mv (.t s2), none⟩, ⟨none, .mv (.t s4), none⟩, ⟨none, .call (.c (.func (.func 151) [] [])) [(.l 3), (.l 2), (.l 1), (.l 0)], none⟩, ⟨none, .mv (.l 0), none⟩, ⟨none, .ext 0 (.l 0), none⟩, ⟨none, .ext 1 (.l 1), none⟩, ⟨(some s1), .mv (.l 1), none⟩, ⟨(some s2), .mv (.l 1), none⟩])
 (.seq (.reg [⟨none, .mv (.t s0), none⟩, ⟨none, .mv (.t s2), none⟩, ⟨none, .mv (.t s3), none⟩, ⟨none, .mv (.t s4), none⟩, ⟨none, .call (.c (.func (.func 151) [] [])) [(.l 3), (.l 2), (.l 1), (.l 0)], none⟩, ⟨none, .mv (.l 0), none⟩, ⟨none, .ext 0 (.l 0), none⟩, ⟨none, .ext 1 (.l 1), none⟩, ⟨(some s2), .mv (.l 1), none⟩, ⟨(some s3), .mv (.l 1), none⟩])
 (.seq (.reg [⟨none, .mv (.t s0), none⟩, ⟨none, .mv (.t s1), none⟩, ⟨none, .mv (.t s2), none⟩, ⟨none, .mv (.t s4), none⟩, ⟨none, .call (.c (.func (.func 151) [] [])) [(.l 3), (.l 2), (.l 1), (.l 0)], none⟩, ⟨none, .mv (.l 0), none⟩, ⟨none, .ext 0 (.l 0), none⟩, ⟨none, .ext 1 (.l 1), none⟩, ⟨(some s1), .mv (.l 1), none⟩, ⟨(some s2), .mv (.l 1), none⟩])
 (.seq (.reg [⟨none, .mv (.t s2), none⟩, ⟨(some s10), .mv (.l 0), none⟩])
 .ret)))))⟩
/-- cmp.isNaN[int] -/
noncomputable def df149 : DFunc := ⟨6, [.tmp s2],
 (.seq (.reg [⟨(some s2), .mv (.c (.bool false)), none⟩])
 (.seq (.reg [⟨none, .mv (.t s0), none⟩, ⟨none, .mv (.t s0), none⟩, ⟨none, .bin .neq (.l 1) (.l 0), none⟩, ⟨(some s2), .mv (.l 0), none⟩])
 .ret))⟩
/-- internal/stringslite.IndexByte -/
noncomputable def df150 : DFunc := ⟨8, [.tmp s4],
 (.seq (.reg [⟨(some s4), .mv (.c (.int .i64 0)), none⟩])
 (.seq (.reg [⟨none, .mv (.t s0), none⟩, ⟨none, .mv (.t s1), none⟩, ⟨none, .call (.c (.func (.func 152) [] [])) [(.l 1), (.l 0)], none⟩, ⟨(some s4), .mv (.l 0), none⟩])
 .ret))⟩
/-- slices.order2Ordered[int] -/
noncomputable def df151 : DFunc := ⟨28, [.tmp s8, .tmp s9],
 (.seq (.reg [⟨(some s8), .mv (.c (.int .i64 0)), none⟩, ⟨(some s9), .mv (.c (.int .i64 0)), none⟩])
 (.seq (.seq (.draw [(⟨(some s10), .mv (.t s0), none⟩, ⟨0, 0⟩), (⟨(some s11), .mv (.t s2), none⟩, ⟨0, 0⟩), (⟨(some s12), .idxS 1 (.t s10) (.t s11), none⟩, ⟨0, 0⟩), (⟨(some s13), .load1 (.t s12), none⟩, ⟨0, 0⟩), (⟨(some s14), .mv (.t s0), none⟩, ⟨0, 0⟩), (⟨(some s15), .mv (.t s1), none⟩, ⟨0, 0⟩), (⟨(some s16), .idxS 1 (.t s14) (.t s15), none⟩, ⟨0, 0⟩), (⟨(some s17), .load1 (.t s16), none⟩, ⟨0, 0⟩), (⟨(some s18), .call (.c (.func (.func 138) [] [])) [(.t s13), (.t s17)], none⟩, ⟨0, 1⟩)] 1)
 (.cond (.t s18) (.seq (.reg [⟨none, .mv (.t s3), none⟩, ⟨none, .nilc (.l 0), none⟩, ⟨none, .load1 (.l 0), none⟩, ⟨none, .bin .add (.l 0) (.c (.int .i64 1)), none⟩, ⟨none, .nilc (.l 3), none⟩, ⟨none, .store1 (.l 0) (.l 1), none⟩])
 (.seq (.reg [⟨none, .mv (.t s2), none⟩, ⟨none, .mv (.t s1), none⟩, ⟨(some s8), .mv (.l 1), none⟩, ⟨(some s9), .mv (.l 1), none⟩])
 .ret)) .skip))
 (.seq (.reg [⟨none, .mv (.t s1), none⟩, ⟨none, .mv (.t s2), none⟩, ⟨(some s8), .mv (.l 1), none⟩, ⟨(some s9), .mv (.l 1), none⟩])
 .ret)))⟩
end Go.Proofs.YtbmcloahjiimeaaGreatDoor.Dm
