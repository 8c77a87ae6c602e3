/- The functions of this seat, as the evaluator takes them. What the functions of names and darts come to. What the functions of rings come to. Vertices, edges, darts that are gone: what is found there. What the reference's functions of rings come to. -/
import Derived.Test.YtonhkmpjpnjkfaaChecked
import Derived.Eval
import Derived.Test.YtonhkmpjpnjkfaaSxG4
import Derived.Test.YtonhkmpjpnjkfaaSxG5
set_option maxRecDepth 100000
set_option linter.unusedSimpArgs false
set_option linter.unusedVariables false
namespace Go.Proofs.Ytonhkmpjpnjkfaa.Sx
open Go

/-- tracery/tracerylaw07.EulerBounds -/
def f3 : IFn := ⟨.seq (.region [⟨.box 1 (.t 0) 2, none⟩, ⟨.mv 2 (.c (.v (.bool false))), none⟩] ⟨[1], [(1, 1)]⟩) (.seq (.region [⟨.call 9 (.fn 10) [], none⟩, ⟨.mv 3 (.t 9), none⟩] ⟨[1, 3], [(1, 1)]⟩) (.seq (.region [⟨.load 10 (.t 1) 2 true, none⟩, ⟨.call 11 (.fn 11) [(.t 10)], none⟩, ⟨.store (.t 1) (.t 11) 2, none⟩] ⟨[1, 3], [(1, 1), (1704, 10064), (1705, 10065)]⟩) (.seq (.seq (.region [⟨.load 12 (.t 1) 2 true, none⟩, ⟨.call 13 (.fn 12) [(.t 12)], none⟩, ⟨.bin 14 false .neq (.t 13) (.c (.v (.int .i64 0))), none⟩] ⟨[1, 3, 14], [(1, 1), (10064, 10064), (10065, 10065)]⟩) (.cond (.t 14) (.seq (.region [⟨.mv 15 (.t 3), none⟩, ⟨.mv 2 (.t 15), none⟩] ⟨[2], []⟩) (.ret)) (.skip))) (.seq (.region [⟨.load 17 (.t 1) 2 true, none⟩, ⟨.call 18 (.fn 13) [(.t 17)], none⟩, ⟨.mv 16 (.t 18), none⟩, ⟨.ext 19 (.t 16) 0, none⟩, ⟨.ext 20 (.t 16) 1, none⟩, ⟨.ext 21 (.t 16) 2, none⟩, ⟨.ext 22 (.t 16) 3, none⟩, ⟨.mv 4 (.t 19), none⟩, ⟨.mv 5 (.t 20), none⟩, ⟨.mv 6 (.t 21), none⟩, ⟨.mv 7 (.t 22), none⟩] ⟨[1, 3, 4, 5, 6, 7], [(1, 1), (10064, 10064), (10065, 10065)]⟩) (.seq (.region [⟨.load 23 (.t 1) 2 true, none⟩, ⟨.call 24 (.fn 14) [(.t 23)], none⟩, ⟨.mv 8 (.t 24), none⟩] ⟨[1, 3, 4, 5, 6, 7, 8], [(1, 1), (10064, 10064), (10065, 10065)]⟩) (.seq (.region [⟨.mv 25 (.t 3), none⟩, ⟨.mv 26 (.t 25), none⟩, ⟨.mv 27 (.t 8), some (26, true)⟩, ⟨.bin 28 false .geq (.t 27) (.c (.v (.int .i64 0))), some (26, true)⟩, ⟨.pick 29 (.t 26) (.t 28) (.c (.v (.bool false))), none⟩, ⟨.mv 30 (.t 29), none⟩, ⟨.mv 31 (.t 8), some (30, true)⟩, ⟨.bin 32 false .mul (.c (.v (.int .i64 2))) (.t 31), some (30, true)⟩, ⟨.faddr 33 (.t 1) 1, some (30, true)⟩, ⟨.load 34 (.t 33) 1 false, some (30, true)⟩, ⟨.len 35 false (.t 34), some (30, true)⟩, ⟨.bin 36 false .leq (.t 32) (.t 35), some (30, true)⟩, ⟨.pick 37 (.t 30) (.t 36) (.c (.v (.bool false))), none⟩, ⟨.mv 38 (.t 37), none⟩, ⟨.mv 39 (.t 4), some (38, true)⟩, ⟨.mv 40 (.t 5), some (38, true)⟩, ⟨.bin 41 false .sub (.t 39) (.t 40), some (38, true)⟩, ⟨.mv 42 (.t 6), some (38, true)⟩, ⟨.bin 43 false .add (.t 41) (.t 42), some (38, true)⟩, ⟨.mv 44 (.t 7), some (38, true)⟩, ⟨.bin 45 false .mul (.c (.v (.int .i64 2))) (.t 44), some (38, true)⟩, ⟨.mv 46 (.t 8), some (38, true)⟩, ⟨.bin 47 false .mul (.c (.v (.int .i64 2))) (.t 46), some (38, true)⟩, ⟨.bin 48 false .sub (.t 45) (.t 47), some (38, true)⟩, ⟨.bin 49 false .eql (.t 43) (.t 48), some (38, true)⟩, ⟨.pick 50 (.t 38) (.t 49) (.c (.v (.bool false))), none⟩, ⟨.mv 51 (.t 50), none⟩, ⟨.load 52 (.t 1) 2 true, some (51, true)⟩, ⟨.call 53 (.fn 15) [(.t 52)], some (51, true)⟩, ⟨.mv 54 (.t 8), some (51, true)⟩, ⟨.bin 55 false .eql (.t 54) (.c (.v (.int .i64 0))), some (51, true)⟩, ⟨.bin 56 true .eql (.t 53) (.t 55), some (51, true)⟩, ⟨.pick 57 (.t 51) (.t 56) (.c (.v (.bool false))), none⟩, ⟨.mv 58 (.t 57), none⟩, ⟨.mv 59 (.t 5), some (58, true)⟩, ⟨.bin 60 false .gtr (.t 59) (.c (.v (.int .i64 0))), some (58, true)⟩, ⟨.mv 61 (.t 60), some (58, true)⟩, ⟨.mv 62 (.t 8), some (61, false)⟩, ⟨.bin 63 false .eql (.t 62) (.c (.v (.int .i64 0))), some (61, false)⟩, ⟨.pick 64 (.t 61) (.c (.v (.bool true))) (.t 63), some (58, true)⟩, ⟨.pick 65 (.t 58) (.t 64) (.c (.v (.bool false))), none⟩, ⟨.mv 2 (.t 65), none⟩] ⟨[2], []⟩) (.ret))))))), [.tmp 2]⟩
theorem f3_chk : chk Try.prog 3 [(0, ⟨[1], [(1, 1)]⟩), (1, ⟨[1, 3], [(1, 1)]⟩), (2, ⟨[1, 3], [(1, 1), (1704, 10064), (1705, 10065)]⟩), (3, ⟨[1, 3, 14], [(1, 1), (10064, 10064), (10065, 10065)]⟩), (4, ⟨[2], []⟩), (5, ⟨[1, 3, 4, 5, 6, 7], [(1, 1), (10064, 10064), (10065, 10065)]⟩), (6, ⟨[1, 3, 4, 5, 6, 7, 8], [(1, 1), (10064, 10064), (10065, 10065)]⟩), (7, ⟨[2], []⟩)] [] = some f3 := by kernel_rfl
/-- slots [3, 4, 5, 7, 8, 10, 12, 15, 16]; objects [3, 4, 5, 8, 10, 12, 15, 10192, 10193, 10960, 10961] -/
def f5_b1 : ICode := .seq (.seq (.region [⟨.mv 79 (.t 16), none⟩, ⟨.faddr 80 (.t 15) 0, none⟩, ⟨.load 81 (.t 80) 1 false, none⟩, ⟨.len 82 false (.t 81), none⟩, ⟨.bin 83 false .lss (.t 79) (.t 82), none⟩] ⟨[3, 4, 5, 7, 8, 10, 12, 15, 16, 83], [(3, 3), (4, 4), (5, 5), (8, 8), (10, 10), (12, 12), (15, 15), (10192, 10192), (10193, 10193), (10960, 10960), (10961, 10961)]⟩) (.cond (.t 83) (.skip) (.seq (.gc ⟨[3, 4, 5, 7, 8, 10, 12, 15], [(3, 3), (4, 4), (5, 5), (8, 8), (10, 10), (12, 12), (15, 15), (10192, 10192), (10193, 10193), (10960, 10960), (10961, 10961)]⟩) (.exit 0)))) (.seq (.block 1 (.seq (.draw [⟨.faddr 86 (.t 15) 0, none⟩, ⟨.load 87 (.t 86) 1 false, none⟩, ⟨.mv 88 (.t 16), none⟩, ⟨.iaddr 89 (.t 87) (.t 88) 5, none⟩, ⟨.faddr 90 (.t 89) 0, none⟩, ⟨.load 91 (.t 90) 2 true, none⟩, ⟨.load 92 (.t 8) 2 true, none⟩, ⟨.eqs 93 false [.i, .i] (.t 91) (.t 92), none⟩] [0, 1, 0, 7, 15, 31, 0, 127] ⟨[3, 4, 5, 7, 8, 10, 12, 15, 16, 93], [(3, 3), (4, 4), (5, 5), (8, 8), (10, 10), (12, 12), (15, 15), (10192, 10192), (10193, 10193), (10960, 10960), (10961, 10961)]⟩) (.cond (.t 93) (.draw [⟨.faddr 94 (.t 15) 0, none⟩, ⟨.load 95 (.t 94) 1 false, none⟩, ⟨.mv 96 (.t 16), none⟩, ⟨.faddr 97 (.t 15) 0, none⟩, ⟨.load 98 (.t 97) 1 false, none⟩, ⟨.mv 99 (.t 16), none⟩, ⟨.iaddr 100 (.t 98) (.t 99) 5, none⟩, ⟨.faddr 101 (.t 100) 2, none⟩, ⟨.load 102 (.t 101) 1 false, none⟩, ⟨.load 103 (.t 4) 3 true, none⟩, ⟨.load 104 (.t 12) 2 true, none⟩, ⟨.build 105 [(.v (.int .i64 0)), (.v (.int .i64 0)), (.v (.int .i64 0))] [(0, 2, (.t 104))], none⟩, ⟨.call 106 (.fn 20) [(.t 102), (.t 103), (.t 105)], none⟩, ⟨.iaddr 107 (.t 95) (.t 96) 5, none⟩, ⟨.faddr 108 (.t 107) 2, none⟩, ⟨.store (.t 108) (.t 106) 1, none⟩] [0, 1, 0, 0, 8, 0, 56, 120, 248, 0, 0, 1024, 4088, 8191, 16383, 32767] ⟨[3, 4, 5, 7, 8, 10, 12, 15, 16], [(3, 3), (4, 4), (5, 5), (8, 8), (10, 10), (12, 12), (15, 15), (10192, 10192), (10193, 10193), (10960, 10960), (10961, 10961)]⟩) (.skip)))) (.region [⟨.mv 84 (.t 16), none⟩, ⟨.bin 85 false .add (.t 84) (.c (.v (.int .i64 1))), none⟩, ⟨.mv 16 (.t 85), none⟩] ⟨[3, 4, 5, 7, 8, 10, 12, 15, 16], [(3, 3), (4, 4), (5, 5), (8, 8), (10, 10), (12, 12), (15, 15), (10192, 10192), (10193, 10193), (10960, 10960), (10961, 10961)]⟩))
def f5_l1 : ICode := .loop f5_b1
theorem f5_l1_eq (C : Cs) (lo : Nat) (st : St) : E C lo f5_l1 st = seqK (E C lo f5_l1) (E C lo f5_b1 st) := E_loop C lo f5_b1 st
/-- slots [3, 4, 5, 7, 8, 10, 12, 15, 17]; objects [3, 4, 5, 8, 10, 12, 15, 10192, 10193, 10960, 10961] -/
def f5_b2 : ICode := .seq (.seq (.region [⟨.mv 109 (.t 17), none⟩, ⟨.faddr 110 (.t 15) 0, none⟩, ⟨.load 111 (.t 110) 1 false, none⟩, ⟨.len 112 false (.t 111), none⟩, ⟨.bin 113 false .lss (.t 109) (.t 112), none⟩] ⟨[3, 4, 5, 7, 8, 10, 12, 15, 17, 113], [(3, 3), (4, 4), (5, 5), (8, 8), (10, 10), (12, 12), (15, 15), (10192, 10192), (10193, 10193), (10960, 10960), (10961, 10961)]⟩) (.cond (.t 113) (.skip) (.seq (.gc ⟨[3, 4, 5, 7, 8, 10, 15], [(3, 3), (4, 4), (5, 5), (8, 8), (10, 10), (15, 15), (10192, 10192), (10193, 10193), (10960, 10960), (10961, 10961)]⟩) (.exit 2)))) (.seq (.block 3 (.seq (.draw [⟨.faddr 116 (.t 15) 0, none⟩, ⟨.load 117 (.t 116) 1 false, none⟩, ⟨.mv 118 (.t 17), none⟩, ⟨.iaddr 119 (.t 117) (.t 118) 5, none⟩, ⟨.faddr 120 (.t 119) 0, none⟩, ⟨.load 121 (.t 120) 2 true, none⟩, ⟨.load 122 (.t 10) 2 true, none⟩, ⟨.eqs 123 false [.i, .i] (.t 121) (.t 122), none⟩] [0, 1, 0, 7, 15, 31, 0, 127] ⟨[3, 4, 5, 7, 8, 10, 12, 15, 17, 123], [(3, 3), (4, 4), (5, 5), (8, 8), (10, 10), (12, 12), (15, 15), (10192, 10192), (10193, 10193), (10960, 10960), (10961, 10961)]⟩) (.cond (.t 123) (.draw [⟨.faddr 124 (.t 15) 0, none⟩, ⟨.load 125 (.t 124) 1 false, none⟩, ⟨.mv 126 (.t 17), none⟩, ⟨.faddr 127 (.t 15) 0, none⟩, ⟨.load 128 (.t 127) 1 false, none⟩, ⟨.mv 129 (.t 17), none⟩, ⟨.iaddr 130 (.t 128) (.t 129) 5, none⟩, ⟨.faddr 131 (.t 130) 2, none⟩, ⟨.load 132 (.t 131) 1 false, none⟩, ⟨.load 133 (.t 5) 3 true, none⟩, ⟨.load 134 (.t 12) 2 true, none⟩, ⟨.build 135 [(.v (.int .i64 0)), (.v (.int .i64 0)), (.v (.int .i64 0))] [(0, 2, (.t 134)), (2, 1, (.c (.v (.int .i64 1))))], none⟩, ⟨.call 136 (.fn 20) [(.t 132), (.t 133), (.t 135)], none⟩, ⟨.iaddr 137 (.t 125) (.t 126) 5, none⟩, ⟨.faddr 138 (.t 137) 2, none⟩, ⟨.store (.t 138) (.t 136) 1, none⟩] [0, 1, 0, 0, 8, 0, 56, 120, 248, 0, 0, 1024, 4088, 8191, 16383, 32767] ⟨[3, 4, 5, 7, 8, 10, 12, 15, 17], [(3, 3), (4, 4), (5, 5), (8, 8), (10, 10), (12, 12), (15, 15), (10192, 10192), (10193, 10193), (10960, 10960), (10961, 10961)]⟩) (.skip)))) (.region [⟨.mv 114 (.t 17), none⟩, ⟨.bin 115 false .add (.t 114) (.c (.v (.int .i64 1))), none⟩, ⟨.mv 17 (.t 115), none⟩] ⟨[3, 4, 5, 7, 8, 10, 12, 15, 17], [(3, 3), (4, 4), (5, 5), (8, 8), (10, 10), (12, 12), (15, 15), (10192, 10192), (10193, 10193), (10960, 10960), (10961, 10961)]⟩))
def f5_l2 : ICode := .loop f5_b2
theorem f5_l2_eq (C : Cs) (lo : Nat) (st : St) : E C lo f5_l2 st = seqK (E C lo f5_l2) (E C lo f5_b2 st) := E_loop C lo f5_b2 st
/-- tracery/tracerylaw07.EulerEdge -/
def f5 : IFn := ⟨.seq (.region [⟨.box 3 (.t 0) 2, none⟩, ⟨.box 4 (.t 1) 3, none⟩, ⟨.box 5 (.t 2) 3, none⟩, ⟨.mv 6 (.c (.v (.bool false))), none⟩] ⟨[3, 4, 5], [(3, 3), (4, 4), (5, 5)]⟩) (.seq (.region [⟨.call 22 (.fn 10) [], none⟩, ⟨.mv 7 (.t 22), none⟩] ⟨[3, 4, 5, 7], [(3, 3), (4, 4), (5, 5)]⟩) (.seq (.region [⟨.load 23 (.t 3) 2 true, none⟩, ⟨.call 24 (.fn 11) [(.t 23)], none⟩, ⟨.store (.t 3) (.t 24) 2, none⟩] ⟨[3, 4, 5, 7], [(3, 3), (4, 4), (5, 5), (2536, 10192), (2537, 10193)]⟩) (.seq (.region [⟨.load 26 (.t 3) 2 true, none⟩, ⟨.load 27 (.t 4) 3 true, none⟩, ⟨.call 28 (.fn 17) [(.t 26), (.t 27)], none⟩, ⟨.mv 25 (.t 28), none⟩, ⟨.ext 29 (.t 25) 0, none⟩, ⟨.ext 30 (.t 25) 1, none⟩, ⟨.alloc 8 [(.v (.int .i64 0)), (.v (.int .i64 0))], none⟩, ⟨.store (.t 8) (.t 29) 2, none⟩, ⟨.mv 9 (.t 30), none⟩] ⟨[3, 4, 5, 7, 8, 9], [(3, 3), (4, 4), (5, 5), (8, 8), (10192, 10192), (10193, 10193)]⟩) (.seq (.region [⟨.load 32 (.t 3) 2 true, none⟩, ⟨.load 33 (.t 5) 3 true, none⟩, ⟨.call 34 (.fn 17) [(.t 32), (.t 33)], none⟩, ⟨.mv 31 (.t 34), none⟩, ⟨.ext 35 (.t 31) 0, none⟩, ⟨.ext 36 (.t 31) 1, none⟩, ⟨.alloc 10 [(.v (.int .i64 0)), (.v (.int .i64 0))], none⟩, ⟨.store (.t 10) (.t 35) 2, none⟩, ⟨.mv 11 (.t 36), none⟩] ⟨[3, 4, 5, 7, 8, 9, 10, 11], [(3, 3), (4, 4), (5, 5), (8, 8), (10, 10), (10192, 10192), (10193, 10193)]⟩) (.seq (.region [⟨.build 37 [(.v (.int .i64 0)), (.v (.int .i64 0))] [(0, 1, (.c (.v (.int .i64 8)))), (1, 1, (.c (.v (.int .i64 1048576))))], none⟩, ⟨.alloc 12 [(.v (.int .i64 0)), (.v (.int .i64 0))], none⟩, ⟨.store (.t 12) (.t 37) 2, none⟩] ⟨[3, 4, 5, 7, 8, 9, 10, 11, 12], [(3, 3), (4, 4), (5, 5), (8, 8), (10, 10), (12, 12), (10192, 10192), (10193, 10193)]⟩) (.seq (.region [⟨.load 39 (.t 3) 2 true, none⟩, ⟨.load 40 (.t 12) 2 true, none⟩, ⟨.call 41 (.fn 18) [(.t 39), (.t 40)], none⟩, ⟨.mv 38 (.t 41), none⟩, ⟨.ext 42 (.t 38) 0, none⟩, ⟨.ext 43 (.t 38) 1, none⟩, ⟨.alloc 13 [(.v (.int .i64 0)), (.v (.int .i64 0)), (.v (.str ⟨#[]⟩)), (.v (.int .i64 0))], none⟩, ⟨.store (.t 13) (.t 42) 4, none⟩, ⟨.mv 14 (.t 43), none⟩] ⟨[3, 4, 5, 7, 8, 9, 10, 11, 12, 14], [(3, 3), (4, 4), (5, 5), (8, 8), (10, 10), (12, 12), (10192, 10192), (10193, 10193)]⟩) (.seq (.seq (.region [⟨.load 44 (.t 3) 2 true, none⟩, ⟨.call 45 (.fn 12) [(.t 44)], none⟩, ⟨.bin 46 false .neq (.t 45) (.c (.v (.int .i64 0))), none⟩, ⟨.mv 47 (.t 46), none⟩, ⟨.mv 48 (.t 9), some (47, false)⟩, ⟨.un 49 .not (.t 48), some (47, false)⟩, ⟨.pick 50 (.t 47) (.c (.v (.bool true))) (.t 49), none⟩, ⟨.mv 51 (.t 50), none⟩, ⟨.mv 52 (.t 11), some (51, false)⟩, ⟨.un 53 .not (.t 52), some (51, false)⟩, ⟨.pick 54 (.t 51) (.c (.v (.bool true))) (.t 53), none⟩, ⟨.mv 55 (.t 54), none⟩, ⟨.mv 56 (.t 14), some (55, false)⟩, ⟨.pick 57 (.t 55) (.c (.v (.bool true))) (.t 56), none⟩, ⟨.mv 58 (.t 57), none⟩, ⟨.faddr 59 (.t 3) 1, some (58, false)⟩, ⟨.load 60 (.t 59) 1 false, some (58, false)⟩, ⟨.len 61 false (.t 60), some (58, false)⟩, ⟨.bin 62 false .geq (.t 61) (.c (.v (.int .i64 40))), some (58, false)⟩, ⟨.pick 63 (.t 58) (.c (.v (.bool true))) (.t 62), none⟩, ⟨.mv 64 (.t 63), none⟩, ⟨.load 65 (.t 4) 3 true, some (64, false)⟩, ⟨.load 66 (.t 5) 3 true, some (64, false)⟩, ⟨.eqs 67 false [.i, .i, .i] (.t 65) (.t 66), some (64, false)⟩, ⟨.pick 68 (.t 64) (.c (.v (.bool true))) (.t 67), none⟩] ⟨[3, 4, 5, 7, 8, 10, 12, 68], [(3, 3), (4, 4), (5, 5), (8, 8), (10, 10), (12, 12), (10192, 10192), (10193, 10193)]⟩) (.cond (.t 68) (.seq (.region [⟨.mv 69 (.t 7), none⟩, ⟨.mv 6 (.t 69), none⟩] ⟨[6], []⟩) (.ret)) (.skip))) (.seq (.region [⟨.load 70 (.t 3) 2 true, none⟩, ⟨.call 71 (.fn 19) [(.t 70)], none⟩, ⟨.alloc 15 [(.v (.sl (.tight 42) 5 [])), (.v (.sl (.tight 37) 4 []))], none⟩, ⟨.store (.t 15) (.t 71) 2, none⟩] ⟨[3, 4, 5, 7, 8, 10, 12, 15], [(3, 3), (4, 4), (5, 5), (8, 8), (10, 10), (12, 12), (15, 15), (10192, 10192), (10193, 10193), (5544, 10960), (5545, 10961)]⟩) (.seq (.region [⟨.faddr 72 (.t 15) 1, none⟩, ⟨.load 73 (.t 72) 1 false, none⟩, ⟨.load 74 (.t 12) 2 true, none⟩, ⟨.build 75 [(.v (.int .i64 0)), (.v (.int .i64 0)), (.v (.str ⟨#[]⟩)), (.v (.int .i64 0))] [(0, 2, (.t 74))], none⟩, ⟨.bslice 76 37 4 [(.t 75)], none⟩, ⟨.append 77 (.t 73) (.t 76) 37 4 40, none⟩, ⟨.faddr 78 (.t 15) 1, none⟩, ⟨.store (.t 78) (.t 77) 1, none⟩] ⟨[3, 4, 5, 7, 8, 10, 12, 15], [(3, 3), (4, 4), (5, 5), (8, 8), (10, 10), (12, 12), (15, 15), (10192, 10192), (10193, 10193), (10960, 10960), (77, 10961)]⟩) (.seq (.seq (.region [⟨.mv 16 (.c (.v (.int .i64 0))), none⟩] ⟨[3, 4, 5, 7, 8, 10, 12, 15, 16], [(3, 3), (4, 4), (5, 5), (8, 8), (10, 10), (12, 12), (15, 15), (10192, 10192), (10193, 10193), (10960, 10960), (10961, 10961)]⟩) (.block 0 (f5_l1))) (.seq (.seq (.region [⟨.mv 17 (.c (.v (.int .i64 0))), none⟩] ⟨[3, 4, 5, 7, 8, 10, 12, 15, 17], [(3, 3), (4, 4), (5, 5), (8, 8), (10, 10), (12, 12), (15, 15), (10192, 10192), (10193, 10193), (10960, 10960), (10961, 10961)]⟩) (.block 2 (f5_l2))) (.seq (.draw [⟨.load 139 (.t 3) 2 true, none⟩, ⟨.load 140 (.t 4) 3 true, none⟩, ⟨.call 141 (.fn 22) [(.t 140)], none⟩, ⟨.call 142 (.fn 21) [(.t 139), (.t 141)], none⟩, ⟨.mv 18 (.t 142), none⟩] [0, 0, 2, 7, 15] ⟨[3, 5, 7, 8, 10, 15, 18], [(3, 3), (5, 5), (8, 8), (10, 10), (15, 15), (10088, 18), (10192, 10192), (10193, 10193), (10960, 10960), (10961, 10961)]⟩) (.seq (.region [⟨.mv 143 (.t 18), none⟩, ⟨.load 144 (.t 5) 3 true, none⟩, ⟨.call 145 (.fn 22) [(.t 144)], none⟩, ⟨.call 146 (.fn 23) [(.t 143), (.t 145)], none⟩, ⟨.bin 147 false .geq (.t 146) (.c (.v (.int .i64 0))), none⟩, ⟨.mv 19 (.t 147), none⟩] ⟨[3, 7, 8, 10, 15, 19], [(3, 3), (8, 8), (10, 10), (15, 15), (10192, 10192), (10193, 10193), (10960, 10960), (10961, 10961)]⟩) (.seq (.region [⟨.load 148 (.t 3) 2 true, none⟩, ⟨.load 149 (.t 8) 2 true, none⟩, ⟨.load 150 (.t 10) 2 true, none⟩, ⟨.call 151 (.fn 24) [(.t 148), (.t 149), (.t 150)], none⟩, ⟨.mv 20 (.t 151), none⟩] ⟨[3, 7, 15, 19, 20], [(3, 3), (15, 15), (10192, 10192), (10193, 10193), (10960, 10960), (10961, 10961)]⟩) (.seq (.region [⟨.load 152 (.t 3) 2 true, none⟩, ⟨.call 153 (.fn 14) [(.t 152)], none⟩, ⟨.mv 21 (.t 153), none⟩] ⟨[7, 15, 19, 20, 21], [(15, 15), (10960, 10960), (10961, 10961)]⟩) (.seq (.seq (.region [⟨.mv 154 (.t 19), none⟩, ⟨.un 155 .not (.t 154), none⟩, ⟨.mv 156 (.t 155), none⟩, ⟨.mv 157 (.t 20), some (156, true)⟩, ⟨.pick 158 (.t 156) (.t 157) (.c (.v (.bool false))), none⟩] ⟨[7, 15, 21, 158], [(15, 15), (10960, 10960), (10961, 10961)]⟩) (.cond (.t 158) (.region [⟨.mv 159 (.t 21), none⟩, ⟨.bin 160 false .add (.t 159) (.c (.v (.int .i64 1))), none⟩, ⟨.mv 21 (.t 160), none⟩] ⟨[7, 15, 21], [(15, 15), (10960, 10960), (10961, 10961)]⟩) (.skip))) (.seq (.region [⟨.mv 161 (.t 7), none⟩, ⟨.mv 162 (.t 161), none⟩, ⟨.load 163 (.t 15) 2 true, some (162, true)⟩, ⟨.call 164 (.fn 14) [(.t 163)], some (162, true)⟩, ⟨.mv 165 (.t 21), some (162, true)⟩, ⟨.bin 166 false .eql (.t 164) (.t 165), some (162, true)⟩, ⟨.pick 167 (.t 162) (.t 166) (.c (.v (.bool false))), none⟩, ⟨.mv 6 (.t 167), none⟩] ⟨[6], []⟩) (.ret)))))))))))))))))), [.tmp 6]⟩
theorem f5_chk : chk Try.prog 5 [(0, ⟨[3, 4, 5], [(3, 3), (4, 4), (5, 5)]⟩), (1, ⟨[3, 4, 5, 7], [(3, 3), (4, 4), (5, 5)]⟩), (2, ⟨[3, 4, 5, 7], [(3, 3), (4, 4), (5, 5), (2536, 10192), (2537, 10193)]⟩), (3, ⟨[3, 4, 5, 7, 8, 9], [(3, 3), (4, 4), (5, 5), (8, 8), (10192, 10192), (10193, 10193)]⟩), (4, ⟨[3, 4, 5, 7, 8, 9, 10, 11], [(3, 3), (4, 4), (5, 5), (8, 8), (10, 10), (10192, 10192), (10193, 10193)]⟩), (5, ⟨[3, 4, 5, 7, 8, 9, 10, 11, 12], [(3, 3), (4, 4), (5, 5), (8, 8), (10, 10), (12, 12), (10192, 10192), (10193, 10193)]⟩), (6, ⟨[3, 4, 5, 7, 8, 9, 10, 11, 12, 14], [(3, 3), (4, 4), (5, 5), (8, 8), (10, 10), (12, 12), (10192, 10192), (10193, 10193)]⟩), (7, ⟨[3, 4, 5, 7, 8, 10, 12, 68], [(3, 3), (4, 4), (5, 5), (8, 8), (10, 10), (12, 12), (10192, 10192), (10193, 10193)]⟩), (8, ⟨[6], []⟩), (9, ⟨[3, 4, 5, 7, 8, 10, 12, 15], [(3, 3), (4, 4), (5, 5), (8, 8), (10, 10), (12, 12), (15, 15), (10192, 10192), (10193, 10193), (5544, 10960), (5545, 10961)]⟩), (10, ⟨[3, 4, 5, 7, 8, 10, 12, 15], [(3, 3), (4, 4), (5, 5), (8, 8), (10, 10), (12, 12), (15, 15), (10192, 10192), (10193, 10193), (10960, 10960), (77, 10961)]⟩), (11, ⟨[3, 4, 5, 7, 8, 10, 12, 15, 16], [(3, 3), (4, 4), (5, 5), (8, 8), (10, 10), (12, 12), (15, 15), (10192, 10192), (10193, 10193), (10960, 10960), (10961, 10961)]⟩), (12, ⟨[3, 4, 5, 7, 8, 10, 12, 15, 16, 83], [(3, 3), (4, 4), (5, 5), (8, 8), (10, 10), (12, 12), (15, 15), (10192, 10192), (10193, 10193), (10960, 10960), (10961, 10961)]⟩), (13, ⟨[3, 4, 5, 7, 8, 10, 12, 15, 16], [(3, 3), (4, 4), (5, 5), (8, 8), (10, 10), (12, 12), (15, 15), (10192, 10192), (10193, 10193), (10960, 10960), (10961, 10961)]⟩), (14, ⟨[3, 4, 5, 7, 8, 10, 12, 15, 16, 93], [(3, 3), (4, 4), (5, 5), (8, 8), (10, 10), (12, 12), (15, 15), (10192, 10192), (10193, 10193), (10960, 10960), (10961, 10961)]⟩), (15, ⟨[3, 4, 5, 7, 8, 10, 12, 15, 16], [(3, 3), (4, 4), (5, 5), (8, 8), (10, 10), (12, 12), (15, 15), (10192, 10192), (10193, 10193), (10960, 10960), (10961, 10961)]⟩), (16, ⟨[3, 4, 5, 7, 8, 10, 12, 15, 17], [(3, 3), (4, 4), (5, 5), (8, 8), (10, 10), (12, 12), (15, 15), (10192, 10192), (10193, 10193), (10960, 10960), (10961, 10961)]⟩), (17, ⟨[3, 4, 5, 7, 8, 10, 12, 15, 17, 113], [(3, 3), (4, 4), (5, 5), (8, 8), (10, 10), (12, 12), (15, 15), (10192, 10192), (10193, 10193), (10960, 10960), (10961, 10961)]⟩), (18, ⟨[3, 4, 5, 7, 8, 10, 12, 15, 17], [(3, 3), (4, 4), (5, 5), (8, 8), (10, 10), (12, 12), (15, 15), (10192, 10192), (10193, 10193), (10960, 10960), (10961, 10961)]⟩), (19, ⟨[3, 4, 5, 7, 8, 10, 12, 15, 17, 123], [(3, 3), (4, 4), (5, 5), (8, 8), (10, 10), (12, 12), (15, 15), (10192, 10192), (10193, 10193), (10960, 10960), (10961, 10961)]⟩), (20, ⟨[3, 4, 5, 7, 8, 10, 12, 15, 17], [(3, 3), (4, 4), (5, 5), (8, 8), (10, 10), (12, 12), (15, 15), (10192, 10192), (10193, 10193), (10960, 10960), (10961, 10961)]⟩), (21, ⟨[3, 5, 7, 8, 10, 15, 18], [(3, 3), (5, 5), (8, 8), (10, 10), (15, 15), (10088, 18), (10192, 10192), (10193, 10193), (10960, 10960), (10961, 10961)]⟩), (22, ⟨[3, 7, 8, 10, 15, 19], [(3, 3), (8, 8), (10, 10), (15, 15), (10192, 10192), (10193, 10193), (10960, 10960), (10961, 10961)]⟩), (23, ⟨[3, 7, 15, 19, 20], [(3, 3), (15, 15), (10192, 10192), (10193, 10193), (10960, 10960), (10961, 10961)]⟩), (24, ⟨[7, 15, 19, 20, 21], [(15, 15), (10960, 10960), (10961, 10961)]⟩), (25, ⟨[7, 15, 21, 158], [(15, 15), (10960, 10960), (10961, 10961)]⟩), (26, ⟨[7, 15, 21], [(15, 15), (10960, 10960), (10961, 10961)]⟩), (27, ⟨[6], []⟩)] [(0, ⟨[3, 4, 5, 7, 8, 10, 12, 15], [(3, 3), (4, 4), (5, 5), (8, 8), (10, 10), (12, 12), (15, 15), (10192, 10192), (10193, 10193), (10960, 10960), (10961, 10961)]⟩), (1, ⟨[3, 4, 5, 7, 8, 10, 12, 15, 16], []⟩), (2, ⟨[3, 4, 5, 7, 8, 10, 15], [(3, 3), (4, 4), (5, 5), (8, 8), (10, 10), (15, 15), (10192, 10192), (10193, 10193), (10960, 10960), (10961, 10961)]⟩), (3, ⟨[3, 4, 5, 7, 8, 10, 12, 15, 17], []⟩)] = some f5 := by kernel_rfl
/-- tracery/tracerylaw07.shown -/
def f10 : IFn := ⟨.seq (.region [⟨.mv 0 (.c (.v (.bool false))), none⟩] ⟨[], []⟩) (.seq (.region [⟨.call 1 (.fn 31) [(.c (.v (.int .i64 2))), (.c (.v (.int .i64 0)))], none⟩, ⟨.call 2 (.fn 31) [(.c (.v (.int .i64 2))), (.c (.v (.int .i64 1)))], none⟩, ⟨.call 3 (.fn 31) [(.c (.v (.int .i64 3))), (.c (.v (.int .i64 0)))], none⟩, ⟨.call 4 (.fn 31) [(.c (.v (.int .i64 3))), (.c (.v (.int .i64 1)))], none⟩, ⟨.call 5 (.fn 30) [(.t 1), (.t 2), (.t 3), (.t 4)], none⟩, ⟨.call 6 (.fn 14) [(.t 5)], none⟩, ⟨.bin 7 false .eql (.t 6) (.c (.v (.int .i64 0))), none⟩, ⟨.mv 8 (.t 7), none⟩, ⟨.call 9 (.fn 31) [(.c (.v (.int .i64 2))), (.c (.v (.int .i64 0)))], some (8, true)⟩, ⟨.call 10 (.fn 31) [(.c (.v (.int .i64 3))), (.c (.v (.int .i64 0)))], some (8, true)⟩, ⟨.call 11 (.fn 31) [(.c (.v (.int .i64 2))), (.c (.v (.int .i64 1)))], some (8, true)⟩, ⟨.call 12 (.fn 31) [(.c (.v (.int .i64 3))), (.c (.v (.int .i64 1)))], some (8, true)⟩, ⟨.call 13 (.fn 30) [(.t 9), (.t 10), (.t 11), (.t 12)], some (8, true)⟩, ⟨.call 14 (.fn 14) [(.t 13)], some (8, true)⟩, ⟨.bin 15 false .eql (.t 14) (.c (.v (.int .i64 1))), some (8, true)⟩, ⟨.pick 16 (.t 8) (.t 15) (.c (.v (.bool false))), none⟩, ⟨.mv 17 (.t 16), none⟩, ⟨.build 18 [(.v (.sl (.tight 42) 5 [])), (.v (.sl (.tight 37) 4 []))] [], some (17, true)⟩, ⟨.call 19 (.fn 15) [(.t 18)], some (17, true)⟩, ⟨.pick 20 (.t 17) (.t 19) (.c (.v (.bool false))), none⟩, ⟨.mv 0 (.t 20), none⟩] ⟨[0], []⟩) (.ret)), [.tmp 0]⟩
theorem f10_chk : chk Try.prog 10 [(0, ⟨[], []⟩), (1, ⟨[0], []⟩)] [] = some f10 := by kernel_rfl
/-- slots [1, 2, 3, 4]; objects [1, 2, 3, 10192] -/
def f11_b1 : ICode := .seq (.seq (.region [⟨.mv 8 (.t 4), none⟩, ⟨.faddr 9 (.t 1) 0, none⟩, ⟨.load 10 (.t 9) 1 false, none⟩, ⟨.len 11 false (.t 10), none⟩, ⟨.bin 12 false .lss (.t 8) (.t 11), none⟩, ⟨.mv 13 (.t 12), none⟩, ⟨.mv 14 (.t 4), some (13, true)⟩, ⟨.bin 15 false .lss (.t 14) (.c (.v (.int .i64 26))), some (13, true)⟩, ⟨.pick 16 (.t 13) (.t 15) (.c (.v (.bool false))), none⟩] ⟨[1, 2, 3, 4, 16], [(1, 1), (2, 2), (3, 3), (10192, 10192)]⟩) (.cond (.t 16) (.skip) (.seq (.gc ⟨[1, 2, 3], [(1, 1), (2, 2), (3, 3), (10192, 10192)]⟩) (.exit 0)))) (.seq (.block 1 (.seq (.region [⟨.faddr 19 (.t 1) 0, none⟩, ⟨.load 20 (.t 19) 1 false, none⟩, ⟨.mv 21 (.t 4), none⟩, ⟨.iaddr 22 (.t 20) (.t 21) 5, none⟩, ⟨.load 23 (.t 22) 5 true, none⟩, ⟨.alloc 5 [(.v (.int .i64 0)), (.v (.int .i64 0)), (.v (.sl (.tight 39) 3 [])), (.v (.str ⟨#[]⟩)), (.v (.int .i64 0))], none⟩, ⟨.store (.t 5) (.t 23) 5, none⟩] ⟨[1, 2, 3, 4, 5], [(1, 1), (2, 2), (3, 3), (5, 5), (10192, 10192)]⟩) (.seq (.seq (.region [⟨.faddr 24 (.t 5) 2, none⟩, ⟨.load 25 (.t 24) 1 false, none⟩, ⟨.len 26 false (.t 25), none⟩, ⟨.bin 27 false .gtr (.t 26) (.c (.v (.int .i64 82))), none⟩] ⟨[1, 2, 3, 4, 5, 27], [(1, 1), (2, 2), (3, 3), (5, 5), (10192, 10192)]⟩) (.cond (.t 27) (.region [⟨.faddr 28 (.t 5) 2, none⟩, ⟨.load 29 (.t 28) 1 false, none⟩, ⟨.slice 30 (.t 29) none (some (.c (.v (.int .i64 82)))) none 39 3, none⟩, ⟨.faddr 31 (.t 5) 2, none⟩, ⟨.store (.t 31) (.t 30) 1, none⟩] ⟨[1, 2, 3, 4, 5], [(1, 1), (2, 2), (3, 3), (5, 5), (10192, 10192)]⟩) (.skip))) (.region [⟨.faddr 32 (.t 3) 0, none⟩, ⟨.load 33 (.t 32) 1 false, none⟩, ⟨.load 34 (.t 5) 5 true, none⟩, ⟨.bslice 35 42 5 [(.t 34)], none⟩, ⟨.append 36 (.t 33) (.t 35) 42 5 64, none⟩, ⟨.faddr 37 (.t 3) 0, none⟩, ⟨.store (.t 37) (.t 36) 1, none⟩] ⟨[1, 2, 3, 4], [(1, 1), (2, 2), (3, 3), (36, 10192)]⟩)))) (.region [⟨.mv 17 (.t 4), none⟩, ⟨.bin 18 false .add (.t 17) (.c (.v (.int .i64 1))), none⟩, ⟨.mv 4 (.t 18), none⟩] ⟨[1, 2, 3, 4], [(1, 1), (2, 2), (3, 3), (10192, 10192)]⟩))
def f11_l1 : ICode := .loop f11_b1
theorem f11_l1_eq (C : Cs) (lo : Nat) (st : St) : E C lo f11_l1 st = seqK (E C lo f11_l1) (E C lo f11_b1 st) := E_loop C lo f11_b1 st
/-- slots [1, 2, 3, 6]; objects [1, 2, 3, 10192, 10193] -/
def f11_b2 : ICode := .seq (.seq (.region [⟨.mv 38 (.t 6), none⟩, ⟨.faddr 39 (.t 1) 1, none⟩, ⟨.load 40 (.t 39) 1 false, none⟩, ⟨.len 41 false (.t 40), none⟩, ⟨.bin 42 false .lss (.t 38) (.t 41), none⟩, ⟨.mv 43 (.t 42), none⟩, ⟨.mv 44 (.t 6), some (43, true)⟩, ⟨.bin 45 false .lss (.t 44) (.c (.v (.int .i64 42))), some (43, true)⟩, ⟨.pick 46 (.t 43) (.t 45) (.c (.v (.bool false))), none⟩] ⟨[1, 2, 3, 6, 46], [(1, 1), (2, 2), (3, 3), (10192, 10192), (10193, 10193)]⟩) (.cond (.t 46) (.skip) (.seq (.gc ⟨[2, 3], [(2, 2), (3, 3), (10192, 10192), (10193, 10193)]⟩) (.exit 2)))) (.seq (.block 3 (.draw [⟨.faddr 49 (.t 3) 1, none⟩, ⟨.load 50 (.t 49) 1 false, none⟩, ⟨.faddr 51 (.t 1) 1, none⟩, ⟨.load 52 (.t 51) 1 false, none⟩, ⟨.mv 53 (.t 6), none⟩, ⟨.iaddr 54 (.t 52) (.t 53) 4, none⟩, ⟨.load 55 (.t 54) 4 true, none⟩, ⟨.bslice 56 37 4 [(.t 55)], none⟩, ⟨.append 57 (.t 50) (.t 56) 37 4 40, none⟩, ⟨.faddr 58 (.t 3) 1, none⟩, ⟨.store (.t 58) (.t 57) 1, none⟩] [0, 1, 0, 4, 0, 28, 60, 124, 255, 511, 1023] ⟨[1, 2, 3, 6], [(1, 1), (2, 2), (3, 3), (10192, 10192), (57, 10193)]⟩)) (.region [⟨.mv 47 (.t 6), none⟩, ⟨.bin 48 false .add (.t 47) (.c (.v (.int .i64 1))), none⟩, ⟨.mv 6 (.t 48), none⟩] ⟨[1, 2, 3, 6], [(1, 1), (2, 2), (3, 3), (10192, 10192), (10193, 10193)]⟩))
def f11_l2 : ICode := .loop f11_b2
theorem f11_l2_eq (C : Cs) (lo : Nat) (st : St) : E C lo f11_l2 st = seqK (E C lo f11_l2) (E C lo f11_b2 st) := E_loop C lo f11_b2 st
/-- tracery/tracerylaw07.few -/
def f11 : IFn := ⟨.seq (.region [⟨.box 1 (.t 0) 2, none⟩, ⟨.alloc 2 [(.v (.sl (.tight 42) 5 [])), (.v (.sl (.tight 37) 4 []))], none⟩] ⟨[1, 2], [(1, 1), (2, 2)]⟩) (.seq (.region [⟨.build 7 [(.v (.sl (.tight 42) 5 [])), (.v (.sl (.tight 37) 4 []))] [], none⟩, ⟨.alloc 3 [(.v (.sl (.tight 42) 5 [])), (.v (.sl (.tight 37) 4 []))], none⟩, ⟨.store (.t 3) (.t 7) 2, none⟩] ⟨[1, 2, 3], [(1, 1), (2, 2), (3, 3)]⟩) (.seq (.seq (.region [⟨.mv 4 (.c (.v (.int .i64 0))), none⟩] ⟨[1, 2, 3, 4], [(1, 1), (2, 2), (3, 3)]⟩) (.block 0 (f11_l1))) (.seq (.seq (.region [⟨.mv 6 (.c (.v (.int .i64 0))), none⟩] ⟨[1, 2, 3, 6], [(1, 1), (2, 2), (3, 3), (10192, 10192)]⟩) (.block 2 (f11_l2))) (.seq (.region [⟨.load 59 (.t 3) 2 true, none⟩, ⟨.store (.t 2) (.t 59) 2, none⟩] ⟨[2], [(2, 2), (10192, 10128), (10193, 10129)]⟩) (.ret))))), [.cell 2 2 true]⟩
theorem f11_chk : chk Try.prog 11 [(0, ⟨[1, 2], [(1, 1), (2, 2)]⟩), (1, ⟨[1, 2, 3], [(1, 1), (2, 2), (3, 3)]⟩), (2, ⟨[1, 2, 3, 4], [(1, 1), (2, 2), (3, 3)]⟩), (3, ⟨[1, 2, 3, 4, 16], [(1, 1), (2, 2), (3, 3), (10192, 10192)]⟩), (4, ⟨[1, 2, 3, 4], [(1, 1), (2, 2), (3, 3), (10192, 10192)]⟩), (5, ⟨[1, 2, 3, 4, 5], [(1, 1), (2, 2), (3, 3), (5, 5), (10192, 10192)]⟩), (6, ⟨[1, 2, 3, 4, 5, 27], [(1, 1), (2, 2), (3, 3), (5, 5), (10192, 10192)]⟩), (7, ⟨[1, 2, 3, 4, 5], [(1, 1), (2, 2), (3, 3), (5, 5), (10192, 10192)]⟩), (8, ⟨[1, 2, 3, 4], [(1, 1), (2, 2), (3, 3), (36, 10192)]⟩), (9, ⟨[1, 2, 3, 6], [(1, 1), (2, 2), (3, 3), (10192, 10192)]⟩), (10, ⟨[1, 2, 3, 6, 46], [(1, 1), (2, 2), (3, 3), (10192, 10192), (10193, 10193)]⟩), (11, ⟨[1, 2, 3, 6], [(1, 1), (2, 2), (3, 3), (10192, 10192), (10193, 10193)]⟩), (12, ⟨[1, 2, 3, 6], [(1, 1), (2, 2), (3, 3), (10192, 10192), (57, 10193)]⟩), (13, ⟨[2], [(2, 2), (10192, 10128), (10193, 10129)]⟩)] [(0, ⟨[1, 2, 3], [(1, 1), (2, 2), (3, 3), (10192, 10192)]⟩), (1, ⟨[1, 2, 3, 4], []⟩), (2, ⟨[2, 3], [(2, 2), (3, 3), (10192, 10192), (10193, 10193)]⟩), (3, ⟨[1, 2, 3, 6], []⟩)] = some f11 := by kernel_rfl
/-- slots [1, 4, 7, 8, 9]; objects [1] -/
def f12_b1 : ICode := .seq (.seq (.region [⟨.mv 45 (.t 9), none⟩, ⟨.mv 46 (.t 4), none⟩, ⟨.bin 47 false .lss (.t 45) (.t 46), none⟩] ⟨[1, 4, 7, 8, 9, 47], [(1, 1)]⟩) (.cond (.t 47) (.skip) (.seq (.gc ⟨[1, 7, 8], [(1, 1)]⟩) (.exit 0)))) (.seq (.block 1 (.seq (.region [⟨.mv 50 (.t 7), none⟩, ⟨.mv 51 (.t 50), none⟩, ⟨.faddr 52 (.t 1) 0, some (51, true)⟩, ⟨.load 53 (.t 52) 1 false, some (51, true)⟩, ⟨.mv 54 (.t 9), some (51, true)⟩, ⟨.iaddr 55 (.t 53) (.t 54) 5, some (51, true)⟩, ⟨.faddr 56 (.t 55) 3, some (51, true)⟩, ⟨.load 57 (.t 56) 1 false, some (51, true)⟩, ⟨.call 58 (.fn 35) [(.t 57)], some (51, true)⟩, ⟨.pick 59 (.t 51) (.t 58) (.c (.v (.bool false))), none⟩, ⟨.mv 7 (.t 59), none⟩] ⟨[1, 4, 7, 8, 9], [(1, 1)]⟩) (.region [⟨.mv 60 (.t 8), none⟩, ⟨.mv 61 (.t 60), none⟩, ⟨.faddr 62 (.t 1) 0, some (61, true)⟩, ⟨.load 63 (.t 62) 1 false, some (61, true)⟩, ⟨.mv 64 (.t 9), some (61, true)⟩, ⟨.iaddr 65 (.t 63) (.t 64) 5, some (61, true)⟩, ⟨.faddr 66 (.t 65) 4, some (61, true)⟩, ⟨.load 67 (.t 66) 1 false, some (61, true)⟩, ⟨.call 68 (.fn 36) [(.t 67)], some (61, true)⟩, ⟨.pick 69 (.t 61) (.t 68) (.c (.v (.bool false))), none⟩, ⟨.mv 8 (.t 69), none⟩] ⟨[1, 4, 7, 8, 9], [(1, 1)]⟩))) (.region [⟨.mv 48 (.t 9), none⟩, ⟨.bin 49 false .add (.t 48) (.c (.v (.int .i64 1))), none⟩, ⟨.mv 9 (.t 49), none⟩] ⟨[1, 4, 7, 8, 9], [(1, 1)]⟩))
def f12_l1 : ICode := .loop f12_b1
theorem f12_l1_eq (C : Cs) (lo : Nat) (st : St) : E C lo f12_l1 st = seqK (E C lo f12_l1) (E C lo f12_b1 st) := E_loop C lo f12_b1 st
/-- slots [1, 7, 8, 10]; objects [1] -/
def f12_b2 : ICode := .seq (.seq (.region [⟨.mv 70 (.t 10), none⟩, ⟨.faddr 71 (.t 1) 1, none⟩, ⟨.load 72 (.t 71) 1 false, none⟩, ⟨.len 73 false (.t 72), none⟩, ⟨.bin 74 false .lss (.t 70) (.t 73), none⟩] ⟨[1, 7, 8, 10, 74], [(1, 1)]⟩) (.cond (.t 74) (.skip) (.seq (.gc ⟨[7, 8], []⟩) (.exit 2)))) (.seq (.block 3 (.seq (.region [⟨.mv 77 (.t 7), none⟩, ⟨.mv 78 (.t 77), none⟩, ⟨.faddr 79 (.t 1) 1, some (78, true)⟩, ⟨.load 80 (.t 79) 1 false, some (78, true)⟩, ⟨.mv 81 (.t 10), some (78, true)⟩, ⟨.iaddr 82 (.t 80) (.t 81) 4, some (78, true)⟩, ⟨.faddr 83 (.t 82) 2, some (78, true)⟩, ⟨.load 84 (.t 83) 1 false, some (78, true)⟩, ⟨.call 85 (.fn 35) [(.t 84)], some (78, true)⟩, ⟨.pick 86 (.t 78) (.t 85) (.c (.v (.bool false))), none⟩, ⟨.mv 7 (.t 86), none⟩] ⟨[1, 7, 8, 10], [(1, 1)]⟩) (.region [⟨.mv 87 (.t 8), none⟩, ⟨.mv 88 (.t 87), none⟩, ⟨.faddr 89 (.t 1) 1, some (88, true)⟩, ⟨.load 90 (.t 89) 1 false, some (88, true)⟩, ⟨.mv 91 (.t 10), some (88, true)⟩, ⟨.iaddr 92 (.t 90) (.t 91) 4, some (88, true)⟩, ⟨.faddr 93 (.t 92) 3, some (88, true)⟩, ⟨.load 94 (.t 93) 1 false, some (88, true)⟩, ⟨.call 95 (.fn 36) [(.t 94)], some (88, true)⟩, ⟨.pick 96 (.t 88) (.t 95) (.c (.v (.bool false))), none⟩, ⟨.mv 8 (.t 96), none⟩] ⟨[1, 7, 8, 10], [(1, 1)]⟩))) (.region [⟨.mv 75 (.t 10), none⟩, ⟨.bin 76 false .add (.t 75) (.c (.v (.int .i64 1))), none⟩, ⟨.mv 10 (.t 76), none⟩] ⟨[1, 7, 8, 10], [(1, 1)]⟩))
def f12_l2 : ICode := .loop f12_b2
theorem f12_l2_eq (C : Cs) (lo : Nat) (st : St) : E C lo f12_l2 st = seqK (E C lo f12_l2) (E C lo f12_b2 st) := E_loop C lo f12_b2 st
/-- tracery/traceryref04.Form -/
def f12 : IFn := ⟨.seq (.region [⟨.box 1 (.t 0) 2, none⟩, ⟨.mv 2 (.c (.v (.int .i64 0))), none⟩] ⟨[1], [(1, 1)]⟩) (.seq (.seq (.region [⟨.faddr 11 (.t 1) 0, none⟩, ⟨.load 12 (.t 11) 1 false, none⟩, ⟨.len 13 false (.t 12), none⟩, ⟨.bin 14 false .gtr (.t 13) (.c (.v (.int .i64 24))), none⟩, ⟨.mv 15 (.t 14), none⟩, ⟨.faddr 16 (.t 1) 1, some (15, false)⟩, ⟨.load 17 (.t 16) 1 false, some (15, false)⟩, ⟨.len 18 false (.t 17), some (15, false)⟩, ⟨.bin 19 false .gtr (.t 18) (.c (.v (.int .i64 40))), some (15, false)⟩, ⟨.pick 20 (.t 15) (.c (.v (.bool true))) (.t 19), none⟩] ⟨[1, 20], [(1, 1)]⟩) (.cond (.t 20) (.seq (.region [⟨.mv 2 (.c (.v (.int .i64 3))), none⟩] ⟨[2], []⟩) (.ret)) (.skip))) (.seq (.region [⟨.load 21 (.t 1) 2 true, none⟩, ⟨.call 22 (.fn 32) [(.t 21)], none⟩, ⟨.mv 3 (.t 22), none⟩] ⟨[1, 3], [(1, 1), (2408, 3)]⟩) (.seq (.region [⟨.faddr 23 (.t 1) 0, none⟩, ⟨.load 24 (.t 23) 1 false, none⟩, ⟨.len 25 false (.t 24), none⟩, ⟨.mv 4 (.t 25), none⟩] ⟨[1, 3, 4], [(1, 1), (3, 3)]⟩) (.seq (.region [⟨.mv 26 (.t 3), none⟩, ⟨.mv 27 (.t 4), none⟩, ⟨.slice 28 (.t 26) none (some (.t 27)) none 35 2, none⟩, ⟨.call 29 (.fn 33) [(.t 28)], none⟩, ⟨.mv 5 (.t 29), none⟩] ⟨[1, 3, 4, 5], [(1, 1), (3, 3)]⟩) (.seq (.region [⟨.mv 30 (.t 3), none⟩, ⟨.mv 31 (.t 4), none⟩, ⟨.slice 32 (.t 30) (some (.t 31)) none none 35 2, none⟩, ⟨.call 33 (.fn 33) [(.t 32)], none⟩, ⟨.mv 6 (.t 33), none⟩] ⟨[1, 4, 5, 6], [(1, 1)]⟩) (.seq (.seq (.region [⟨.mv 34 (.t 5), none⟩, ⟨.un 35 .not (.t 34), none⟩, ⟨.mv 36 (.t 35), none⟩, ⟨.mv 37 (.t 6), some (36, false)⟩, ⟨.un 38 .not (.t 37), some (36, false)⟩, ⟨.pick 39 (.t 36) (.c (.v (.bool true))) (.t 38), none⟩, ⟨.mv 40 (.t 39), none⟩, ⟨.load 41 (.t 1) 2 true, some (40, false)⟩, ⟨.call 42 (.fn 34) [(.t 41)], some (40, false)⟩, ⟨.un 43 .not (.t 42), some (40, false)⟩, ⟨.pick 44 (.t 40) (.c (.v (.bool true))) (.t 43), none⟩] ⟨[1, 4, 44], [(1, 1)]⟩) (.cond (.t 44) (.seq (.region [⟨.mv 2 (.c (.v (.int .i64 10))), none⟩] ⟨[2], []⟩) (.ret)) (.skip))) (.seq (.region [⟨.mv 7 (.c (.v (.bool true))), none⟩] ⟨[1, 4, 7], [(1, 1)]⟩) (.seq (.region [⟨.mv 8 (.c (.v (.bool true))), none⟩] ⟨[1, 4, 7, 8], [(1, 1)]⟩) (.seq (.seq (.region [⟨.mv 9 (.c (.v (.int .i64 0))), none⟩] ⟨[1, 4, 7, 8, 9], [(1, 1)]⟩) (.block 0 (f12_l1))) (.seq (.seq (.region [⟨.mv 10 (.c (.v (.int .i64 0))), none⟩] ⟨[1, 7, 8, 10], [(1, 1)]⟩) (.block 2 (f12_l2))) (.seq (.seq (.region [⟨.mv 97 (.t 7), none⟩, ⟨.un 98 .not (.t 97), none⟩] ⟨[8, 98], []⟩) (.cond (.t 98) (.seq (.region [⟨.mv 2 (.c (.v (.int .i64 4))), none⟩] ⟨[2], []⟩) (.ret)) (.skip))) (.seq (.seq (.region [⟨.mv 99 (.t 8), none⟩, ⟨.un 100 .not (.t 99), none⟩] ⟨[100], []⟩) (.cond (.t 100) (.seq (.region [⟨.mv 2 (.c (.v (.int .i64 1))), none⟩] ⟨[2], []⟩) (.ret)) (.skip))) (.seq (.region [⟨.mv 2 (.c (.v (.int .i64 0))), none⟩] ⟨[2], []⟩) (.ret)))))))))))))), [.tmp 2]⟩
theorem f12_chk : chk Try.prog 12 [(0, ⟨[1], [(1, 1)]⟩), (1, ⟨[1, 20], [(1, 1)]⟩), (2, ⟨[2], []⟩), (3, ⟨[1, 3], [(1, 1), (2408, 3)]⟩), (4, ⟨[1, 3, 4], [(1, 1), (3, 3)]⟩), (5, ⟨[1, 3, 4, 5], [(1, 1), (3, 3)]⟩), (6, ⟨[1, 4, 5, 6], [(1, 1)]⟩), (7, ⟨[1, 4, 44], [(1, 1)]⟩), (8, ⟨[2], []⟩), (9, ⟨[1, 4, 7], [(1, 1)]⟩), (10, ⟨[1, 4, 7, 8], [(1, 1)]⟩), (11, ⟨[1, 4, 7, 8, 9], [(1, 1)]⟩), (12, ⟨[1, 4, 7, 8, 9, 47], [(1, 1)]⟩), (13, ⟨[1, 4, 7, 8, 9], [(1, 1)]⟩), (14, ⟨[1, 4, 7, 8, 9], [(1, 1)]⟩), (15, ⟨[1, 4, 7, 8, 9], [(1, 1)]⟩), (16, ⟨[1, 7, 8, 10], [(1, 1)]⟩), (17, ⟨[1, 7, 8, 10, 74], [(1, 1)]⟩), (18, ⟨[1, 7, 8, 10], [(1, 1)]⟩), (19, ⟨[1, 7, 8, 10], [(1, 1)]⟩), (20, ⟨[1, 7, 8, 10], [(1, 1)]⟩), (21, ⟨[8, 98], []⟩), (22, ⟨[2], []⟩), (23, ⟨[100], []⟩), (24, ⟨[2], []⟩), (25, ⟨[2], []⟩)] [(0, ⟨[1, 7, 8], [(1, 1)]⟩), (1, ⟨[1, 4, 7, 8, 9], []⟩), (2, ⟨[7, 8], []⟩), (3, ⟨[1, 7, 8, 10], []⟩)] = some f12 := by kernel_rfl
/-- tracery/euler.Count -/
def f13 : IFn := ⟨.seq (.region [⟨.box 1 (.t 0) 2, none⟩, ⟨.mv 2 (.c (.v (.int .i64 0))), none⟩, ⟨.mv 3 (.c (.v (.int .i64 0))), none⟩, ⟨.mv 4 (.c (.v (.int .i64 0))), none⟩, ⟨.mv 5 (.c (.v (.int .i64 0))), none⟩] ⟨[1], [(1, 1)]⟩) (.seq (.region [⟨.faddr 7 (.t 1) 0, none⟩, ⟨.load 8 (.t 7) 1 false, none⟩, ⟨.call 9 (.fn 37) [(.t 8), (.fn 38)], none⟩, ⟨.mv 6 (.t 9), none⟩] ⟨[1, 6], [(1, 1)]⟩) (.seq (.draw [⟨.faddr 10 (.t 1) 0, none⟩, ⟨.load 11 (.t 10) 1 false, none⟩, ⟨.len 12 false (.t 11), none⟩, ⟨.faddr 13 (.t 1) 1, none⟩, ⟨.load 14 (.t 13) 1 false, none⟩, ⟨.len 15 false (.t 14), none⟩, ⟨.load 16 (.t 1) 2 true, none⟩, ⟨.call 17 (.fn 39) [(.t 16)], none⟩, ⟨.len 18 false (.t 17), none⟩, ⟨.mv 19 (.t 6), none⟩, ⟨.bin 20 false .add (.t 18) (.t 19), none⟩, ⟨.load 21 (.t 1) 2 true, none⟩, ⟨.call 22 (.fn 40) [(.t 21)], none⟩, ⟨.mv 2 (.t 12), none⟩, ⟨.mv 3 (.t 15), none⟩, ⟨.mv 4 (.t 20), none⟩, ⟨.mv 5 (.t 22), none⟩] [0, 1, 3, 0, 8, 24, 0, 64, 192, 0, 960, 0, 2240, 6343, 14591, 32767, 65535] ⟨[2, 3, 4, 5], []⟩) (.ret))), [.tmp 2, .tmp 3, .tmp 4, .tmp 5]⟩
theorem f13_chk : chk Try.prog 13 [(0, ⟨[1], [(1, 1)]⟩), (1, ⟨[1, 6], [(1, 1)]⟩), (2, ⟨[2, 3, 4, 5], []⟩)] [] = some f13 := by kernel_rfl
/-- tracery/euler.Genus -/
def f14 : IFn := ⟨.seq (.region [⟨.box 1 (.t 0) 2, none⟩, ⟨.mv 2 (.c (.v (.int .i64 0))), none⟩] ⟨[1], [(1, 1)]⟩) (.seq (.region [⟨.load 8 (.t 1) 2 true, none⟩, ⟨.call 9 (.fn 13) [(.t 8)], none⟩, ⟨.mv 7 (.t 9), none⟩, ⟨.ext 10 (.t 7) 0, none⟩, ⟨.ext 11 (.t 7) 1, none⟩, ⟨.ext 12 (.t 7) 2, none⟩, ⟨.ext 13 (.t 7) 3, none⟩, ⟨.mv 3 (.t 10), none⟩, ⟨.mv 4 (.t 11), none⟩, ⟨.mv 5 (.t 12), none⟩, ⟨.mv 6 (.t 13), none⟩] ⟨[3, 4, 5, 6], []⟩) (.seq (.region [⟨.mv 14 (.t 6), none⟩, ⟨.mv 15 (.t 3), none⟩, ⟨.mv 16 (.t 4), none⟩, ⟨.bin 17 false .sub (.t 15) (.t 16), none⟩, ⟨.mv 18 (.t 5), none⟩, ⟨.bin 19 false .add (.t 17) (.t 18), none⟩, ⟨.bin 20 false .quo (.t 19) (.c (.v (.int .i64 2))), none⟩, ⟨.bin 21 false .sub (.t 14) (.t 20), none⟩, ⟨.mv 2 (.t 21), none⟩] ⟨[2], []⟩) (.ret))), [.tmp 2]⟩
theorem f14_chk : chk Try.prog 14 [(0, ⟨[1], [(1, 1)]⟩), (1, ⟨[3, 4, 5, 6], []⟩), (2, ⟨[2], []⟩)] [] = some f14 := by kernel_rfl
/-- tracery/euler.Planar -/
def f15 : IFn := ⟨.seq (.region [⟨.box 1 (.t 0) 2, none⟩, ⟨.mv 2 (.c (.v (.bool false))), none⟩] ⟨[1], [(1, 1)]⟩) (.seq (.region [⟨.load 3 (.t 1) 2 true, none⟩, ⟨.call 4 (.fn 14) [(.t 3)], none⟩, ⟨.bin 5 false .eql (.t 4) (.c (.v (.int .i64 0))), none⟩, ⟨.mv 2 (.t 5), none⟩] ⟨[2], []⟩) (.ret)), [.tmp 2]⟩
theorem f15_chk : chk Try.prog 15 [(0, ⟨[1], [(1, 1)]⟩), (1, ⟨[2], []⟩)] [] = some f15 := by kernel_rfl
/-- slots [2, 3, 4, 6]; objects [2, 3, 4] -/
def f17_b1 : ICode := .seq (.seq (.region [⟨.mv 7 (.t 6), none⟩, ⟨.faddr 8 (.t 2) 0, none⟩, ⟨.load 9 (.t 8) 1 false, none⟩, ⟨.len 10 false (.t 9), none⟩, ⟨.bin 11 false .lss (.t 7) (.t 10), none⟩] ⟨[2, 3, 4, 6, 11], [(2, 2), (3, 3), (4, 4)]⟩) (.cond (.t 11) (.skip) (.seq (.gc ⟨[4], [(4, 4)]⟩) (.exit 0)))) (.seq (.block 1 (.seq (.draw [⟨.faddr 14 (.t 2) 0, none⟩, ⟨.load 15 (.t 14) 1 false, none⟩, ⟨.mv 16 (.t 6), none⟩, ⟨.iaddr 17 (.t 15) (.t 16) 5, none⟩, ⟨.faddr 18 (.t 17) 2, none⟩, ⟨.load 19 (.t 18) 1 false, none⟩, ⟨.load 20 (.t 3) 3 true, none⟩, ⟨.call 21 (.fn 23) [(.t 19), (.t 20)], none⟩, ⟨.bin 22 false .geq (.t 21) (.c (.v (.int .i64 0))), none⟩] [0, 1, 0, 7, 15, 31, 0, 127, 255] ⟨[2, 3, 4, 6, 22], [(2, 2), (3, 3), (4, 4)]⟩) (.cond (.t 22) (.seq (.region [⟨.faddr 23 (.t 2) 0, none⟩, ⟨.load 24 (.t 23) 1 false, none⟩, ⟨.mv 25 (.t 6), none⟩, ⟨.iaddr 26 (.t 24) (.t 25) 5, none⟩, ⟨.faddr 27 (.t 26) 0, none⟩, ⟨.load 28 (.t 27) 2 true, none⟩, ⟨.store (.t 4) (.t 28) 2, none⟩, ⟨.mv 5 (.c (.v (.bool true))), none⟩] ⟨[4, 5], [(4, 4)]⟩) (.ret)) (.skip)))) (.region [⟨.mv 12 (.t 6), none⟩, ⟨.bin 13 false .add (.t 12) (.c (.v (.int .i64 1))), none⟩, ⟨.mv 6 (.t 13), none⟩] ⟨[2, 3, 4, 6], [(2, 2), (3, 3), (4, 4)]⟩))
def f17_l1 : ICode := .loop f17_b1
theorem f17_l1_eq (C : Cs) (lo : Nat) (st : St) : E C lo f17_l1 st = seqK (E C lo f17_l1) (E C lo f17_b1 st) := E_loop C lo f17_b1 st
/-- tracery/traceryref04.At -/
def f17 : IFn := ⟨.seq (.region [⟨.box 2 (.t 0) 2, none⟩, ⟨.box 3 (.t 1) 3, none⟩, ⟨.alloc 4 [(.v (.int .i64 0)), (.v (.int .i64 0))], none⟩, ⟨.mv 5 (.c (.v (.bool false))), none⟩] ⟨[2, 3, 4], [(2, 2), (3, 3), (4, 4)]⟩) (.seq (.seq (.region [⟨.mv 6 (.c (.v (.int .i64 0))), none⟩] ⟨[2, 3, 4, 6], [(2, 2), (3, 3), (4, 4)]⟩) (.block 0 (f17_l1))) (.seq (.region [⟨.build 29 [(.v (.int .i64 0)), (.v (.int .i64 0))] [], none⟩, ⟨.store (.t 4) (.t 29) 2, none⟩, ⟨.mv 5 (.c (.v (.bool false))), none⟩] ⟨[4, 5], [(4, 4)]⟩) (.ret))), [.cell 4 2 true, .tmp 5]⟩
theorem f17_chk : chk Try.prog 17 [(0, ⟨[2, 3, 4], [(2, 2), (3, 3), (4, 4)]⟩), (1, ⟨[2, 3, 4, 6], [(2, 2), (3, 3), (4, 4)]⟩), (2, ⟨[2, 3, 4, 6, 11], [(2, 2), (3, 3), (4, 4)]⟩), (3, ⟨[2, 3, 4, 6], [(2, 2), (3, 3), (4, 4)]⟩), (4, ⟨[2, 3, 4, 6, 22], [(2, 2), (3, 3), (4, 4)]⟩), (5, ⟨[4, 5], [(4, 4)]⟩), (6, ⟨[4, 5], [(4, 4)]⟩)] [(0, ⟨[4], [(4, 4)]⟩), (1, ⟨[2, 3, 4, 6], []⟩)] = some f17 := by kernel_rfl
/-- slots [2, 3, 4, 6]; objects [2, 3, 4] -/
def f18_b1 : ICode := .seq (.seq (.region [⟨.mv 7 (.t 6), none⟩, ⟨.faddr 8 (.t 2) 1, none⟩, ⟨.load 9 (.t 8) 1 false, none⟩, ⟨.len 10 false (.t 9), none⟩, ⟨.bin 11 false .lss (.t 7) (.t 10), none⟩] ⟨[2, 3, 4, 6, 11], [(2, 2), (3, 3), (4, 4)]⟩) (.cond (.t 11) (.skip) (.seq (.gc ⟨[4], [(4, 4)]⟩) (.exit 0)))) (.seq (.block 1 (.seq (.draw [⟨.faddr 14 (.t 2) 1, none⟩, ⟨.load 15 (.t 14) 1 false, none⟩, ⟨.mv 16 (.t 6), none⟩, ⟨.iaddr 17 (.t 15) (.t 16) 4, none⟩, ⟨.faddr 18 (.t 17) 0, none⟩, ⟨.load 19 (.t 18) 2 true, none⟩, ⟨.load 20 (.t 3) 2 true, none⟩, ⟨.eqs 21 false [.i, .i] (.t 19) (.t 20), none⟩] [0, 1, 0, 7, 15, 31, 0, 127] ⟨[2, 3, 4, 6, 21], [(2, 2), (3, 3), (4, 4)]⟩) (.cond (.t 21) (.seq (.region [⟨.faddr 22 (.t 2) 1, none⟩, ⟨.load 23 (.t 22) 1 false, none⟩, ⟨.mv 24 (.t 6), none⟩, ⟨.iaddr 25 (.t 23) (.t 24) 4, none⟩, ⟨.load 26 (.t 25) 4 true, none⟩, ⟨.store (.t 4) (.t 26) 4, none⟩, ⟨.mv 5 (.c (.v (.bool true))), none⟩] ⟨[4, 5], [(4, 4)]⟩) (.ret)) (.skip)))) (.region [⟨.mv 12 (.t 6), none⟩, ⟨.bin 13 false .add (.t 12) (.c (.v (.int .i64 1))), none⟩, ⟨.mv 6 (.t 13), none⟩] ⟨[2, 3, 4, 6], [(2, 2), (3, 3), (4, 4)]⟩))
def f18_l1 : ICode := .loop f18_b1
theorem f18_l1_eq (C : Cs) (lo : Nat) (st : St) : E C lo f18_l1 st = seqK (E C lo f18_l1) (E C lo f18_b1 st) := E_loop C lo f18_b1 st
/-- tracery/traceryref04.Edge -/
def f18 : IFn := ⟨.seq (.region [⟨.box 2 (.t 0) 2, none⟩, ⟨.box 3 (.t 1) 2, none⟩, ⟨.alloc 4 [(.v (.int .i64 0)), (.v (.int .i64 0)), (.v (.str ⟨#[]⟩)), (.v (.int .i64 0))], none⟩, ⟨.mv 5 (.c (.v (.bool false))), none⟩] ⟨[2, 3, 4], [(2, 2), (3, 3), (4, 4)]⟩) (.seq (.seq (.region [⟨.mv 6 (.c (.v (.int .i64 0))), none⟩] ⟨[2, 3, 4, 6], [(2, 2), (3, 3), (4, 4)]⟩) (.block 0 (f18_l1))) (.seq (.region [⟨.build 27 [(.v (.int .i64 0)), (.v (.int .i64 0)), (.v (.str ⟨#[]⟩)), (.v (.int .i64 0))] [], none⟩, ⟨.store (.t 4) (.t 27) 4, none⟩, ⟨.mv 5 (.c (.v (.bool false))), none⟩] ⟨[4, 5], [(4, 4)]⟩) (.ret))), [.cell 4 4 true, .tmp 5]⟩
theorem f18_chk : chk Try.prog 18 [(0, ⟨[2, 3, 4], [(2, 2), (3, 3), (4, 4)]⟩), (1, ⟨[2, 3, 4, 6], [(2, 2), (3, 3), (4, 4)]⟩), (2, ⟨[2, 3, 4, 6, 11], [(2, 2), (3, 3), (4, 4)]⟩), (3, ⟨[2, 3, 4, 6], [(2, 2), (3, 3), (4, 4)]⟩), (4, ⟨[2, 3, 4, 6, 21], [(2, 2), (3, 3), (4, 4)]⟩), (5, ⟨[4, 5], [(4, 4)]⟩), (6, ⟨[4, 5], [(4, 4)]⟩)] [(0, ⟨[4], [(4, 4)]⟩), (1, ⟨[2, 3, 4, 6], []⟩)] = some f18 := by kernel_rfl
/-- slots [1, 2, 3, 4]; objects [1, 2, 3, 10192, 10193] -/
def f19_b1 : ICode := .seq (.seq (.region [⟨.mv 11 (.t 4), none⟩, ⟨.faddr 12 (.t 1) 0, none⟩, ⟨.load 13 (.t 12) 1 false, none⟩, ⟨.len 14 false (.t 13), none⟩, ⟨.bin 15 false .lss (.t 11) (.t 14), none⟩] ⟨[1, 2, 3, 4, 15], [(1, 1), (2, 2), (3, 3), (10192, 10192), (10193, 10193)]⟩) (.cond (.t 15) (.skip) (.seq (.gc ⟨[2, 3], [(2, 2), (3, 3), (10192, 10192), (10193, 10193)]⟩) (.exit 0)))) (.seq (.block 1 (.seq (.region [⟨.faddr 18 (.t 1) 0, none⟩, ⟨.load 19 (.t 18) 1 false, none⟩, ⟨.mv 20 (.t 4), none⟩, ⟨.iaddr 21 (.t 19) (.t 20) 5, none⟩, ⟨.load 22 (.t 21) 5 true, none⟩, ⟨.alloc 5 [(.v (.int .i64 0)), (.v (.int .i64 0)), (.v (.sl (.tight 39) 3 [])), (.v (.str ⟨#[]⟩)), (.v (.int .i64 0))], none⟩, ⟨.store (.t 5) (.t 22) 5, none⟩] ⟨[1, 2, 3, 4, 5], [(1, 1), (2, 2), (3, 3), (5, 5), (10192, 10192), (10193, 10193)]⟩) (.seq (.region [⟨.bslice 23 39 3 [], none⟩, ⟨.faddr 24 (.t 5) 2, none⟩, ⟨.load 25 (.t 24) 1 false, none⟩, ⟨.append 26 (.t 23) (.t 25) 39 3 24, none⟩, ⟨.faddr 27 (.t 5) 2, none⟩, ⟨.store (.t 27) (.t 26) 1, none⟩] ⟨[1, 2, 3, 4, 5], [(1, 1), (2, 2), (3, 3), (5, 5), (10192, 10192), (10193, 10193), (26, 10322)]⟩) (.region [⟨.faddr 28 (.t 3) 0, none⟩, ⟨.load 29 (.t 28) 1 false, none⟩, ⟨.load 30 (.t 5) 5 true, none⟩, ⟨.bslice 31 42 5 [(.t 30)], none⟩, ⟨.append 32 (.t 29) (.t 31) 42 5 64, none⟩, ⟨.faddr 33 (.t 3) 0, none⟩, ⟨.store (.t 33) (.t 32) 1, none⟩] ⟨[1, 2, 3, 4], [(1, 1), (2, 2), (3, 3), (32, 10192), (10193, 10193)]⟩)))) (.region [⟨.mv 16 (.t 4), none⟩, ⟨.bin 17 false .add (.t 16) (.c (.v (.int .i64 1))), none⟩, ⟨.mv 4 (.t 17), none⟩] ⟨[1, 2, 3, 4], [(1, 1), (2, 2), (3, 3), (10192, 10192), (10193, 10193)]⟩))
def f19_l1 : ICode := .loop f19_b1
theorem f19_l1_eq (C : Cs) (lo : Nat) (st : St) : E C lo f19_l1 st = seqK (E C lo f19_l1) (E C lo f19_b1 st) := E_loop C lo f19_b1 st
/-- tracery/traceryref04.Clone -/
def f19 : IFn := ⟨.seq (.region [⟨.box 1 (.t 0) 2, none⟩, ⟨.alloc 2 [(.v (.sl (.tight 42) 5 [])), (.v (.sl (.tight 37) 4 []))], none⟩] ⟨[1, 2], [(1, 1), (2, 2)]⟩) (.seq (.region [⟨.bslice 6 37 4 [], none⟩, ⟨.faddr 7 (.t 1) 1, none⟩, ⟨.load 8 (.t 7) 1 false, none⟩, ⟨.append 9 (.t 6) (.t 8) 37 4 40, none⟩, ⟨.build 10 [(.v (.sl (.tight 42) 5 [])), (.v (.sl (.tight 37) 4 []))] [(1, 1, (.t 9))], none⟩, ⟨.alloc 3 [(.v (.sl (.tight 42) 5 [])), (.v (.sl (.tight 37) 4 []))], none⟩, ⟨.store (.t 3) (.t 10) 2, none⟩] ⟨[1, 2, 3], [(1, 1), (2, 2), (3, 3), (9, 10193)]⟩) (.seq (.seq (.region [⟨.mv 4 (.c (.v (.int .i64 0))), none⟩] ⟨[1, 2, 3, 4], [(1, 1), (2, 2), (3, 3), (10193, 10193)]⟩) (.block 0 (f19_l1))) (.seq (.region [⟨.load 34 (.t 3) 2 true, none⟩, ⟨.store (.t 2) (.t 34) 2, none⟩] ⟨[2], [(2, 2), (10192, 10128), (10193, 10129)]⟩) (.ret)))), [.cell 2 2 true]⟩
theorem f19_chk : chk Try.prog 19 [(0, ⟨[1, 2], [(1, 1), (2, 2)]⟩), (1, ⟨[1, 2, 3], [(1, 1), (2, 2), (3, 3), (9, 10193)]⟩), (2, ⟨[1, 2, 3, 4], [(1, 1), (2, 2), (3, 3), (10193, 10193)]⟩), (3, ⟨[1, 2, 3, 4, 15], [(1, 1), (2, 2), (3, 3), (10192, 10192), (10193, 10193)]⟩), (4, ⟨[1, 2, 3, 4], [(1, 1), (2, 2), (3, 3), (10192, 10192), (10193, 10193)]⟩), (5, ⟨[1, 2, 3, 4, 5], [(1, 1), (2, 2), (3, 3), (5, 5), (10192, 10192), (10193, 10193)]⟩), (6, ⟨[1, 2, 3, 4, 5], [(1, 1), (2, 2), (3, 3), (5, 5), (10192, 10192), (10193, 10193), (26, 10322)]⟩), (7, ⟨[1, 2, 3, 4], [(1, 1), (2, 2), (3, 3), (32, 10192), (10193, 10193)]⟩), (8, ⟨[2], [(2, 2), (10192, 10128), (10193, 10129)]⟩)] [(0, ⟨[2, 3], [(2, 2), (3, 3), (10192, 10192), (10193, 10193)]⟩), (1, ⟨[1, 2, 3, 4], []⟩)] = some f19 := by kernel_rfl
/-- slots [0, 5, 7, 8, 9]; objects [5, 8] -/
def f20_b1 : ICode := .seq (.seq (.region [⟨.mv 21 (.t 9), none⟩, ⟨.mv 22 (.t 0), none⟩, ⟨.len 23 false (.t 22), none⟩, ⟨.bin 24 false .lss (.t 21) (.t 23), none⟩] ⟨[0, 5, 7, 8, 9, 24], [(5, 5), (8, 8)]⟩) (.cond (.t 24) (.skip) (.seq (.gc ⟨[0, 5, 8], [(5, 5), (8, 8)]⟩) (.exit 0)))) (.seq (.block 1 (.seq (.region [⟨.mv 27 (.t 8), none⟩, ⟨.mv 28 (.t 0), none⟩, ⟨.mv 29 (.t 9), none⟩, ⟨.iaddr 30 (.t 28) (.t 29) 3, none⟩, ⟨.load 31 (.t 30) 3 true, none⟩, ⟨.bslice 32 39 3 [(.t 31)], none⟩, ⟨.append 33 (.t 27) (.t 32) 39 3 24, none⟩, ⟨.mv 8 (.t 33), none⟩] ⟨[0, 5, 7, 8, 9], [(5, 5), (33, 8)]⟩) (.seq (.region [⟨.mv 34 (.t 9), none⟩, ⟨.mv 35 (.t 7), none⟩, ⟨.bin 36 false .eql (.t 34) (.t 35), none⟩] ⟨[0, 5, 7, 8, 9, 36], [(5, 5), (8, 8)]⟩) (.cond (.t 36) (.region [⟨.mv 37 (.t 8), none⟩, ⟨.load 38 (.t 5) 3 true, none⟩, ⟨.bslice 39 39 3 [(.t 38)], none⟩, ⟨.append 40 (.t 37) (.t 39) 39 3 24, none⟩, ⟨.mv 8 (.t 40), none⟩] ⟨[0, 5, 7, 8, 9], [(5, 5), (40, 8)]⟩) (.skip))))) (.region [⟨.mv 25 (.t 9), none⟩, ⟨.bin 26 false .add (.t 25) (.c (.v (.int .i64 1))), none⟩, ⟨.mv 9 (.t 26), none⟩] ⟨[0, 5, 7, 8, 9], [(5, 5), (8, 8)]⟩))
def f20_l1 : ICode := .loop f20_b1
theorem f20_l1_eq (C : Cs) (lo : Nat) (st : St) : E C lo f20_l1 st = seqK (E C lo f20_l1) (E C lo f20_b1 st) := E_loop C lo f20_b1 st
/-- tracery/traceryref03.Insert -/
def f20 : IFn := ⟨.seq (.region [⟨.box 4 (.t 1) 3, none⟩, ⟨.box 5 (.t 2) 3, none⟩, ⟨.mv 6 (.c (.v (.sl (.tight 39) 3 []))), none⟩] ⟨[0, 4, 5], [(4, 4), (5, 5)]⟩) (.seq (.seq (.region [⟨.mv 10 (.t 0), none⟩, ⟨.load 11 (.t 5) 3 true, none⟩, ⟨.call 12 (.fn 23) [(.t 10), (.t 11)], none⟩, ⟨.bin 13 false .geq (.t 12) (.c (.v (.int .i64 0))), none⟩] ⟨[0, 4, 5, 13], [(4, 4), (5, 5)]⟩) (.cond (.t 13) (.seq (.region [⟨.mv 14 (.t 0), none⟩, ⟨.call 15 (.fn 29) [(.t 14)], none⟩, ⟨.mv 6 (.t 15), none⟩] ⟨[6], [(1960, 6)]⟩) (.ret)) (.skip))) (.seq (.region [⟨.mv 16 (.t 0), none⟩, ⟨.load 17 (.t 4) 3 true, none⟩, ⟨.call 18 (.fn 23) [(.t 16), (.t 17)], none⟩, ⟨.mx 19 [(.c (.v (.int .i64 0))), (.t 18)], none⟩, ⟨.mv 7 (.t 19), none⟩] ⟨[0, 5, 7], [(5, 5)]⟩) (.seq (.region [⟨.bslice 20 39 3 [], none⟩, ⟨.mv 8 (.t 20), none⟩] ⟨[0, 5, 7, 8], [(5, 5), (20, 8)]⟩) (.seq (.seq (.region [⟨.mv 9 (.c (.v (.int .i64 0))), none⟩] ⟨[0, 5, 7, 8, 9], [(5, 5), (8, 8)]⟩) (.block 0 (f20_l1))) (.seq (.seq (.region [⟨.mv 41 (.t 0), none⟩, ⟨.len 42 false (.t 41), none⟩, ⟨.bin 43 false .eql (.t 42) (.c (.v (.int .i64 0))), none⟩] ⟨[5, 8, 43], [(5, 5), (8, 8)]⟩) (.cond (.t 43) (.region [⟨.mv 44 (.t 8), none⟩, ⟨.load 45 (.t 5) 3 true, none⟩, ⟨.bslice 46 39 3 [(.t 45)], none⟩, ⟨.append 47 (.t 44) (.t 46) 39 3 24, none⟩, ⟨.mv 8 (.t 47), none⟩] ⟨[8], [(47, 8)]⟩) (.skip))) (.seq (.region [⟨.mv 48 (.t 8), none⟩, ⟨.call 49 (.fn 29) [(.t 48)], none⟩, ⟨.mv 6 (.t 49), none⟩] ⟨[6], [(4136, 6)]⟩) (.ret))))))), [.tmp 6]⟩
theorem f20_chk : chk Try.prog 20 [(0, ⟨[0, 4, 5], [(4, 4), (5, 5)]⟩), (1, ⟨[0, 4, 5, 13], [(4, 4), (5, 5)]⟩), (2, ⟨[6], [(1960, 6)]⟩), (3, ⟨[0, 5, 7], [(5, 5)]⟩), (4, ⟨[0, 5, 7, 8], [(5, 5), (20, 8)]⟩), (5, ⟨[0, 5, 7, 8, 9], [(5, 5), (8, 8)]⟩), (6, ⟨[0, 5, 7, 8, 9, 24], [(5, 5), (8, 8)]⟩), (7, ⟨[0, 5, 7, 8, 9], [(5, 5), (8, 8)]⟩), (8, ⟨[0, 5, 7, 8, 9], [(5, 5), (33, 8)]⟩), (9, ⟨[0, 5, 7, 8, 9, 36], [(5, 5), (8, 8)]⟩), (10, ⟨[0, 5, 7, 8, 9], [(5, 5), (40, 8)]⟩), (11, ⟨[5, 8, 43], [(5, 5), (8, 8)]⟩), (12, ⟨[8], [(47, 8)]⟩), (13, ⟨[6], [(4136, 6)]⟩)] [(0, ⟨[0, 5, 8], [(5, 5), (8, 8)]⟩), (1, ⟨[0, 5, 7, 8, 9], []⟩)] = some f20 := by kernel_rfl
/-- slots [2, 3, 5, 6]; objects [2, 3, 5, 6] -/
def f21_b1 : ICode := .seq (.seq (.region [⟨.load 22 (.t 6) 3 true, none⟩, ⟨.load 23 (.t 3) 3 true, none⟩, ⟨.eqs 24 true [.i, .i, .i] (.t 22) (.t 23), none⟩, ⟨.mv 25 (.t 24), none⟩, ⟨.mv 26 (.t 5), some (25, true)⟩, ⟨.len 27 false (.t 26), some (25, true)⟩, ⟨.bin 28 false .lss (.t 27) (.c (.v (.int .i64 82))), some (25, true)⟩, ⟨.pick 29 (.t 25) (.t 28) (.c (.v (.bool false))), none⟩] ⟨[2, 3, 5, 6, 29], [(2, 2), (3, 3), (5, 5), (6, 6)]⟩) (.cond (.t 29) (.skip) (.seq (.gc ⟨[5], [(5, 5)]⟩) (.exit 0)))) (.block 1 (.seq (.region [⟨.mv 30 (.t 5), none⟩, ⟨.load 31 (.t 6) 3 true, none⟩, ⟨.bslice 32 39 3 [(.t 31)], none⟩, ⟨.append 33 (.t 30) (.t 32) 39 3 24, none⟩, ⟨.mv 5 (.t 33), none⟩] ⟨[2, 3, 5, 6], [(2, 2), (3, 3), (33, 5), (6, 6)]⟩) (.region [⟨.load 35 (.t 2) 2 true, none⟩, ⟨.load 36 (.t 6) 3 true, none⟩, ⟨.call 37 (.fn 41) [(.t 35), (.t 36)], none⟩, ⟨.mv 34 (.t 37), none⟩, ⟨.ext 38 (.t 34) 0, none⟩, ⟨.ext 39 (.t 34) 1, none⟩, ⟨.store (.t 6) (.t 38) 3, none⟩] ⟨[2, 3, 5, 6], [(2, 2), (3, 3), (5, 5), (6, 6)]⟩)))
def f21_l1 : ICode := .loop f21_b1
theorem f21_l1_eq (C : Cs) (lo : Nat) (st : St) : E C lo f21_l1 st = seqK (E C lo f21_l1) (E C lo f21_b1 st) := E_loop C lo f21_b1 st
/-- tracery/traceryref05.Trace -/
def f21 : IFn := ⟨.seq (.region [⟨.box 2 (.t 0) 2, none⟩, ⟨.box 3 (.t 1) 3, none⟩, ⟨.mv 4 (.c (.v (.sl (.tight 39) 3 []))), none⟩] ⟨[2, 3], [(2, 2), (3, 3)]⟩) (.seq (.region [⟨.bslice 8 39 3 [], none⟩, ⟨.mv 5 (.t 8), none⟩] ⟨[2, 3, 5], [(2, 2), (3, 3), (8, 5)]⟩) (.seq (.region [⟨.load 10 (.t 2) 2 true, none⟩, ⟨.load 11 (.t 3) 3 true, none⟩, ⟨.call 12 (.fn 41) [(.t 10), (.t 11)], none⟩, ⟨.mv 9 (.t 12), none⟩, ⟨.ext 13 (.t 9) 0, none⟩, ⟨.ext 14 (.t 9) 1, none⟩, ⟨.alloc 6 [(.v (.int .i64 0)), (.v (.int .i64 0)), (.v (.int .i64 0))], none⟩, ⟨.store (.t 6) (.t 13) 3, none⟩, ⟨.mv 7 (.t 14), none⟩] ⟨[2, 3, 5, 6, 7], [(2, 2), (3, 3), (5, 5), (6, 6)]⟩) (.seq (.seq (.region [⟨.mv 15 (.t 7), none⟩, ⟨.un 16 .not (.t 15), none⟩] ⟨[2, 3, 5, 6, 16], [(2, 2), (3, 3), (5, 5), (6, 6)]⟩) (.cond (.t 16) (.seq (.region [⟨.mv 17 (.t 5), none⟩, ⟨.mv 4 (.t 17), none⟩] ⟨[4], [(5, 4)]⟩) (.ret)) (.skip))) (.seq (.region [⟨.mv 18 (.t 5), none⟩, ⟨.load 19 (.t 3) 3 true, none⟩, ⟨.bslice 20 39 3 [(.t 19)], none⟩, ⟨.append 21 (.t 18) (.t 20) 39 3 24, none⟩, ⟨.mv 5 (.t 21), none⟩] ⟨[2, 3, 5, 6], [(2, 2), (3, 3), (21, 5), (6, 6)]⟩) (.seq (.block 0 (f21_l1)) (.seq (.region [⟨.mv 40 (.t 5), none⟩, ⟨.mv 4 (.t 40), none⟩] ⟨[4], [(5, 4)]⟩) (.ret))))))), [.tmp 4]⟩
theorem f21_chk : chk Try.prog 21 [(0, ⟨[2, 3], [(2, 2), (3, 3)]⟩), (1, ⟨[2, 3, 5], [(2, 2), (3, 3), (8, 5)]⟩), (2, ⟨[2, 3, 5, 6, 7], [(2, 2), (3, 3), (5, 5), (6, 6)]⟩), (3, ⟨[2, 3, 5, 6, 16], [(2, 2), (3, 3), (5, 5), (6, 6)]⟩), (4, ⟨[4], [(5, 4)]⟩), (5, ⟨[2, 3, 5, 6], [(2, 2), (3, 3), (21, 5), (6, 6)]⟩), (6, ⟨[2, 3, 5, 6, 29], [(2, 2), (3, 3), (5, 5), (6, 6)]⟩), (7, ⟨[2, 3, 5, 6], [(2, 2), (3, 3), (33, 5), (6, 6)]⟩), (8, ⟨[2, 3, 5, 6], [(2, 2), (3, 3), (5, 5), (6, 6)]⟩), (9, ⟨[4], [(5, 4)]⟩)] [(0, ⟨[5], [(5, 5)]⟩), (1, ⟨[2, 3, 5, 6], []⟩)] = some f21 := by kernel_rfl
/-- tracery/traceryref01.Other -/
def f22 : IFn := ⟨.seq (.region [⟨.box 1 (.t 0) 3, none⟩, ⟨.alloc 2 [(.v (.int .i64 0)), (.v (.int .i64 0)), (.v (.int .i64 0))], none⟩] ⟨[1, 2], [(1, 1), (2, 2)]⟩) (.seq (.region [⟨.faddr 3 (.t 1) 0, none⟩, ⟨.load 4 (.t 3) 2 true, none⟩, ⟨.faddr 5 (.t 1) 2, none⟩, ⟨.load 6 (.t 5) 1 false, none⟩, ⟨.bin 7 false .sub (.c (.v (.int .i64 1))) (.t 6), none⟩, ⟨.build 8 [(.v (.int .i64 0)), (.v (.int .i64 0)), (.v (.int .i64 0))] [(0, 2, (.t 4)), (2, 1, (.t 7))], none⟩, ⟨.store (.t 2) (.t 8) 3, none⟩] ⟨[2], [(2, 2)]⟩) (.ret)), [.cell 2 3 true]⟩
theorem f22_chk : chk Try.prog 22 [(0, ⟨[1, 2], [(1, 1), (2, 2)]⟩), (1, ⟨[2], [(2, 2)]⟩)] [] = some f22 := by kernel_rfl
/-- slots [0, 3, 5]; objects [3] -/
def f23_b1 : ICode := .seq (.seq (.region [⟨.mv 6 (.t 5), none⟩, ⟨.mv 7 (.t 0), none⟩, ⟨.len 8 false (.t 7), none⟩, ⟨.bin 9 false .lss (.t 6) (.t 8), none⟩] ⟨[0, 3, 5, 9], [(3, 3)]⟩) (.cond (.t 9) (.skip) (.seq (.gc ⟨[], []⟩) (.exit 0)))) (.seq (.block 1 (.seq (.draw [⟨.mv 12 (.t 0), none⟩, ⟨.mv 13 (.t 5), none⟩, ⟨.iaddr 14 (.t 12) (.t 13) 3, none⟩, ⟨.load 15 (.t 14) 3 true, none⟩, ⟨.load 16 (.t 3) 3 true, none⟩, ⟨.eqs 17 false [.i, .i, .i] (.t 15) (.t 16), none⟩] [0, 0, 3, 7, 0, 31] ⟨[0, 3, 5, 17], [(3, 3)]⟩) (.cond (.t 17) (.seq (.region [⟨.mv 18 (.t 5), none⟩, ⟨.mv 4 (.t 18), none⟩] ⟨[4], []⟩) (.ret)) (.skip)))) (.region [⟨.mv 10 (.t 5), none⟩, ⟨.bin 11 false .add (.t 10) (.c (.v (.int .i64 1))), none⟩, ⟨.mv 5 (.t 11), none⟩] ⟨[0, 3, 5], [(3, 3)]⟩))
def f23_l1 : ICode := .loop f23_b1
theorem f23_l1_eq (C : Cs) (lo : Nat) (st : St) : E C lo f23_l1 st = seqK (E C lo f23_l1) (E C lo f23_b1 st) := E_loop C lo f23_b1 st
/-- tracery/traceryref03.Index -/
def f23 : IFn := ⟨.seq (.region [⟨.box 3 (.t 1) 3, none⟩, ⟨.mv 4 (.c (.v (.int .i64 0))), none⟩] ⟨[0, 3], [(3, 3)]⟩) (.seq (.seq (.region [⟨.mv 5 (.c (.v (.int .i64 0))), none⟩] ⟨[0, 3, 5], [(3, 3)]⟩) (.block 0 (f23_l1))) (.seq (.region [⟨.mv 4 (.c (.v (.int .i64 (-1)))), none⟩] ⟨[4], []⟩) (.ret))), [.tmp 4]⟩
theorem f23_chk : chk Try.prog 23 [(0, ⟨[0, 3], [(3, 3)]⟩), (1, ⟨[0, 3, 5], [(3, 3)]⟩), (2, ⟨[0, 3, 5, 9], [(3, 3)]⟩), (3, ⟨[0, 3, 5], [(3, 3)]⟩), (4, ⟨[0, 3, 5, 17], [(3, 3)]⟩), (5, ⟨[4], []⟩), (6, ⟨[4], []⟩)] [(0, ⟨[], []⟩), (1, ⟨[0, 3, 5], []⟩)] = some f23 := by kernel_rfl
/-- tracery/traceryref06.Together -/
def f24 : IFn := ⟨.seq (.region [⟨.box 3 (.t 0) 2, none⟩, ⟨.box 4 (.t 1) 2, none⟩, ⟨.box 5 (.t 2) 2, none⟩, ⟨.mv 6 (.c (.v (.bool false))), none⟩] ⟨[3, 4, 5], [(3, 3), (4, 4), (5, 5)]⟩) (.seq (.region [⟨.load 10 (.t 3) 2 true, none⟩, ⟨.load 11 (.t 4) 2 true, none⟩, ⟨.call 12 (.fn 42) [(.t 10), (.t 11)], none⟩, ⟨.mv 7 (.t 12), none⟩] ⟨[3, 5, 7], [(3, 3), (5, 5)]⟩) (.seq (.region [⟨.load 13 (.t 3) 2 true, none⟩, ⟨.load 14 (.t 5) 2 true, none⟩, ⟨.call 15 (.fn 42) [(.t 13), (.t 14)], none⟩, ⟨.mv 8 (.t 15), none⟩] ⟨[3, 7, 8], [(3, 3)]⟩) (.seq (.region [⟨.load 16 (.t 3) 2 true, none⟩, ⟨.call 17 (.fn 43) [(.t 16)], none⟩, ⟨.mv 9 (.t 17), none⟩] ⟨[7, 8, 9], [(2088, 9)]⟩) (.seq (.draw [⟨.mv 18 (.t 7), none⟩, ⟨.bin 19 false .geq (.t 18) (.c (.v (.int .i64 0))), none⟩, ⟨.mv 20 (.t 19), none⟩, ⟨.mv 21 (.t 8), some (20, true)⟩, ⟨.bin 22 false .geq (.t 21) (.c (.v (.int .i64 0))), some (20, true)⟩, ⟨.pick 23 (.t 20) (.t 22) (.c (.v (.bool false))), none⟩, ⟨.mv 24 (.t 23), none⟩, ⟨.mv 25 (.t 9), some (24, true)⟩, ⟨.mv 26 (.t 7), some (24, true)⟩, ⟨.iaddr 27 (.t 25) (.t 26) 1, some (24, true)⟩, ⟨.load 28 (.t 27) 1 false, some (24, true)⟩, ⟨.mv 29 (.t 9), some (24, true)⟩, ⟨.mv 30 (.t 8), some (24, true)⟩, ⟨.iaddr 31 (.t 29) (.t 30) 1, some (24, true)⟩, ⟨.load 32 (.t 31) 1 false, some (24, true)⟩, ⟨.bin 33 false .eql (.t 28) (.t 32), some (24, true)⟩, ⟨.pick 34 (.t 24) (.t 33) (.c (.v (.bool false))), none⟩, ⟨.mv 6 (.t 34), none⟩] [0, 1, 3, 7, 15, 31, 63, 127, 127, 511, 1023, 127, 127, 6271, 14463, 32767, 65535, 131071] ⟨[6], []⟩) (.ret))))), [.tmp 6]⟩
theorem f24_chk : chk Try.prog 24 [(0, ⟨[3, 4, 5], [(3, 3), (4, 4), (5, 5)]⟩), (1, ⟨[3, 5, 7], [(3, 3), (5, 5)]⟩), (2, ⟨[3, 7, 8], [(3, 3)]⟩), (3, ⟨[7, 8, 9], [(2088, 9)]⟩), (4, ⟨[6], []⟩)] [] = some f24 := by kernel_rfl
/-- slots [0, 3, 4]; objects [] -/
def f29_b1 : ICode := .seq (.seq (.region [⟨.mv 7 (.t 4), none⟩, ⟨.mv 8 (.t 0), none⟩, ⟨.len 9 false (.t 8), none⟩, ⟨.bin 10 false .lss (.t 7) (.t 9), none⟩] ⟨[0, 3, 4, 10], []⟩) (.cond (.t 10) (.skip) (.seq (.gc ⟨[0, 3], []⟩) (.exit 0)))) (.seq (.block 1 (.seq (.draw [⟨.mv 13 (.t 0), none⟩, ⟨.mv 14 (.t 4), none⟩, ⟨.iaddr 15 (.t 13) (.t 14) 3, none⟩, ⟨.load 16 (.t 15) 3 true, none⟩, ⟨.mv 17 (.t 0), none⟩, ⟨.mv 18 (.t 3), none⟩, ⟨.iaddr 19 (.t 17) (.t 18) 3, none⟩, ⟨.load 20 (.t 19) 3 true, none⟩, ⟨.call 21 (.fn 47) [(.t 16), (.t 20)], none⟩, ⟨.bin 22 false .lss (.t 21) (.c (.v (.int .i64 0))), none⟩] [0, 0, 3, 7, 0, 0, 48, 112, 255, 511] ⟨[0, 3, 4, 22], []⟩) (.cond (.t 22) (.region [⟨.mv 23 (.t 4), none⟩, ⟨.mv 3 (.t 23), none⟩] ⟨[0, 3, 4], []⟩) (.skip)))) (.region [⟨.mv 11 (.t 4), none⟩, ⟨.bin 12 false .add (.t 11) (.c (.v (.int .i64 1))), none⟩, ⟨.mv 4 (.t 12), none⟩] ⟨[0, 3, 4], []⟩))
def f29_l1 : ICode := .loop f29_b1
theorem f29_l1_eq (C : Cs) (lo : Nat) (st : St) : E C lo f29_l1 st = seqK (E C lo f29_l1) (E C lo f29_b1 st) := E_loop C lo f29_b1 st
/-- slots [0, 3, 5, 6]; objects [5] -/
def f29_b2 : ICode := .seq (.seq (.region [⟨.mv 25 (.t 6), none⟩, ⟨.mv 26 (.t 0), none⟩, ⟨.len 27 false (.t 26), none⟩, ⟨.bin 28 false .lss (.t 25) (.t 27), none⟩] ⟨[0, 3, 5, 6, 28], [(5, 5)]⟩) (.cond (.t 28) (.skip) (.seq (.gc ⟨[5], [(5, 5)]⟩) (.exit 2)))) (.seq (.block 3 (.region [⟨.mv 31 (.t 5), none⟩, ⟨.mv 32 (.t 0), none⟩, ⟨.mv 33 (.t 3), none⟩, ⟨.mv 34 (.t 6), none⟩, ⟨.bin 35 false .add (.t 33) (.t 34), none⟩, ⟨.mv 36 (.t 0), none⟩, ⟨.len 37 false (.t 36), none⟩, ⟨.bin 38 false .rem (.t 35) (.t 37), none⟩, ⟨.iaddr 39 (.t 32) (.t 38) 3, none⟩, ⟨.load 40 (.t 39) 3 true, none⟩, ⟨.bslice 41 39 3 [(.t 40)], none⟩, ⟨.append 42 (.t 31) (.t 41) 39 3 24, none⟩, ⟨.mv 5 (.t 42), none⟩] ⟨[0, 3, 5, 6], [(42, 5)]⟩)) (.region [⟨.mv 29 (.t 6), none⟩, ⟨.bin 30 false .add (.t 29) (.c (.v (.int .i64 1))), none⟩, ⟨.mv 6 (.t 30), none⟩] ⟨[0, 3, 5, 6], [(5, 5)]⟩))
def f29_l2 : ICode := .loop f29_b2
theorem f29_l2_eq (C : Cs) (lo : Nat) (st : St) : E C lo f29_l2 st = seqK (E C lo f29_l2) (E C lo f29_b2 st) := E_loop C lo f29_b2 st
/-- tracery/traceryref03.Turn -/
def f29 : IFn := ⟨.seq (.region [⟨.mv 2 (.c (.v (.sl (.tight 39) 3 []))), none⟩] ⟨[0], []⟩) (.seq (.region [⟨.mv 3 (.c (.v (.int .i64 0))), none⟩] ⟨[0, 3], []⟩) (.seq (.seq (.region [⟨.mv 4 (.c (.v (.int .i64 0))), none⟩] ⟨[0, 3, 4], []⟩) (.block 0 (f29_l1))) (.seq (.region [⟨.bslice 24 39 3 [], none⟩, ⟨.mv 5 (.t 24), none⟩] ⟨[0, 3, 5], [(24, 5)]⟩) (.seq (.seq (.region [⟨.mv 6 (.c (.v (.int .i64 0))), none⟩] ⟨[0, 3, 5, 6], [(5, 5)]⟩) (.block 2 (f29_l2))) (.seq (.region [⟨.mv 43 (.t 5), none⟩, ⟨.mv 2 (.t 43), none⟩] ⟨[2], [(5, 2)]⟩) (.ret)))))), [.tmp 2]⟩
theorem f29_chk : chk Try.prog 29 [(0, ⟨[0], []⟩), (1, ⟨[0, 3], []⟩), (2, ⟨[0, 3, 4], []⟩), (3, ⟨[0, 3, 4, 10], []⟩), (4, ⟨[0, 3, 4], []⟩), (5, ⟨[0, 3, 4, 22], []⟩), (6, ⟨[0, 3, 4], []⟩), (7, ⟨[0, 3, 5], [(24, 5)]⟩), (8, ⟨[0, 3, 5, 6], [(5, 5)]⟩), (9, ⟨[0, 3, 5, 6, 28], [(5, 5)]⟩), (10, ⟨[0, 3, 5, 6], [(5, 5)]⟩), (11, ⟨[0, 3, 5, 6], [(42, 5)]⟩), (12, ⟨[2], [(5, 2)]⟩)] [(0, ⟨[0, 3], []⟩), (1, ⟨[0, 3, 4], []⟩), (2, ⟨[5], [(5, 5)]⟩), (3, ⟨[0, 3, 5, 6], []⟩)] = some f29 := by kernel_rfl
/-- tracery/tracerylaw07.two -/
def f30 : IFn := ⟨.seq (.region [⟨.box 4 (.t 0) 3, none⟩, ⟨.box 5 (.t 1) 3, none⟩, ⟨.box 6 (.t 2) 3, none⟩, ⟨.box 7 (.t 3) 3, none⟩, ⟨.alloc 8 [(.v (.sl (.tight 42) 5 [])), (.v (.sl (.tight 37) 4 []))], none⟩] ⟨[4, 5, 6, 7, 8], [(4, 4), (5, 5), (6, 6), (7, 7), (8, 8)]⟩) (.seq (.region [⟨.build 9 [(.v (.int .i64 0)), (.v (.int .i64 0))] [(0, 1, (.c (.v (.int .i64 1)))), (1, 1, (.c (.v (.int .i64 1))))], none⟩, ⟨.load 10 (.t 4) 3 true, none⟩, ⟨.load 11 (.t 5) 3 true, none⟩, ⟨.load 12 (.t 6) 3 true, none⟩, ⟨.load 13 (.t 7) 3 true, none⟩, ⟨.bslice 14 39 3 [(.t 10), (.t 11), (.t 12), (.t 13)], none⟩, ⟨.build 15 [(.v (.int .i64 0)), (.v (.int .i64 0)), (.v (.sl (.tight 39) 3 [])), (.v (.str ⟨#[]⟩)), (.v (.int .i64 0))] [(0, 2, (.t 9)), (2, 1, (.t 14))], none⟩, ⟨.bslice 16 42 5 [(.t 15)], none⟩, ⟨.build 17 [(.v (.int .i64 0)), (.v (.int .i64 0))] [(0, 1, (.c (.v (.int .i64 1)))), (1, 1, (.c (.v (.int .i64 2))))], none⟩, ⟨.build 18 [(.v (.int .i64 0)), (.v (.int .i64 0)), (.v (.str ⟨#[]⟩)), (.v (.int .i64 0))] [(0, 2, (.t 17))], none⟩, ⟨.build 19 [(.v (.int .i64 0)), (.v (.int .i64 0))] [(0, 1, (.c (.v (.int .i64 1)))), (1, 1, (.c (.v (.int .i64 3))))], none⟩, ⟨.build 20 [(.v (.int .i64 0)), (.v (.int .i64 0)), (.v (.str ⟨#[]⟩)), (.v (.int .i64 0))] [(0, 2, (.t 19))], none⟩, ⟨.bslice 21 37 4 [(.t 18), (.t 20)], none⟩, ⟨.build 22 [(.v (.sl (.tight 42) 5 [])), (.v (.sl (.tight 37) 4 []))] [(0, 1, (.t 16)), (1, 1, (.t 21))], none⟩, ⟨.store (.t 8) (.t 22) 2, none⟩] ⟨[8], [(8, 8), (16, 10512), (21, 10513)]⟩) (.ret)), [.cell 8 2 true]⟩
theorem f30_chk : chk Try.prog 30 [(0, ⟨[4, 5, 6, 7, 8], [(4, 4), (5, 5), (6, 6), (7, 7), (8, 8)]⟩), (1, ⟨[8], [(8, 8), (16, 10512), (21, 10513)]⟩)] [] = some f30 := by kernel_rfl
/-- tracery/tracerylaw07.dart -/
def f31 : IFn := ⟨.seq (.region [⟨.alloc 4 [(.v (.int .i64 0)), (.v (.int .i64 0)), (.v (.int .i64 0))], none⟩] ⟨[0, 1, 4], [(4, 4)]⟩) (.seq (.region [⟨.mv 5 (.t 0), none⟩, ⟨.build 6 [(.v (.int .i64 0)), (.v (.int .i64 0))] [(0, 1, (.c (.v (.int .i64 1)))), (1, 1, (.t 5))], none⟩, ⟨.mv 7 (.t 1), none⟩, ⟨.build 8 [(.v (.int .i64 0)), (.v (.int .i64 0)), (.v (.int .i64 0))] [(0, 2, (.t 6)), (2, 1, (.t 7))], none⟩, ⟨.store (.t 4) (.t 8) 3, none⟩] ⟨[4], [(4, 4)]⟩) (.ret)), [.cell 4 3 true]⟩
theorem f31_chk : chk Try.prog 31 [(0, ⟨[0, 1, 4], [(4, 4)]⟩), (1, ⟨[4], [(4, 4)]⟩)] [] = some f31 := by kernel_rfl
/-- slots [1, 3, 4]; objects [1, 3] -/
def f32_b1 : ICode := .seq (.seq (.region [⟨.mv 7 (.t 4), none⟩, ⟨.faddr 8 (.t 1) 0, none⟩, ⟨.load 9 (.t 8) 1 false, none⟩, ⟨.len 10 false (.t 9), none⟩, ⟨.bin 11 false .lss (.t 7) (.t 10), none⟩] ⟨[1, 3, 4, 11], [(1, 1), (3, 3)]⟩) (.cond (.t 11) (.skip) (.seq (.gc ⟨[1, 3], [(1, 1), (3, 3)]⟩) (.exit 0)))) (.seq (.block 1 (.region [⟨.mv 14 (.t 3), none⟩, ⟨.faddr 15 (.t 1) 0, none⟩, ⟨.load 16 (.t 15) 1 false, none⟩, ⟨.mv 17 (.t 4), none⟩, ⟨.iaddr 18 (.t 16) (.t 17) 5, none⟩, ⟨.faddr 19 (.t 18) 0, none⟩, ⟨.load 20 (.t 19) 2 true, none⟩, ⟨.bslice 21 35 2 [(.t 20)], none⟩, ⟨.append 22 (.t 14) (.t 21) 35 2 16, none⟩, ⟨.mv 3 (.t 22), none⟩] ⟨[1, 3, 4], [(1, 1), (22, 3)]⟩)) (.region [⟨.mv 12 (.t 4), none⟩, ⟨.bin 13 false .add (.t 12) (.c (.v (.int .i64 1))), none⟩, ⟨.mv 4 (.t 13), none⟩] ⟨[1, 3, 4], [(1, 1), (3, 3)]⟩))
def f32_l1 : ICode := .loop f32_b1
theorem f32_l1_eq (C : Cs) (lo : Nat) (st : St) : E C lo f32_l1 st = seqK (E C lo f32_l1) (E C lo f32_b1 st) := E_loop C lo f32_b1 st
/-- slots [1, 3, 5]; objects [1, 3] -/
def f32_b2 : ICode := .seq (.seq (.region [⟨.mv 23 (.t 5), none⟩, ⟨.faddr 24 (.t 1) 1, none⟩, ⟨.load 25 (.t 24) 1 false, none⟩, ⟨.len 26 false (.t 25), none⟩, ⟨.bin 27 false .lss (.t 23) (.t 26), none⟩] ⟨[1, 3, 5, 27], [(1, 1), (3, 3)]⟩) (.cond (.t 27) (.skip) (.seq (.gc ⟨[3], [(3, 3)]⟩) (.exit 2)))) (.seq (.block 3 (.region [⟨.mv 30 (.t 3), none⟩, ⟨.faddr 31 (.t 1) 1, none⟩, ⟨.load 32 (.t 31) 1 false, none⟩, ⟨.mv 33 (.t 5), none⟩, ⟨.iaddr 34 (.t 32) (.t 33) 4, none⟩, ⟨.faddr 35 (.t 34) 0, none⟩, ⟨.load 36 (.t 35) 2 true, none⟩, ⟨.bslice 37 35 2 [(.t 36)], none⟩, ⟨.append 38 (.t 30) (.t 37) 35 2 16, none⟩, ⟨.mv 3 (.t 38), none⟩] ⟨[1, 3, 5], [(1, 1), (38, 3)]⟩)) (.region [⟨.mv 28 (.t 5), none⟩, ⟨.bin 29 false .add (.t 28) (.c (.v (.int .i64 1))), none⟩, ⟨.mv 5 (.t 29), none⟩] ⟨[1, 3, 5], [(1, 1), (3, 3)]⟩))
def f32_l2 : ICode := .loop f32_b2
theorem f32_l2_eq (C : Cs) (lo : Nat) (st : St) : E C lo f32_l2 st = seqK (E C lo f32_l2) (E C lo f32_b2 st) := E_loop C lo f32_b2 st
/-- tracery/traceryref04.Names -/
def f32 : IFn := ⟨.seq (.region [⟨.box 1 (.t 0) 2, none⟩, ⟨.mv 2 (.c (.v (.sl (.tight 35) 2 []))), none⟩] ⟨[1], [(1, 1)]⟩) (.seq (.region [⟨.bslice 6 35 2 [], none⟩, ⟨.mv 3 (.t 6), none⟩] ⟨[1, 3], [(1, 1), (6, 3)]⟩) (.seq (.seq (.region [⟨.mv 4 (.c (.v (.int .i64 0))), none⟩] ⟨[1, 3, 4], [(1, 1), (3, 3)]⟩) (.block 0 (f32_l1))) (.seq (.seq (.region [⟨.mv 5 (.c (.v (.int .i64 0))), none⟩] ⟨[1, 3, 5], [(1, 1), (3, 3)]⟩) (.block 2 (f32_l2))) (.seq (.region [⟨.mv 39 (.t 3), none⟩, ⟨.mv 2 (.t 39), none⟩] ⟨[2], [(3, 2)]⟩) (.ret))))), [.tmp 2]⟩
theorem f32_chk : chk Try.prog 32 [(0, ⟨[1], [(1, 1)]⟩), (1, ⟨[1, 3], [(1, 1), (6, 3)]⟩), (2, ⟨[1, 3, 4], [(1, 1), (3, 3)]⟩), (3, ⟨[1, 3, 4, 11], [(1, 1), (3, 3)]⟩), (4, ⟨[1, 3, 4], [(1, 1), (3, 3)]⟩), (5, ⟨[1, 3, 4], [(1, 1), (22, 3)]⟩), (6, ⟨[1, 3, 5], [(1, 1), (3, 3)]⟩), (7, ⟨[1, 3, 5, 27], [(1, 1), (3, 3)]⟩), (8, ⟨[1, 3, 5], [(1, 1), (3, 3)]⟩), (9, ⟨[1, 3, 5], [(1, 1), (38, 3)]⟩), (10, ⟨[2], [(3, 2)]⟩)] [(0, ⟨[1, 3], [(1, 1), (3, 3)]⟩), (1, ⟨[1, 3, 4], []⟩), (2, ⟨[3], [(3, 3)]⟩), (3, ⟨[1, 3, 5], []⟩)] = some f32 := by kernel_rfl
/-- slots [0, 3]; objects [] -/
def f33_b1 : ICode := .seq (.seq (.region [⟨.mv 5 (.t 3), none⟩, ⟨.mv 6 (.t 0), none⟩, ⟨.len 7 false (.t 6), none⟩, ⟨.bin 8 false .lss (.t 5) (.t 7), none⟩] ⟨[0, 3, 8], []⟩) (.cond (.t 8) (.skip) (.seq (.gc ⟨[], []⟩) (.exit 0)))) (.seq (.block 1 (.seq (.region [⟨.mv 11 (.t 0), none⟩, ⟨.mv 12 (.t 3), none⟩, ⟨.iaddr 13 (.t 11) (.t 12) 2, none⟩, ⟨.load 14 (.t 13) 2 true, none⟩, ⟨.call 15 (.fn 48) [(.t 14)], none⟩, ⟨.mv 4 (.t 15), none⟩] ⟨[0, 3, 4], []⟩) (.seq (.draw [⟨.mv 16 (.t 4), none⟩, ⟨.un 17 .not (.t 16), none⟩, ⟨.mv 18 (.t 17), none⟩, ⟨.mv 19 (.t 3), some (18, false)⟩, ⟨.bin 20 false .gtr (.t 19) (.c (.v (.int .i64 0))), some (18, false)⟩, ⟨.mv 21 (.t 20), some (18, false)⟩, ⟨.mv 22 (.t 0), some (21, true)⟩, ⟨.mv 23 (.t 3), some (21, true)⟩, ⟨.bin 24 false .sub (.t 23) (.c (.v (.int .i64 1))), some (21, true)⟩, ⟨.iaddr 25 (.t 22) (.t 24) 2, some (21, true)⟩, ⟨.load 26 (.t 25) 2 true, some (21, true)⟩, ⟨.mv 27 (.t 0), some (21, true)⟩, ⟨.mv 28 (.t 3), some (21, true)⟩, ⟨.iaddr 29 (.t 27) (.t 28) 2, some (21, true)⟩, ⟨.load 30 (.t 29) 2 true, some (21, true)⟩, ⟨.call 31 (.fn 49) [(.t 26), (.t 30)], some (21, true)⟩, ⟨.bin 32 false .geq (.t 31) (.c (.v (.int .i64 0))), some (21, true)⟩, ⟨.pick 33 (.t 21) (.t 32) (.c (.v (.bool false))), some (18, false)⟩, ⟨.pick 34 (.t 18) (.c (.v (.bool true))) (.t 33), none⟩] [0, 1, 3, 7, 15, 31, 63, 63, 191, 511, 1023, 63, 63, 6207, 14399, 32767, 65535, 131071, 262143] ⟨[0, 3, 34], []⟩) (.cond (.t 34) (.seq (.region [⟨.mv 2 (.c (.v (.bool false))), none⟩] ⟨[2], []⟩) (.ret)) (.skip))))) (.region [⟨.mv 9 (.t 3), none⟩, ⟨.bin 10 false .add (.t 9) (.c (.v (.int .i64 1))), none⟩, ⟨.mv 3 (.t 10), none⟩] ⟨[0, 3], []⟩))
def f33_l1 : ICode := .loop f33_b1
theorem f33_l1_eq (C : Cs) (lo : Nat) (st : St) : E C lo f33_l1 st = seqK (E C lo f33_l1) (E C lo f33_b1 st) := E_loop C lo f33_b1 st
/-- tracery/traceryref04.rise -/
def f33 : IFn := ⟨.seq (.region [⟨.mv 2 (.c (.v (.bool false))), none⟩] ⟨[0], []⟩) (.seq (.seq (.region [⟨.mv 3 (.c (.v (.int .i64 0))), none⟩] ⟨[0, 3], []⟩) (.block 0 (f33_l1))) (.seq (.region [⟨.mv 2 (.c (.v (.bool true))), none⟩] ⟨[2], []⟩) (.ret))), [.tmp 2]⟩
theorem f33_chk : chk Try.prog 33 [(0, ⟨[0], []⟩), (1, ⟨[0, 3], []⟩), (2, ⟨[0, 3, 8], []⟩), (3, ⟨[0, 3], []⟩), (4, ⟨[0, 3, 4], []⟩), (5, ⟨[0, 3, 34], []⟩), (6, ⟨[2], []⟩), (7, ⟨[2], []⟩)] [(0, ⟨[], []⟩), (1, ⟨[0, 3], []⟩)] = some f33 := by kernel_rfl
/-- slots [1, 3, 4, 6]; objects [1] -/
def f34_b2 : ICode := .seq (.seq (.region [⟨.mv 30 (.t 6), none⟩, ⟨.mv 31 (.t 4), none⟩, ⟨.len 32 false (.t 31), none⟩, ⟨.bin 33 false .lss (.t 30) (.t 32), none⟩] ⟨[1, 3, 4, 6, 33], [(1, 1)]⟩) (.cond (.t 33) (.skip) (.seq (.gc ⟨[1, 3], [(1, 1)]⟩) (.exit 2)))) (.seq (.block 3 (.seq (.draw [⟨.load 37 (.t 1) 2 true, none⟩, ⟨.mv 38 (.t 4), none⟩, ⟨.mv 39 (.t 6), none⟩, ⟨.iaddr 40 (.t 38) (.t 39) 3, none⟩, ⟨.faddr 41 (.t 40) 0, none⟩, ⟨.load 42 (.t 41) 2 true, none⟩, ⟨.call 43 (.fn 18) [(.t 37), (.t 42)], none⟩, ⟨.mv 36 (.t 43), none⟩, ⟨.ext 44 (.t 36) 0, none⟩, ⟨.ext 45 (.t 36) 1, none⟩, ⟨.alloc 7 [(.v (.int .i64 0)), (.v (.int .i64 0)), (.v (.str ⟨#[]⟩)), (.v (.int .i64 0))], none⟩, ⟨.store (.t 7) (.t 44) 4, none⟩, ⟨.mv 8 (.t 45), none⟩] [0, 0, 0, 6, 14, 30, 63, 127, 255, 255, 0, 1535, 4095] ⟨[1, 3, 4, 6, 8], [(1, 1)]⟩) (.seq (.region [⟨.mv 46 (.t 8), none⟩, ⟨.un 47 .not (.t 46), none⟩, ⟨.mv 48 (.t 47), none⟩, ⟨.mv 49 (.t 4), some (48, false)⟩, ⟨.mv 50 (.t 6), some (48, false)⟩, ⟨.iaddr 51 (.t 49) (.t 50) 3, some (48, false)⟩, ⟨.faddr 52 (.t 51) 2, some (48, false)⟩, ⟨.load 53 (.t 52) 1 false, some (48, false)⟩, ⟨.bin 54 false .lss (.t 53) (.c (.v (.int .i64 0))), some (48, false)⟩, ⟨.pick 55 (.t 48) (.c (.v (.bool true))) (.t 54), none⟩, ⟨.mv 56 (.t 55), none⟩, ⟨.mv 57 (.t 4), some (56, false)⟩, ⟨.mv 58 (.t 6), some (56, false)⟩, ⟨.iaddr 59 (.t 57) (.t 58) 3, some (56, false)⟩, ⟨.faddr 60 (.t 59) 2, some (56, false)⟩, ⟨.load 61 (.t 60) 1 false, some (56, false)⟩, ⟨.bin 62 false .gtr (.t 61) (.c (.v (.int .i64 1))), some (56, false)⟩, ⟨.pick 63 (.t 56) (.c (.v (.bool true))) (.t 62), none⟩] ⟨[1, 3, 4, 6, 63], [(1, 1)]⟩) (.cond (.t 63) (.seq (.region [⟨.mv 2 (.c (.v (.bool false))), none⟩] ⟨[2], []⟩) (.ret)) (.skip))))) (.region [⟨.mv 34 (.t 6), none⟩, ⟨.bin 35 false .add (.t 34) (.c (.v (.int .i64 1))), none⟩, ⟨.mv 6 (.t 35), none⟩] ⟨[1, 3, 4, 6], [(1, 1)]⟩))
def f34_l2 : ICode := .loop f34_b2
theorem f34_l2_eq (C : Cs) (lo : Nat) (st : St) : E C lo f34_l2 st = seqK (E C lo f34_l2) (E C lo f34_b2 st) := E_loop C lo f34_b2 st
/-- slots [1, 3]; objects [1] -/
def f34_b1 : ICode := .seq (.seq (.region [⟨.mv 11 (.t 3), none⟩, ⟨.faddr 12 (.t 1) 0, none⟩, ⟨.load 13 (.t 12) 1 false, none⟩, ⟨.len 14 false (.t 13), none⟩, ⟨.bin 15 false .lss (.t 11) (.t 14), none⟩] ⟨[1, 3, 15], [(1, 1)]⟩) (.cond (.t 15) (.skip) (.seq (.gc ⟨[1], [(1, 1)]⟩) (.exit 0)))) (.seq (.block 1 (.seq (.region [⟨.faddr 18 (.t 1) 0, none⟩, ⟨.load 19 (.t 18) 1 false, none⟩, ⟨.mv 20 (.t 3), none⟩, ⟨.iaddr 21 (.t 19) (.t 20) 5, none⟩, ⟨.faddr 22 (.t 21) 2, none⟩, ⟨.load 23 (.t 22) 1 false, none⟩, ⟨.mv 4 (.t 23), none⟩] ⟨[1, 3, 4], [(1, 1)]⟩) (.seq (.region [⟨.mv 24 (.t 4), none⟩, ⟨.mv 25 (.t 4), none⟩, ⟨.call 26 (.fn 29) [(.t 25)], none⟩, ⟨.call 27 (.fn 50) [(.t 24), (.t 26)], none⟩, ⟨.mv 5 (.t 27), none⟩] ⟨[1, 3, 4, 5], [(1, 1)]⟩) (.seq (.seq (.region [⟨.mv 28 (.t 5), none⟩, ⟨.un 29 .not (.t 28), none⟩] ⟨[1, 3, 4, 29], [(1, 1)]⟩) (.cond (.t 29) (.seq (.region [⟨.mv 2 (.c (.v (.bool false))), none⟩] ⟨[2], []⟩) (.ret)) (.skip))) (.seq (.region [⟨.mv 6 (.c (.v (.int .i64 0))), none⟩] ⟨[1, 3, 4, 6], [(1, 1)]⟩) (.block 2 (f34_l2))))))) (.region [⟨.mv 16 (.t 3), none⟩, ⟨.bin 17 false .add (.t 16) (.c (.v (.int .i64 1))), none⟩, ⟨.mv 3 (.t 17), none⟩] ⟨[1, 3], [(1, 1)]⟩))
def f34_l1 : ICode := .loop f34_b1
theorem f34_l1_eq (C : Cs) (lo : Nat) (st : St) : E C lo f34_l1 st = seqK (E C lo f34_l1) (E C lo f34_b1 st) := E_loop C lo f34_b1 st
/-- slots [1, 9, 10]; objects [1] -/
def f34_b4 : ICode := .seq (.seq (.region [⟨.mv 71 (.t 10), none⟩, ⟨.bin 72 false .lss (.t 71) (.c (.v (.int .i64 2))), none⟩] ⟨[1, 9, 10, 72], [(1, 1)]⟩) (.cond (.t 72) (.skip) (.seq (.gc ⟨[1, 9], [(1, 1)]⟩) (.exit 6)))) (.seq (.block 7 (.seq (.draw [⟨.load 75 (.t 1) 2 true, none⟩, ⟨.faddr 76 (.t 1) 1, none⟩, ⟨.load 77 (.t 76) 1 false, none⟩, ⟨.mv 78 (.t 9), none⟩, ⟨.iaddr 79 (.t 77) (.t 78) 4, none⟩, ⟨.faddr 80 (.t 79) 0, none⟩, ⟨.load 81 (.t 80) 2 true, none⟩, ⟨.mv 82 (.t 10), none⟩, ⟨.build 83 [(.v (.int .i64 0)), (.v (.int .i64 0)), (.v (.int .i64 0))] [(0, 2, (.t 81)), (2, 1, (.t 82))], none⟩, ⟨.call 84 (.fn 51) [(.t 75), (.t 83)], none⟩, ⟨.bin 85 false .neq (.t 84) (.c (.v (.int .i64 1))), none⟩] [0, 0, 2, 0, 14, 30, 62, 0, 254, 511, 1023] ⟨[1, 9, 10, 85], [(1, 1)]⟩) (.cond (.t 85) (.seq (.region [⟨.mv 2 (.c (.v (.bool false))), none⟩] ⟨[2], []⟩) (.ret)) (.skip)))) (.region [⟨.mv 73 (.t 10), none⟩, ⟨.bin 74 false .add (.t 73) (.c (.v (.int .i64 1))), none⟩, ⟨.mv 10 (.t 74), none⟩] ⟨[1, 9, 10], [(1, 1)]⟩))
def f34_l4 : ICode := .loop f34_b4
theorem f34_l4_eq (C : Cs) (lo : Nat) (st : St) : E C lo f34_l4 st = seqK (E C lo f34_l4) (E C lo f34_b4 st) := E_loop C lo f34_b4 st
/-- slots [1, 9]; objects [1] -/
def f34_b3 : ICode := .seq (.seq (.region [⟨.mv 64 (.t 9), none⟩, ⟨.faddr 65 (.t 1) 1, none⟩, ⟨.load 66 (.t 65) 1 false, none⟩, ⟨.len 67 false (.t 66), none⟩, ⟨.bin 68 false .lss (.t 64) (.t 67), none⟩] ⟨[1, 9, 68], [(1, 1)]⟩) (.cond (.t 68) (.skip) (.seq (.gc ⟨[], []⟩) (.exit 4)))) (.seq (.block 5 (.seq (.region [⟨.mv 10 (.c (.v (.int .i64 0))), none⟩] ⟨[1, 9, 10], [(1, 1)]⟩) (.block 6 (f34_l4)))) (.region [⟨.mv 69 (.t 9), none⟩, ⟨.bin 70 false .add (.t 69) (.c (.v (.int .i64 1))), none⟩, ⟨.mv 9 (.t 70), none⟩] ⟨[1, 9], [(1, 1)]⟩))
def f34_l3 : ICode := .loop f34_b3
theorem f34_l3_eq (C : Cs) (lo : Nat) (st : St) : E C lo f34_l3 st = seqK (E C lo f34_l3) (E C lo f34_b3 st) := E_loop C lo f34_b3 st
/-- tracery/traceryref04.rings -/
def f34 : IFn := ⟨.seq (.region [⟨.box 1 (.t 0) 2, none⟩, ⟨.mv 2 (.c (.v (.bool false))), none⟩] ⟨[1], [(1, 1)]⟩) (.seq (.seq (.region [⟨.mv 3 (.c (.v (.int .i64 0))), none⟩] ⟨[1, 3], [(1, 1)]⟩) (.block 0 (f34_l1))) (.seq (.seq (.region [⟨.mv 9 (.c (.v (.int .i64 0))), none⟩] ⟨[1, 9], [(1, 1)]⟩) (.block 4 (f34_l3))) (.seq (.region [⟨.mv 2 (.c (.v (.bool true))), none⟩] ⟨[2], []⟩) (.ret)))), [.tmp 2]⟩
theorem f34_chk : chk Try.prog 34 [(0, ⟨[1], [(1, 1)]⟩), (1, ⟨[1, 3], [(1, 1)]⟩), (2, ⟨[1, 3, 15], [(1, 1)]⟩), (3, ⟨[1, 3], [(1, 1)]⟩), (4, ⟨[1, 3, 4], [(1, 1)]⟩), (5, ⟨[1, 3, 4, 5], [(1, 1)]⟩), (6, ⟨[1, 3, 4, 29], [(1, 1)]⟩), (7, ⟨[2], []⟩), (8, ⟨[1, 3, 4, 6], [(1, 1)]⟩), (9, ⟨[1, 3, 4, 6, 33], [(1, 1)]⟩), (10, ⟨[1, 3, 4, 6], [(1, 1)]⟩), (11, ⟨[1, 3, 4, 6, 8], [(1, 1)]⟩), (12, ⟨[1, 3, 4, 6, 63], [(1, 1)]⟩), (13, ⟨[2], []⟩), (14, ⟨[1, 9], [(1, 1)]⟩), (15, ⟨[1, 9, 68], [(1, 1)]⟩), (16, ⟨[1, 9], [(1, 1)]⟩), (17, ⟨[1, 9, 10], [(1, 1)]⟩), (18, ⟨[1, 9, 10, 72], [(1, 1)]⟩), (19, ⟨[1, 9, 10], [(1, 1)]⟩), (20, ⟨[1, 9, 10, 85], [(1, 1)]⟩), (21, ⟨[2], []⟩), (22, ⟨[2], []⟩)] [(0, ⟨[1], [(1, 1)]⟩), (1, ⟨[1, 3], []⟩), (2, ⟨[1, 3], [(1, 1)]⟩), (3, ⟨[1, 3, 4, 6], []⟩), (4, ⟨[], []⟩), (5, ⟨[1, 9], []⟩), (6, ⟨[1, 9], [(1, 1)]⟩), (7, ⟨[1, 9, 10], []⟩)] = some f34 := by kernel_rfl
/-- slots [0, 3]; objects [] -/
def f35_b1 : ICode := .seq (.seq (.region [⟨.mv 4 (.t 3), none⟩, ⟨.mv 5 (.t 0), none⟩, ⟨.len 6 true (.t 5), none⟩, ⟨.bin 7 false .lss (.t 4) (.t 6), none⟩] ⟨[0, 3, 7], []⟩) (.cond (.t 7) (.skip) (.seq (.gc ⟨[0], []⟩) (.exit 0)))) (.seq (.block 1 (.seq (.region [⟨.mv 10 (.t 0), none⟩, ⟨.mv 11 (.t 3), none⟩, ⟨.ixs 12 (.t 10) (.t 11), none⟩, ⟨.bin 13 false .lss (.t 12) (.c (.v (.int .u8 32))), none⟩, ⟨.mv 14 (.t 13), none⟩, ⟨.mv 15 (.t 0), some (14, false)⟩, ⟨.mv 16 (.t 3), some (14, false)⟩, ⟨.ixs 17 (.t 15) (.t 16), some (14, false)⟩, ⟨.bin 18 false .gtr (.t 17) (.c (.v (.int .u8 126))), some (14, false)⟩, ⟨.pick 19 (.t 14) (.c (.v (.bool true))) (.t 18), none⟩] ⟨[0, 3, 19], []⟩) (.cond (.t 19) (.seq (.region [⟨.mv 2 (.c (.v (.bool false))), none⟩] ⟨[2], []⟩) (.ret)) (.skip)))) (.region [⟨.mv 8 (.t 3), none⟩, ⟨.bin 9 false .add (.t 8) (.c (.v (.int .i64 1))), none⟩, ⟨.mv 3 (.t 9), none⟩] ⟨[0, 3], []⟩))
def f35_l1 : ICode := .loop f35_b1
theorem f35_l1_eq (C : Cs) (lo : Nat) (st : St) : E C lo f35_l1 st = seqK (E C lo f35_l1) (E C lo f35_b1 st) := E_loop C lo f35_b1 st
/-- tracery/traceryref04.MayLabel -/
def f35 : IFn := ⟨.seq (.region [⟨.mv 2 (.c (.v (.bool false))), none⟩] ⟨[0], []⟩) (.seq (.seq (.region [⟨.mv 3 (.c (.v (.int .i64 0))), none⟩] ⟨[0, 3], []⟩) (.block 0 (f35_l1))) (.seq (.region [⟨.mv 20 (.t 0), none⟩, ⟨.len 21 true (.t 20), none⟩, ⟨.bin 22 false .leq (.t 21) (.c (.v (.int .i64 16))), none⟩, ⟨.mv 2 (.t 22), none⟩] ⟨[2], []⟩) (.ret))), [.tmp 2]⟩
theorem f35_chk : chk Try.prog 35 [(0, ⟨[0], []⟩), (1, ⟨[0, 3], []⟩), (2, ⟨[0, 3, 7], []⟩), (3, ⟨[0, 3], []⟩), (4, ⟨[0, 3, 19], []⟩), (5, ⟨[2], []⟩), (6, ⟨[2], []⟩)] [(0, ⟨[0], []⟩), (1, ⟨[0, 3], []⟩)] = some f35 := by kernel_rfl
/-- tracery/traceryref04.MayAttr -/
def f36 : IFn := ⟨.seq (.region [⟨.mv 2 (.c (.v (.bool false))), none⟩] ⟨[0], []⟩) (.seq (.region [⟨.mv 3 (.t 0), none⟩, ⟨.bin 4 false .geq (.t 3) (.c (.v (.int .i64 (-1099511627776)))), none⟩, ⟨.mv 5 (.t 4), none⟩, ⟨.mv 6 (.t 0), some (5, true)⟩, ⟨.bin 7 false .leq (.t 6) (.c (.v (.int .i64 1099511627776))), some (5, true)⟩, ⟨.pick 8 (.t 5) (.t 7) (.c (.v (.bool false))), none⟩, ⟨.mv 2 (.t 8), none⟩] ⟨[2], []⟩) (.ret)), [.tmp 2]⟩
theorem f36_chk : chk Try.prog 36 [(0, ⟨[0], []⟩), (1, ⟨[2], []⟩)] [] = some f36 := by kernel_rfl
/-- slots [1, 5, 8, 9, 10]; objects [] -/
def f37_b1 : ICode := .seq (.region [⟨.bin 11 false .lss (.t 10) (.t 9), none⟩] ⟨[1, 5, 8, 9, 10, 11], []⟩) (.seq (.cond (.t 11) (.skip) (.seq (.gc ⟨[5], []⟩) (.exit 0))) (.seq (.block 1 (.seq (.region [⟨.iaddr 12 (.t 8) (.t 10) 5, none⟩, ⟨.load 13 (.t 12) 5 true, none⟩, ⟨.alloc 7 [(.v (.int .i64 0)), (.v (.int .i64 0)), (.v (.sl (.tight 39) 3 [])), (.v (.str ⟨#[]⟩)), (.v (.int .i64 0))], none⟩, ⟨.store (.t 7) (.t 13) 5, none⟩] ⟨[1, 5, 7, 8, 9, 10], [(7, 7)]⟩) (.seq (.region [⟨.mv 14 (.t 1), none⟩, ⟨.load 15 (.t 7) 5 true, none⟩, ⟨.call 16 (.t 14) [(.t 15)], none⟩] ⟨[1, 5, 8, 9, 10, 16], []⟩) (.cond (.t 16) (.region [⟨.mv 17 (.t 5), none⟩, ⟨.bin 18 false .add (.t 17) (.c (.v (.int .i64 1))), none⟩, ⟨.mv 5 (.t 18), none⟩] ⟨[1, 5, 8, 9, 10], []⟩) (.skip))))) (.region [⟨.bin 19 false .add (.t 10) (.c (.v (.int .i64 1))), none⟩, ⟨.mv 10 (.t 19), none⟩] ⟨[1, 5, 8, 9, 10], []⟩)))
def f37_l1 : ICode := .loop f37_b1
theorem f37_l1_eq (C : Cs) (lo : Nat) (st : St) : E C lo f37_l1 st = seqK (E C lo f37_l1) (E C lo f37_b1 st) := E_loop C lo f37_b1 st
/-- tracery/euler.many[tracery/api.Vertex] -/
def f37 : IFn := ⟨.seq (.region [⟨.mv 4 (.c (.v (.int .i64 0))), none⟩] ⟨[0, 1], []⟩) (.seq (.region [⟨.mv 5 (.c (.v (.int .i64 0))), none⟩] ⟨[0, 1, 5], []⟩) (.seq (.seq (.region [⟨.mv 8 (.t 0), none⟩, ⟨.len 9 false (.t 8), none⟩, ⟨.mv 10 (.c (.v (.int .i64 0))), none⟩] ⟨[1, 5, 8, 9, 10], []⟩) (.block 0 (f37_l1))) (.seq (.region [⟨.mv 20 (.t 5), none⟩, ⟨.mv 4 (.t 20), none⟩] ⟨[4], []⟩) (.ret)))), [.tmp 4]⟩
theorem f37_chk : chk Try.prog 37 [(0, ⟨[0, 1], []⟩), (1, ⟨[0, 1, 5], []⟩), (2, ⟨[1, 5, 8, 9, 10], []⟩), (3, ⟨[1, 5, 8, 9, 10, 11], []⟩), (4, ⟨[1, 5, 7, 8, 9, 10], [(7, 7)]⟩), (5, ⟨[1, 5, 8, 9, 10, 16], []⟩), (6, ⟨[1, 5, 8, 9, 10], []⟩), (7, ⟨[1, 5, 8, 9, 10], []⟩), (8, ⟨[4], []⟩)] [(0, ⟨[5], []⟩), (1, ⟨[1, 5, 8, 9, 10], []⟩)] = some f37 := by kernel_rfl
/-- tracery/euler.Count$1 -/
def f38 : IFn := ⟨.seq (.region [⟨.box 1 (.t 0) 5, none⟩, ⟨.mv 2 (.c (.v (.bool false))), none⟩] ⟨[1], [(1, 1)]⟩) (.seq (.region [⟨.faddr 3 (.t 1) 2, none⟩, ⟨.load 4 (.t 3) 1 false, none⟩, ⟨.len 5 false (.t 4), none⟩, ⟨.bin 6 false .eql (.t 5) (.c (.v (.int .i64 0))), none⟩, ⟨.mv 2 (.t 6), none⟩] ⟨[2], []⟩) (.ret)), [.tmp 2]⟩
theorem f38_chk : chk Try.prog 38 [(0, ⟨[1], [(1, 1)]⟩), (1, ⟨[2], []⟩)] [] = some f38 := by kernel_rfl
/-- slots [1, 3, 4, 7, 11, 12, 13, 22]; objects [1, 3, 4, 7, 11, 10256] -/
def f39_ra : ICode := .region [⟨.alloc 8 [(.v (.int .i64 0)), (.v (.int .i64 0)), (.v (.int .i64 0))], none⟩, ⟨.store (.t 8) (.t 23) 3, none⟩] ⟨[4, 7, 8], [(1000004, 1000004), (1, 1), (3, 3), (4, 4), (7, 7), (11, 11), (10256, 10256), (8, 8), (10448, 10448)]⟩
def f39_rb : ICode := .block 3 (.seq (.region [⟨.load 24 (.t 4) 1 false, none⟩, ⟨.load 25 (.t 8) 3 true, none⟩, ⟨.mupd [.i, .i, .i] true false 1 (.t 24) (.t 25) (.c (.v (.bool true))), none⟩] ⟨[7, 8], [(1000004, 1000004), (1, 1), (3, 3), (4, 4), (7, 7), (11, 11), (10256, 10256), (8, 8), (10448, 10448)]⟩) (.region [⟨.load 26 (.t 7) 1 false, none⟩, ⟨.load 27 (.t 8) 3 true, none⟩, ⟨.bslice 28 39 3 [(.t 27)], none⟩, ⟨.append 29 (.t 26) (.t 28) 39 3 24, none⟩, ⟨.store (.t 7) (.t 29) 1, none⟩] ⟨[], [(1000004, 1000004), (1, 1), (3, 3), (4, 4), (7, 7), (11, 11), (10256, 10256), (29, 10448)]⟩))
/-- slots [1, 3, 4, 11, 12, 13]; objects [1, 3, 4, 11, 10256] -/
def f39_b1 : ICode := .seq (.region [⟨.bin 14 false .lss (.t 13) (.t 12), none⟩] ⟨[1, 3, 4, 11, 12, 13, 14], [(1, 1), (3, 3), (4, 4), (11, 11), (10256, 10256)]⟩) (.seq (.cond (.t 14) (.skip) (.seq (.gc ⟨[3], [(3, 3)]⟩) (.exit 0))) (.seq (.block 1 (.seq (.region [⟨.iaddr 15 (.t 11) (.t 13) 3, none⟩, ⟨.load 16 (.t 15) 3 true, none⟩, ⟨.alloc 6 [(.v (.int .i64 0)), (.v (.int .i64 0)), (.v (.int .i64 0))], none⟩, ⟨.store (.t 6) (.t 16) 3, none⟩] ⟨[1, 3, 4, 6, 11, 12, 13], [(1, 1), (3, 3), (4, 4), (6, 6), (11, 11), (10256, 10256)]⟩) (.seq (.seq (.region [⟨.load 17 (.t 4) 1 false, none⟩, ⟨.load 18 (.t 6) 3 true, none⟩, ⟨.mget 19 [.i, .i, .i] true false [(.bool false)] false (.t 17) (.t 18), none⟩] ⟨[1, 3, 4, 6, 11, 12, 13, 19], [(1, 1), (3, 3), (4, 4), (6, 6), (11, 11), (10256, 10256)]⟩) (.cond (.t 19) (.seq (.gc ⟨[1, 3, 4, 11, 12, 13], [(1, 1), (3, 3), (4, 4), (11, 11), (10256, 10256)]⟩) (.exit 1)) (.skip))) (.seq (.region [⟨.alloc 7 [(.v (.sl (.tight 39) 3 []))], none⟩] ⟨[1, 3, 4, 6, 7, 11, 12, 13], [(1, 1), (3, 3), (4, 4), (6, 6), (7, 7), (11, 11), (10256, 10256)]⟩) (.seq (.seq (.region [⟨.load 20 (.t 1) 2 true, none⟩, ⟨.load 21 (.t 6) 3 true, none⟩, ⟨.call 22 (.fn 53) [(.t 20), (.t 21)], none⟩] ⟨[1, 3, 4, 7, 11, 12, 13, 22], [(1, 1), (3, 3), (4, 4), (7, 7), (11, 11), (10256, 10256)]⟩) (.block 2 (.rng (.t 22) 23 f39_ra f39_rb ⟨[1, 3, 4, 7, 11, 12, 13, 22], [(1, 1), (3, 3), (4, 4), (7, 7), (11, 11), (10256, 10256)]⟩ [(1000004, 1000004), (1, 1), (3, 3), (4, 4), (7, 7), (11, 11), (10256, 10256)]))) (.region [⟨.mv 30 (.t 3), none⟩, ⟨.load 31 (.t 7) 1 false, none⟩, ⟨.bslice 32 40 1 [(.t 31)], none⟩, ⟨.append 33 (.t 30) (.t 32) 40 1 24, none⟩, ⟨.mv 3 (.t 33), none⟩] ⟨[1, 3, 4, 11, 12, 13], [(1, 1), (33, 3), (4, 4), (11, 11), (10256, 10256)]⟩)))))) (.region [⟨.bin 34 false .add (.t 13) (.c (.v (.int .i64 1))), none⟩, ⟨.mv 13 (.t 34), none⟩] ⟨[1, 3, 4, 11, 12, 13], [(1, 1), (3, 3), (4, 4), (11, 11), (10256, 10256)]⟩)))
def f39_l1 : ICode := .loop f39_b1
theorem f39_l1_eq (C : Cs) (lo : Nat) (st : St) : E C lo f39_l1 st = seqK (E C lo f39_l1) (E C lo f39_b1 st) := E_loop C lo f39_b1 st
/-- tracery/face.Faces -/
def f39 : IFn := ⟨.seq (.region [⟨.box 1 (.t 0) 2, none⟩, ⟨.mv 2 (.c (.v (.sl (.tight 40) 1 []))), none⟩] ⟨[1], [(1, 1)]⟩) (.seq (.region [⟨.mv 3 (.c (.v (.sl (.tight 40) 1 []))), none⟩] ⟨[1, 3], [(1, 1)]⟩) (.seq (.region [⟨.mkmap 9 true false, none⟩, ⟨.alloc 4 [.u], none⟩, ⟨.store (.t 4) (.t 9) 1, none⟩] ⟨[1, 3, 4], [(1, 1), (4, 4), (9, 10256)]⟩) (.seq (.seq (.region [⟨.load 10 (.t 1) 2 true, none⟩, ⟨.call 11 (.fn 52) [(.t 10)], none⟩, ⟨.len 12 false (.t 11), none⟩, ⟨.mv 13 (.c (.v (.int .i64 0))), none⟩] ⟨[1, 3, 4, 11, 12, 13], [(1, 1), (4, 4), (1704, 11), (10256, 10256)]⟩) (.block 0 (f39_l1))) (.seq (.region [⟨.mv 35 (.t 3), none⟩, ⟨.mv 2 (.t 35), none⟩] ⟨[2], [(3, 2)]⟩) (.ret))))), [.tmp 2]⟩
theorem f39_chk : chk Try.prog 39 [(0, ⟨[1], [(1, 1)]⟩), (1, ⟨[1, 3], [(1, 1)]⟩), (2, ⟨[1, 3, 4], [(1, 1), (4, 4), (9, 10256)]⟩), (3, ⟨[1, 3, 4, 11, 12, 13], [(1, 1), (4, 4), (1704, 11), (10256, 10256)]⟩), (4, ⟨[1, 3, 4, 11, 12, 13, 14], [(1, 1), (3, 3), (4, 4), (11, 11), (10256, 10256)]⟩), (5, ⟨[1, 3, 4, 6, 11, 12, 13], [(1, 1), (3, 3), (4, 4), (6, 6), (11, 11), (10256, 10256)]⟩), (6, ⟨[1, 3, 4, 6, 11, 12, 13, 19], [(1, 1), (3, 3), (4, 4), (6, 6), (11, 11), (10256, 10256)]⟩), (7, ⟨[1, 3, 4, 6, 7, 11, 12, 13], [(1, 1), (3, 3), (4, 4), (6, 6), (7, 7), (11, 11), (10256, 10256)]⟩), (8, ⟨[1, 3, 4, 7, 11, 12, 13, 22], [(1, 1), (3, 3), (4, 4), (7, 7), (11, 11), (10256, 10256)]⟩), (9, ⟨[4, 7, 8], [(1, 1), (3, 3), (4, 4), (7, 7), (8, 8), (11, 11), (10256, 10256), (10448, 10448)]⟩), (10, ⟨[7, 8], [(1, 1), (3, 3), (4, 4), (7, 7), (8, 8), (11, 11), (10256, 10256), (10448, 10448)]⟩), (11, ⟨[], [(1, 1), (3, 3), (4, 4), (7, 7), (11, 11), (10256, 10256), (29, 10448)]⟩), (12, ⟨[1, 3, 4, 11, 12, 13], [(1, 1), (33, 3), (4, 4), (11, 11), (10256, 10256)]⟩), (13, ⟨[1, 3, 4, 11, 12, 13], [(1, 1), (3, 3), (4, 4), (11, 11), (10256, 10256)]⟩), (14, ⟨[2], [(3, 2)]⟩), (1000001, ⟨[1, 3, 4, 7, 11, 12, 13, 22], [(1, 1), (3, 3), (4, 4), (7, 7), (11, 11), (10256, 10256)]⟩)] [(0, ⟨[3], [(3, 3)]⟩), (1, ⟨[1, 3, 4, 11, 12, 13], [(1, 1), (3, 3), (4, 4), (11, 11), (10256, 10256)]⟩), (2, ⟨[1, 3, 4, 7, 11, 12, 13], []⟩), (3, ⟨[], []⟩)] = some f39 := by kernel_rfl
/-- tracery/comp.Count -/
def f40 : IFn := ⟨.seq (.region [⟨.box 1 (.t 0) 2, none⟩, ⟨.mv 2 (.c (.v (.int .i64 0))), none⟩] ⟨[1], [(1, 1)]⟩) (.seq (.region [⟨.load 3 (.t 1) 2 true, none⟩, ⟨.call 4 (.fn 54) [(.t 3)], none⟩, ⟨.len 5 false (.t 4), none⟩, ⟨.mv 2 (.t 5), none⟩] ⟨[2], []⟩) (.ret)), [.tmp 2]⟩
theorem f40_chk : chk Try.prog 40 [(0, ⟨[1], [(1, 1)]⟩), (1, ⟨[2], []⟩)] [] = some f40 := by kernel_rfl
/-- tracery/traceryref05.Phi -/
def f41 : IFn := ⟨.seq (.region [⟨.box 2 (.t 0) 2, none⟩, ⟨.box 3 (.t 1) 3, none⟩, ⟨.alloc 4 [(.v (.int .i64 0)), (.v (.int .i64 0)), (.v (.int .i64 0))], none⟩, ⟨.mv 5 (.c (.v (.bool false))), none⟩] ⟨[2, 3, 4], [(2, 2), (3, 3), (4, 4)]⟩) (.seq (.region [⟨.load 9 (.t 2) 2 true, none⟩, ⟨.load 10 (.t 3) 3 true, none⟩, ⟨.call 11 (.fn 17) [(.t 9), (.t 10)], none⟩, ⟨.mv 8 (.t 11), none⟩, ⟨.ext 12 (.t 8) 0, none⟩, ⟨.ext 13 (.t 8) 1, none⟩, ⟨.alloc 6 [(.v (.int .i64 0)), (.v (.int .i64 0))], none⟩, ⟨.store (.t 6) (.t 12) 2, none⟩, ⟨.mv 7 (.t 13), none⟩] ⟨[2, 3, 4, 7], [(2, 2), (3, 3), (4, 4)]⟩) (.seq (.seq (.region [⟨.mv 14 (.t 7), none⟩, ⟨.un 15 .not (.t 14), none⟩] ⟨[2, 3, 4, 15], [(2, 2), (3, 3), (4, 4)]⟩) (.cond (.t 15) (.seq (.region [⟨.build 16 [(.v (.int .i64 0)), (.v (.int .i64 0)), (.v (.int .i64 0))] [], none⟩, ⟨.store (.t 4) (.t 16) 3, none⟩, ⟨.mv 5 (.c (.v (.bool false))), none⟩] ⟨[4, 5], [(4, 4)]⟩) (.ret)) (.skip))) (.seq (.draw [⟨.load 17 (.t 2) 2 true, none⟩, ⟨.load 18 (.t 3) 3 true, none⟩, ⟨.call 19 (.fn 22) [(.t 18)], none⟩, ⟨.call 20 (.fn 55) [(.t 17), (.t 19)], none⟩, ⟨.ext 21 (.t 20) 0, none⟩, ⟨.ext 22 (.t 20) 1, none⟩, ⟨.store (.t 4) (.t 21) 3, none⟩, ⟨.mv 5 (.t 22), none⟩] [0, 0, 2, 7, 15, 15, 63, 127] ⟨[4, 5], [(4, 4)]⟩) (.ret)))), [.cell 4 3 true, .tmp 5]⟩
theorem f41_chk : chk Try.prog 41 [(0, ⟨[2, 3, 4], [(2, 2), (3, 3), (4, 4)]⟩), (1, ⟨[2, 3, 4, 7], [(2, 2), (3, 3), (4, 4)]⟩), (2, ⟨[2, 3, 4, 15], [(2, 2), (3, 3), (4, 4)]⟩), (3, ⟨[4, 5], [(4, 4)]⟩), (4, ⟨[4, 5], [(4, 4)]⟩)] [] = some f41 := by kernel_rfl
/-- slots [2, 3, 5]; objects [2, 3] -/
def f42_b1 : ICode := .seq (.seq (.region [⟨.mv 6 (.t 5), none⟩, ⟨.faddr 7 (.t 2) 0, none⟩, ⟨.load 8 (.t 7) 1 false, none⟩, ⟨.len 9 false (.t 8), none⟩, ⟨.bin 10 false .lss (.t 6) (.t 9), none⟩] ⟨[2, 3, 5, 10], [(2, 2), (3, 3)]⟩) (.cond (.t 10) (.skip) (.seq (.gc ⟨[], []⟩) (.exit 0)))) (.seq (.block 1 (.seq (.draw [⟨.faddr 13 (.t 2) 0, none⟩, ⟨.load 14 (.t 13) 1 false, none⟩, ⟨.mv 15 (.t 5), none⟩, ⟨.iaddr 16 (.t 14) (.t 15) 5, none⟩, ⟨.faddr 17 (.t 16) 0, none⟩, ⟨.load 18 (.t 17) 2 true, none⟩, ⟨.load 19 (.t 3) 2 true, none⟩, ⟨.eqs 20 false [.i, .i] (.t 18) (.t 19), none⟩] [0, 1, 0, 7, 15, 31, 0, 127] ⟨[2, 3, 5, 20], [(2, 2), (3, 3)]⟩) (.cond (.t 20) (.seq (.region [⟨.mv 21 (.t 5), none⟩, ⟨.mv 4 (.t 21), none⟩] ⟨[4], []⟩) (.ret)) (.skip)))) (.region [⟨.mv 11 (.t 5), none⟩, ⟨.bin 12 false .add (.t 11) (.c (.v (.int .i64 1))), none⟩, ⟨.mv 5 (.t 12), none⟩] ⟨[2, 3, 5], [(2, 2), (3, 3)]⟩))
def f42_l1 : ICode := .loop f42_b1
theorem f42_l1_eq (C : Cs) (lo : Nat) (st : St) : E C lo f42_l1 st = seqK (E C lo f42_l1) (E C lo f42_b1 st) := E_loop C lo f42_b1 st
/-- tracery/traceryref06.place -/
def f42 : IFn := ⟨.seq (.region [⟨.box 2 (.t 0) 2, none⟩, ⟨.box 3 (.t 1) 2, none⟩, ⟨.mv 4 (.c (.v (.int .i64 0))), none⟩] ⟨[2, 3], [(2, 2), (3, 3)]⟩) (.seq (.seq (.region [⟨.mv 5 (.c (.v (.int .i64 0))), none⟩] ⟨[2, 3, 5], [(2, 2), (3, 3)]⟩) (.block 0 (f42_l1))) (.seq (.region [⟨.mv 4 (.c (.v (.int .i64 (-1)))), none⟩] ⟨[4], []⟩) (.ret))), [.tmp 4]⟩
theorem f42_chk : chk Try.prog 42 [(0, ⟨[2, 3], [(2, 2), (3, 3)]⟩), (1, ⟨[2, 3, 5], [(2, 2), (3, 3)]⟩), (2, ⟨[2, 3, 5, 10], [(2, 2), (3, 3)]⟩), (3, ⟨[2, 3, 5], [(2, 2), (3, 3)]⟩), (4, ⟨[2, 3, 5, 20], [(2, 2), (3, 3)]⟩), (5, ⟨[4], []⟩), (6, ⟨[4], []⟩)] [(0, ⟨[], []⟩), (1, ⟨[2, 3, 5], []⟩)] = some f42 := by kernel_rfl
/-- slots [1, 3, 4]; objects [1, 3] -/
def f43_b1 : ICode := .seq (.seq (.region [⟨.mv 15 (.t 4), none⟩, ⟨.faddr 16 (.t 1) 0, none⟩, ⟨.load 17 (.t 16) 1 false, none⟩, ⟨.len 18 false (.t 17), none⟩, ⟨.bin 19 false .lss (.t 15) (.t 18), none⟩] ⟨[1, 3, 4, 19], [(1, 1), (3, 3)]⟩) (.cond (.t 19) (.skip) (.seq (.gc ⟨[1, 3], [(1, 1), (3, 3)]⟩) (.exit 0)))) (.seq (.block 1 (.region [⟨.mv 22 (.t 3), none⟩, ⟨.mv 23 (.t 4), none⟩, ⟨.bslice 24 3 1 [(.t 23)], none⟩, ⟨.append 25 (.t 22) (.t 24) 3 1 8, none⟩, ⟨.mv 3 (.t 25), none⟩] ⟨[1, 3, 4], [(1, 1), (25, 3)]⟩)) (.region [⟨.mv 20 (.t 4), none⟩, ⟨.bin 21 false .add (.t 20) (.c (.v (.int .i64 1))), none⟩, ⟨.mv 4 (.t 21), none⟩] ⟨[1, 3, 4], [(1, 1), (3, 3)]⟩))
def f43_l1 : ICode := .loop f43_b1
theorem f43_l1_eq (C : Cs) (lo : Nat) (st : St) : E C lo f43_l1 st = seqK (E C lo f43_l1) (E C lo f43_b1 st) := E_loop C lo f43_b1 st
/-- slots [1, 3, 5, 6]; objects [1, 3] -/
def f43_b3 : ICode := .seq (.seq (.region [⟨.mv 33 (.t 6), none⟩, ⟨.faddr 34 (.t 1) 1, none⟩, ⟨.load 35 (.t 34) 1 false, none⟩, ⟨.len 36 false (.t 35), none⟩, ⟨.bin 37 false .lss (.t 33) (.t 36), none⟩] ⟨[1, 3, 5, 6, 37], [(1, 1), (3, 3)]⟩) (.cond (.t 37) (.skip) (.seq (.gc ⟨[1, 3, 5], [(1, 1), (3, 3)]⟩) (.exit 4)))) (.seq (.block 5 (.seq (.draw [⟨.load 41 (.t 1) 2 true, none⟩, ⟨.faddr 42 (.t 1) 1, none⟩, ⟨.load 43 (.t 42) 1 false, none⟩, ⟨.mv 44 (.t 6), none⟩, ⟨.iaddr 45 (.t 43) (.t 44) 4, none⟩, ⟨.faddr 46 (.t 45) 0, none⟩, ⟨.load 47 (.t 46) 2 true, none⟩, ⟨.build 48 [(.v (.int .i64 0)), (.v (.int .i64 0)), (.v (.int .i64 0))] [(0, 2, (.t 47))], none⟩, ⟨.call 49 (.fn 17) [(.t 41), (.t 48)], none⟩, ⟨.mv 40 (.t 49), none⟩, ⟨.ext 50 (.t 40) 0, none⟩, ⟨.ext 51 (.t 40) 1, none⟩, ⟨.alloc 7 [(.v (.int .i64 0)), (.v (.int .i64 0))], none⟩, ⟨.store (.t 7) (.t 50) 2, none⟩, ⟨.mv 8 (.t 51), none⟩] [0, 0, 2, 0, 14, 30, 62, 126, 255, 511, 1023, 1023, 0, 6143, 16383] ⟨[1, 3, 5, 6, 7], [(1, 1), (3, 3), (7, 7)]⟩) (.seq (.draw [⟨.load 53 (.t 1) 2 true, none⟩, ⟨.faddr 54 (.t 1) 1, none⟩, ⟨.load 55 (.t 54) 1 false, none⟩, ⟨.mv 56 (.t 6), none⟩, ⟨.iaddr 57 (.t 55) (.t 56) 4, none⟩, ⟨.faddr 58 (.t 57) 0, none⟩, ⟨.load 59 (.t 58) 2 true, none⟩, ⟨.build 60 [(.v (.int .i64 0)), (.v (.int .i64 0)), (.v (.int .i64 0))] [(0, 2, (.t 59)), (2, 1, (.c (.v (.int .i64 1))))], none⟩, ⟨.call 61 (.fn 17) [(.t 53), (.t 60)], none⟩, ⟨.mv 52 (.t 61), none⟩, ⟨.ext 62 (.t 52) 0, none⟩, ⟨.ext 63 (.t 52) 1, none⟩, ⟨.alloc 9 [(.v (.int .i64 0)), (.v (.int .i64 0))], none⟩, ⟨.store (.t 9) (.t 62) 2, none⟩, ⟨.mv 10 (.t 63), none⟩] [0, 0, 2, 0, 14, 30, 62, 126, 255, 511, 1023, 1023, 0, 6143, 16383] ⟨[1, 3, 5, 6, 7, 9], [(1, 1), (3, 3), (7, 7), (9, 9)]⟩) (.seq (.region [⟨.load 64 (.t 1) 2 true, none⟩, ⟨.load 65 (.t 7) 2 true, none⟩, ⟨.call 66 (.fn 42) [(.t 64), (.t 65)], none⟩, ⟨.mv 11 (.t 66), none⟩] ⟨[1, 3, 5, 6, 9, 11], [(1, 1), (3, 3), (9, 9)]⟩) (.seq (.region [⟨.load 67 (.t 1) 2 true, none⟩, ⟨.load 68 (.t 9) 2 true, none⟩, ⟨.call 69 (.fn 42) [(.t 67), (.t 68)], none⟩, ⟨.mv 12 (.t 69), none⟩] ⟨[1, 3, 5, 6, 11, 12], [(1, 1), (3, 3)]⟩) (.seq (.region [⟨.mv 70 (.t 11), none⟩, ⟨.bin 71 false .geq (.t 70) (.c (.v (.int .i64 0))), none⟩, ⟨.mv 72 (.t 71), none⟩, ⟨.mv 73 (.t 12), some (72, true)⟩, ⟨.bin 74 false .geq (.t 73) (.c (.v (.int .i64 0))), some (72, true)⟩, ⟨.pick 75 (.t 72) (.t 74) (.c (.v (.bool false))), none⟩] ⟨[1, 3, 5, 6, 11, 12, 75], [(1, 1), (3, 3)]⟩) (.cond (.t 75) (.seq (.draw [⟨.mv 76 (.t 3), none⟩, ⟨.mv 77 (.t 11), none⟩, ⟨.iaddr 78 (.t 76) (.t 77) 1, none⟩, ⟨.load 79 (.t 78) 1 false, none⟩, ⟨.mv 80 (.t 3), none⟩, ⟨.mv 81 (.t 12), none⟩, ⟨.iaddr 82 (.t 80) (.t 81) 1, none⟩, ⟨.load 83 (.t 82) 1 false, none⟩, ⟨.mn 84 [(.t 79), (.t 83)], none⟩, ⟨.mv 13 (.t 84), none⟩] [0, 0, 3, 7, 0, 0, 48, 112, 255, 511] ⟨[1, 3, 5, 6, 11, 12, 13], [(1, 1), (3, 3)]⟩) (.seq (.region [⟨.mv 85 (.t 3), none⟩, ⟨.mv 86 (.t 11), none⟩, ⟨.mv 87 (.t 13), none⟩, ⟨.iaddr 88 (.t 85) (.t 86) 1, none⟩, ⟨.store (.t 88) (.t 87) 1, none⟩] ⟨[1, 3, 5, 6, 12, 13], [(1, 1), (3, 3)]⟩) (.region [⟨.mv 89 (.t 3), none⟩, ⟨.mv 90 (.t 12), none⟩, ⟨.mv 91 (.t 13), none⟩, ⟨.iaddr 92 (.t 89) (.t 90) 1, none⟩, ⟨.store (.t 92) (.t 91) 1, none⟩] ⟨[1, 3, 5, 6], [(1, 1), (3, 3)]⟩))) (.skip)))))))) (.region [⟨.mv 38 (.t 6), none⟩, ⟨.bin 39 false .add (.t 38) (.c (.v (.int .i64 1))), none⟩, ⟨.mv 6 (.t 39), none⟩] ⟨[1, 3, 5, 6], [(1, 1), (3, 3)]⟩))
def f43_l3 : ICode := .loop f43_b3
theorem f43_l3_eq (C : Cs) (lo : Nat) (st : St) : E C lo f43_l3 st = seqK (E C lo f43_l3) (E C lo f43_b3 st) := E_loop C lo f43_b3 st
/-- slots [1, 3, 5]; objects [1, 3] -/
def f43_b2 : ICode := .seq (.seq (.region [⟨.mv 26 (.t 5), none⟩, ⟨.faddr 27 (.t 1) 0, none⟩, ⟨.load 28 (.t 27) 1 false, none⟩, ⟨.len 29 false (.t 28), none⟩, ⟨.bin 30 false .lss (.t 26) (.t 29), none⟩] ⟨[1, 3, 5, 30], [(1, 1), (3, 3)]⟩) (.cond (.t 30) (.skip) (.seq (.gc ⟨[3], [(3, 3)]⟩) (.exit 2)))) (.seq (.block 3 (.seq (.region [⟨.mv 6 (.c (.v (.int .i64 0))), none⟩] ⟨[1, 3, 5, 6], [(1, 1), (3, 3)]⟩) (.block 4 (f43_l3)))) (.region [⟨.mv 31 (.t 5), none⟩, ⟨.bin 32 false .add (.t 31) (.c (.v (.int .i64 1))), none⟩, ⟨.mv 5 (.t 32), none⟩] ⟨[1, 3, 5], [(1, 1), (3, 3)]⟩))
def f43_l2 : ICode := .loop f43_b2
theorem f43_l2_eq (C : Cs) (lo : Nat) (st : St) : E C lo f43_l2 st = seqK (E C lo f43_l2) (E C lo f43_b2 st) := E_loop C lo f43_b2 st
/-- tracery/traceryref06.Labels -/
def f43 : IFn := ⟨.seq (.region [⟨.box 1 (.t 0) 2, none⟩, ⟨.mv 2 (.c (.v (.sl (.tight 3) 1 []))), none⟩] ⟨[1], [(1, 1)]⟩) (.seq (.region [⟨.bslice 14 3 1 [], none⟩, ⟨.mv 3 (.t 14), none⟩] ⟨[1, 3], [(1, 1), (14, 3)]⟩) (.seq (.seq (.region [⟨.mv 4 (.c (.v (.int .i64 0))), none⟩] ⟨[1, 3, 4], [(1, 1), (3, 3)]⟩) (.block 0 (f43_l1))) (.seq (.seq (.region [⟨.mv 5 (.c (.v (.int .i64 0))), none⟩] ⟨[1, 3, 5], [(1, 1), (3, 3)]⟩) (.block 2 (f43_l2))) (.seq (.region [⟨.mv 93 (.t 3), none⟩, ⟨.mv 2 (.t 93), none⟩] ⟨[2], [(3, 2)]⟩) (.ret))))), [.tmp 2]⟩
theorem f43_chk : chk Try.prog 43 [(0, ⟨[1], [(1, 1)]⟩), (1, ⟨[1, 3], [(1, 1), (14, 3)]⟩), (2, ⟨[1, 3, 4], [(1, 1), (3, 3)]⟩), (3, ⟨[1, 3, 4, 19], [(1, 1), (3, 3)]⟩), (4, ⟨[1, 3, 4], [(1, 1), (3, 3)]⟩), (5, ⟨[1, 3, 4], [(1, 1), (25, 3)]⟩), (6, ⟨[1, 3, 5], [(1, 1), (3, 3)]⟩), (7, ⟨[1, 3, 5, 30], [(1, 1), (3, 3)]⟩), (8, ⟨[1, 3, 5], [(1, 1), (3, 3)]⟩), (9, ⟨[1, 3, 5, 6], [(1, 1), (3, 3)]⟩), (10, ⟨[1, 3, 5, 6, 37], [(1, 1), (3, 3)]⟩), (11, ⟨[1, 3, 5, 6], [(1, 1), (3, 3)]⟩), (12, ⟨[1, 3, 5, 6, 7], [(1, 1), (3, 3), (7, 7)]⟩), (13, ⟨[1, 3, 5, 6, 7, 9], [(1, 1), (3, 3), (7, 7), (9, 9)]⟩), (14, ⟨[1, 3, 5, 6, 9, 11], [(1, 1), (3, 3), (9, 9)]⟩), (15, ⟨[1, 3, 5, 6, 11, 12], [(1, 1), (3, 3)]⟩), (16, ⟨[1, 3, 5, 6, 11, 12, 75], [(1, 1), (3, 3)]⟩), (17, ⟨[1, 3, 5, 6, 11, 12, 13], [(1, 1), (3, 3)]⟩), (18, ⟨[1, 3, 5, 6, 12, 13], [(1, 1), (3, 3)]⟩), (19, ⟨[1, 3, 5, 6], [(1, 1), (3, 3)]⟩), (20, ⟨[2], [(3, 2)]⟩)] [(0, ⟨[1, 3], [(1, 1), (3, 3)]⟩), (1, ⟨[1, 3, 4], []⟩), (2, ⟨[3], [(3, 3)]⟩), (3, ⟨[1, 3, 5], []⟩), (4, ⟨[1, 3, 5], [(1, 1), (3, 3)]⟩), (5, ⟨[1, 3, 5, 6], []⟩)] = some f43 := by kernel_rfl
/-- tracery/traceryref01.OrderDart -/
def f47 : IFn := ⟨.seq (.region [⟨.box 2 (.t 0) 3, none⟩, ⟨.box 3 (.t 1) 3, none⟩, ⟨.mv 4 (.c (.v (.int .i64 0))), none⟩] ⟨[2, 3], [(2, 2), (3, 3)]⟩) (.seq (.region [⟨.faddr 6 (.t 2) 0, none⟩, ⟨.load 7 (.t 6) 2 true, none⟩, ⟨.faddr 8 (.t 3) 0, none⟩, ⟨.load 9 (.t 8) 2 true, none⟩, ⟨.call 10 (.fn 49) [(.t 7), (.t 9)], none⟩, ⟨.mv 5 (.t 10), none⟩] ⟨[2, 3, 5], [(2, 2), (3, 3)]⟩) (.seq (.seq (.region [⟨.mv 11 (.t 5), none⟩, ⟨.bin 12 false .neq (.t 11) (.c (.v (.int .i64 0))), none⟩] ⟨[2, 3, 5, 12], [(2, 2), (3, 3)]⟩) (.cond (.t 12) (.seq (.region [⟨.mv 13 (.t 5), none⟩, ⟨.mv 4 (.t 13), none⟩] ⟨[4], []⟩) (.ret)) (.skip))) (.seq (.seq (.region [⟨.faddr 14 (.t 2) 2, none⟩, ⟨.load 15 (.t 14) 1 false, none⟩, ⟨.faddr 16 (.t 3) 2, none⟩, ⟨.load 17 (.t 16) 1 false, none⟩, ⟨.bin 18 false .lss (.t 15) (.t 17), none⟩] ⟨[2, 3, 18], [(2, 2), (3, 3)]⟩) (.cond (.t 18) (.seq (.region [⟨.mv 4 (.c (.v (.int .i64 (-1)))), none⟩] ⟨[4], []⟩) (.ret)) (.skip))) (.seq (.seq (.region [⟨.faddr 19 (.t 2) 2, none⟩, ⟨.load 20 (.t 19) 1 false, none⟩, ⟨.faddr 21 (.t 3) 2, none⟩, ⟨.load 22 (.t 21) 1 false, none⟩, ⟨.bin 23 false .gtr (.t 20) (.t 22), none⟩] ⟨[23], []⟩) (.cond (.t 23) (.seq (.region [⟨.mv 4 (.c (.v (.int .i64 1))), none⟩] ⟨[4], []⟩) (.ret)) (.skip))) (.seq (.region [⟨.mv 4 (.c (.v (.int .i64 0))), none⟩] ⟨[4], []⟩) (.ret)))))), [.tmp 4]⟩
theorem f47_chk : chk Try.prog 47 [(0, ⟨[2, 3], [(2, 2), (3, 3)]⟩), (1, ⟨[2, 3, 5], [(2, 2), (3, 3)]⟩), (2, ⟨[2, 3, 5, 12], [(2, 2), (3, 3)]⟩), (3, ⟨[4], []⟩), (4, ⟨[2, 3, 18], [(2, 2), (3, 3)]⟩), (5, ⟨[4], []⟩), (6, ⟨[23], []⟩), (7, ⟨[4], []⟩), (8, ⟨[4], []⟩)] [] = some f47 := by kernel_rfl
/-- tracery/traceryref01.May -/
def f48 : IFn := ⟨.seq (.region [⟨.box 1 (.t 0) 2, none⟩, ⟨.mv 2 (.c (.v (.bool false))), none⟩] ⟨[1], [(1, 1)]⟩) (.seq (.region [⟨.faddr 3 (.t 1) 0, none⟩, ⟨.load 4 (.t 3) 1 false, none⟩, ⟨.bin 5 false .geq (.t 4) (.c (.v (.int .i64 1))), none⟩, ⟨.mv 6 (.t 5), none⟩, ⟨.faddr 7 (.t 1) 0, some (6, true)⟩, ⟨.load 8 (.t 7) 1 false, some (6, true)⟩, ⟨.bin 9 false .leq (.t 8) (.c (.v (.int .i64 8))), some (6, true)⟩, ⟨.pick 10 (.t 6) (.t 9) (.c (.v (.bool false))), none⟩, ⟨.mv 11 (.t 10), none⟩, ⟨.faddr 12 (.t 1) 1, some (11, true)⟩, ⟨.load 13 (.t 12) 1 false, some (11, true)⟩, ⟨.bin 14 false .geq (.t 13) (.c (.v (.int .i64 1))), some (11, true)⟩, ⟨.pick 15 (.t 11) (.t 14) (.c (.v (.bool false))), none⟩, ⟨.mv 16 (.t 15), none⟩, ⟨.faddr 17 (.t 1) 1, some (16, true)⟩, ⟨.load 18 (.t 17) 1 false, some (16, true)⟩, ⟨.bin 19 false .leq (.t 18) (.c (.v (.int .i64 1048576))), some (16, true)⟩, ⟨.pick 20 (.t 16) (.t 19) (.c (.v (.bool false))), none⟩, ⟨.mv 2 (.t 20), none⟩] ⟨[2], []⟩) (.ret)), [.tmp 2]⟩
theorem f48_chk : chk Try.prog 48 [(0, ⟨[1], [(1, 1)]⟩), (1, ⟨[2], []⟩)] [] = some f48 := by kernel_rfl
/-- tracery/traceryref01.Order -/
def f49 : IFn := ⟨.seq (.region [⟨.box 2 (.t 0) 2, none⟩, ⟨.box 3 (.t 1) 2, none⟩, ⟨.mv 4 (.c (.v (.int .i64 0))), none⟩] ⟨[2, 3], [(2, 2), (3, 3)]⟩) (.seq (.seq (.region [⟨.load 5 (.t 2) 2 true, none⟩, ⟨.load 6 (.t 3) 2 true, none⟩, ⟨.eqs 7 false [.i, .i] (.t 5) (.t 6), none⟩] ⟨[2, 3, 7], [(2, 2), (3, 3)]⟩) (.cond (.t 7) (.seq (.region [⟨.mv 4 (.c (.v (.int .i64 0))), none⟩] ⟨[4], []⟩) (.ret)) (.skip))) (.seq (.seq (.region [⟨.faddr 8 (.t 2) 0, none⟩, ⟨.load 9 (.t 8) 1 false, none⟩, ⟨.faddr 10 (.t 3) 0, none⟩, ⟨.load 11 (.t 10) 1 false, none⟩, ⟨.bin 12 false .lss (.t 9) (.t 11), none⟩, ⟨.mv 13 (.t 12), none⟩, ⟨.faddr 14 (.t 2) 0, some (13, false)⟩, ⟨.load 15 (.t 14) 1 false, some (13, false)⟩, ⟨.faddr 16 (.t 3) 0, some (13, false)⟩, ⟨.load 17 (.t 16) 1 false, some (13, false)⟩, ⟨.bin 18 false .eql (.t 15) (.t 17), some (13, false)⟩, ⟨.mv 19 (.t 18), some (13, false)⟩, ⟨.faddr 20 (.t 2) 1, some (19, true)⟩, ⟨.load 21 (.t 20) 1 false, some (19, true)⟩, ⟨.faddr 22 (.t 3) 1, some (19, true)⟩, ⟨.load 23 (.t 22) 1 false, some (19, true)⟩, ⟨.bin 24 false .lss (.t 21) (.t 23), some (19, true)⟩, ⟨.pick 25 (.t 19) (.t 24) (.c (.v (.bool false))), some (13, false)⟩, ⟨.pick 26 (.t 13) (.c (.v (.bool true))) (.t 25), none⟩] ⟨[26], []⟩) (.cond (.t 26) (.seq (.region [⟨.mv 4 (.c (.v (.int .i64 (-1)))), none⟩] ⟨[4], []⟩) (.ret)) (.skip))) (.seq (.region [⟨.mv 4 (.c (.v (.int .i64 1))), none⟩] ⟨[4], []⟩) (.ret)))), [.tmp 4]⟩
theorem f49_chk : chk Try.prog 49 [(0, ⟨[2, 3], [(2, 2), (3, 3)]⟩), (1, ⟨[2, 3, 7], [(2, 2), (3, 3)]⟩), (2, ⟨[4], []⟩), (3, ⟨[26], []⟩), (4, ⟨[4], []⟩), (5, ⟨[4], []⟩)] [] = some f49 := by kernel_rfl
/-- slots [0, 1, 5]; objects [] -/
def f50_b1 : ICode := .seq (.seq (.region [⟨.mv 11 (.t 5), none⟩, ⟨.mv 12 (.t 0), none⟩, ⟨.len 13 false (.t 12), none⟩, ⟨.bin 14 false .lss (.t 11) (.t 13), none⟩] ⟨[0, 1, 5, 14], []⟩) (.cond (.t 14) (.skip) (.seq (.gc ⟨[], []⟩) (.exit 0)))) (.seq (.block 1 (.seq (.draw [⟨.mv 17 (.t 0), none⟩, ⟨.mv 18 (.t 5), none⟩, ⟨.iaddr 19 (.t 17) (.t 18) 3, none⟩, ⟨.load 20 (.t 19) 3 true, none⟩, ⟨.mv 21 (.t 1), none⟩, ⟨.mv 22 (.t 5), none⟩, ⟨.iaddr 23 (.t 21) (.t 22) 3, none⟩, ⟨.load 24 (.t 23) 3 true, none⟩, ⟨.eqs 25 true [.i, .i, .i] (.t 20) (.t 24), none⟩] [0, 0, 3, 7, 0, 0, 48, 112, 255] ⟨[0, 1, 5, 25], []⟩) (.cond (.t 25) (.seq (.region [⟨.mv 4 (.c (.v (.bool false))), none⟩] ⟨[4], []⟩) (.ret)) (.skip)))) (.region [⟨.mv 15 (.t 5), none⟩, ⟨.bin 16 false .add (.t 15) (.c (.v (.int .i64 1))), none⟩, ⟨.mv 5 (.t 16), none⟩] ⟨[0, 1, 5], []⟩))
def f50_l1 : ICode := .loop f50_b1
theorem f50_l1_eq (C : Cs) (lo : Nat) (st : St) : E C lo f50_l1 st = seqK (E C lo f50_l1) (E C lo f50_b1 st) := E_loop C lo f50_b1 st
/-- tracery/traceryref03.Darts -/
def f50 : IFn := ⟨.seq (.region [⟨.mv 4 (.c (.v (.bool false))), none⟩] ⟨[0, 1], []⟩) (.seq (.seq (.region [⟨.mv 6 (.t 0), none⟩, ⟨.len 7 false (.t 6), none⟩, ⟨.mv 8 (.t 1), none⟩, ⟨.len 9 false (.t 8), none⟩, ⟨.bin 10 false .neq (.t 7) (.t 9), none⟩] ⟨[0, 1, 10], []⟩) (.cond (.t 10) (.seq (.region [⟨.mv 4 (.c (.v (.bool false))), none⟩] ⟨[4], []⟩) (.ret)) (.skip))) (.seq (.seq (.region [⟨.mv 5 (.c (.v (.int .i64 0))), none⟩] ⟨[0, 1, 5], []⟩) (.block 0 (f50_l1))) (.seq (.region [⟨.mv 4 (.c (.v (.bool true))), none⟩] ⟨[4], []⟩) (.ret)))), [.tmp 4]⟩
theorem f50_chk : chk Try.prog 50 [(0, ⟨[0, 1], []⟩), (1, ⟨[0, 1, 10], []⟩), (2, ⟨[4], []⟩), (3, ⟨[0, 1, 5], []⟩), (4, ⟨[0, 1, 5, 14], []⟩), (5, ⟨[0, 1, 5], []⟩), (6, ⟨[0, 1, 5, 25], []⟩), (7, ⟨[4], []⟩), (8, ⟨[4], []⟩)] [(0, ⟨[], []⟩), (1, ⟨[0, 1, 5], []⟩)] = some f50 := by kernel_rfl
/-- slots [2, 3, 5, 6, 7]; objects [2, 3] -/
def f51_b2 : ICode := .seq (.seq (.region [⟨.mv 15 (.t 7), none⟩, ⟨.faddr 16 (.t 2) 0, none⟩, ⟨.load 17 (.t 16) 1 false, none⟩, ⟨.mv 18 (.t 6), none⟩, ⟨.iaddr 19 (.t 17) (.t 18) 5, none⟩, ⟨.faddr 20 (.t 19) 2, none⟩, ⟨.load 21 (.t 20) 1 false, none⟩, ⟨.len 22 false (.t 21), none⟩, ⟨.bin 23 false .lss (.t 15) (.t 22), none⟩] ⟨[2, 3, 5, 6, 7, 23], [(2, 2), (3, 3)]⟩) (.cond (.t 23) (.skip) (.seq (.gc ⟨[2, 3, 5, 6], [(2, 2), (3, 3)]⟩) (.exit 2)))) (.seq (.block 3 (.seq (.draw [⟨.faddr 26 (.t 2) 0, none⟩, ⟨.load 27 (.t 26) 1 false, none⟩, ⟨.mv 28 (.t 6), none⟩, ⟨.iaddr 29 (.t 27) (.t 28) 5, none⟩, ⟨.faddr 30 (.t 29) 2, none⟩, ⟨.load 31 (.t 30) 1 false, none⟩, ⟨.mv 32 (.t 7), none⟩, ⟨.iaddr 33 (.t 31) (.t 32) 3, none⟩, ⟨.load 34 (.t 33) 3 true, none⟩, ⟨.load 35 (.t 3) 3 true, none⟩, ⟨.eqs 36 false [.i, .i, .i] (.t 34) (.t 35), none⟩] [0, 1, 0, 7, 15, 31, 0, 127, 255, 0, 1023] ⟨[2, 3, 5, 6, 7, 36], [(2, 2), (3, 3)]⟩) (.cond (.t 36) (.region [⟨.mv 37 (.t 5), none⟩, ⟨.bin 38 false .add (.t 37) (.c (.v (.int .i64 1))), none⟩, ⟨.mv 5 (.t 38), none⟩] ⟨[2, 3, 5, 6, 7], [(2, 2), (3, 3)]⟩) (.skip)))) (.region [⟨.mv 24 (.t 7), none⟩, ⟨.bin 25 false .add (.t 24) (.c (.v (.int .i64 1))), none⟩, ⟨.mv 7 (.t 25), none⟩] ⟨[2, 3, 5, 6, 7], [(2, 2), (3, 3)]⟩))
def f51_l2 : ICode := .loop f51_b2
theorem f51_l2_eq (C : Cs) (lo : Nat) (st : St) : E C lo f51_l2 st = seqK (E C lo f51_l2) (E C lo f51_b2 st) := E_loop C lo f51_b2 st
/-- slots [2, 3, 5, 6]; objects [2, 3] -/
def f51_b1 : ICode := .seq (.seq (.region [⟨.mv 8 (.t 6), none⟩, ⟨.faddr 9 (.t 2) 0, none⟩, ⟨.load 10 (.t 9) 1 false, none⟩, ⟨.len 11 false (.t 10), none⟩, ⟨.bin 12 false .lss (.t 8) (.t 11), none⟩] ⟨[2, 3, 5, 6, 12], [(2, 2), (3, 3)]⟩) (.cond (.t 12) (.skip) (.seq (.gc ⟨[5], []⟩) (.exit 0)))) (.seq (.block 1 (.seq (.region [⟨.mv 7 (.c (.v (.int .i64 0))), none⟩] ⟨[2, 3, 5, 6, 7], [(2, 2), (3, 3)]⟩) (.block 2 (f51_l2)))) (.region [⟨.mv 13 (.t 6), none⟩, ⟨.bin 14 false .add (.t 13) (.c (.v (.int .i64 1))), none⟩, ⟨.mv 6 (.t 14), none⟩] ⟨[2, 3, 5, 6], [(2, 2), (3, 3)]⟩))
def f51_l1 : ICode := .loop f51_b1
theorem f51_l1_eq (C : Cs) (lo : Nat) (st : St) : E C lo f51_l1 st = seqK (E C lo f51_l1) (E C lo f51_b1 st) := E_loop C lo f51_b1 st
/-- tracery/traceryref04.times -/
def f51 : IFn := ⟨.seq (.region [⟨.box 2 (.t 0) 2, none⟩, ⟨.box 3 (.t 1) 3, none⟩, ⟨.mv 4 (.c (.v (.int .i64 0))), none⟩] ⟨[2, 3], [(2, 2), (3, 3)]⟩) (.seq (.region [⟨.mv 5 (.c (.v (.int .i64 0))), none⟩] ⟨[2, 3, 5], [(2, 2), (3, 3)]⟩) (.seq (.seq (.region [⟨.mv 6 (.c (.v (.int .i64 0))), none⟩] ⟨[2, 3, 5, 6], [(2, 2), (3, 3)]⟩) (.block 0 (f51_l1))) (.seq (.region [⟨.mv 39 (.t 5), none⟩, ⟨.mv 4 (.t 39), none⟩] ⟨[4], []⟩) (.ret)))), [.tmp 4]⟩
theorem f51_chk : chk Try.prog 51 [(0, ⟨[2, 3], [(2, 2), (3, 3)]⟩), (1, ⟨[2, 3, 5], [(2, 2), (3, 3)]⟩), (2, ⟨[2, 3, 5, 6], [(2, 2), (3, 3)]⟩), (3, ⟨[2, 3, 5, 6, 12], [(2, 2), (3, 3)]⟩), (4, ⟨[2, 3, 5, 6], [(2, 2), (3, 3)]⟩), (5, ⟨[2, 3, 5, 6, 7], [(2, 2), (3, 3)]⟩), (6, ⟨[2, 3, 5, 6, 7, 23], [(2, 2), (3, 3)]⟩), (7, ⟨[2, 3, 5, 6, 7], [(2, 2), (3, 3)]⟩), (8, ⟨[2, 3, 5, 6, 7, 36], [(2, 2), (3, 3)]⟩), (9, ⟨[2, 3, 5, 6, 7], [(2, 2), (3, 3)]⟩), (10, ⟨[4], []⟩)] [(0, ⟨[5], []⟩), (1, ⟨[2, 3, 5, 6], []⟩), (2, ⟨[2, 3, 5, 6], [(2, 2), (3, 3)]⟩), (3, ⟨[2, 3, 5, 6, 7], []⟩)] = some f51 := by kernel_rfl
/-- slots [3, 8, 9, 10]; objects [3] -/
def f52_b1 : ICode := .seq (.region [⟨.bin 11 false .lss (.t 10) (.t 9), none⟩] ⟨[3, 8, 9, 10, 11], [(3, 3)]⟩) (.seq (.cond (.t 11) (.skip) (.seq (.gc ⟨[3], [(3, 3)]⟩) (.exit 0))) (.seq (.block 1 (.seq (.region [⟨.iaddr 12 (.t 8) (.t 10) 4, none⟩, ⟨.load 13 (.t 12) 4 true, none⟩, ⟨.alloc 5 [(.v (.int .i64 0)), (.v (.int .i64 0)), (.v (.str ⟨#[]⟩)), (.v (.int .i64 0))], none⟩, ⟨.store (.t 5) (.t 13) 4, none⟩] ⟨[3, 5, 8, 9, 10], [(3, 3), (5, 5)]⟩) (.seq (.region [⟨.faddr 14 (.t 5) 0, none⟩, ⟨.load 15 (.t 14) 2 true, none⟩, ⟨.build 16 [(.v (.int .i64 0)), (.v (.int .i64 0)), (.v (.int .i64 0))] [(0, 2, (.t 15))], none⟩, ⟨.alloc 6 [(.v (.int .i64 0)), (.v (.int .i64 0)), (.v (.int .i64 0))], none⟩, ⟨.store (.t 6) (.t 16) 3, none⟩] ⟨[3, 6, 8, 9, 10], [(3, 3), (6, 6)]⟩) (.draw [⟨.mv 17 (.t 3), none⟩, ⟨.load 18 (.t 6) 3 true, none⟩, ⟨.load 19 (.t 6) 3 true, none⟩, ⟨.call 20 (.fn 68) [(.t 19)], none⟩, ⟨.bslice 21 39 3 [(.t 18), (.t 20)], none⟩, ⟨.append 22 (.t 17) (.t 21) 39 3 24, none⟩, ⟨.mv 3 (.t 22), none⟩] [0, 0, 0, 4, 14, 31, 63] ⟨[3, 8, 9, 10], [(22, 3)]⟩)))) (.region [⟨.bin 23 false .add (.t 10) (.c (.v (.int .i64 1))), none⟩, ⟨.mv 10 (.t 23), none⟩] ⟨[3, 8, 9, 10], [(3, 3)]⟩)))
def f52_l1 : ICode := .loop f52_b1
theorem f52_l1_eq (C : Cs) (lo : Nat) (st : St) : E C lo f52_l1 st = seqK (E C lo f52_l1) (E C lo f52_b1 st) := E_loop C lo f52_b1 st
/-- tracery/face.Darts -/
def f52 : IFn := ⟨.seq (.region [⟨.box 1 (.t 0) 2, none⟩, ⟨.mv 2 (.c (.v (.sl (.tight 39) 3 []))), none⟩] ⟨[1], [(1, 1)]⟩) (.seq (.region [⟨.mv 3 (.c (.v (.sl (.tight 39) 3 []))), none⟩] ⟨[1, 3], [(1, 1)]⟩) (.seq (.seq (.region [⟨.faddr 7 (.t 1) 1, none⟩, ⟨.load 8 (.t 7) 1 false, none⟩, ⟨.len 9 false (.t 8), none⟩, ⟨.mv 10 (.c (.v (.int .i64 0))), none⟩] ⟨[3, 8, 9, 10], []⟩) (.block 0 (f52_l1))) (.seq (.region [⟨.mv 24 (.t 3), none⟩, ⟨.mv 2 (.t 24), none⟩] ⟨[2], [(3, 2)]⟩) (.ret)))), [.tmp 2]⟩
theorem f52_chk : chk Try.prog 52 [(0, ⟨[1], [(1, 1)]⟩), (1, ⟨[1, 3], [(1, 1)]⟩), (2, ⟨[3, 8, 9, 10], []⟩), (3, ⟨[3, 8, 9, 10, 11], [(3, 3)]⟩), (4, ⟨[3, 5, 8, 9, 10], [(3, 3), (5, 5)]⟩), (5, ⟨[3, 6, 8, 9, 10], [(3, 3), (6, 6)]⟩), (6, ⟨[3, 8, 9, 10], [(22, 3)]⟩), (7, ⟨[3, 8, 9, 10], [(3, 3)]⟩), (8, ⟨[2], [(3, 2)]⟩)] [(0, ⟨[3], [(3, 3)]⟩), (1, ⟨[3, 8, 9, 10], []⟩)] = some f52 := by kernel_rfl
/-- tracery/face.round -/
def f53 : IFn := ⟨.seq (.region [⟨.box 2 (.t 0) 2, none⟩, ⟨.box 3 (.t 1) 3, none⟩, ⟨.mv 4 (.c (.v .nilfn)), none⟩] ⟨[2, 3], [(2, 2), (3, 3)]⟩) (.seq (.region [⟨.mkfn 5 69 [(.t 3), (.t 2)], none⟩, ⟨.mv 4 (.t 5), none⟩] ⟨[4], [(3, 26048), (2, 26112)]⟩) (.ret)), [.tmp 4]⟩
theorem f53_chk : chk Try.prog 53 [(0, ⟨[2, 3], [(2, 2), (3, 3)]⟩), (1, ⟨[4], [(3, 26048), (2, 26112)]⟩)] [] = some f53 := by kernel_rfl
/-- tracery/traceryref05.Sigma -/
def f55 : IFn := ⟨.seq (.region [⟨.box 2 (.t 0) 2, none⟩, ⟨.box 3 (.t 1) 3, none⟩, ⟨.alloc 4 [(.v (.int .i64 0)), (.v (.int .i64 0)), (.v (.int .i64 0))], none⟩, ⟨.mv 5 (.c (.v (.bool false))), none⟩] ⟨[2, 3, 4], [(2, 2), (3, 3), (4, 4)]⟩) (.seq (.region [⟨.load 11 (.t 2) 2 true, none⟩, ⟨.load 12 (.t 3) 3 true, none⟩, ⟨.call 13 (.fn 17) [(.t 11), (.t 12)], none⟩, ⟨.mv 10 (.t 13), none⟩, ⟨.ext 14 (.t 10) 0, none⟩, ⟨.ext 15 (.t 10) 1, none⟩, ⟨.alloc 6 [(.v (.int .i64 0)), (.v (.int .i64 0))], none⟩, ⟨.store (.t 6) (.t 14) 2, none⟩, ⟨.mv 7 (.t 15), none⟩] ⟨[2, 3, 4, 6, 7], [(2, 2), (3, 3), (4, 4), (6, 6)]⟩) (.seq (.seq (.region [⟨.mv 16 (.t 7), none⟩, ⟨.un 17 .not (.t 16), none⟩] ⟨[2, 3, 4, 6, 17], [(2, 2), (3, 3), (4, 4), (6, 6)]⟩) (.cond (.t 17) (.seq (.region [⟨.build 18 [(.v (.int .i64 0)), (.v (.int .i64 0)), (.v (.int .i64 0))] [], none⟩, ⟨.store (.t 4) (.t 18) 3, none⟩, ⟨.mv 5 (.c (.v (.bool false))), none⟩] ⟨[4, 5], [(4, 4)]⟩) (.ret)) (.skip))) (.seq (.region [⟨.load 20 (.t 2) 2 true, none⟩, ⟨.load 21 (.t 6) 2 true, none⟩, ⟨.call 22 (.fn 72) [(.t 20), (.t 21)], none⟩, ⟨.mv 19 (.t 22), none⟩, ⟨.ext 23 (.t 19) 0, none⟩, ⟨.ext 24 (.t 19) 1, none⟩, ⟨.alloc 8 [(.v (.int .i64 0)), (.v (.int .i64 0)), (.v (.sl (.tight 39) 3 [])), (.v (.str ⟨#[]⟩)), (.v (.int .i64 0))], none⟩, ⟨.store (.t 8) (.t 23) 5, none⟩, ⟨.mv 9 (.t 24), none⟩] ⟨[3, 4, 8], [(3, 3), (4, 4), (8, 8), (2410, 10514)]⟩) (.seq (.region [⟨.faddr 25 (.t 8) 2, none⟩, ⟨.load 26 (.t 25) 1 false, none⟩, ⟨.load 27 (.t 3) 3 true, none⟩, ⟨.call 28 (.fn 73) [(.t 26), (.t 27)], none⟩, ⟨.ext 29 (.t 28) 0, none⟩, ⟨.ext 30 (.t 28) 1, none⟩, ⟨.store (.t 4) (.t 29) 3, none⟩, ⟨.mv 5 (.t 30), none⟩] ⟨[4, 5], [(4, 4)]⟩) (.ret))))), [.cell 4 3 true, .tmp 5]⟩
theorem f55_chk : chk Try.prog 55 [(0, ⟨[2, 3, 4], [(2, 2), (3, 3), (4, 4)]⟩), (1, ⟨[2, 3, 4, 6, 7], [(2, 2), (3, 3), (4, 4), (6, 6)]⟩), (2, ⟨[2, 3, 4, 6, 17], [(2, 2), (3, 3), (4, 4), (6, 6)]⟩), (3, ⟨[4, 5], [(4, 4)]⟩), (4, ⟨[3, 4, 8], [(3, 3), (4, 4), (8, 8), (2410, 10514)]⟩), (5, ⟨[4, 5], [(4, 4)]⟩)] [] = some f55 := by kernel_rfl
/-- tracery/ident.Other -/
def f68 : IFn := ⟨.seq (.region [⟨.box 1 (.t 0) 3, none⟩, ⟨.alloc 2 [(.v (.int .i64 0)), (.v (.int .i64 0)), (.v (.int .i64 0))], none⟩] ⟨[1, 2], [(1, 1), (2, 2)]⟩) (.seq (.region [⟨.faddr 3 (.t 1) 2, none⟩, ⟨.load 4 (.t 3) 1 false, none⟩, ⟨.bin 5 false .xor (.t 4) (.c (.v (.int .i64 1))), none⟩, ⟨.faddr 6 (.t 1) 2, none⟩, ⟨.store (.t 6) (.t 5) 1, none⟩] ⟨[1, 2], [(1, 1), (2, 2)]⟩) (.seq (.region [⟨.load 7 (.t 1) 3 true, none⟩, ⟨.store (.t 2) (.t 7) 3, none⟩] ⟨[2], [(2, 2)]⟩) (.ret))), [.cell 2 3 true]⟩
theorem f68_chk : chk Try.prog 68 [(0, ⟨[1, 2], [(1, 1), (2, 2)]⟩), (1, ⟨[1, 2], [(1, 1), (2, 2)]⟩), (2, ⟨[2], [(2, 2)]⟩)] [] = some f68 := by kernel_rfl
/-- slots [0, 1, 2, 4]; objects [4] -/
def f69_b1 : ICode := .seq (.seq (.yld 9 7 ⟨.load 8 (.t 4) 3 true, none⟩ (.t 8) ⟨[0, 1, 2, 4, 9], [(4, 4)]⟩) (.cond (.t 9) (.skip) (.seq (.gc ⟨[], []⟩) (.exit 0)))) (.block 1 (.seq (.region [⟨.load 11 (.t 2) 2 true, none⟩, ⟨.load 12 (.t 4) 3 true, none⟩, ⟨.call 13 (.fn 70) [(.t 11), (.t 12)], none⟩, ⟨.mv 10 (.t 13), none⟩, ⟨.ext 14 (.t 10) 0, none⟩, ⟨.ext 15 (.t 10) 1, none⟩, ⟨.store (.t 4) (.t 14) 3, none⟩, ⟨.mv 5 (.t 15), none⟩] ⟨[0, 1, 2, 4, 5], [(4, 4)]⟩) (.seq (.region [⟨.mv 16 (.t 5), none⟩, ⟨.un 17 .not (.t 16), none⟩, ⟨.mv 18 (.t 17), none⟩, ⟨.load 19 (.t 4) 3 true, some (18, false)⟩, ⟨.load 20 (.t 1) 3 true, some (18, false)⟩, ⟨.eqs 21 false [.i, .i, .i] (.t 19) (.t 20), some (18, false)⟩, ⟨.pick 22 (.t 18) (.c (.v (.bool true))) (.t 21), none⟩] ⟨[0, 1, 2, 4, 22], [(4, 4)]⟩) (.cond (.t 22) (.ret) (.skip)))))
def f69_l1 : ICode := .loop f69_b1
theorem f69_l1_eq (C : Cs) (lo : Nat) (st : St) : E C lo f69_l1 st = seqK (E C lo f69_l1) (E C lo f69_b1 st) := E_loop C lo f69_b1 st
/-- tracery/face.round$1 -/
def f69 : IFn := ⟨.seq (.region [⟨.load 6 (.t 1) 3 true, none⟩, ⟨.alloc 4 [(.v (.int .i64 0)), (.v (.int .i64 0)), (.v (.int .i64 0))], none⟩, ⟨.store (.t 4) (.t 6) 3, none⟩, ⟨.mv 5 (.c (.v (.bool true))), none⟩] ⟨[0, 1, 2, 4], [(4, 4)]⟩) (.block 0 (f69_l1)), []⟩
theorem f69_chk : chk Try.prog 69 [(0, ⟨[0, 1, 2, 4], [(4, 4)]⟩), (1, ⟨[0, 1, 2, 4, 9], [(4, 4)]⟩), (2, ⟨[0, 1, 2, 4, 5], [(4, 4)]⟩), (3, ⟨[0, 1, 2, 4, 22], [(4, 4)]⟩), (1000003, ⟨[0], []⟩)] [(0, ⟨[], []⟩), (1, ⟨[0, 1, 2, 4], []⟩)] = some f69 := by kernel_rfl
/-- tracery/face.Phi -/
def f70 : IFn := ⟨.seq (.region [⟨.box 2 (.t 0) 2, none⟩, ⟨.box 3 (.t 1) 3, none⟩, ⟨.alloc 4 [(.v (.int .i64 0)), (.v (.int .i64 0)), (.v (.int .i64 0))], none⟩, ⟨.mv 5 (.c (.v (.bool false))), none⟩] ⟨[2, 3, 4], [(2, 2), (3, 3), (4, 4)]⟩) (.seq (.seq (.region [⟨.load 9 (.t 2) 2 true, none⟩, ⟨.load 10 (.t 3) 3 true, none⟩, ⟨.call 11 (.fn 82) [(.t 9), (.t 10)], none⟩, ⟨.mv 8 (.t 11), none⟩, ⟨.ext 12 (.t 8) 0, none⟩, ⟨.ext 13 (.t 8) 1, none⟩, ⟨.alloc 6 [(.v (.int .i64 0)), (.v (.int .i64 0))], none⟩, ⟨.store (.t 6) (.t 12) 2, none⟩, ⟨.mv 7 (.t 13), none⟩] ⟨[2, 3, 4, 7], [(2, 2), (3, 3), (4, 4)]⟩) (.seq (.region [⟨.mv 14 (.t 7), none⟩, ⟨.un 15 .not (.t 14), none⟩] ⟨[2, 3, 4, 15], [(2, 2), (3, 3), (4, 4)]⟩) (.cond (.t 15) (.seq (.region [⟨.build 16 [(.v (.int .i64 0)), (.v (.int .i64 0)), (.v (.int .i64 0))] [], none⟩, ⟨.store (.t 4) (.t 16) 3, none⟩, ⟨.mv 5 (.c (.v (.bool false))), none⟩] ⟨[4, 5], [(4, 4)]⟩) (.ret)) (.skip)))) (.seq (.draw [⟨.load 17 (.t 2) 2 true, none⟩, ⟨.load 18 (.t 3) 3 true, none⟩, ⟨.call 19 (.fn 68) [(.t 18)], none⟩, ⟨.call 20 (.fn 83) [(.t 17), (.t 19)], none⟩, ⟨.ext 21 (.t 20) 0, none⟩, ⟨.ext 22 (.t 20) 1, none⟩, ⟨.store (.t 4) (.t 21) 3, none⟩, ⟨.mv 5 (.t 22), none⟩] [0, 0, 2, 7, 15, 15, 63, 127] ⟨[4, 5], [(4, 4)]⟩) (.ret))), [.cell 4 3 true, .tmp 5]⟩
theorem f70_chk : chk Try.prog 70 [(0, ⟨[2, 3, 4], [(2, 2), (3, 3), (4, 4)]⟩), (1, ⟨[2, 3, 4, 7], [(2, 2), (3, 3), (4, 4)]⟩), (2, ⟨[2, 3, 4, 15], [(2, 2), (3, 3), (4, 4)]⟩), (3, ⟨[4, 5], [(4, 4)]⟩), (4, ⟨[4, 5], [(4, 4)]⟩)] [] = some f70 := by kernel_rfl
/-- slots [2, 3, 4, 6]; objects [2, 3, 4] -/
def f72_b1 : ICode := .seq (.seq (.region [⟨.mv 7 (.t 6), none⟩, ⟨.faddr 8 (.t 2) 0, none⟩, ⟨.load 9 (.t 8) 1 false, none⟩, ⟨.len 10 false (.t 9), none⟩, ⟨.bin 11 false .lss (.t 7) (.t 10), none⟩] ⟨[2, 3, 4, 6, 11], [(2, 2), (3, 3), (4, 4)]⟩) (.cond (.t 11) (.skip) (.seq (.gc ⟨[4], [(4, 4)]⟩) (.exit 0)))) (.seq (.block 1 (.seq (.draw [⟨.faddr 14 (.t 2) 0, none⟩, ⟨.load 15 (.t 14) 1 false, none⟩, ⟨.mv 16 (.t 6), none⟩, ⟨.iaddr 17 (.t 15) (.t 16) 5, none⟩, ⟨.faddr 18 (.t 17) 0, none⟩, ⟨.load 19 (.t 18) 2 true, none⟩, ⟨.load 20 (.t 3) 2 true, none⟩, ⟨.eqs 21 false [.i, .i] (.t 19) (.t 20), none⟩] [0, 1, 0, 7, 15, 31, 0, 127] ⟨[2, 3, 4, 6, 21], [(2, 2), (3, 3), (4, 4)]⟩) (.cond (.t 21) (.seq (.region [⟨.faddr 22 (.t 2) 0, none⟩, ⟨.load 23 (.t 22) 1 false, none⟩, ⟨.mv 24 (.t 6), none⟩, ⟨.iaddr 25 (.t 23) (.t 24) 5, none⟩, ⟨.load 26 (.t 25) 5 true, none⟩, ⟨.store (.t 4) (.t 26) 5, none⟩, ⟨.mv 5 (.c (.v (.bool true))), none⟩] ⟨[4, 5], [(4, 4)]⟩) (.ret)) (.skip)))) (.region [⟨.mv 12 (.t 6), none⟩, ⟨.bin 13 false .add (.t 12) (.c (.v (.int .i64 1))), none⟩, ⟨.mv 6 (.t 13), none⟩] ⟨[2, 3, 4, 6], [(2, 2), (3, 3), (4, 4)]⟩))
def f72_l1 : ICode := .loop f72_b1
theorem f72_l1_eq (C : Cs) (lo : Nat) (st : St) : E C lo f72_l1 st = seqK (E C lo f72_l1) (E C lo f72_b1 st) := E_loop C lo f72_b1 st
/-- tracery/traceryref04.Vertex -/
def f72 : IFn := ⟨.seq (.region [⟨.box 2 (.t 0) 2, none⟩, ⟨.box 3 (.t 1) 2, none⟩, ⟨.alloc 4 [(.v (.int .i64 0)), (.v (.int .i64 0)), (.v (.sl (.tight 39) 3 [])), (.v (.str ⟨#[]⟩)), (.v (.int .i64 0))], none⟩, ⟨.mv 5 (.c (.v (.bool false))), none⟩] ⟨[2, 3, 4], [(2, 2), (3, 3), (4, 4)]⟩) (.seq (.seq (.region [⟨.mv 6 (.c (.v (.int .i64 0))), none⟩] ⟨[2, 3, 4, 6], [(2, 2), (3, 3), (4, 4)]⟩) (.block 0 (f72_l1))) (.seq (.region [⟨.build 27 [(.v (.int .i64 0)), (.v (.int .i64 0)), (.v (.sl (.tight 39) 3 [])), (.v (.str ⟨#[]⟩)), (.v (.int .i64 0))] [], none⟩, ⟨.store (.t 4) (.t 27) 5, none⟩, ⟨.mv 5 (.c (.v (.bool false))), none⟩] ⟨[4, 5], [(4, 4)]⟩) (.ret))), [.cell 4 5 true, .tmp 5]⟩
theorem f72_chk : chk Try.prog 72 [(0, ⟨[2, 3, 4], [(2, 2), (3, 3), (4, 4)]⟩), (1, ⟨[2, 3, 4, 6], [(2, 2), (3, 3), (4, 4)]⟩), (2, ⟨[2, 3, 4, 6, 11], [(2, 2), (3, 3), (4, 4)]⟩), (3, ⟨[2, 3, 4, 6], [(2, 2), (3, 3), (4, 4)]⟩), (4, ⟨[2, 3, 4, 6, 21], [(2, 2), (3, 3), (4, 4)]⟩), (5, ⟨[4, 5], [(4, 4)]⟩), (6, ⟨[4, 5], [(4, 4)]⟩)] [(0, ⟨[4], [(4, 4)]⟩), (1, ⟨[2, 3, 4, 6], []⟩)] = some f72 := by kernel_rfl
/-- tracery/traceryref03.Next -/
def f73 : IFn := ⟨.seq (.region [⟨.box 3 (.t 1) 3, none⟩, ⟨.alloc 4 [(.v (.int .i64 0)), (.v (.int .i64 0)), (.v (.int .i64 0))], none⟩, ⟨.mv 5 (.c (.v (.bool false))), none⟩] ⟨[0, 3, 4], [(3, 3), (4, 4)]⟩) (.seq (.region [⟨.mv 7 (.t 0), none⟩, ⟨.load 8 (.t 3) 3 true, none⟩, ⟨.call 9 (.fn 23) [(.t 7), (.t 8)], none⟩, ⟨.mv 6 (.t 9), none⟩] ⟨[0, 4, 6], [(4, 4)]⟩) (.seq (.seq (.region [⟨.mv 10 (.t 6), none⟩, ⟨.bin 11 false .lss (.t 10) (.c (.v (.int .i64 0))), none⟩] ⟨[0, 4, 6, 11], [(4, 4)]⟩) (.cond (.t 11) (.seq (.region [⟨.build 12 [(.v (.int .i64 0)), (.v (.int .i64 0)), (.v (.int .i64 0))] [], none⟩, ⟨.store (.t 4) (.t 12) 3, none⟩, ⟨.mv 5 (.c (.v (.bool false))), none⟩] ⟨[4, 5], [(4, 4)]⟩) (.ret)) (.skip))) (.seq (.region [⟨.mv 13 (.t 0), none⟩, ⟨.mv 14 (.t 6), none⟩, ⟨.bin 15 false .add (.t 14) (.c (.v (.int .i64 1))), none⟩, ⟨.mv 16 (.t 0), none⟩, ⟨.len 17 false (.t 16), none⟩, ⟨.bin 18 false .rem (.t 15) (.t 17), none⟩, ⟨.iaddr 19 (.t 13) (.t 18) 3, none⟩, ⟨.load 20 (.t 19) 3 true, none⟩, ⟨.store (.t 4) (.t 20) 3, none⟩, ⟨.mv 5 (.c (.v (.bool true))), none⟩] ⟨[4, 5], [(4, 4)]⟩) (.ret)))), [.cell 4 3 true, .tmp 5]⟩
theorem f73_chk : chk Try.prog 73 [(0, ⟨[0, 3, 4], [(3, 3), (4, 4)]⟩), (1, ⟨[0, 4, 6], [(4, 4)]⟩), (2, ⟨[0, 4, 6, 11], [(4, 4)]⟩), (3, ⟨[4, 5], [(4, 4)]⟩), (4, ⟨[4, 5], [(4, 4)]⟩)] [] = some f73 := by kernel_rfl
/-- slots [3, 4, 9, 10, 11]; objects [3, 4] -/
def f82_b1 : ICode := .seq (.region [⟨.bin 12 false .lss (.t 11) (.t 10), none⟩] ⟨[3, 4, 9, 10, 11, 12], [(3, 3), (4, 4)]⟩) (.seq (.cond (.t 12) (.skip) (.seq (.gc ⟨[4], [(4, 4)]⟩) (.exit 0))) (.seq (.block 1 (.seq (.region [⟨.iaddr 13 (.t 9) (.t 11) 5, none⟩, ⟨.load 14 (.t 13) 5 true, none⟩, ⟨.alloc 7 [(.v (.int .i64 0)), (.v (.int .i64 0)), (.v (.sl (.tight 39) 3 [])), (.v (.str ⟨#[]⟩)), (.v (.int .i64 0))], none⟩, ⟨.store (.t 7) (.t 14) 5, none⟩] ⟨[3, 4, 7, 9, 10, 11], [(3, 3), (4, 4), (7, 7)]⟩) (.seq (.region [⟨.faddr 15 (.t 7) 2, none⟩, ⟨.load 16 (.t 15) 1 false, none⟩, ⟨.load 17 (.t 3) 3 true, none⟩, ⟨.call 18 (.fn 94) [(.t 16), (.t 17)], none⟩] ⟨[3, 4, 7, 9, 10, 11, 18], [(3, 3), (4, 4), (7, 7)]⟩) (.cond (.t 18) (.seq (.region [⟨.faddr 19 (.t 7) 0, none⟩, ⟨.load 20 (.t 19) 2 true, none⟩, ⟨.store (.t 4) (.t 20) 2, none⟩, ⟨.mv 5 (.c (.v (.bool true))), none⟩] ⟨[4, 5], [(4, 4)]⟩) (.ret)) (.skip))))) (.region [⟨.bin 21 false .add (.t 11) (.c (.v (.int .i64 1))), none⟩, ⟨.mv 11 (.t 21), none⟩] ⟨[3, 4, 9, 10, 11], [(3, 3), (4, 4)]⟩)))
def f82_l1 : ICode := .loop f82_b1
theorem f82_l1_eq (C : Cs) (lo : Nat) (st : St) : E C lo f82_l1 st = seqK (E C lo f82_l1) (E C lo f82_b1 st) := E_loop C lo f82_b1 st
/-- tracery/diagram.At -/
def f82 : IFn := ⟨.seq (.region [⟨.box 2 (.t 0) 2, none⟩, ⟨.box 3 (.t 1) 3, none⟩, ⟨.alloc 4 [(.v (.int .i64 0)), (.v (.int .i64 0))], none⟩, ⟨.mv 5 (.c (.v (.bool false))), none⟩] ⟨[2, 3, 4], [(2, 2), (3, 3), (4, 4)]⟩) (.seq (.seq (.region [⟨.faddr 8 (.t 2) 0, none⟩, ⟨.load 9 (.t 8) 1 false, none⟩, ⟨.len 10 false (.t 9), none⟩, ⟨.mv 11 (.c (.v (.int .i64 0))), none⟩] ⟨[3, 4, 9, 10, 11], [(3, 3), (4, 4)]⟩) (.block 0 (f82_l1))) (.seq (.region [⟨.build 22 [(.v (.int .i64 0)), (.v (.int .i64 0))] [], none⟩, ⟨.store (.t 4) (.t 22) 2, none⟩, ⟨.mv 5 (.c (.v (.bool false))), none⟩] ⟨[4, 5], [(4, 4)]⟩) (.ret))), [.cell 4 2 true, .tmp 5]⟩
theorem f82_chk : chk Try.prog 82 [(0, ⟨[2, 3, 4], [(2, 2), (3, 3), (4, 4)]⟩), (1, ⟨[3, 4, 9, 10, 11], [(3, 3), (4, 4)]⟩), (2, ⟨[3, 4, 9, 10, 11, 12], [(3, 3), (4, 4)]⟩), (3, ⟨[3, 4, 7, 9, 10, 11], [(3, 3), (4, 4), (7, 7)]⟩), (4, ⟨[3, 4, 7, 9, 10, 11, 18], [(3, 3), (4, 4), (7, 7)]⟩), (5, ⟨[4, 5], [(4, 4)]⟩), (6, ⟨[3, 4, 9, 10, 11], [(3, 3), (4, 4)]⟩), (7, ⟨[4, 5], [(4, 4)]⟩)] [(0, ⟨[4], [(4, 4)]⟩), (1, ⟨[3, 4, 9, 10, 11], []⟩)] = some f82 := by kernel_rfl
/-- slots [3, 4, 11, 12, 13]; objects [3, 4] -/
def f83_b1 : ICode := .seq (.region [⟨.bin 14 false .lss (.t 13) (.t 12), none⟩] ⟨[3, 4, 11, 12, 13, 14], [(3, 3), (4, 4)]⟩) (.seq (.cond (.t 14) (.skip) (.seq (.gc ⟨[4], [(4, 4)]⟩) (.exit 0))) (.seq (.block 1 (.seq (.region [⟨.iaddr 15 (.t 11) (.t 13) 5, none⟩, ⟨.load 16 (.t 15) 5 true, none⟩, ⟨.alloc 7 [(.v (.int .i64 0)), (.v (.int .i64 0)), (.v (.sl (.tight 39) 3 [])), (.v (.str ⟨#[]⟩)), (.v (.int .i64 0))], none⟩, ⟨.store (.t 7) (.t 16) 5, none⟩] ⟨[3, 4, 7, 11, 12, 13], [(3, 3), (4, 4), (7, 7)]⟩) (.seq (.region [⟨.faddr 18 (.t 7) 2, none⟩, ⟨.load 19 (.t 18) 1 false, none⟩, ⟨.load 20 (.t 3) 3 true, none⟩, ⟨.call 21 (.fn 95) [(.t 19), (.t 20)], none⟩, ⟨.mv 17 (.t 21), none⟩, ⟨.ext 22 (.t 17) 0, none⟩, ⟨.ext 23 (.t 17) 1, none⟩, ⟨.alloc 8 [(.v (.int .i64 0)), (.v (.int .i64 0)), (.v (.int .i64 0))], none⟩, ⟨.store (.t 8) (.t 22) 3, none⟩, ⟨.mv 9 (.t 23), none⟩] ⟨[3, 4, 8, 9, 11, 12, 13], [(3, 3), (4, 4), (8, 8)]⟩) (.seq (.region [⟨.mv 24 (.t 9), none⟩] ⟨[3, 4, 8, 11, 12, 13, 24], [(3, 3), (4, 4), (8, 8)]⟩) (.cond (.t 24) (.seq (.region [⟨.load 25 (.t 8) 3 true, none⟩, ⟨.store (.t 4) (.t 25) 3, none⟩, ⟨.mv 5 (.c (.v (.bool true))), none⟩] ⟨[4, 5], [(4, 4)]⟩) (.ret)) (.skip)))))) (.region [⟨.bin 26 false .add (.t 13) (.c (.v (.int .i64 1))), none⟩, ⟨.mv 13 (.t 26), none⟩] ⟨[3, 4, 11, 12, 13], [(3, 3), (4, 4)]⟩)))
def f83_l1 : ICode := .loop f83_b1
theorem f83_l1_eq (C : Cs) (lo : Nat) (st : St) : E C lo f83_l1 st = seqK (E C lo f83_l1) (E C lo f83_b1 st) := E_loop C lo f83_b1 st
/-- tracery/face.Sigma -/
def f83 : IFn := ⟨.seq (.region [⟨.box 2 (.t 0) 2, none⟩, ⟨.box 3 (.t 1) 3, none⟩, ⟨.alloc 4 [(.v (.int .i64 0)), (.v (.int .i64 0)), (.v (.int .i64 0))], none⟩, ⟨.mv 5 (.c (.v (.bool false))), none⟩] ⟨[2, 3, 4], [(2, 2), (3, 3), (4, 4)]⟩) (.seq (.seq (.region [⟨.faddr 10 (.t 2) 0, none⟩, ⟨.load 11 (.t 10) 1 false, none⟩, ⟨.len 12 false (.t 11), none⟩, ⟨.mv 13 (.c (.v (.int .i64 0))), none⟩] ⟨[3, 4, 11, 12, 13], [(3, 3), (4, 4)]⟩) (.block 0 (f83_l1))) (.seq (.region [⟨.build 27 [(.v (.int .i64 0)), (.v (.int .i64 0)), (.v (.int .i64 0))] [], none⟩, ⟨.store (.t 4) (.t 27) 3, none⟩, ⟨.mv 5 (.c (.v (.bool false))), none⟩] ⟨[4, 5], [(4, 4)]⟩) (.ret))), [.cell 4 3 true, .tmp 5]⟩
theorem f83_chk : chk Try.prog 83 [(0, ⟨[2, 3, 4], [(2, 2), (3, 3), (4, 4)]⟩), (1, ⟨[3, 4, 11, 12, 13], [(3, 3), (4, 4)]⟩), (2, ⟨[3, 4, 11, 12, 13, 14], [(3, 3), (4, 4)]⟩), (3, ⟨[3, 4, 7, 11, 12, 13], [(3, 3), (4, 4), (7, 7)]⟩), (4, ⟨[3, 4, 8, 9, 11, 12, 13], [(3, 3), (4, 4), (8, 8)]⟩), (5, ⟨[3, 4, 8, 11, 12, 13, 24], [(3, 3), (4, 4), (8, 8)]⟩), (6, ⟨[4, 5], [(4, 4)]⟩), (7, ⟨[3, 4, 11, 12, 13], [(3, 3), (4, 4)]⟩), (8, ⟨[4, 5], [(4, 4)]⟩)] [(0, ⟨[4], [(4, 4)]⟩), (1, ⟨[3, 4, 11, 12, 13], []⟩)] = some f83 := by kernel_rfl
/-- (tracery/comp.forest).join -/
def f84 : IFn := ⟨.seq (.region [⟨.mv 8 (.t 0), none⟩, ⟨.mv 9 (.t 1), none⟩, ⟨.icall 10 (.fn 85) [(.t 8), (.t 9)], none⟩, ⟨.mv 11 (.t 0), none⟩, ⟨.mv 12 (.t 2), none⟩, ⟨.icall 13 (.fn 85) [(.t 11), (.t 12)], none⟩, ⟨.mv 6 (.t 10), none⟩, ⟨.mv 7 (.t 13), none⟩] ⟨[0, 6, 7], []⟩) (.region [⟨.mv 14 (.t 0), none⟩, ⟨.mv 15 (.t 6), none⟩, ⟨.mv 16 (.t 7), none⟩, ⟨.mx 17 [(.t 15), (.t 16)], none⟩, ⟨.mv 18 (.t 6), none⟩, ⟨.mv 19 (.t 7), none⟩, ⟨.mn 20 [(.t 18), (.t 19)], none⟩, ⟨.iaddr 21 (.t 14) (.t 17) 1, none⟩, ⟨.store (.t 21) (.t 20) 1, none⟩] ⟨[], []⟩), []⟩
theorem f84_chk : chk Try.prog 84 [(0, ⟨[0, 6, 7], []⟩), (1, ⟨[], []⟩), (1000000, ⟨[10, 13], []⟩)] [] = some f84 := by kernel_rfl
/-- slots [0, 1]; objects [] -/
def f85_b1 : ICode := .seq (.seq (.region [⟨.mv 5 (.t 0), none⟩, ⟨.mv 6 (.t 1), none⟩, ⟨.iaddr 7 (.t 5) (.t 6) 1, none⟩, ⟨.load 8 (.t 7) 1 false, none⟩, ⟨.mv 9 (.t 1), none⟩, ⟨.bin 10 false .neq (.t 8) (.t 9), none⟩] ⟨[0, 1, 10], []⟩) (.cond (.t 10) (.skip) (.seq (.gc ⟨[1], []⟩) (.exit 0)))) (.block 1 (.seq (.region [⟨.mv 11 (.t 0), none⟩, ⟨.mv 12 (.t 1), none⟩, ⟨.mv 13 (.t 0), none⟩, ⟨.mv 14 (.t 0), none⟩, ⟨.mv 15 (.t 1), none⟩, ⟨.iaddr 16 (.t 14) (.t 15) 1, none⟩, ⟨.load 17 (.t 16) 1 false, none⟩, ⟨.iaddr 18 (.t 13) (.t 17) 1, none⟩, ⟨.load 19 (.t 18) 1 false, none⟩, ⟨.iaddr 20 (.t 11) (.t 12) 1, none⟩, ⟨.store (.t 20) (.t 19) 1, none⟩] ⟨[0, 1], []⟩) (.region [⟨.mv 21 (.t 0), none⟩, ⟨.mv 22 (.t 1), none⟩, ⟨.iaddr 23 (.t 21) (.t 22) 1, none⟩, ⟨.load 24 (.t 23) 1 false, none⟩, ⟨.mv 1 (.t 24), none⟩] ⟨[0, 1], []⟩)))
def f85_l1 : ICode := .loop f85_b1
theorem f85_l1_eq (C : Cs) (lo : Nat) (st : St) : E C lo f85_l1 st = seqK (E C lo f85_l1) (E C lo f85_b1 st) := E_loop C lo f85_b1 st
/-- (tracery/comp.forest).root -/
def f85 : IFn := ⟨.seq (.region [⟨.mv 4 (.c (.v (.int .i64 0))), none⟩] ⟨[0, 1], []⟩) (.seq (.block 0 (f85_l1)) (.seq (.region [⟨.mv 25 (.t 1), none⟩, ⟨.mv 4 (.t 25), none⟩] ⟨[4], []⟩) (.ret))), [.tmp 4]⟩
theorem f85_chk : chk Try.prog 85 [(0, ⟨[0, 1], []⟩), (1, ⟨[0, 1, 10], []⟩), (2, ⟨[0, 1], []⟩), (3, ⟨[0, 1], []⟩), (4, ⟨[4], []⟩)] [(0, ⟨[1], []⟩), (1, ⟨[0, 1], []⟩)] = some f85 := by kernel_rfl
/-- slots [0, 3, 7, 8]; objects [3] -/
def f88_b1 : ICode := .seq (.region [⟨.bin 9 false .lss (.t 8) (.t 7), none⟩] ⟨[0, 3, 7, 8, 9], [(3, 3)]⟩) (.seq (.cond (.t 9) (.skip) (.seq (.gc ⟨[], []⟩) (.exit 0))) (.seq (.block 1 (.seq (.region [⟨.mv 10 (.t 8), none⟩, ⟨.mv 5 (.t 10), none⟩] ⟨[0, 3, 5, 7, 8], [(3, 3)]⟩) (.seq (.draw [⟨.load 11 (.t 3) 3 true, none⟩, ⟨.mv 12 (.t 0), none⟩, ⟨.mv 13 (.t 5), none⟩, ⟨.iaddr 14 (.t 12) (.t 13) 3, none⟩, ⟨.load 15 (.t 14) 3 true, none⟩, ⟨.eqs 16 false [.i, .i, .i] (.t 11) (.t 15), none⟩] [0, 0, 0, 6, 14, 31] ⟨[0, 3, 5, 7, 8, 16], [(3, 3)]⟩) (.cond (.t 16) (.seq (.region [⟨.mv 17 (.t 5), none⟩, ⟨.mv 4 (.t 17), none⟩] ⟨[4], []⟩) (.ret)) (.skip))))) (.region [⟨.bin 18 false .add (.t 8) (.c (.v (.int .i64 1))), none⟩, ⟨.mv 8 (.t 18), none⟩] ⟨[0, 3, 7, 8], [(3, 3)]⟩)))
def f88_l1 : ICode := .loop f88_b1
theorem f88_l1_eq (C : Cs) (lo : Nat) (st : St) : E C lo f88_l1 st = seqK (E C lo f88_l1) (E C lo f88_b1 st) := E_loop C lo f88_b1 st
/-- slices.Index[[]tracery/api.Dart,tracery/api.Dart] -/
def f88 : IFn := ⟨.seq (.region [⟨.box 3 (.t 1) 3, none⟩, ⟨.mv 4 (.c (.v (.int .i64 0))), none⟩] ⟨[0, 3], [(3, 3)]⟩) (.seq (.seq (.region [⟨.mv 6 (.t 0), none⟩, ⟨.len 7 false (.t 6), none⟩, ⟨.mv 8 (.c (.v (.int .i64 0))), none⟩] ⟨[0, 3, 7, 8], [(3, 3)]⟩) (.block 0 (f88_l1))) (.seq (.region [⟨.mv 4 (.c (.v (.int .i64 (-1)))), none⟩] ⟨[4], []⟩) (.ret))), [.tmp 4]⟩
theorem f88_chk : chk Try.prog 88 [(0, ⟨[0, 3], [(3, 3)]⟩), (1, ⟨[0, 3, 7, 8], [(3, 3)]⟩), (2, ⟨[0, 3, 7, 8, 9], [(3, 3)]⟩), (3, ⟨[0, 3, 5, 7, 8], [(3, 3)]⟩), (4, ⟨[0, 3, 5, 7, 8, 16], [(3, 3)]⟩), (5, ⟨[4], []⟩), (6, ⟨[0, 3, 7, 8], [(3, 3)]⟩), (7, ⟨[4], []⟩)] [(0, ⟨[], []⟩), (1, ⟨[0, 3, 7, 8], []⟩)] = some f88 := by kernel_rfl
/-- slices.Contains[[]tracery/api.Dart,tracery/api.Dart] -/
def f94 : IFn := ⟨.seq (.region [⟨.box 3 (.t 1) 3, none⟩, ⟨.mv 4 (.c (.v (.bool false))), none⟩] ⟨[0, 3], [(3, 3)]⟩) (.seq (.region [⟨.mv 5 (.t 0), none⟩, ⟨.load 6 (.t 3) 3 true, none⟩, ⟨.call 7 (.fn 88) [(.t 5), (.t 6)], none⟩, ⟨.bin 8 false .geq (.t 7) (.c (.v (.int .i64 0))), none⟩, ⟨.mv 4 (.t 8), none⟩] ⟨[4], []⟩) (.ret)), [.tmp 4]⟩
theorem f94_chk : chk Try.prog 94 [(0, ⟨[0, 3], [(3, 3)]⟩), (1, ⟨[4], []⟩)] [] = some f94 := by kernel_rfl
/-- tracery/ring.Next -/
def f95 : IFn := ⟨.seq (.region [⟨.box 3 (.t 1) 3, none⟩, ⟨.alloc 4 [(.v (.int .i64 0)), (.v (.int .i64 0)), (.v (.int .i64 0))], none⟩, ⟨.mv 5 (.c (.v (.bool false))), none⟩] ⟨[0, 3, 4], [(3, 3), (4, 4)]⟩) (.seq (.region [⟨.mv 6 (.t 0), none⟩, ⟨.load 7 (.t 3) 3 true, none⟩, ⟨.call 8 (.fn 98) [(.t 6), (.t 7), (.c (.v (.int .i64 1)))], none⟩, ⟨.ext 9 (.t 8) 0, none⟩, ⟨.ext 10 (.t 8) 1, none⟩, ⟨.store (.t 4) (.t 9) 3, none⟩, ⟨.mv 5 (.t 10), none⟩] ⟨[4, 5], [(4, 4)]⟩) (.ret)), [.cell 4 3 true, .tmp 5]⟩
theorem f95_chk : chk Try.prog 95 [(0, ⟨[0, 3, 4], [(3, 3), (4, 4)]⟩), (1, ⟨[4, 5], [(4, 4)]⟩)] [] = some f95 := by kernel_rfl
/-- tracery/ring.step -/
def f98 : IFn := ⟨.seq (.region [⟨.box 4 (.t 1) 3, none⟩, ⟨.alloc 6 [(.v (.int .i64 0)), (.v (.int .i64 0)), (.v (.int .i64 0))], none⟩, ⟨.mv 7 (.c (.v (.bool false))), none⟩] ⟨[0, 2, 4, 6], [(4, 4), (6, 6)]⟩) (.seq (.region [⟨.mv 9 (.t 0), none⟩, ⟨.load 10 (.t 4) 3 true, none⟩, ⟨.call 11 (.fn 88) [(.t 9), (.t 10)], none⟩, ⟨.mv 8 (.t 11), none⟩] ⟨[0, 2, 6, 8], [(6, 6)]⟩) (.seq (.seq (.region [⟨.mv 12 (.t 8), none⟩, ⟨.bin 13 false .lss (.t 12) (.c (.v (.int .i64 0))), none⟩] ⟨[0, 2, 6, 8, 13], [(6, 6)]⟩) (.cond (.t 13) (.seq (.region [⟨.build 14 [(.v (.int .i64 0)), (.v (.int .i64 0)), (.v (.int .i64 0))] [], none⟩, ⟨.store (.t 6) (.t 14) 3, none⟩, ⟨.mv 7 (.c (.v (.bool false))), none⟩] ⟨[6, 7], [(6, 6)]⟩) (.ret)) (.skip))) (.seq (.region [⟨.mv 15 (.t 0), none⟩, ⟨.mv 16 (.t 8), none⟩, ⟨.mv 17 (.t 2), none⟩, ⟨.bin 18 false .add (.t 16) (.t 17), none⟩, ⟨.mv 19 (.t 0), none⟩, ⟨.len 20 false (.t 19), none⟩, ⟨.bin 21 false .rem (.t 18) (.t 20), none⟩, ⟨.iaddr 22 (.t 15) (.t 21) 3, none⟩, ⟨.load 23 (.t 22) 3 true, none⟩, ⟨.store (.t 6) (.t 23) 3, none⟩, ⟨.mv 7 (.c (.v (.bool true))), none⟩] ⟨[6, 7], [(6, 6)]⟩) (.ret)))), [.cell 6 3 true, .tmp 7]⟩
theorem f98_chk : chk Try.prog 98 [(0, ⟨[0, 2, 4, 6], [(4, 4), (6, 6)]⟩), (1, ⟨[0, 2, 6, 8], [(6, 6)]⟩), (2, ⟨[0, 2, 6, 8, 13], [(6, 6)]⟩), (3, ⟨[6, 7], [(6, 6)]⟩), (4, ⟨[6, 7], [(6, 6)]⟩)] [] = some f98 := by kernel_rfl
def tab : List (Nat × IFn) := [(3, f3), (5, f5), (10, f10), (11, f11), (12, f12), (13, f13), (14, f14), (15, f15), (17, f17), (18, f18), (19, f19), (20, f20), (21, f21), (22, f22), (23, f23), (24, f24), (29, f29), (30, f30), (31, f31), (32, f32), (33, f33), (34, f34), (35, f35), (36, f36), (37, f37), (38, f38), (39, f39), (40, f40), (41, f41), (42, f42), (43, f43), (47, f47), (48, f48), (49, f49), (50, f50), (51, f51), (52, f52), (53, f53), (55, f55), (68, f68), (69, f69), (70, f70), (72, f72), (73, f73), (82, f82), (83, f83), (84, f84), (85, f85), (88, f88), (94, f94), (95, f95), (98, f98)]
def lookF : List (Nat × IFn) → Nat → Option FEnt
  | [], _ => none
  | (i, fn) :: r, f => if i = f then some (.code fn) else lookF r f
def lookE : List (Nat × FEnt) → Nat → Option FEnt
  | [], _ => none
  | (i, e) :: r, f => if i = f then some e else lookE r f
noncomputable def F : FuncId → Option FEnt := fun f => match lookE exts f with
  | some e => some e
  | none => lookF tab f
theorem tab_ok : ∀ x ∈ tab, ∃ A B, chk Try.prog x.1 A B = some x.2 :=
  List.forall_mem_cons.2 ⟨⟨_, _, f3_chk⟩, List.forall_mem_cons.2 ⟨⟨_, _, f5_chk⟩, List.forall_mem_cons.2 ⟨⟨_, _, f10_chk⟩, List.forall_mem_cons.2 ⟨⟨_, _, f11_chk⟩, List.forall_mem_cons.2 ⟨⟨_, _, f12_chk⟩, List.forall_mem_cons.2 ⟨⟨_, _, f13_chk⟩, List.forall_mem_cons.2 ⟨⟨_, _, f14_chk⟩, List.forall_mem_cons.2 ⟨⟨_, _, f15_chk⟩, List.forall_mem_cons.2 ⟨⟨_, _, f17_chk⟩, List.forall_mem_cons.2 ⟨⟨_, _, f18_chk⟩, List.forall_mem_cons.2 ⟨⟨_, _, f19_chk⟩, List.forall_mem_cons.2 ⟨⟨_, _, f20_chk⟩, List.forall_mem_cons.2 ⟨⟨_, _, f21_chk⟩, List.forall_mem_cons.2 ⟨⟨_, _, f22_chk⟩, List.forall_mem_cons.2 ⟨⟨_, _, f23_chk⟩, List.forall_mem_cons.2 ⟨⟨_, _, f24_chk⟩, List.forall_mem_cons.2 ⟨⟨_, _, f29_chk⟩, List.forall_mem_cons.2 ⟨⟨_, _, f30_chk⟩, List.forall_mem_cons.2 ⟨⟨_, _, f31_chk⟩, List.forall_mem_cons.2 ⟨⟨_, _, f32_chk⟩, List.forall_mem_cons.2 ⟨⟨_, _, f33_chk⟩, List.forall_mem_cons.2 ⟨⟨_, _, f34_chk⟩, List.forall_mem_cons.2 ⟨⟨_, _, f35_chk⟩, List.forall_mem_cons.2 ⟨⟨_, _, f36_chk⟩, List.forall_mem_cons.2 ⟨⟨_, _, f37_chk⟩, List.forall_mem_cons.2 ⟨⟨_, _, f38_chk⟩, List.forall_mem_cons.2 ⟨⟨_, _, f39_chk⟩, List.forall_mem_cons.2 ⟨⟨_, _, f40_chk⟩, List.forall_mem_cons.2 ⟨⟨_, _, f41_chk⟩, List.forall_mem_cons.2 ⟨⟨_, _, f42_chk⟩, List.forall_mem_cons.2 ⟨⟨_, _, f43_chk⟩, List.forall_mem_cons.2 ⟨⟨_, _, f47_chk⟩, List.forall_mem_cons.2 ⟨⟨_, _, f48_chk⟩, List.forall_mem_cons.2 ⟨⟨_, _, f49_chk⟩, List.forall_mem_cons.2 ⟨⟨_, _, f50_chk⟩, List.forall_mem_cons.2 ⟨⟨_, _, f51_chk⟩, List.forall_mem_cons.2 ⟨⟨_, _, f52_chk⟩, List.forall_mem_cons.2 ⟨⟨_, _, f53_chk⟩, List.forall_mem_cons.2 ⟨⟨_, _, f55_chk⟩, List.forall_mem_cons.2 ⟨⟨_, _, f68_chk⟩, List.forall_mem_cons.2 ⟨⟨_, _, f69_chk⟩, List.forall_mem_cons.2 ⟨⟨_, _, f70_chk⟩, List.forall_mem_cons.2 ⟨⟨_, _, f72_chk⟩, List.forall_mem_cons.2 ⟨⟨_, _, f73_chk⟩, List.forall_mem_cons.2 ⟨⟨_, _, f82_chk⟩, List.forall_mem_cons.2 ⟨⟨_, _, f83_chk⟩, List.forall_mem_cons.2 ⟨⟨_, _, f84_chk⟩, List.forall_mem_cons.2 ⟨⟨_, _, f85_chk⟩, List.forall_mem_cons.2 ⟨⟨_, _, f88_chk⟩, List.forall_mem_cons.2 ⟨⟨_, _, f94_chk⟩, List.forall_mem_cons.2 ⟨⟨_, _, f95_chk⟩, List.forall_mem_cons.2 ⟨⟨_, _, f98_chk⟩, fun _ h => by cases h⟩⟩⟩⟩⟩⟩⟩⟩⟩⟩⟩⟩⟩⟩⟩⟩⟩⟩⟩⟩⟩⟩⟩⟩⟩⟩⟩⟩⟩⟩⟩⟩⟩⟩⟩⟩⟩⟩⟩⟩⟩⟩⟩⟩⟩⟩⟩⟩⟩⟩⟩⟩
theorem lookF_ok : ∀ {l : List (Nat × IFn)}, (∀ x ∈ l, ∃ A B, chk Try.prog x.1 A B = some x.2) → ∀ f e, lookF l f = some e → EntOK Try.prog f e
  | [], _, f, e, h => by cases h
  | (i, fn) :: r, hl, f, e, h => by
    simp only [lookF] at h
    split at h
    · rename_i hi
      subst hi
      obtain rfl := Option.some.inj h
      exact hl (i, fn) (by simp)
    · exact lookF_ok (fun x hx => hl x (by simp [hx])) f e h
theorem lookE_ok : ∀ {l : List (Nat × FEnt)}, (∀ x ∈ l, EntOK Try.prog x.1 x.2) → ∀ f e, lookE l f = some e → EntOK Try.prog f e
  | [], _, f, e, h => by cases h
  | (i, x) :: r, hl, f, e, h => by
    simp only [lookE] at h
    split at h
    · rename_i hi
      subst hi
      obtain rfl := Option.some.inj h
      exact hl (i, x) (by simp)
    · exact lookE_ok (fun x hx => hl x (by simp [hx])) f e h
theorem goodC : Good Try.prog (cs F) := call_good F (Checked.mixed Try.checked) fun f e h => by
  unfold F at h
  split at h
  · rename_i x hx
    obtain rfl := Option.some.inj h
    exact lookE_ok exts_ok f _ hx
  · exact lookF_ok tab_ok f e h
theorem good : ∀ f args r, call F f args = some r → Sound Try.prog f args r := goodC.1
end Go.Proofs.Ytonhkmpjpnjkfaa.Sx
namespace Go.Proofs.Ytonhkmpjpnjkfaa.Sx
open Go
theorem c_r01_May (a b : Int) : call F 48 [.agg [.int .i64 a, .int .i64 b]] = some (.bool (mayI ⟨a, b⟩)) := by
  rw [call_code F (show F 48 = some (.code f48) from rfl)]
  simp only [f48, go_sem, reduceIte, reduceCtorEq, Nat.reduceEqDiff, Nat.reduceAdd, Nat.reduceLeDiff, List.length_cons, List.length_nil]
  iterate 3 all_goals (try (split <;> (rename_i h; (try simp only [Bool.not_eq_true] at h); simp only [*, go_sem, reduceIte, Nat.reduceEqDiff, Nat.reduceAdd, Nat.reduceLeDiff, List.length_cons, List.length_nil])))
  all_goals simp_all [mayI]
  all_goals omega
theorem c_r01_Order (a b c d : Int) : call F 49 [.agg [.int .i64 a, .int .i64 b], .agg [.int .i64 c, .int .i64 d]] = some (.int .i64 (ordI ⟨a, b⟩ ⟨c, d⟩)) := by
  rw [call_code F (show F 49 = some (.code f49) from rfl)]
  simp only [f49, go_sem, reduceIte, reduceCtorEq, Nat.reduceEqDiff, Nat.reduceAdd, List.length_cons, List.length_nil, Int.reduceNeg]
  iterate 6 all_goals (try (split <;> (rename_i h; (try simp only [Bool.not_eq_true] at h); simp only [*, go_sem, reduceIte, Nat.reduceEqDiff, Nat.reduceAdd, Nat.reduceLeDiff, List.length_cons, List.length_nil, Int.reduceNeg])))
  all_goals simp_all [ordI]
  all_goals omega
theorem c_r01_OrderDart (a b e c d f : Int) : call F 47 [.agg [.int .i64 a, .int .i64 b, .int .i64 e], .agg [.int .i64 c, .int .i64 d, .int .i64 f]] = some (.int .i64 (ordD ⟨⟨a, b⟩, e⟩ ⟨⟨c, d⟩, f⟩)) := by
  rw [← ordD_or]
  rw [call_code F (show F 47 = some (.code f47) from rfl)]
  simp only [f47, c_r01_Order, go_sem, reduceIte, reduceCtorEq, Nat.reduceEqDiff, Nat.reduceAdd, Nat.reduceMul, Nat.reduceLeDiff, List.length_cons, List.length_nil, Int.reduceNeg, ne_eq]
  iterate 6 all_goals (try (split <;> (rename_i h; (try simp only [Bool.not_eq_true] at h); simp only [*, go_sem, reduceIte, Nat.reduceEqDiff, Nat.reduceAdd, List.length_cons, List.length_nil, Int.reduceNeg])))
  all_goals simp_all [orZ, cmpZ]
  all_goals omega
end Go.Proofs.Ytonhkmpjpnjkfaa.Sx
namespace Go.Proofs.Ytonhkmpjpnjkfaa.Sx
open Go
theorem i_Index_Dart (l : List Dart) (x : Dart) (hl : Fits l) : call F 88 [.sl .shared 3 (rowsBy Dart.c l), .agg [.int .i64 x.e.s, .int .i64 x.e.n, .int .i64 x.d]] = some (.int .i64 (idx l x)) := by
  have hl := hl.le
  have S : ∀ r, E (cs F) 0 f88_b1 (⟨(upd (upd (upd (upd Sx.e0 8 (.v (.int .i64 ((l.idxOf x : Int))))) 7 (.v (.int .i64 ((l.length : Int))))) 3 (.p 3 0)) 0 (.v (.sl .shared 3 (rowsBy Dart.c l)))), (upd Sx.h0 3 (some (.var false [(.v (.int .i64 (x.e.s))), (.v (.int .i64 (x.e.n))), (.v (.int .i64 (x.d)))])))⟩ : St) = some r → r.1 ≠ .norm →
      E (cs F) 0 f88_l1 (⟨(upd (upd (upd (upd Sx.e0 8 (.v (.int .i64 (0)))) 7 (.v (.int .i64 ((l.length : Int))))) 3 (.p 3 0)) 0 (.v (.sl .shared 3 (rowsBy Dart.c l)))), (upd Sx.h0 3 (some (.var false [(.v (.int .i64 (x.e.s))), (.v (.int .i64 (x.e.n))), (.v (.int .i64 (x.d)))])))⟩ : St) = some r := by
    intro r hf hr
    refine loop_to (b := f88_b1) (fun i => (⟨(upd (upd (upd (upd Sx.e0 8 (.v (.int .i64 ((i : Int))))) 7 (.v (.int .i64 ((l.length : Int))))) 3 (.p 3 0)) 0 (.v (.sl .shared 3 (rowsBy Dart.c l)))), (upd Sx.h0 3 (some (.var false [(.v (.int .i64 (x.e.s))), (.v (.int .i64 (x.e.n))), (.v (.int .i64 (x.d)))])))⟩ : St)) (l.idxOf x) ?_ hf hr
    intro i hi
    have h1 : i < l.length := Nat.lt_of_lt_of_le hi (idxOf_le l x)
    have hne := dec_f (Ne.symm (idxOf_ne hi h1))
    simp only [f88_b1, dec_lt h1, rowsBy_get Dart.c h1, Dart.c, hne, wrap_succ h1 (show l.length ≤ 9223372036854775807 by omega), go_sem, reduceIte, reduceCtorEq, Nat.reduceEqDiff, Nat.reduceAdd, List.length_cons, List.length_nil]
  by_cases hm : x ∈ l
  · obtain ⟨hlt, he⟩ := idxOf_at hm
    have hd := dec_t he.symm
    have := S _ (by simp only [f88_b1, dec_lt hlt, rowsBy_get Dart.c hlt, Dart.c, hd, go_sem, reduceIte, reduceCtorEq, Nat.reduceEqDiff, Nat.reduceAdd, List.length_cons, List.length_nil]; rfl) (by simp)
    rw [idx_pos hm]
    rw [call_code F (show F 88 = some (.code f88) from rfl)]
    simp only [f88, this, go_sem, reduceIte, reduceCtorEq, Nat.reduceEqDiff, Nat.reduceAdd, List.length_cons, List.length_nil, Int.reduceNeg]
  · have e := idxOf_not hm
    have := S _ (by rw [e]
                    simp only [f88_b1, dec_ge (Nat.le_refl l.length), go_sem, reduceIte, reduceCtorEq, Nat.reduceEqDiff]
                    rfl) (by simp)
    rw [idx_neg hm]
    rw [call_code F (show F 88 = some (.code f88) from rfl)]
    simp only [f88, this, go_sem, reduceIte, reduceCtorEq, Nat.reduceEqDiff, Nat.reduceAdd, List.length_cons, List.length_nil, Int.reduceNeg]
theorem c_Index_Dart (l : List Dart) (a b c : Int) (hl : Fits l) : call F 88 [.sl .shared 3 (rowsBy Dart.c l), .agg [.int .i64 a, .int .i64 b, .int .i64 c]] = some (.int .i64 (idx l ⟨⟨a, b⟩, c⟩)) := i_Index_Dart l ⟨⟨a, b⟩, c⟩ hl
theorem i_r03_Index (l : List Dart) (x : Dart) (hl : Fits l) : call F 23 [.sl .shared 3 (rowsBy Dart.c l), .agg [.int .i64 x.e.s, .int .i64 x.e.n, .int .i64 x.d]] = some (.int .i64 (idx l x)) := by
  have hl := hl.le
  have S : ∀ r, E (cs F) 0 f23_b1 (⟨(upd (upd (upd Sx.e0 5 (.v (.int .i64 ((l.idxOf x : Int))))) 3 (.p 3 0)) 0 (.v (.sl .shared 3 (rowsBy Dart.c l)))), (upd Sx.h0 3 (some (.var false [(.v (.int .i64 (x.e.s))), (.v (.int .i64 (x.e.n))), (.v (.int .i64 (x.d)))])))⟩ : St) = some r → r.1 ≠ .norm →
      E (cs F) 0 f23_l1 (⟨(upd (upd (upd Sx.e0 5 (.v (.int .i64 (0)))) 3 (.p 3 0)) 0 (.v (.sl .shared 3 (rowsBy Dart.c l)))), (upd Sx.h0 3 (some (.var false [(.v (.int .i64 (x.e.s))), (.v (.int .i64 (x.e.n))), (.v (.int .i64 (x.d)))])))⟩ : St) = some r := by
    intro r hf hr
    refine loop_to (b := f23_b1) (fun i => (⟨(upd (upd (upd Sx.e0 5 (.v (.int .i64 ((i : Int))))) 3 (.p 3 0)) 0 (.v (.sl .shared 3 (rowsBy Dart.c l)))), (upd Sx.h0 3 (some (.var false [(.v (.int .i64 (x.e.s))), (.v (.int .i64 (x.e.n))), (.v (.int .i64 (x.d)))])))⟩ : St)) (l.idxOf x) ?_ hf hr
    intro i hi
    have h1 : i < l.length := Nat.lt_of_lt_of_le hi (idxOf_le l x)
    have hne := dec_f (idxOf_ne hi h1)
    simp only [f23_b1, dec_lt h1, rowsBy_get Dart.c h1, Dart.c, hne, wrap_succ h1 (show l.length ≤ 9223372036854775807 by omega), go_sem, reduceIte, reduceCtorEq, Nat.reduceEqDiff, Nat.reduceAdd, List.length_cons, List.length_nil]
  by_cases hm : x ∈ l
  · obtain ⟨hlt, he⟩ := idxOf_at hm
    have hd := dec_t he
    have := S _ (by simp only [f23_b1, dec_lt hlt, rowsBy_get Dart.c hlt, Dart.c, hd, go_sem, reduceIte, reduceCtorEq, Nat.reduceEqDiff, Nat.reduceAdd, List.length_cons, List.length_nil]; rfl) (by simp)
    rw [idx_pos hm]
    rw [call_code F (show F 23 = some (.code f23) from rfl)]
    simp only [f23, this, go_sem, reduceIte, reduceCtorEq, Nat.reduceEqDiff, Nat.reduceAdd, List.length_cons, List.length_nil, Int.reduceNeg]
  · have e := idxOf_not hm
    have := S _ (by rw [e]
                    simp only [f23_b1, dec_ge (Nat.le_refl l.length), go_sem, reduceIte, reduceCtorEq, Nat.reduceEqDiff]
                    rfl) (by simp)
    rw [idx_neg hm]
    rw [call_code F (show F 23 = some (.code f23) from rfl)]
    simp only [f23, this, go_sem, reduceIte, reduceCtorEq, Nat.reduceEqDiff, Nat.reduceAdd, List.length_cons, List.length_nil, Int.reduceNeg]
theorem c_Contains_Dart (l : List Dart) (a b c : Int) (hl : Fits l) : call F 94 [.sl .shared 3 (rowsBy Dart.c l), .agg [.int .i64 a, .int .i64 b, .int .i64 c]] = some (.bool (decide (⟨⟨a, b⟩, c⟩ ∈ l))) := by
  rw [call_code F (show F 94 = some (.code f94) from rfl)]
  simp only [f94, c_Index_Dart l a b c hl, go_sem, reduceIte, reduceCtorEq, Nat.reduceEqDiff, Nat.reduceAdd, Nat.reduceMul, List.length_cons, List.length_nil]
  rw [idx_ge0]
/-- the least dart -/
def minFrom (x : Dart) (l : List Dart) : Dart := l.foldl (fun m y => if ordD y m < 0 then y else m) x
theorem minFrom_snoc (x : Dart) (l : List Dart) (y : Dart) : minFrom x (l ++ [y]) = if ordD y (minFrom x l) < 0 then y else minFrom x l := by unfold minFrom; rw [List.foldl_append]; rfl
def minD : List Dart → Dart
  | [] => Dart0
  | x :: l => minFrom x l
def turn (l : List Dart) : List Dart := l.drop (l.idxOf (minD l)) ++ l.take (l.idxOf (minD l))
theorem minFrom_mem (x : Dart) (l : List Dart) : minFrom x l ∈ x :: l := by
  unfold minFrom
  induction l generalizing x with
  | nil => simp
  | cons y l ih =>
    rw [List.foldl_cons]
    have := ih (if ordD y x < 0 then y else x)
    split at this <;> rename_i h <;> simp only [List.mem_cons] at this ⊢ <;> (simp only [h, if_true, if_false]; rcases this with h | h <;> simp [h])
theorem minD_mem {l : List Dart} (h : l ≠ []) : minD l ∈ l := by
  cases l with
  | nil => exact absurd rfl h
  | cons x l => exact minFrom_mem x l
theorem turn_length (l : List Dart) : (turn l).length = l.length := by
  unfold turn
  simp only [List.length_append, List.length_drop, List.length_take]
  have := idxOf_le l (minD l)
  omega
@[go_sem] theorem fits_turn {l : List Dart} (h : Fits l) : Fits (turn l) := by unfold Fits; rw [turn_length]; exact h
def byD (l : List Dart) (d : Dart) (n : Nat) : Dart := if d ∈ l then l.getD ((l.idxOf d + n) % l.length) Dart0 else Dart0
def nextD (l : List Dart) (d : Dart) : Dart := byD l d 1
def prevD (l : List Dart) (d : Dart) : Dart := byD l d (l.length - 1)
theorem tmod_nat {a b : Nat} : ((a : Int)).tmod (b : Int) = ((a % b : Nat) : Int) := by
  rw [Int.tmod_eq_emod_of_nonneg (by omega)]; omega
def dartT (x : Dart) : TV := .agg [.int .i64 x.e.s, .int .i64 x.e.n, .int .i64 x.d]
theorem i_ring_step (l : List Dart) (x : Dart) (n : Nat) (hn : n ≤ 5864062014634) (hl : Fits l) : call F 98 [.sl .shared 3 (rowsBy Dart.c l), .agg [.int .i64 x.e.s, .int .i64 x.e.n, .int .i64 x.d], .int .i64 n] = some (.tup [dartT (byD l x n), .bool (decide (x ∈ l))]) := by
  have ix := i_Index_Dart l x hl
  have hl := hl.le
  by_cases hm : x ∈ l
  · rw [idx_pos hm] at ix
    obtain ⟨hlt, _⟩ := idxOf_at hm
    have h1 : decide (((l.idxOf x : Nat) : Int) < 0) = false := by simp
    have h2 : IntKind.i64.wrap (((l.idxOf x : Nat) : Int) + (n : Int)) = ((l.idxOf x + n : Nat) : Int) := by rw [wrap64 (by omega) (by omega)]; omega
    have h3 : ¬ ((l.length : Int) = 0) := by omega
    have h4 : (l.idxOf x + n) % l.length < l.length := Nat.mod_lt _ (by omega)
    have h5 : (((l.idxOf x + n) % l.length : Nat) : Int) < (l.length : Int) := by omega
    have h6 : byD l x n = l[(l.idxOf x + n) % l.length] := by unfold byD; rw [if_pos hm]; simp [h4]
    rw [dec_t hm, h6]
    rw [call_code F (show F 98 = some (.code f98) from rfl)]
    simp only [f98, ix, h1, h2, h3, tmod_nat, rowsBy_get Dart.c h4, Dart.c, dartT, go_sem, reduceIte, reduceCtorEq, Nat.reduceEqDiff, Nat.reduceAdd, Nat.reduceMul, List.length_cons, List.length_nil]
  · rw [idx_neg hm] at ix
    have h6 : byD l x n = Dart0 := by unfold byD; rw [if_neg hm]
    rw [dec_f hm, h6]
    rw [call_code F (show F 98 = some (.code f98) from rfl)]
    simp only [f98, ix, dartT, Dart0, ID0, go_sem, reduceIte, reduceCtorEq, Nat.reduceEqDiff, Nat.reduceAdd, Nat.reduceMul, List.length_cons, List.length_nil, Int.reduceLT, Int.reduceNeg]
theorem i_ring_Next (l : List Dart) (x : Dart) (hl : Fits l) : call F 95 [.sl .shared 3 (rowsBy Dart.c l), .agg [.int .i64 x.e.s, .int .i64 x.e.n, .int .i64 x.d]] = some (.tup [dartT (nextD l x), .bool (decide (x ∈ l))]) := by
  have st := i_ring_step l x 1 (by omega) hl
  simp only [dartT, Int.cast_ofNat_Int] at st
  rw [call_code F (show F 95 = some (.code f95) from rfl)]
  simp only [f95, st, dartT, nextD, go_sem, reduceIte, reduceCtorEq, Nat.reduceEqDiff, Nat.reduceAdd, Nat.reduceMul, Nat.reduceLeDiff, List.length_cons, List.length_nil]
theorem i_r03_Next (l : List Dart) (x : Dart) (hl : Fits l) : call F 73 [.sl .shared 3 (rowsBy Dart.c l), .agg [.int .i64 x.e.s, .int .i64 x.e.n, .int .i64 x.d]] = some (.tup [dartT (nextD l x), .bool (decide (x ∈ l))]) := by
  have ix := i_r03_Index l x hl
  have hl := hl.le
  by_cases hm : x ∈ l
  · rw [idx_pos hm] at ix
    obtain ⟨hlt, _⟩ := idxOf_at hm
    have h1 : decide (((l.idxOf x : Nat) : Int) < 0) = false := by simp
    have h2 : IntKind.i64.wrap (((l.idxOf x : Nat) : Int) + 1) = ((l.idxOf x + 1 : Nat) : Int) := by rw [wrap64 (by omega) (by omega)]; omega
    have h3 : ¬ ((l.length : Int) = 0) := by omega
    have h4 : (l.idxOf x + 1) % l.length < l.length := Nat.mod_lt _ (by omega)
    have h5 : (((l.idxOf x + 1) % l.length : Nat) : Int) < (l.length : Int) := by omega
    have h6 : nextD l x = l[(l.idxOf x + 1) % l.length] := by unfold nextD byD; rw [if_pos hm]; simp [h4]
    rw [dec_t hm, h6]
    rw [call_code F (show F 73 = some (.code f73) from rfl)]
    simp only [f73, ix, h1, h2, h3, tmod_nat, rowsBy_get Dart.c h4, Dart.c, dartT, go_sem, reduceIte, reduceCtorEq, Nat.reduceEqDiff, Nat.reduceAdd, Nat.reduceMul, List.length_cons, List.length_nil]
  · rw [idx_neg hm] at ix
    have h6 : nextD l x = Dart0 := by unfold nextD byD; rw [if_neg hm]
    rw [dec_f hm, h6]
    rw [call_code F (show F 73 = some (.code f73) from rfl)]
    simp only [f73, ix, dartT, Dart0, ID0, go_sem, reduceIte, reduceCtorEq, Nat.reduceEqDiff, Nat.reduceAdd, Nat.reduceMul, List.length_cons, List.length_nil, Int.reduceLT, Int.reduceNeg]
theorem first_diff {α : Type} [DecidableEq α] : ∀ (l m : List α), l.length = m.length → l ≠ m → ∃ k, ∃ (h1 : k < l.length) (h2 : k < m.length), (∀ i (h : i < k), l[i] = m[i]) ∧ l[k] ≠ m[k]
  | [], [], _, h => absurd rfl h
  | [], _ :: _, h, _ => by simp at h
  | _ :: _, [], h, _ => by simp at h
  | a :: l, b :: m, hl, hne => by
    by_cases hab : a = b
    · subst hab
      obtain ⟨k, h1, h2, h3, h4⟩ := first_diff l m (by simpa using hl) (fun e => hne (by rw [e]))
      refine ⟨k + 1, by simp; omega, by simp; omega, fun i hi => ?_, by simpa using h4⟩
      cases i with
      | zero => rfl
      | succ i => simpa using h3 i (by omega)
    · exact ⟨0, by simp, by simp, fun i hi => absurd hi (Nat.not_lt_zero _), by simpa using hab⟩
@[go_sem] theorem darts_snoc (l : List Dart) (x : Dart) : rowsBy Dart.c l ++ [[.int .i64 x.e.s, .int .i64 x.e.n, .int .i64 x.d]] = rowsBy Dart.c (l ++ [x]) := rowsBy_snoc Dart.c l x
@[go_sem] theorem darts_one (x : Dart) : [[.int .i64 x.e.s, .int .i64 x.e.n, .int .i64 x.d]] = rowsBy Dart.c [x] := rfl
theorem len_eq {n m : Nat} (h : n = m) : decide (¬ ((n : Int) = (m : Int))) = false := by simp; omega
theorem len_ne {n m : Nat} (h : n ≠ m) : decide (¬ ((n : Int) = (m : Int))) = true := by simp; omega
theorem c_r03_Darts (l m : List Dart) (hl : Fits l) : call F 50 [.sl .shared 3 (rowsBy Dart.c l), .sl .shared 3 (rowsBy Dart.c m)] = some (.bool (decide (l = m))) := by
  have hl := hl.le
  by_cases hlen : l.length = m.length
  · have he := len_eq hlen
    have S : ∀ (k : Nat) (hk : k ≤ l.length) (r : Ex × St), (∀ i (h : i < k) (h1 : i < l.length) (h2 : i < m.length), l[i] = m[i]) →
        E (cs F) 0 f50_b1 (⟨(upd (upd (upd Sx.e0 5 (.v (.int .i64 ((k : Int))))) 1 (.v (.sl .shared 3 (rowsBy Dart.c m)))) 0 (.v (.sl .shared 3 (rowsBy Dart.c l)))), Sx.h0⟩ : St) = some r → r.1 ≠ .norm →
        E (cs F) 0 f50_l1 (⟨(upd (upd (upd Sx.e0 5 (.v (.int .i64 (0)))) 1 (.v (.sl .shared 3 (rowsBy Dart.c m)))) 0 (.v (.sl .shared 3 (rowsBy Dart.c l)))), Sx.h0⟩ : St) = some r := by
      intro k hk r hsame hf hr
      refine loop_to (b := f50_b1) (fun i => (⟨(upd (upd (upd Sx.e0 5 (.v (.int .i64 ((i : Int))))) 1 (.v (.sl .shared 3 (rowsBy Dart.c m)))) 0 (.v (.sl .shared 3 (rowsBy Dart.c l)))), Sx.h0⟩ : St)) k ?_ hf hr
      intro i hi
      have h1 : i < l.length := by omega
      have h2 : i < m.length := by omega
      have hd := dec_t (hsame i hi h1 h2)
      simp only [f50_b1, dec_lt h1, rowsBy_get Dart.c h1, rowsBy_get Dart.c h2, Dart.c, hd, wrap_succ h1 (show l.length ≤ 9223372036854775807 by omega), go_sem, reduceIte, reduceCtorEq, Nat.reduceEqDiff, Nat.reduceAdd, List.length_cons, List.length_nil]
    by_cases hlm : l = m
    · have := S l.length (Nat.le_refl _) _ (fun i _ h1 h2 => by subst hlm; rfl) (by simp only [f50_b1, dec_ge (Nat.le_refl l.length), go_sem, reduceIte, reduceCtorEq, Nat.reduceEqDiff]; rfl) (by simp)
      rw [dec_t hlm]
      rw [call_code F (show F 50 = some (.code f50) from rfl)]
      simp only [f50, he, this, go_sem, reduceIte, reduceCtorEq, Nat.reduceEqDiff, Nat.reduceAdd, ne_eq]
    · obtain ⟨k, h1, h2, h3, h4⟩ := first_diff l m hlen hlm
      have hd := dec_f h4
      have := S k (by omega) _ (fun i hi _ _ => h3 i hi) (by simp only [f50_b1, dec_lt h1, rowsBy_get Dart.c h1, rowsBy_get Dart.c h2, Dart.c, hd, go_sem, reduceIte, reduceCtorEq, Nat.reduceEqDiff, Nat.reduceAdd, List.length_cons, List.length_nil]; rfl) (by simp)
      rw [dec_f hlm]
      rw [call_code F (show F 50 = some (.code f50) from rfl)]
      simp only [f50, he, this, go_sem, reduceIte, reduceCtorEq, Nat.reduceEqDiff, Nat.reduceAdd, ne_eq]
  · have hlm : l ≠ m := fun e => hlen (by rw [e])
    have he := len_ne hlen
    rw [dec_f hlm]
    rw [call_code F (show F 50 = some (.code f50) from rfl)]
    simp only [f50, he, go_sem, reduceIte, reduceCtorEq, Nat.reduceEqDiff, Nat.reduceAdd, ne_eq]
/-- where a dart goes in -/
def insK (l : List Dart) (a : Dart) : Nat := if a ∈ l then l.idxOf a + 1 else min 1 l.length
theorem insK_le (l : List Dart) (a : Dart) : insK l a ≤ l.length := by
  unfold insK; split
  · rename_i h; have := (idxOf_at h).1; omega
  · omega
def insR (l : List Dart) (a x : Dart) : List Dart := if x ∈ l then turn l else turn (l.take (insK l a) ++ [x] ++ l.drop (insK l a))
/-- the place of the least dart of the first i -/
def kOf (l : List Dart) : Nat → Nat
  | 0 => 0
  | i + 1 => if ordD (l.getD i Dart0) (l.getD (kOf l i) Dart0) < 0 then i else kOf l i
theorem kOf_lt (l : List Dart) : ∀ i, kOf l i ≤ i - 1
  | 0 => Nat.le_refl _
  | i + 1 => by
    have := kOf_lt l i
    simp only [kOf]
    split <;> omega
theorem ordD_self (x : Dart) : ordD x x = 0 := by unfold ordD; rw [if_pos rfl]
theorem minFrom_le (x : Dart) : ∀ (l : List Dart) (y : Dart), y ∈ x :: l → ordD (minFrom x l) y ≤ 0 := by
  intro l
  induction l generalizing x with
  | nil =>
    intro y hy
    have : y = x := by simpa using hy
    subst this
    unfold minFrom
    simp [ordD_self]
  | cons z l ih =>
    intro y hy
    have e : minFrom x (z :: l) = minFrom (if ordD z x < 0 then z else x) l := rfl
    rw [e]
    have h1 := ih (if ordD z x < 0 then z else x)
    have h2 := h1 (if ordD z x < 0 then z else x) (by simp)
    rcases List.mem_cons.1 hy with rfl | hy
    · by_cases hz : ordD z y < 0
      · rw [if_pos hz] at h2 ⊢
        have a := ordD_cases z y
        have b := ordD_cases (minFrom z l) z
        have c := ordD_cases (minFrom z l) y
        simp only [Dart.ext_iff'] at a b c
        omega
      · rw [if_neg hz] at h2 ⊢
        exact h2
    · rcases List.mem_cons.1 hy with rfl | hy
      · by_cases hz : ordD y x < 0
        · rw [if_pos hz] at h2 ⊢; exact h2
        · rw [if_neg hz] at h2 ⊢
          have a := ordD_cases y x
          have b := ordD_cases (minFrom x l) x
          have c := ordD_cases (minFrom x l) y
          simp only [Dart.ext_iff'] at a b c
          omega
      · exact h1 y (by simp [hy])
theorem minD_le {l : List Dart} {y : Dart} (hy : y ∈ l) : ordD (minD l) y ≤ 0 := by
  cases l with
  | nil => simp at hy
  | cons x l => exact minFrom_le x l y hy
theorem kOf_min (l : List Dart) : ∀ i, i < l.length → l.getD (kOf l (i + 1)) Dart0 = minD (l.take (i + 1)) ∧ (l.take (i + 1)).idxOf (minD (l.take (i + 1))) = kOf l (i + 1)
  | 0, hi => by
    cases l with
    | nil => simp at hi
    | cons x l => simp [kOf, minD, minFrom, ordD_self]
  | i + 1, hi => by
    obtain ⟨h1, h2⟩ := kOf_min l i (by omega)
    have hlt := kOf_lt l (i + 1)
    have ht : l.take (i + 1 + 1) = l.take (i + 1) ++ [l[i + 1]] := by rw [List.take_succ_eq_append_getElem hi]
    have hne : l.take (i + 1) ≠ [] := by
      intro e
      have h3 := congrArg List.length e
      simp only [List.length_take, List.length_nil] at h3
      omega
    have hm : minD (l.take (i + 1 + 1)) = if ordD l[i + 1] (minD (l.take (i + 1))) < 0 then l[i + 1] else minD (l.take (i + 1)) := by
      rw [ht]
      cases hl : l.take (i + 1) with
      | nil => exact absurd hl hne
      | cons x r => exact minFrom_snoc x r _
    have hg : l.getD (i + 1) Dart0 = l[i + 1] := by simp [hi]
    have hk : kOf l (i + 1 + 1) = if ordD l[i + 1] (minD (l.take (i + 1))) < 0 then i + 1 else kOf l (i + 1) := by
      rw [← h1, ← hg]; rfl
    rw [hm, hk]
    split
    · rename_i hlt'
      refine ⟨hg, ?_⟩
      rw [ht]
      have hnot : l[i + 1] ∉ l.take (i + 1) := by
        intro hmem
        have a := minD_le hmem
        have b := ordD_cases l[i + 1] (minD (l.take (i + 1)))
        have c := ordD_cases (minD (l.take (i + 1))) l[i + 1]
        simp only [Dart.ext_iff'] at b c
        omega
      rw [List.idxOf_append, if_neg hnot]
      simp
      omega
    · refine ⟨h1, ?_⟩
      rw [ht, List.idxOf_append, if_pos (minD_mem hne)]
      exact h2
end Go.Proofs.Ytonhkmpjpnjkfaa.Sx
namespace Go.Proofs.Ytonhkmpjpnjkfaa.Sx
open Go
structure Gn where
  d : Dart
  to : Dart
deriving DecidableEq
def Gn.c (g : Gn) : List TV := [.int .i64 g.d.e.s, .int .i64 g.d.e.n, .int .i64 g.d.d, .int .i64 g.to.e.s, .int .i64 g.to.e.n, .int .i64 g.to.d]
/-- the first that is so -/
def firstBy {α : Type} (p : α → Bool) (l : List α) : Option α := l[l.findIdx p]?
theorem firstBy_none {α : Type} {p : α → Bool} {l : List α} (h : l.findIdx p = l.length) : firstBy p l = none := by
  unfold firstBy; rw [h]; simp
theorem firstBy_some {α : Type} {p : α → Bool} {l : List α} (h : l.findIdx p < l.length) : firstBy p l = some l[l.findIdx p] := by
  unfold firstBy; rw [List.getElem?_eq_getElem h]
theorem findIdx_cases {α : Type} (p : α → Bool) (l : List α) : l.findIdx p = l.length ∨ ∃ h : l.findIdx p < l.length, p l[l.findIdx p] = true := by
  rcases Nat.lt_or_ge (l.findIdx p) l.length with h | h
  · exact .inr ⟨h, List.findIdx_getElem⟩
  · exact .inl (Nat.le_antisymm List.findIdx_le_length h)
theorem findIdx_not {α : Type} {p : α → Bool} {l : List α} {i : Nat} (h : i < l.findIdx p) (hi : i < l.length) : p l[i] = false := by
  have := List.not_of_lt_findIdx h; simpa using this
theorem firstBy_mem {α : Type} {p : α → Bool} {l : List α} {x : α} (h : firstBy p l = some x) : x ∈ l ∧ p x = true := by
  rcases findIdx_cases p l with h0 | ⟨h1, h2⟩
  · rw [firstBy_none h0] at h; cases h
  · rw [firstBy_some h1] at h
    obtain rfl := Option.some.inj h
    exact ⟨List.getElem_mem _, h2⟩
theorem firstBy_no {α : Type} {p : α → Bool} {l : List α} (h : firstBy p l = none) : ∀ x ∈ l, p x = false := by
  rcases findIdx_cases p l with h0 | ⟨h1, h2⟩
  · intro x hx
    obtain ⟨i, hi, rfl⟩ := List.mem_iff_getElem.1 hx
    exact findIdx_not (by omega) hi
  · rw [firstBy_some h1] at h; cases h
/-- which vertex, which dart's vertex, where one that is gone went -/
def vxBy (l : List Vx) (x : ID) : Option Vx := firstBy (fun v => decide (v.id = x)) l
def atBy (l : List Vx) (d : Dart) : Option Vx := firstBy (fun v => decide (d ∈ v.ring)) l
def idT (x : ID) : TV := .agg [.int .i64 x.s, .int .i64 x.n]
def atT : Option Vx → TV
  | some v => .tup [idT v.id, .bool true]
  | none => .tup [idT ⟨0, 0⟩, .bool false]
def FitsR (l : List Vx) : Prop := ∀ v ∈ l, Fits v.ring
def vxT (fl : Fl) : Option Vx → TV
  | some v => .tup [.agg [.int .i64 v.id.s, .int .i64 v.id.n, .sl fl 3 (rowsBy Dart.c v.ring), .str v.label, .int .i64 v.attr], .bool true]
  | none => .tup [.agg [.int .i64 0, .int .i64 0, .sl (.own 39) 3 [], .str ⟨#[]⟩, .int .i64 0], .bool false]
theorem i_At (l : List Vx) (d : Dart) (hl : Fits l) (hr : FitsR l) (es : TV) : call F 82 [.agg [.sl .shared 5 (rowsBy Vx.c l), es], .agg [.int .i64 d.e.s, .int .i64 d.e.n, .int .i64 d.d]] = some (atT (atBy l d)) := by
  have hle : (l).length ≤ 5864062014634 := hl.le
  have hw : (l).length ≤ 9223372036854775807 := Nat.le_trans hle (by decide)
  have S : ∀ n, n ≤ (l).length → (∀ i, i < n → ∀ hi : i < (l).length, (fun v : Vx => decide (d ∈ v.ring)) (l)[i] = false) → ∀ r, E (cs F) 0 f82_b1 (⟨(upd (upd (upd (upd (upd Sx.e0 11 (.v (.int .i64 ((n : Int))))) 10 (.v (.int .i64 ((l.length : Int))))) 9 (.v (.sl .shared 5 (rowsBy Vx.c l)))) 4 (.p 4 0)) 3 (.p 3 0)), (upd (upd Sx.h0 4 (some (.var false [(.v (.int .i64 (0))), (.v (.int .i64 (0)))]))) 3 (some (.var false [(.v (.int .i64 (d.e.s))), (.v (.int .i64 (d.e.n))), (.v (.int .i64 (d.d)))])))⟩ : St) = some r → r.1 ≠ .norm →
      E (cs F) 0 f82_l1 (⟨(upd (upd (upd (upd (upd Sx.e0 11 (.v (.int .i64 (0)))) 10 (.v (.int .i64 ((l.length : Int))))) 9 (.v (.sl .shared 5 (rowsBy Vx.c l)))) 4 (.p 4 0)) 3 (.p 3 0)), (upd (upd Sx.h0 4 (some (.var false [(.v (.int .i64 (0))), (.v (.int .i64 (0)))]))) 3 (some (.var false [(.v (.int .i64 (d.e.s))), (.v (.int .i64 (d.e.n))), (.v (.int .i64 (d.d)))])))⟩ : St) = some r := by
    intro n hn hno r hf hrr
    refine loop_to (b := f82_b1) (fun i => (⟨(upd (upd (upd (upd (upd Sx.e0 11 (.v (.int .i64 ((i : Int))))) 10 (.v (.int .i64 ((l.length : Int))))) 9 (.v (.sl .shared 5 (rowsBy Vx.c l)))) 4 (.p 4 0)) 3 (.p 3 0)), (upd (upd Sx.h0 4 (some (.var false [(.v (.int .i64 (0))), (.v (.int .i64 (0)))]))) 3 (some (.var false [(.v (.int .i64 (d.e.s))), (.v (.int .i64 (d.e.n))), (.v (.int .i64 (d.d)))])))⟩ : St)) n ?_ hf hrr
    intro i hi
    have h1 : i < (l).length := Nat.lt_of_lt_of_le hi hn
    have h1z : (i : Int) < ((l).length : Int) := Int.ofNat_lt.2 h1
    have hne := hno i hi h1
    have hv := c_Contains_Dart l[i].ring d.e.s d.e.n d.d (hr _ (List.getElem_mem h1))
    rw [show decide ((⟨⟨d.e.s, d.e.n⟩, d.d⟩ : Dart) ∈ l[i].ring) = false from hne] at hv
    simp only [f82_b1, h1z, rowsBy_get Vx.c h1, Vx.c, hv, wrap_succ h1 hw, go_sem, reduceIte, Nat.reduceEqDiff, Nat.reduceAdd, Nat.reduceMul, Nat.reduceLeDiff, List.length_cons, List.length_nil]
  have S := S ((l).findIdx (fun v : Vx => decide (d ∈ v.ring))) List.findIdx_le_length (fun i h1 h2 => findIdx_not h1 h2)
  rcases findIdx_cases (fun v : Vx => decide (d ∈ v.ring)) (l) with h0 | ⟨hlt, hp⟩
  · rw [h0] at S
    have := S _ (by simp only [f82_b1, dec_ge (Nat.le_refl (l).length), go_sem, reduceIte, Nat.reduceEqDiff]
                    rfl) (by simp)
    rw [atBy, firstBy_none h0, atT, idT]
    rw [call_code F (show F 82 = some (.code f82) from rfl)]
    simp only [f82, this, go_sem, reduceIte, reduceCtorEq, Nat.reduceEqDiff, Nat.reduceAdd, Nat.reduceLeDiff, List.length_cons, List.length_nil]
  · rw [atBy, firstBy_some hlt, atT, idT]
    generalize (l).findIdx (fun v : Vx => decide (d ∈ v.ring)) = n at *
    have hltz : (n : Int) < ((l).length : Int) := Int.ofNat_lt.2 hlt
    have hv := c_Contains_Dart l[n].ring d.e.s d.e.n d.d (hr _ (List.getElem_mem hlt))
    rw [show decide ((⟨⟨d.e.s, d.e.n⟩, d.d⟩ : Dart) ∈ l[n].ring) = true from hp] at hv
    have := S _ (by simp only [f82_b1, hltz, rowsBy_get Vx.c hlt, Vx.c, hv, go_sem, reduceIte, Nat.reduceEqDiff, Nat.reduceAdd, Nat.reduceMul, Nat.reduceLeDiff, List.length_cons, List.length_nil]
                    rfl) (by simp)
    rw [call_code F (show F 82 = some (.code f82) from rfl)]
    simp only [f82, this, go_sem, reduceIte, reduceCtorEq, Nat.reduceEqDiff, Nat.reduceAdd, Nat.reduceLeDiff, List.length_cons, List.length_nil]
theorem i_r04_At (l : List Vx) (d : Dart) (hl : Fits l) (hr : FitsR l) (es : TV) : call F 17 [.agg [.sl .shared 5 (rowsBy Vx.c l), es], .agg [.int .i64 d.e.s, .int .i64 d.e.n, .int .i64 d.d]] = some (atT (atBy l d)) := by
  have hle : (l).length ≤ 5864062014634 := hl.le
  have hw : (l).length ≤ 9223372036854775807 := Nat.le_trans hle (by decide)
  have S : ∀ n, n ≤ (l).length → (∀ i, i < n → ∀ hi : i < (l).length, (fun v : Vx => decide (d ∈ v.ring)) (l)[i] = false) → ∀ r, E (cs F) 0 f17_b1 (⟨(upd (upd (upd (upd Sx.e0 6 (.v (.int .i64 ((n : Int))))) 4 (.p 4 0)) 3 (.p 3 0)) 2 (.p 2 0)), (upd (upd (upd Sx.h0 4 (some (.var false [(.v (.int .i64 (0))), (.v (.int .i64 (0)))]))) 3 (some (.var false [(.v (.int .i64 (d.e.s))), (.v (.int .i64 (d.e.n))), (.v (.int .i64 (d.d)))]))) 2 (some (.var false [(.v (.sl .shared 5 (rowsBy Vx.c l))), (.v es)])))⟩ : St) = some r → r.1 ≠ .norm →
      E (cs F) 0 f17_l1 (⟨(upd (upd (upd (upd Sx.e0 6 (.v (.int .i64 (0)))) 4 (.p 4 0)) 3 (.p 3 0)) 2 (.p 2 0)), (upd (upd (upd Sx.h0 4 (some (.var false [(.v (.int .i64 (0))), (.v (.int .i64 (0)))]))) 3 (some (.var false [(.v (.int .i64 (d.e.s))), (.v (.int .i64 (d.e.n))), (.v (.int .i64 (d.d)))]))) 2 (some (.var false [(.v (.sl .shared 5 (rowsBy Vx.c l))), (.v es)])))⟩ : St) = some r := by
    intro n hn hno r hf hrr
    refine loop_to (b := f17_b1) (fun i => (⟨(upd (upd (upd (upd Sx.e0 6 (.v (.int .i64 ((i : Int))))) 4 (.p 4 0)) 3 (.p 3 0)) 2 (.p 2 0)), (upd (upd (upd Sx.h0 4 (some (.var false [(.v (.int .i64 (0))), (.v (.int .i64 (0)))]))) 3 (some (.var false [(.v (.int .i64 (d.e.s))), (.v (.int .i64 (d.e.n))), (.v (.int .i64 (d.d)))]))) 2 (some (.var false [(.v (.sl .shared 5 (rowsBy Vx.c l))), (.v es)])))⟩ : St)) n ?_ hf hrr
    intro i hi
    have h1 : i < (l).length := Nat.lt_of_lt_of_le hi hn
    have h1z : (i : Int) < ((l).length : Int) := Int.ofNat_lt.2 h1
    have hne := hno i hi h1
    have hv := i_r03_Index l[i].ring d (hr _ (List.getElem_mem h1))
    have hm : d ∉ l[i].ring := of_decide_eq_false hne
    rw [idx_neg hm] at hv
    simp only [f17_b1, h1z, rowsBy_get Vx.c h1, Vx.c, hv, wrap_succ h1 hw, go_sem, reduceIte, Nat.reduceEqDiff, Nat.reduceAdd, Nat.reduceMul, Nat.reduceLeDiff, List.length_cons, List.length_nil, Int.reduceGE, Int.reduceNeg, Nat.testBit, Nat.reduceShiftRight, Nat.reduceAnd, Nat.reduceBNe]
  have S := S ((l).findIdx (fun v : Vx => decide (d ∈ v.ring))) List.findIdx_le_length (fun i h1 h2 => findIdx_not h1 h2)
  rcases findIdx_cases (fun v : Vx => decide (d ∈ v.ring)) (l) with h0 | ⟨hlt, hp⟩
  · rw [h0] at S
    have := S _ (by simp only [f17_b1, dec_ge (Nat.le_refl (l).length), go_sem, reduceIte, Nat.reduceEqDiff, Nat.reduceAdd, Nat.reduceLeDiff, List.length_cons, List.length_nil]
                    rfl) (by simp)
    rw [atBy, firstBy_none h0, atT, idT]
    rw [call_code F (show F 17 = some (.code f17) from rfl)]
    simp only [f17, this, go_sem, reduceIte, reduceCtorEq, Nat.reduceEqDiff, Nat.reduceAdd, List.length_cons, List.length_nil]
  · rw [atBy, firstBy_some hlt, atT, idT]
    generalize (l).findIdx (fun v : Vx => decide (d ∈ v.ring)) = n at *
    have hltz : (n : Int) < ((l).length : Int) := Int.ofNat_lt.2 hlt
    have hv := i_r03_Index l[n].ring d (hr _ (List.getElem_mem hlt))
    have hm : d ∈ l[n].ring := of_decide_eq_true hp
    rw [idx_pos hm] at hv
    have hq : decide (((l[n].ring.idxOf d : Nat) : Int) ≥ 0) = true := by simp
    have := S _ (by simp only [f17_b1, hltz, rowsBy_get Vx.c hlt, Vx.c, hv, go_sem, reduceIte, Nat.reduceEqDiff, Nat.reduceAdd, Nat.reduceMul, Nat.reduceLeDiff, List.length_cons, List.length_nil, Nat.testBit, Nat.reduceShiftRight, Nat.reduceAnd, Nat.reduceBNe]
                    rfl) (by simp)
    rw [call_code F (show F 17 = some (.code f17) from rfl)]
    simp only [f17, this, go_sem, reduceIte, reduceCtorEq, Nat.reduceEqDiff, Nat.reduceAdd, List.length_cons, List.length_nil]
theorem i_r04_Vertex (l : List Vx) (x : ID) (hl : Fits l) (es : TV) : call F 72 [.agg [.sl .shared 5 (rowsBy Vx.c l), es], .agg [.int .i64 x.s, .int .i64 x.n]] = some (vxT .shared (vxBy l x)) := by
  have hle : (l).length ≤ 5864062014634 := hl.le
  have hw : (l).length ≤ 9223372036854775807 := Nat.le_trans hle (by decide)
  have S : ∀ n, n ≤ (l).length → (∀ i, i < n → ∀ hi : i < (l).length, (fun v : Vx => decide (v.id = x)) (l)[i] = false) → ∀ r, E (cs F) 0 f72_b1 (⟨(upd (upd (upd (upd Sx.e0 6 (.v (.int .i64 ((n : Int))))) 4 (.p 4 0)) 3 (.p 3 0)) 2 (.p 2 0)), (upd (upd (upd Sx.h0 4 (some (.var false [(.v (.int .i64 (0))), (.v (.int .i64 (0))), (.v (.sl (.tight 39) 3 [])), (.v (.str ⟨#[]⟩)), (.v (.int .i64 (0)))]))) 3 (some (.var false [(.v (.int .i64 (x.s))), (.v (.int .i64 (x.n)))]))) 2 (some (.var false [(.v (.sl .shared 5 (rowsBy Vx.c l))), (.v es)])))⟩ : St) = some r → r.1 ≠ .norm →
      E (cs F) 0 f72_l1 (⟨(upd (upd (upd (upd Sx.e0 6 (.v (.int .i64 (0)))) 4 (.p 4 0)) 3 (.p 3 0)) 2 (.p 2 0)), (upd (upd (upd Sx.h0 4 (some (.var false [(.v (.int .i64 (0))), (.v (.int .i64 (0))), (.v (.sl (.tight 39) 3 [])), (.v (.str ⟨#[]⟩)), (.v (.int .i64 (0)))]))) 3 (some (.var false [(.v (.int .i64 (x.s))), (.v (.int .i64 (x.n)))]))) 2 (some (.var false [(.v (.sl .shared 5 (rowsBy Vx.c l))), (.v es)])))⟩ : St) = some r := by
    intro n hn hno r hf hrr
    refine loop_to (b := f72_b1) (fun i => (⟨(upd (upd (upd (upd Sx.e0 6 (.v (.int .i64 ((i : Int))))) 4 (.p 4 0)) 3 (.p 3 0)) 2 (.p 2 0)), (upd (upd (upd Sx.h0 4 (some (.var false [(.v (.int .i64 (0))), (.v (.int .i64 (0))), (.v (.sl (.tight 39) 3 [])), (.v (.str ⟨#[]⟩)), (.v (.int .i64 (0)))]))) 3 (some (.var false [(.v (.int .i64 (x.s))), (.v (.int .i64 (x.n)))]))) 2 (some (.var false [(.v (.sl .shared 5 (rowsBy Vx.c l))), (.v es)])))⟩ : St)) n ?_ hf hrr
    intro i hi
    have h1 : i < (l).length := Nat.lt_of_lt_of_le hi hn
    have h1z : (i : Int) < ((l).length : Int) := Int.ofNat_lt.2 h1
    have hne := hno i hi h1
    have hne' : ¬ l[i].id = x := of_decide_eq_false hne
    have hq1 := dec_f hne'
    have hq2 := dec_f (Ne.symm hne')
    simp only [f72_b1, h1z, rowsBy_get Vx.c h1, Vx.c, hq1, wrap_succ h1 hw, go_sem, reduceIte, Nat.reduceEqDiff, Nat.reduceAdd, Nat.reduceLeDiff, List.length_cons, List.length_nil, Nat.testBit, Nat.reduceShiftRight, Nat.reduceAnd, Nat.reduceBNe]
  have S := S ((l).findIdx (fun v : Vx => decide (v.id = x))) List.findIdx_le_length (fun i h1 h2 => findIdx_not h1 h2)
  rcases findIdx_cases (fun v : Vx => decide (v.id = x)) (l) with h0 | ⟨hlt, hp⟩
  · rw [h0] at S
    have := S _ (by simp only [f72_b1, dec_ge (Nat.le_refl (l).length), go_sem, reduceIte, Nat.reduceEqDiff, Nat.reduceAdd, Nat.reduceLeDiff, List.length_cons, List.length_nil]
                    rfl) (by simp)
    rw [vxBy, firstBy_none h0, vxT]
    rw [call_code F (show F 72 = some (.code f72) from rfl)]
    simp only [f72, this, go_sem, reduceIte, reduceCtorEq, Nat.reduceEqDiff, Nat.reduceAdd, List.length_cons, List.length_nil]
  · rw [vxBy, firstBy_some hlt, vxT]
    generalize (l).findIdx (fun v : Vx => decide (v.id = x)) = n at *
    have hltz : (n : Int) < ((l).length : Int) := Int.ofNat_lt.2 hlt
    have hp' : l[n].id = x := of_decide_eq_true hp
    have hq1 := dec_t hp'
    have hq2 := dec_t hp'.symm
    have := S _ (by simp only [f72_b1, hltz, rowsBy_get Vx.c hlt, Vx.c, hq1, go_sem, reduceIte, Nat.reduceEqDiff, Nat.reduceAdd, Nat.reduceLeDiff, List.length_cons, List.length_nil, Nat.testBit, Nat.reduceShiftRight, Nat.reduceAnd, Nat.reduceBNe]
                    rfl) (by simp)
    rw [call_code F (show F 72 = some (.code f72) from rfl)]
    simp only [f72, this, go_sem, reduceIte, reduceCtorEq, Nat.reduceEqDiff, Nat.reduceAdd, List.length_cons, List.length_nil]
end Go.Proofs.Ytonhkmpjpnjkfaa.Sx
namespace Go.Proofs.Ytonhkmpjpnjkfaa.Sx
open Go
def rotG (l : List Dart) (k i : Nat) : List Dart := (List.range i).map fun j => l.getD ((k + j) % l.length) Dart0
theorem rotG_snoc (l : List Dart) (k i : Nat) : rotG l k (i + 1) = rotG l k i ++ [l.getD ((k + i) % l.length) Dart0] := by
  unfold rotG; rw [List.range_succ, List.map_append]; rfl
theorem rotG_length (l : List Dart) (k i : Nat) : (rotG l k i).length = i := by unfold rotG; simp
theorem rotG_all {l : List Dart} {k : Nat} (hk : k < l.length) : rotG l k l.length = l.drop k ++ l.take k := by
  unfold rotG
  apply List.ext_getElem
  · simp; omega
  · intro i h1 h2
    simp only [List.length_map, List.length_range] at h1
    rw [List.getElem_map, List.getElem_range, List.getElem_append]
    split
    · rename_i h
      simp only [List.length_drop] at h
      rw [List.getElem_drop, Nat.mod_eq_of_lt (by omega)]
      simp
      rw [List.getElem?_eq_getElem (by omega)]
      rfl
    · rename_i h
      simp only [List.length_drop, Nat.not_lt] at h
      rw [List.getElem_take]
      have e : (k + i) % l.length = i - (l.length - k) := by rw [Nat.mod_eq_sub_mod (by omega), Nat.mod_eq_of_lt (by omega)]; omega
      simp only [List.length_drop, e]
      simp
      rw [List.getElem?_eq_getElem (by omega)]
      rfl
theorem turn_kOf {l : List Dart} (h : l ≠ []) : kOf l l.length = l.idxOf (minD l) := by
  have hp : 0 < l.length := List.length_pos_iff.2 h
  obtain ⟨n, hn⟩ : ∃ n, l.length = n + 1 := ⟨l.length - 1, by omega⟩
  have := (kOf_min l n (by omega)).2
  rw [← hn, List.take_length] at this
  exact this.symm
theorem turn_rot (l : List Dart) : rotG l (kOf l l.length) l.length = turn l := by
  by_cases h : l = []
  · subst h; rfl
  · rw [turn_kOf h, rotG_all (List.idxOf_lt_length_iff.2 (minD_mem h))]; rfl
theorem c_r03_Turn (l : List Dart) (hl : Fits l) : call F 29 [.sl .shared 3 (rowsBy Dart.c l)] = some (.sl (.own 39) 3 (rowsBy Dart.c (turn l))) := by
  have hle := hl.le
  have l1 : E (cs F) 0 f29_l1 (⟨(upd (upd (upd Sx.e0 4 (.v (.int .i64 (0)))) 3 (.v (.int .i64 (0)))) 0 (.v (.sl .shared 3 (rowsBy Dart.c l)))), Sx.h0⟩ : St) =
      some (.exit 0, (⟨(upd (upd Sx.e0 3 (.v (.int .i64 ((kOf l l.length : Int))))) 0 (.v (.sl .shared 3 (rowsBy Dart.c l)))), Sx.h0⟩ : St)) := by
    refine loop_to (b := f29_b1) (fun i => (⟨(upd (upd (upd Sx.e0 4 (.v (.int .i64 ((i : Int))))) 3 (.v (.int .i64 ((kOf l i : Int))))) 0 (.v (.sl .shared 3 (rowsBy Dart.c l)))), Sx.h0⟩ : St)) l.length ?_ ?_ (by simp)
    · intro i hi
      have hk : kOf l i < l.length := by have := kOf_lt l i; omega
      have h2 : ((kOf l i : Nat) : Int) < (l.length : Int) := by omega
      have g1 : l.getD i Dart0 = l[i] := by simp [hi]
      have g2 : l.getD (kOf l i) Dart0 = l[kOf l i] := by simp [hk]
      have hs : kOf l (i + 1) = if ordD l[i] l[kOf l i] < 0 then i else kOf l i := by rw [← g1, ← g2]; rfl
      rw [hs]
      cases hc : decide (ordD l[i] l[kOf l i] < 0) with
      | true =>
        rw [if_pos (of_decide_eq_true hc)]
        simp only [f29_b1, dec_lt hi, rowsBy_get Dart.c hi, rowsBy_get Dart.c hk, Dart.c, c_r01_OrderDart, hc, wrap_succ hi (show l.length ≤ 9223372036854775807 by omega), go_sem, reduceIte, reduceCtorEq, Nat.reduceEqDiff, Nat.reduceAdd, Nat.reduceMul, List.length_cons, List.length_nil]
      | false =>
        rw [if_neg (of_decide_eq_false hc)]
        simp only [f29_b1, dec_lt hi, rowsBy_get Dart.c hi, rowsBy_get Dart.c hk, Dart.c, c_r01_OrderDart, hc, wrap_succ hi (show l.length ≤ 9223372036854775807 by omega), go_sem, reduceIte, reduceCtorEq, Nat.reduceEqDiff, Nat.reduceAdd, Nat.reduceMul, List.length_cons, List.length_nil]
    · simp only [f29_b1, dec_ge (Nat.le_refl l.length), go_sem, reduceIte, reduceCtorEq, Nat.reduceEqDiff]
  have l2 : E (cs F) 0 f29_l2 (⟨(upd (upd (upd (upd Sx.e0 6 (.v (.int .i64 (0)))) 5 (.s 5 0 0)) 3 (.v (.int .i64 ((kOf l l.length : Int))))) 0 (.v (.sl .shared 3 (rowsBy Dart.c l)))), (upd Sx.h0 5 (some (.arr false 39 3 [])))⟩ : St) =
      some (.exit 2, (⟨(upd Sx.e0 5 (.s 5 0 l.length)), (upd Sx.h0 5 (some (.arr false 39 3 (rowsBy Dart.c (turn l)))))⟩ : St)) := by
    refine loop_to (b := f29_b2) (fun i => (⟨(upd (upd (upd (upd Sx.e0 6 (.v (.int .i64 ((i : Int))))) 5 (.s 5 0 i)) 3 (.v (.int .i64 ((kOf l l.length : Int))))) 0 (.v (.sl .shared 3 (rowsBy Dart.c l)))), (upd Sx.h0 5 (some (.arr false 39 3 (rowsBy Dart.c (rotG l (kOf l l.length) i)))))⟩ : St)) l.length ?_ ?_ (by simp)
    · intro i hi
      have hk : kOf l l.length < l.length := by have := kOf_lt l l.length; omega
      have h1 : IntKind.i64.wrap (((kOf l l.length : Nat) : Int) + (i : Int)) = ((kOf l l.length + i : Nat) : Int) := by rw [wrap64 (by omega) (by omega)]; omega
      have h2 : ¬ ((l.length : Int) = 0) := by omega
      have h3 : (kOf l l.length + i) % l.length < l.length := Nat.mod_lt _ (by omega)
      have h4 : (((kOf l l.length + i) % l.length : Nat) : Int) < (l.length : Int) := by omega
      have g1 : l.getD ((kOf l l.length + i) % l.length) Dart0 = l[(kOf l l.length + i) % l.length] := by simp [h3]
      have h5 : (i + 1) * 24 ≤ 140737488355328 := by omega
      have h6 : (rotG l (kOf l l.length) i).take i = rotG l (kOf l l.length) i := List.take_of_length_le (by rw [rotG_length]; omega)
      rw [rotG_snoc, g1]
      simp only [f29_b2, dec_lt hi, rowsBy_get Dart.c h3, Dart.c, h1, h2, tmod_nat, h5, h6, wrap_succ hi (show l.length ≤ 9223372036854775807 by omega), go_sem, reduceIte, reduceCtorEq, Nat.reduceEqDiff, Nat.reduceAdd, List.length_cons, List.length_nil]
    · rw [turn_rot]
      simp only [f29_b2, dec_ge (Nat.le_refl l.length), go_sem, reduceIte, reduceCtorEq, Nat.reduceEqDiff]
  have ht : (turn l).take l.length = turn l := List.take_of_length_le (by rw [turn_length]; exact Nat.le_refl _)
  rw [call_code F (show F 29 = some (.code f29) from rfl)]
  simp only [f29, l1, l2, ht, go_sem, reduceIte, reduceCtorEq, Nat.reduceEqDiff, List.length_nil]
/-- as the reference lays a dart in: behind the k-th, one by one -/
def insG (l : List Dart) (k : Nat) (x : Dart) (i : Nat) : List Dart := if k < i then l.take (k + 1) ++ [x] ++ (l.take i).drop (k + 1) else l.take i
theorem insG_at {l : List Dart} {k : Nat} {x : Dart} (i : Nat) (hi : i < l.length) : insG l k x (i + 1) = if i = k then insG l k x i ++ [l[i]] ++ [x] else insG l k x i ++ [l[i]] := by
  have ht : l.take (i + 1) = l.take i ++ [l[i]] := List.take_succ_eq_append_getElem hi
  unfold insG
  by_cases h : i = k
  · subst h
    rw [if_pos (by omega), if_pos rfl, if_neg (by omega), ht]
    simp
  · rw [if_neg h]
    by_cases h2 : k < i
    · rw [if_pos (by omega), if_pos h2, ht, List.drop_append_of_le_length (by simp; omega)]
      simp
    · rw [if_neg (by omega), if_neg h2, ht]
theorem insG_zero (l : List Dart) (k : Nat) (x : Dart) : insG l k x 0 = [] := by unfold insG; simp
theorem insG_len {l : List Dart} {k : Nat} {x : Dart} (i : Nat) : (insG l k x i).length ≤ l.length + 1 := by
  unfold insG; split
  · simp; omega
  · simp; omega
theorem ins_room (a b : Nat) (h : a ≤ b + 1) (hb : b ≤ 5864062014633) : (a + 1) * 24 ≤ 140737488355328 ∧ (a + 1 + 1) * 24 ≤ 140737488355328 := by omega
attribute [local irreducible] insG in
set_option maxHeartbeats 4000000 in
theorem r03_Insert_l1 (l : List Dart) (k : Nat) (x : Dart) (hl : l.length ≤ 5864062014633) : E (cs F) 0 f20_l1 (⟨(upd (upd (upd (upd (upd Sx.e0 9 (.v (.int .i64 (0)))) 8 (.s 8 0 (insG l k x 0).length)) 7 (.v (.int .i64 ((k : Int))))) 5 (.p 5 0)) 0 (.v (.sl .shared 3 (rowsBy Dart.c l)))), (upd (upd Sx.h0 8 (some (.arr false 39 3 (rowsBy Dart.c (insG l k x 0))))) 5 (some (.var false [(.v (.int .i64 (x.e.s))), (.v (.int .i64 (x.e.n))), (.v (.int .i64 (x.d)))])))⟩ : St) =
        some (.exit 0, (⟨(upd (upd (upd Sx.e0 8 (.s 8 0 (insG l k x l.length).length)) 5 (.p 5 0)) 0 (.v (.sl .shared 3 (rowsBy Dart.c l)))), (upd (upd Sx.h0 8 (some (.arr false 39 3 (rowsBy Dart.c (insG l k x l.length))))) 5 (some (.var false [(.v (.int .i64 (x.e.s))), (.v (.int .i64 (x.e.n))), (.v (.int .i64 (x.d)))])))⟩ : St)) := by
  refine loop_to (b := f20_b1) (fun i => (⟨(upd (upd (upd (upd (upd Sx.e0 9 (.v (.int .i64 ((i : Int))))) 8 (.s 8 0 (insG l k x i).length)) 7 (.v (.int .i64 ((k : Int))))) 5 (.p 5 0)) 0 (.v (.sl .shared 3 (rowsBy Dart.c l)))), (upd (upd Sx.h0 8 (some (.arr false 39 3 (rowsBy Dart.c (insG l k x i))))) 5 (some (.var false [(.v (.int .i64 (x.e.s))), (.v (.int .i64 (x.e.n))), (.v (.int .i64 (x.d)))])))⟩ : St)) l.length ?_ ?_ (by simp)
  · intro i hi
    have hb := insG_len (l := l) (k := k) (x := x) i
    obtain ⟨h5, h6⟩ := ins_room _ _ hb hl
    have hw : l.length ≤ 9223372036854775807 := Nat.le_trans hl (by decide)
    have hs := insG_at (k := k) (x := x) i hi
    by_cases h : i = k
    · have hd : decide ((i : Int) = (k : Int)) = true := by simp; omega
      rw [if_pos h] at hs
      rw [hs]
      generalize insG l k x i = m at *
      have e2 : (m ++ [l[i]] ++ [x]).length = m.length + 1 + 1 := by simp
      have e3 : (m ++ [l[i]]).take (m.length + 1) = m ++ [l[i]] := List.take_of_length_le (by simp)
      rw [e2]
      simp only [f20_b1, dec_lt hi, rowsBy_get Dart.c hi, Dart.c, hd, h5, h6, e3, wrap_succ hi hw, go_sem, reduceIte, reduceCtorEq, Nat.reduceEqDiff, Nat.reduceAdd, List.length_cons, List.length_nil]
    · have hd : decide ((i : Int) = (k : Int)) = false := by simp; omega
      rw [if_neg h] at hs
      rw [hs]
      generalize insG l k x i = m at *
      have e2 : (m ++ [l[i]]).length = m.length + 1 := by simp
      rw [e2]
      simp only [f20_b1, dec_lt hi, rowsBy_get Dart.c hi, Dart.c, hd, h5, wrap_succ hi hw, go_sem, reduceIte, reduceCtorEq, Nat.reduceEqDiff, Nat.reduceAdd, List.length_cons, List.length_nil]
  · simp only [f20_b1, dec_ge (Nat.le_refl l.length), go_sem, reduceIte, reduceCtorEq, Nat.reduceEqDiff]

set_option maxHeartbeats 4000000 in
theorem i_r03_Insert (l : List Dart) (a x : Dart) (hl : l.length ≤ 5864062014633) : call F 20 [.sl .shared 3 (rowsBy Dart.c l), .agg [.int .i64 a.e.s, .int .i64 a.e.n, .int .i64 a.d], .agg [.int .i64 x.e.s, .int .i64 x.e.n, .int .i64 x.d]] = some (.sl (.own 39) 3 (rowsBy Dart.c (insR l a x))) := by
  have hf : Fits l := Nat.le_trans hl (by omega)
  have ix := i_r03_Index l x hf
  have ia := i_r03_Index l a hf
  by_cases hx : x ∈ l
  · have ct := c_r03_Turn l hf
    have hd : decide (((l.idxOf x : Nat) : Int) ≥ 0) = true := by simp
    rw [idx_pos hx] at ix
    unfold insR; rw [if_pos hx]
    rw [call_code F (show F 20 = some (.code f20) from rfl)]
    simp only [f20, ix, ct, go_sem, reduceIte, reduceCtorEq, Nat.reduceEqDiff, Nat.reduceAdd, Nat.reduceMul, List.length_cons, List.length_nil]
  · rw [idx_neg hx] at ix
    unfold insR; rw [if_neg hx]
    obtain ⟨k, hk, hkl⟩ : ∃ k : Nat, (if idx l a > 0 then idx l a else 0) = (k : Int) ∧ l.take (insK l a) ++ [x] ++ l.drop (insK l a) = insG l k x l.length ++ (if l.length = 0 then [x] else []) := by
      by_cases ha : a ∈ l
      · have hlt := (idxOf_at ha).1
        refine ⟨l.idxOf a, ?_, ?_⟩
        · rw [idx_pos ha]; split <;> omega
        · unfold insK insG
          rw [if_pos ha, if_pos hlt, if_neg (by omega), List.take_length]
          simp
      · refine ⟨0, ?_, ?_⟩
        · rw [idx_neg ha]; simp
        · unfold insK insG
          rw [if_neg ha]
          cases l with
          | nil => simp
          | cons y l => simp
    have l1 := r03_Insert_l1 l k x hl
    rw [insG_zero] at l1
    simp only [List.length_nil, show rowsBy Dart.c [] = [] from rfl] at l1
    have ct := c_r03_Turn (l.take (insK l a) ++ [x] ++ l.drop (insK l a)) (by unfold Fits; simp; omega)
    rw [hkl] at ct ⊢
    have hb := insG_len (l := l) (k := k) (x := x) l.length
    by_cases h0 : l.length = 0
    · have hd : decide ((l.length : Int) = 0) = true := decide_eq_true (by omega)
      rw [if_pos h0] at ct ⊢
      generalize insG l k x l.length = m at *
      have e3 : (m ++ [x]).take (m.length + 1) = m ++ [x] := List.take_of_length_le (by simp)
      have h5 : (m.length + 1) * 24 ≤ 140737488355328 := (ins_room _ _ hb hl).1
      rw [call_code F (show F 20 = some (.code f20) from rfl)]
      simp only [f20, ix, ia, hk, l1, hd, h5, e3, ct, go_sem, reduceIte, reduceCtorEq, Nat.reduceEqDiff, Nat.reduceAdd, Nat.reduceMul, List.length_cons, List.length_nil, Int.reduceGE, Int.reduceNeg]
    · have hd : decide ((l.length : Int) = 0) = false := decide_eq_false (by omega)
      rw [if_neg h0, List.append_nil] at ct ⊢
      generalize insG l k x l.length = m at *
      rw [call_code F (show F 20 = some (.code f20) from rfl)]
      simp only [f20, ix, ia, hk, l1, hd, ct, go_sem, reduceIte, reduceCtorEq, Nat.reduceEqDiff, Nat.reduceAdd, Nat.reduceMul, List.length_cons, List.length_nil, Int.reduceGE, Int.reduceNeg]
end Go.Proofs.Ytonhkmpjpnjkfaa.Sx
