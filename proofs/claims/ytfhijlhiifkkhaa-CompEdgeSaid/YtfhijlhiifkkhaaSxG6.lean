/- The functions of this seat, as the evaluator takes them. What the functions of names and darts come to. What the functions of rings come to. Vertices, edges, darts that are gone: what is found there. What the reference's functions of rings come to. -/
import Derived.Test.YtfhijlhiifkkhaaChecked
import Derived.Eval
import Derived.Test.YtfhijlhiifkkhaaSxG4
import Derived.Test.YtfhijlhiifkkhaaSxG5
set_option maxRecDepth 100000
set_option linter.unusedSimpArgs false
set_option linter.unusedVariables false
namespace Go.Proofs.Ytfhijlhiifkkhaa.Sx
open Go

/-- slots [3, 4, 5, 7, 9, 10, 11, 12]; objects [3, 4, 5, 10, 11] -/
def f3_b1 : ICode := .seq (.seq (.region [⟨.mv 28 (.t 12), none⟩, ⟨.mv 29 (.t 10), none⟩, ⟨.len 30 false (.t 29), none⟩, ⟨.bin 31 false .lss (.t 28) (.t 30), none⟩] ⟨[3, 4, 5, 7, 9, 10, 11, 12, 31], [(3, 3), (4, 4), (5, 5), (10, 10), (11, 11)]⟩) (.cond (.t 31) (.skip) (.seq (.gc ⟨[3, 4, 5, 7, 9, 10, 11], [(3, 3), (4, 4), (5, 5), (10, 10), (11, 11)]⟩) (.exit 0)))) (.seq (.block 1 (.seq (.draw [⟨.mv 34 (.t 10), none⟩, ⟨.len 35 false (.t 34), none⟩, ⟨.mv 36 (.t 11), none⟩, ⟨.len 37 false (.t 36), none⟩, ⟨.bin 38 false .neq (.t 35) (.t 37), none⟩, ⟨.mv 39 (.t 38), none⟩, ⟨.mv 40 (.t 10), some (39, false)⟩, ⟨.mv 41 (.t 12), some (39, false)⟩, ⟨.iaddr 42 (.t 40) (.t 41) 1, some (39, false)⟩, ⟨.load 43 (.t 42) 1 false, some (39, false)⟩, ⟨.mv 44 (.t 11), some (39, false)⟩, ⟨.mv 45 (.t 12), some (39, false)⟩, ⟨.iaddr 46 (.t 44) (.t 45) 1, some (39, false)⟩, ⟨.load 47 (.t 46) 1 false, some (39, false)⟩, ⟨.call 48 (.fn 15) [(.t 43), (.t 47)], some (39, false)⟩, ⟨.un 49 .not (.t 48), some (39, false)⟩, ⟨.pick 50 (.t 39) (.c (.v (.bool true))) (.t 49), none⟩] [0, 1, 0, 4, 15, 31, 63, 63, 255, 511, 63, 63, 3135, 7231, 16383, 32767, 65535] ⟨[3, 4, 5, 7, 9, 10, 11, 12, 50], [(3, 3), (4, 4), (5, 5), (10, 10), (11, 11)]⟩) (.cond (.t 50) (.seq (.region [⟨.mv 6 (.c (.v (.bool false))), none⟩] ⟨[6], []⟩) (.ret)) (.skip)))) (.region [⟨.mv 32 (.t 12), none⟩, ⟨.bin 33 false .add (.t 32) (.c (.v (.int .i64 1))), none⟩, ⟨.mv 12 (.t 33), none⟩] ⟨[3, 4, 5, 7, 9, 10, 11, 12], [(3, 3), (4, 4), (5, 5), (10, 10), (11, 11)]⟩))
def f3_l1 : ICode := .loop f3_b1
theorem f3_l1_eq (C : Cs) (lo : Nat) (st : St) : E C lo f3_l1 st = seqK (E C lo f3_l1) (E C lo f3_b1 st) := E_loop C lo f3_b1 st
/-- tracery/tracerylaw06.CompLabels -/
def f3 : IFn := ⟨.seq (.region [⟨.box 3 (.t 0) 2, none⟩, ⟨.box 4 (.t 1) 2, none⟩, ⟨.box 5 (.t 2) 2, none⟩, ⟨.mv 6 (.c (.v (.bool false))), none⟩] ⟨[3, 4, 5], [(3, 3), (4, 4), (5, 5)]⟩) (.seq (.region [⟨.call 13 (.fn 8) [], none⟩, ⟨.mv 7 (.t 13), none⟩] ⟨[3, 4, 5, 7], [(3, 3), (4, 4), (5, 5)]⟩) (.seq (.region [⟨.load 14 (.t 3) 2 true, none⟩, ⟨.call 15 (.fn 9) [(.t 14)], none⟩, ⟨.mv 8 (.t 15), none⟩] ⟨[3, 4, 5, 7, 8], [(3, 3), (4, 4), (5, 5)]⟩) (.seq (.seq (.region [⟨.mv 16 (.t 8), none⟩, ⟨.un 17 .not (.t 16), none⟩] ⟨[3, 4, 5, 7, 17], [(3, 3), (4, 4), (5, 5)]⟩) (.cond (.t 17) (.seq (.region [⟨.mv 18 (.t 7), none⟩, ⟨.mv 6 (.t 18), none⟩] ⟨[6], []⟩) (.ret)) (.skip))) (.seq (.draw [⟨.load 19 (.t 3) 2 true, none⟩, ⟨.call 20 (.fn 11) [(.t 19)], none⟩, ⟨.load 21 (.t 3) 2 true, none⟩, ⟨.call 22 (.fn 12) [(.t 21)], none⟩, ⟨.call 23 (.fn 10) [(.t 20), (.t 22)], none⟩, ⟨.mv 9 (.t 23), none⟩] [0, 1, 0, 7, 15, 31] ⟨[3, 4, 5, 7, 9], [(3, 3), (4, 4), (5, 5)]⟩) (.seq (.region [⟨.load 24 (.t 3) 2 true, none⟩, ⟨.call 25 (.fn 13) [(.t 24)], none⟩, ⟨.mv 10 (.t 25), none⟩] ⟨[3, 4, 5, 7, 9, 10], [(3, 3), (4, 4), (5, 5), (2600, 10)]⟩) (.seq (.region [⟨.load 26 (.t 3) 2 true, none⟩, ⟨.call 27 (.fn 14) [(.t 26)], none⟩, ⟨.mv 11 (.t 27), none⟩] ⟨[3, 4, 5, 7, 9, 10, 11], [(3, 3), (4, 4), (5, 5), (10, 10), (2728, 11)]⟩) (.seq (.seq (.region [⟨.mv 12 (.c (.v (.int .i64 0))), none⟩] ⟨[3, 4, 5, 7, 9, 10, 11, 12], [(3, 3), (4, 4), (5, 5), (10, 10), (11, 11)]⟩) (.block 0 (f3_l1))) (.seq (.draw [⟨.mv 51 (.t 7), none⟩, ⟨.mv 52 (.t 51), none⟩, ⟨.mv 53 (.t 9), some (52, true)⟩, ⟨.pick 54 (.t 52) (.t 53) (.c (.v (.bool false))), none⟩, ⟨.mv 55 (.t 54), none⟩, ⟨.mv 56 (.t 10), some (55, true)⟩, ⟨.len 57 false (.t 56), some (55, true)⟩, ⟨.mv 58 (.t 11), some (55, true)⟩, ⟨.len 59 false (.t 58), some (55, true)⟩, ⟨.bin 60 false .eql (.t 57) (.t 59), some (55, true)⟩, ⟨.pick 61 (.t 55) (.t 60) (.c (.v (.bool false))), none⟩, ⟨.mv 62 (.t 61), none⟩, ⟨.load 63 (.t 3) 2 true, some (62, true)⟩, ⟨.call 64 (.fn 16) [(.t 63)], some (62, true)⟩, ⟨.load 65 (.t 3) 2 true, some (62, true)⟩, ⟨.call 66 (.fn 17) [(.t 65)], some (62, true)⟩, ⟨.bin 67 false .eql (.t 64) (.t 66), some (62, true)⟩, ⟨.pick 68 (.t 62) (.t 67) (.c (.v (.bool false))), none⟩, ⟨.mv 69 (.t 68), none⟩, ⟨.load 70 (.t 3) 2 true, some (69, true)⟩, ⟨.load 71 (.t 4) 2 true, some (69, true)⟩, ⟨.load 72 (.t 5) 2 true, some (69, true)⟩, ⟨.call 73 (.fn 18) [(.t 70), (.t 71), (.t 72)], some (69, true)⟩, ⟨.load 74 (.t 3) 2 true, some (69, true)⟩, ⟨.load 75 (.t 4) 2 true, some (69, true)⟩, ⟨.load 76 (.t 5) 2 true, some (69, true)⟩, ⟨.call 77 (.fn 19) [(.t 74), (.t 75), (.t 76)], some (69, true)⟩, ⟨.bin 78 true .eql (.t 73) (.t 77), some (69, true)⟩, ⟨.pick 79 (.t 69) (.t 78) (.c (.v (.bool false))), none⟩, ⟨.mv 6 (.t 79), none⟩] [0, 1, 3, 7, 15, 31, 63, 31, 159, 511, 1023, 2047, 4095, 8191, 4095, 32767, 65535, 131071, 262143, 524287, 524287, 524287, 4194303, 524287, 524287, 524287, 67108863, 134217727, 268435455, 536870911] ⟨[6], []⟩) (.ret))))))))), [.tmp 6]⟩
theorem f3_chk : chk Try.prog 3 [(0, ⟨[3, 4, 5], [(3, 3), (4, 4), (5, 5)]⟩), (1, ⟨[3, 4, 5, 7], [(3, 3), (4, 4), (5, 5)]⟩), (2, ⟨[3, 4, 5, 7, 8], [(3, 3), (4, 4), (5, 5)]⟩), (3, ⟨[3, 4, 5, 7, 17], [(3, 3), (4, 4), (5, 5)]⟩), (4, ⟨[6], []⟩), (5, ⟨[3, 4, 5, 7, 9], [(3, 3), (4, 4), (5, 5)]⟩), (6, ⟨[3, 4, 5, 7, 9, 10], [(3, 3), (4, 4), (5, 5), (2600, 10)]⟩), (7, ⟨[3, 4, 5, 7, 9, 10, 11], [(3, 3), (4, 4), (5, 5), (10, 10), (2728, 11)]⟩), (8, ⟨[3, 4, 5, 7, 9, 10, 11, 12], [(3, 3), (4, 4), (5, 5), (10, 10), (11, 11)]⟩), (9, ⟨[3, 4, 5, 7, 9, 10, 11, 12, 31], [(3, 3), (4, 4), (5, 5), (10, 10), (11, 11)]⟩), (10, ⟨[3, 4, 5, 7, 9, 10, 11, 12], [(3, 3), (4, 4), (5, 5), (10, 10), (11, 11)]⟩), (11, ⟨[3, 4, 5, 7, 9, 10, 11, 12, 50], [(3, 3), (4, 4), (5, 5), (10, 10), (11, 11)]⟩), (12, ⟨[6], []⟩), (13, ⟨[6], []⟩)] [(0, ⟨[3, 4, 5, 7, 9, 10, 11], [(3, 3), (4, 4), (5, 5), (10, 10), (11, 11)]⟩), (1, ⟨[3, 4, 5, 7, 9, 10, 11, 12], []⟩)] = some f3 := by kernel_rfl
/-- slots [1, 3, 5, 6, 7, 8]; objects [1, 6] -/
def f4_b2 : ICode := .seq (.seq (.region [⟨.mv 36 (.t 8), none⟩, ⟨.mv 37 (.t 6), none⟩, ⟨.mv 38 (.t 7), none⟩, ⟨.iaddr 39 (.t 37) (.t 38) 1, none⟩, ⟨.load 40 (.t 39) 1 false, none⟩, ⟨.len 41 false (.t 40), none⟩, ⟨.bin 42 false .lss (.t 36) (.t 41), none⟩] ⟨[1, 3, 5, 6, 7, 8, 42], [(1, 1), (6, 6)]⟩) (.cond (.t 42) (.skip) (.seq (.gc ⟨[1, 3, 5, 6, 7], [(1, 1), (6, 6)]⟩) (.exit 2)))) (.seq (.block 3 (.seq (.draw [⟨.load 45 (.t 1) 2 true, none⟩, ⟨.mv 46 (.t 6), none⟩, ⟨.mv 47 (.t 7), none⟩, ⟨.iaddr 48 (.t 46) (.t 47) 1, none⟩, ⟨.load 49 (.t 48) 1 false, none⟩, ⟨.iaddr 50 (.t 49) (.c (.v (.int .i64 0))) 2, none⟩, ⟨.load 51 (.t 50) 2 true, none⟩, ⟨.mv 52 (.t 6), none⟩, ⟨.mv 53 (.t 7), none⟩, ⟨.iaddr 54 (.t 52) (.t 53) 1, none⟩, ⟨.load 55 (.t 54) 1 false, none⟩, ⟨.mv 56 (.t 8), none⟩, ⟨.iaddr 57 (.t 55) (.t 56) 2, none⟩, ⟨.load 58 (.t 57) 2 true, none⟩, ⟨.call 59 (.fn 18) [(.t 45), (.t 51), (.t 58)], none⟩, ⟨.un 60 .not (.t 59), none⟩, ⟨.mv 61 (.t 60), none⟩, ⟨.mv 62 (.t 7), some (61, false)⟩, ⟨.bin 63 false .gtr (.t 62) (.c (.v (.int .i64 0))), some (61, false)⟩, ⟨.mv 64 (.t 63), some (61, false)⟩, ⟨.load 65 (.t 1) 2 true, some (64, true)⟩, ⟨.mv 66 (.t 6), some (64, true)⟩, ⟨.iaddr 67 (.t 66) (.c (.v (.int .i64 0))) 1, some (64, true)⟩, ⟨.load 68 (.t 67) 1 false, some (64, true)⟩, ⟨.iaddr 69 (.t 68) (.c (.v (.int .i64 0))) 2, some (64, true)⟩, ⟨.load 70 (.t 69) 2 true, some (64, true)⟩, ⟨.mv 71 (.t 6), some (64, true)⟩, ⟨.mv 72 (.t 7), some (64, true)⟩, ⟨.iaddr 73 (.t 71) (.t 72) 1, some (64, true)⟩, ⟨.load 74 (.t 73) 1 false, some (64, true)⟩, ⟨.mv 75 (.t 8), some (64, true)⟩, ⟨.iaddr 76 (.t 74) (.t 75) 2, some (64, true)⟩, ⟨.load 77 (.t 76) 2 true, some (64, true)⟩, ⟨.call 78 (.fn 18) [(.t 65), (.t 70), (.t 77)], some (64, true)⟩, ⟨.pick 79 (.t 64) (.t 78) (.c (.v (.bool false))), some (61, false)⟩, ⟨.pick 80 (.t 61) (.c (.v (.bool true))) (.t 79), none⟩] [0, 0, 0, 6, 14, 30, 62, 0, 0, 384, 896, 0, 3968, 8064, 16383, 32767, 65535, 131071, 262143, 524287, 1048575, 1048575, 3145727, 7340031, 15728639, 32505855, 1048575, 1048575, 202375167, 470810623, 1048575, 2081423359, 4228907007, 8589934591, 17179869183, 34359738367] ⟨[1, 3, 5, 6, 7, 8, 80], [(1, 1), (6, 6)]⟩) (.cond (.t 80) (.seq (.region [⟨.mv 2 (.c (.v (.bool false))), none⟩] ⟨[2], []⟩) (.ret)) (.skip)))) (.region [⟨.mv 43 (.t 8), none⟩, ⟨.bin 44 false .add (.t 43) (.c (.v (.int .i64 1))), none⟩, ⟨.mv 8 (.t 44), none⟩] ⟨[1, 3, 5, 6, 7, 8], [(1, 1), (6, 6)]⟩))
def f4_l2 : ICode := .loop f4_b2
theorem f4_l2_eq (C : Cs) (lo : Nat) (st : St) : E C lo f4_l2 st = seqK (E C lo f4_l2) (E C lo f4_b2 st) := E_loop C lo f4_b2 st
/-- slots [1, 3, 5, 6, 7]; objects [1, 6] -/
def f4_b1 : ICode := .seq (.seq (.region [⟨.mv 23 (.t 7), none⟩, ⟨.mv 24 (.t 6), none⟩, ⟨.len 25 false (.t 24), none⟩, ⟨.bin 26 false .lss (.t 23) (.t 25), none⟩] ⟨[1, 3, 5, 6, 7, 26], [(1, 1), (6, 6)]⟩) (.cond (.t 26) (.skip) (.seq (.gc ⟨[1, 3, 5, 6], [(1, 1), (6, 6)]⟩) (.exit 0)))) (.seq (.block 1 (.seq (.region [⟨.mv 29 (.t 5), none⟩, ⟨.mv 30 (.t 6), none⟩, ⟨.mv 31 (.t 7), none⟩, ⟨.iaddr 32 (.t 30) (.t 31) 1, none⟩, ⟨.load 33 (.t 32) 1 false, none⟩, ⟨.len 34 false (.t 33), none⟩, ⟨.bin 35 false .add (.t 29) (.t 34), none⟩, ⟨.mv 5 (.t 35), none⟩] ⟨[1, 3, 5, 6, 7], [(1, 1), (6, 6)]⟩) (.seq (.region [⟨.mv 8 (.c (.v (.int .i64 0))), none⟩] ⟨[1, 3, 5, 6, 7, 8], [(1, 1), (6, 6)]⟩) (.block 2 (f4_l2))))) (.region [⟨.mv 27 (.t 7), none⟩, ⟨.bin 28 false .add (.t 27) (.c (.v (.int .i64 1))), none⟩, ⟨.mv 7 (.t 28), none⟩] ⟨[1, 3, 5, 6, 7], [(1, 1), (6, 6)]⟩))
def f4_l1 : ICode := .loop f4_b1
theorem f4_l1_eq (C : Cs) (lo : Nat) (st : St) : E C lo f4_l1 st = seqK (E C lo f4_l1) (E C lo f4_b1 st) := E_loop C lo f4_b1 st
/-- slots [1, 3, 5, 6, 9]; objects [1, 6] -/
def f4_b3 : ICode := .seq (.seq (.region [⟨.mv 81 (.t 9), none⟩, ⟨.faddr 82 (.t 1) 1, none⟩, ⟨.load 83 (.t 82) 1 false, none⟩, ⟨.len 84 false (.t 83), none⟩, ⟨.bin 85 false .lss (.t 81) (.t 84), none⟩] ⟨[1, 3, 5, 6, 9, 85], [(1, 1), (6, 6)]⟩) (.cond (.t 85) (.skip) (.seq (.gc ⟨[1, 3, 5, 6], [(1, 1), (6, 6)]⟩) (.exit 4)))) (.seq (.block 5 (.seq (.draw [⟨.load 89 (.t 1) 2 true, none⟩, ⟨.faddr 90 (.t 1) 1, none⟩, ⟨.load 91 (.t 90) 1 false, none⟩, ⟨.mv 92 (.t 9), none⟩, ⟨.iaddr 93 (.t 91) (.t 92) 4, none⟩, ⟨.faddr 94 (.t 93) 0, none⟩, ⟨.load 95 (.t 94) 2 true, none⟩, ⟨.build 96 [(.v (.int .i64 0)), (.v (.int .i64 0)), (.v (.int .i64 0))] [(0, 2, (.t 95))], none⟩, ⟨.call 97 (.fn 20) [(.t 89), (.t 96)], none⟩, ⟨.mv 88 (.t 97), none⟩, ⟨.ext 98 (.t 88) 0, none⟩, ⟨.ext 99 (.t 88) 1, none⟩, ⟨.alloc 10 [(.v (.int .i64 0)), (.v (.int .i64 0))], none⟩, ⟨.store (.t 10) (.t 98) 2, none⟩, ⟨.mv 11 (.t 99), none⟩] [0, 0, 2, 0, 14, 30, 62, 126, 255, 511, 1023, 1023, 0, 6143, 16383] ⟨[1, 3, 5, 6, 9, 10], [(1, 1), (6, 6), (10, 10)]⟩) (.seq (.draw [⟨.load 101 (.t 1) 2 true, none⟩, ⟨.faddr 102 (.t 1) 1, none⟩, ⟨.load 103 (.t 102) 1 false, none⟩, ⟨.mv 104 (.t 9), none⟩, ⟨.iaddr 105 (.t 103) (.t 104) 4, none⟩, ⟨.faddr 106 (.t 105) 0, none⟩, ⟨.load 107 (.t 106) 2 true, none⟩, ⟨.build 108 [(.v (.int .i64 0)), (.v (.int .i64 0)), (.v (.int .i64 0))] [(0, 2, (.t 107)), (2, 1, (.c (.v (.int .i64 1))))], none⟩, ⟨.call 109 (.fn 20) [(.t 101), (.t 108)], none⟩, ⟨.mv 100 (.t 109), none⟩, ⟨.ext 110 (.t 100) 0, none⟩, ⟨.ext 111 (.t 100) 1, none⟩, ⟨.alloc 12 [(.v (.int .i64 0)), (.v (.int .i64 0))], none⟩, ⟨.store (.t 12) (.t 110) 2, none⟩, ⟨.mv 13 (.t 111), none⟩] [0, 0, 2, 0, 14, 30, 62, 126, 255, 511, 1023, 1023, 0, 6143, 16383] ⟨[1, 3, 5, 6, 9, 10, 12], [(1, 1), (6, 6), (10, 10), (12, 12)]⟩) (.seq (.region [⟨.load 112 (.t 1) 2 true, none⟩, ⟨.load 113 (.t 10) 2 true, none⟩, ⟨.load 114 (.t 12) 2 true, none⟩, ⟨.call 115 (.fn 18) [(.t 112), (.t 113), (.t 114)], none⟩, ⟨.un 116 .not (.t 115), none⟩] ⟨[1, 3, 5, 6, 9, 116], [(1, 1), (6, 6)]⟩) (.cond (.t 116) (.seq (.region [⟨.mv 2 (.c (.v (.bool false))), none⟩] ⟨[2], []⟩) (.ret)) (.skip)))))) (.region [⟨.mv 86 (.t 9), none⟩, ⟨.bin 87 false .add (.t 86) (.c (.v (.int .i64 1))), none⟩, ⟨.mv 9 (.t 87), none⟩] ⟨[1, 3, 5, 6, 9], [(1, 1), (6, 6)]⟩))
def f4_l3 : ICode := .loop f4_b3
theorem f4_l3_eq (C : Cs) (lo : Nat) (st : St) : E C lo f4_l3 st = seqK (E C lo f4_l3) (E C lo f4_b3 st) := E_loop C lo f4_b3 st
/-- tracery/tracerylaw06.CompWhole -/
def f4 : IFn := ⟨.seq (.region [⟨.box 1 (.t 0) 2, none⟩, ⟨.mv 2 (.c (.v (.bool false))), none⟩] ⟨[1], [(1, 1)]⟩) (.seq (.region [⟨.call 15 (.fn 8) [], none⟩, ⟨.mv 3 (.t 15), none⟩] ⟨[1, 3], [(1, 1)]⟩) (.seq (.region [⟨.load 16 (.t 1) 2 true, none⟩, ⟨.call 17 (.fn 9) [(.t 16)], none⟩, ⟨.mv 4 (.t 17), none⟩] ⟨[1, 3, 4], [(1, 1)]⟩) (.seq (.seq (.region [⟨.mv 18 (.t 4), none⟩, ⟨.un 19 .not (.t 18), none⟩] ⟨[1, 3, 19], [(1, 1)]⟩) (.cond (.t 19) (.seq (.region [⟨.mv 20 (.t 3), none⟩, ⟨.mv 2 (.t 20), none⟩] ⟨[2], []⟩) (.ret)) (.skip))) (.seq (.region [⟨.mv 5 (.c (.v (.int .i64 0))), none⟩] ⟨[1, 3, 5], [(1, 1)]⟩) (.seq (.region [⟨.load 21 (.t 1) 2 true, none⟩, ⟨.call 22 (.fn 13) [(.t 21)], none⟩, ⟨.mv 6 (.t 22), none⟩] ⟨[1, 3, 5, 6], [(1, 1), (2408, 6)]⟩) (.seq (.seq (.region [⟨.mv 7 (.c (.v (.int .i64 0))), none⟩] ⟨[1, 3, 5, 6, 7], [(1, 1), (6, 6)]⟩) (.block 0 (f4_l1))) (.seq (.seq (.region [⟨.mv 9 (.c (.v (.int .i64 0))), none⟩] ⟨[1, 3, 5, 6, 9], [(1, 1), (6, 6)]⟩) (.block 4 (f4_l3))) (.seq (.region [⟨.load 117 (.t 1) 2 true, none⟩, ⟨.call 118 (.fn 16) [(.t 117)], none⟩, ⟨.mv 14 (.t 118), none⟩] ⟨[1, 3, 5, 6, 14], [(1, 1), (6, 6)]⟩) (.seq (.region [⟨.mv 119 (.t 3), none⟩, ⟨.mv 120 (.t 119), none⟩, ⟨.mv 121 (.t 5), some (120, true)⟩, ⟨.faddr 122 (.t 1) 0, some (120, true)⟩, ⟨.load 123 (.t 122) 1 false, some (120, true)⟩, ⟨.len 124 false (.t 123), some (120, true)⟩, ⟨.bin 125 false .eql (.t 121) (.t 124), some (120, true)⟩, ⟨.pick 126 (.t 120) (.t 125) (.c (.v (.bool false))), none⟩, ⟨.mv 127 (.t 126), none⟩, ⟨.mv 128 (.t 6), some (127, true)⟩, ⟨.len 129 false (.t 128), some (127, true)⟩, ⟨.mv 130 (.t 14), some (127, true)⟩, ⟨.bin 131 false .eql (.t 129) (.t 130), some (127, true)⟩, ⟨.pick 132 (.t 127) (.t 131) (.c (.v (.bool false))), none⟩, ⟨.mv 133 (.t 132), none⟩, ⟨.mv 134 (.t 14), some (133, true)⟩, ⟨.faddr 135 (.t 1) 0, some (133, true)⟩, ⟨.load 136 (.t 135) 1 false, some (133, true)⟩, ⟨.len 137 false (.t 136), some (133, true)⟩, ⟨.faddr 138 (.t 1) 1, some (133, true)⟩, ⟨.load 139 (.t 138) 1 false, some (133, true)⟩, ⟨.len 140 false (.t 139), some (133, true)⟩, ⟨.bin 141 false .sub (.t 137) (.t 140), some (133, true)⟩, ⟨.bin 142 false .geq (.t 134) (.t 141), some (133, true)⟩, ⟨.pick 143 (.t 133) (.t 142) (.c (.v (.bool false))), none⟩, ⟨.mv 144 (.t 143), none⟩, ⟨.mv 145 (.t 14), some (144, true)⟩, ⟨.faddr 146 (.t 1) 0, some (144, true)⟩, ⟨.load 147 (.t 146) 1 false, some (144, true)⟩, ⟨.len 148 false (.t 147), some (144, true)⟩, ⟨.bin 149 false .leq (.t 145) (.t 148), some (144, true)⟩, ⟨.pick 150 (.t 144) (.t 149) (.c (.v (.bool false))), none⟩, ⟨.mv 2 (.t 150), none⟩] ⟨[2], []⟩) (.ret)))))))))), [.tmp 2]⟩
theorem f4_chk : chk Try.prog 4 [(0, ⟨[1], [(1, 1)]⟩), (1, ⟨[1, 3], [(1, 1)]⟩), (2, ⟨[1, 3, 4], [(1, 1)]⟩), (3, ⟨[1, 3, 19], [(1, 1)]⟩), (4, ⟨[2], []⟩), (5, ⟨[1, 3, 5], [(1, 1)]⟩), (6, ⟨[1, 3, 5, 6], [(1, 1), (2408, 6)]⟩), (7, ⟨[1, 3, 5, 6, 7], [(1, 1), (6, 6)]⟩), (8, ⟨[1, 3, 5, 6, 7, 26], [(1, 1), (6, 6)]⟩), (9, ⟨[1, 3, 5, 6, 7], [(1, 1), (6, 6)]⟩), (10, ⟨[1, 3, 5, 6, 7], [(1, 1), (6, 6)]⟩), (11, ⟨[1, 3, 5, 6, 7, 8], [(1, 1), (6, 6)]⟩), (12, ⟨[1, 3, 5, 6, 7, 8, 42], [(1, 1), (6, 6)]⟩), (13, ⟨[1, 3, 5, 6, 7, 8], [(1, 1), (6, 6)]⟩), (14, ⟨[1, 3, 5, 6, 7, 8, 80], [(1, 1), (6, 6)]⟩), (15, ⟨[2], []⟩), (16, ⟨[1, 3, 5, 6, 9], [(1, 1), (6, 6)]⟩), (17, ⟨[1, 3, 5, 6, 9, 85], [(1, 1), (6, 6)]⟩), (18, ⟨[1, 3, 5, 6, 9], [(1, 1), (6, 6)]⟩), (19, ⟨[1, 3, 5, 6, 9, 10], [(1, 1), (6, 6), (10, 10)]⟩), (20, ⟨[1, 3, 5, 6, 9, 10, 12], [(1, 1), (6, 6), (10, 10), (12, 12)]⟩), (21, ⟨[1, 3, 5, 6, 9, 116], [(1, 1), (6, 6)]⟩), (22, ⟨[2], []⟩), (23, ⟨[1, 3, 5, 6, 14], [(1, 1), (6, 6)]⟩), (24, ⟨[2], []⟩)] [(0, ⟨[1, 3, 5, 6], [(1, 1), (6, 6)]⟩), (1, ⟨[1, 3, 5, 6, 7], []⟩), (2, ⟨[1, 3, 5, 6, 7], [(1, 1), (6, 6)]⟩), (3, ⟨[1, 3, 5, 6, 7, 8], []⟩), (4, ⟨[1, 3, 5, 6], [(1, 1), (6, 6)]⟩), (5, ⟨[1, 3, 5, 6, 9], []⟩)] = some f4 := by kernel_rfl
/-- slots [3, 4, 5, 7, 13, 16, 17]; objects [3, 4, 5, 13, 16, 11024, 11025] -/
def f5_b1 : ICode := .seq (.seq (.region [⟨.mv 71 (.t 17), none⟩, ⟨.faddr 72 (.t 16) 0, none⟩, ⟨.load 73 (.t 72) 1 false, none⟩, ⟨.len 74 false (.t 73), none⟩, ⟨.bin 75 false .lss (.t 71) (.t 74), none⟩] ⟨[3, 4, 5, 7, 13, 16, 17, 75], [(3, 3), (4, 4), (5, 5), (13, 13), (16, 16), (11024, 11024), (11025, 11025)]⟩) (.cond (.t 75) (.skip) (.seq (.gc ⟨[3, 4, 5, 7, 16], [(3, 3), (4, 4), (5, 5), (16, 16), (11024, 11024), (11025, 11025)]⟩) (.exit 0)))) (.seq (.block 1 (.seq (.seq (.draw [⟨.faddr 78 (.t 16) 0, none⟩, ⟨.load 79 (.t 78) 1 false, none⟩, ⟨.mv 80 (.t 17), none⟩, ⟨.iaddr 81 (.t 79) (.t 80) 5, none⟩, ⟨.faddr 82 (.t 81) 0, none⟩, ⟨.load 83 (.t 82) 2 true, none⟩, ⟨.load 84 (.t 4) 2 true, none⟩, ⟨.eqs 85 false [.i, .i] (.t 83) (.t 84), none⟩] [0, 1, 0, 7, 15, 31, 0, 127] ⟨[3, 4, 5, 7, 13, 16, 17, 85], [(3, 3), (4, 4), (5, 5), (13, 13), (16, 16), (11024, 11024), (11025, 11025)]⟩) (.cond (.t 85) (.draw [⟨.faddr 86 (.t 16) 0, none⟩, ⟨.load 87 (.t 86) 1 false, none⟩, ⟨.mv 88 (.t 17), none⟩, ⟨.faddr 89 (.t 16) 0, none⟩, ⟨.load 90 (.t 89) 1 false, none⟩, ⟨.mv 91 (.t 17), none⟩, ⟨.iaddr 92 (.t 90) (.t 91) 5, none⟩, ⟨.faddr 93 (.t 92) 2, none⟩, ⟨.load 94 (.t 93) 1 false, none⟩, ⟨.build 95 [(.v (.int .i64 0)), (.v (.int .i64 0)), (.v (.int .i64 0))] [], none⟩, ⟨.load 96 (.t 13) 2 true, none⟩, ⟨.build 97 [(.v (.int .i64 0)), (.v (.int .i64 0)), (.v (.int .i64 0))] [(0, 2, (.t 96))], none⟩, ⟨.call 98 (.fn 24) [(.t 94), (.t 95), (.t 97)], none⟩, ⟨.iaddr 99 (.t 87) (.t 88) 5, none⟩, ⟨.faddr 100 (.t 99) 2, none⟩, ⟨.store (.t 100) (.t 98) 1, none⟩] [0, 1, 0, 0, 8, 0, 56, 120, 248, 0, 0, 1024, 4088, 8191, 16383, 32767] ⟨[3, 4, 5, 7, 13, 16, 17], [(3, 3), (4, 4), (5, 5), (13, 13), (16, 16), (11024, 11024), (11025, 11025)]⟩) (.skip))) (.seq (.draw [⟨.faddr 101 (.t 16) 0, none⟩, ⟨.load 102 (.t 101) 1 false, none⟩, ⟨.mv 103 (.t 17), none⟩, ⟨.iaddr 104 (.t 102) (.t 103) 5, none⟩, ⟨.faddr 105 (.t 104) 0, none⟩, ⟨.load 106 (.t 105) 2 true, none⟩, ⟨.load 107 (.t 5) 2 true, none⟩, ⟨.eqs 108 false [.i, .i] (.t 106) (.t 107), none⟩] [0, 1, 0, 7, 15, 31, 0, 127] ⟨[3, 4, 5, 7, 13, 16, 17, 108], [(3, 3), (4, 4), (5, 5), (13, 13), (16, 16), (11024, 11024), (11025, 11025)]⟩) (.cond (.t 108) (.draw [⟨.faddr 109 (.t 16) 0, none⟩, ⟨.load 110 (.t 109) 1 false, none⟩, ⟨.mv 111 (.t 17), none⟩, ⟨.faddr 112 (.t 16) 0, none⟩, ⟨.load 113 (.t 112) 1 false, none⟩, ⟨.mv 114 (.t 17), none⟩, ⟨.iaddr 115 (.t 113) (.t 114) 5, none⟩, ⟨.faddr 116 (.t 115) 2, none⟩, ⟨.load 117 (.t 116) 1 false, none⟩, ⟨.build 118 [(.v (.int .i64 0)), (.v (.int .i64 0)), (.v (.int .i64 0))] [], none⟩, ⟨.load 119 (.t 13) 2 true, none⟩, ⟨.build 120 [(.v (.int .i64 0)), (.v (.int .i64 0)), (.v (.int .i64 0))] [(0, 2, (.t 119)), (2, 1, (.c (.v (.int .i64 1))))], none⟩, ⟨.call 121 (.fn 24) [(.t 117), (.t 118), (.t 120)], none⟩, ⟨.iaddr 122 (.t 110) (.t 111) 5, none⟩, ⟨.faddr 123 (.t 122) 2, none⟩, ⟨.store (.t 123) (.t 121) 1, none⟩] [0, 1, 0, 0, 8, 0, 56, 120, 248, 0, 0, 1024, 4088, 8191, 16383, 32767] ⟨[3, 4, 5, 7, 13, 16, 17], [(3, 3), (4, 4), (5, 5), (13, 13), (16, 16), (11024, 11024), (11025, 11025)]⟩) (.skip))))) (.region [⟨.mv 76 (.t 17), none⟩, ⟨.bin 77 false .add (.t 76) (.c (.v (.int .i64 1))), none⟩, ⟨.mv 17 (.t 77), none⟩] ⟨[3, 4, 5, 7, 13, 16, 17], [(3, 3), (4, 4), (5, 5), (13, 13), (16, 16), (11024, 11024), (11025, 11025)]⟩))
def f5_l1 : ICode := .loop f5_b1
theorem f5_l1_eq (C : Cs) (lo : Nat) (st : St) : E C lo f5_l1 st = seqK (E C lo f5_l1) (E C lo f5_b1 st) := E_loop C lo f5_b1 st
/-- tracery/tracerylaw06.CompEdge -/
def f5 : IFn := ⟨.seq (.region [⟨.box 3 (.t 0) 2, none⟩, ⟨.box 4 (.t 1) 2, none⟩, ⟨.box 5 (.t 2) 2, none⟩, ⟨.mv 6 (.c (.v (.bool false))), none⟩] ⟨[3, 4, 5], [(3, 3), (4, 4), (5, 5)]⟩) (.seq (.region [⟨.call 20 (.fn 8) [], none⟩, ⟨.mv 7 (.t 20), none⟩] ⟨[3, 4, 5, 7], [(3, 3), (4, 4), (5, 5)]⟩) (.seq (.region [⟨.load 21 (.t 3) 2 true, none⟩, ⟨.call 22 (.fn 9) [(.t 21)], none⟩, ⟨.mv 8 (.t 22), none⟩] ⟨[3, 4, 5, 7, 8], [(3, 3), (4, 4), (5, 5)]⟩) (.seq (.region [⟨.load 24 (.t 3) 2 true, none⟩, ⟨.load 25 (.t 4) 2 true, none⟩, ⟨.call 26 (.fn 21) [(.t 24), (.t 25)], none⟩, ⟨.mv 23 (.t 26), none⟩, ⟨.ext 27 (.t 23) 0, none⟩, ⟨.ext 28 (.t 23) 1, none⟩, ⟨.alloc 9 [(.v (.int .i64 0)), (.v (.int .i64 0)), (.v (.sl (.tight 44) 3 [])), (.v (.str ⟨#[]⟩)), (.v (.int .i64 0))], none⟩, ⟨.store (.t 9) (.t 27) 5, none⟩, ⟨.mv 10 (.t 28), none⟩] ⟨[3, 4, 5, 7, 8, 10], [(3, 3), (4, 4), (5, 5)]⟩) (.seq (.region [⟨.load 30 (.t 3) 2 true, none⟩, ⟨.load 31 (.t 5) 2 true, none⟩, ⟨.call 32 (.fn 21) [(.t 30), (.t 31)], none⟩, ⟨.mv 29 (.t 32), none⟩, ⟨.ext 33 (.t 29) 0, none⟩, ⟨.ext 34 (.t 29) 1, none⟩, ⟨.alloc 11 [(.v (.int .i64 0)), (.v (.int .i64 0)), (.v (.sl (.tight 44) 3 [])), (.v (.str ⟨#[]⟩)), (.v (.int .i64 0))], none⟩, ⟨.store (.t 11) (.t 33) 5, none⟩, ⟨.mv 12 (.t 34), none⟩] ⟨[3, 4, 5, 7, 8, 10, 12], [(3, 3), (4, 4), (5, 5)]⟩) (.seq (.region [⟨.build 35 [(.v (.int .i64 0)), (.v (.int .i64 0))] [(0, 1, (.c (.v (.int .i64 8)))), (1, 1, (.c (.v (.int .i64 1048576))))], none⟩, ⟨.alloc 13 [(.v (.int .i64 0)), (.v (.int .i64 0))], none⟩, ⟨.store (.t 13) (.t 35) 2, none⟩] ⟨[3, 4, 5, 7, 8, 10, 12, 13], [(3, 3), (4, 4), (5, 5), (13, 13)]⟩) (.seq (.region [⟨.load 37 (.t 3) 2 true, none⟩, ⟨.load 38 (.t 13) 2 true, none⟩, ⟨.call 39 (.fn 22) [(.t 37), (.t 38)], none⟩, ⟨.mv 36 (.t 39), none⟩, ⟨.ext 40 (.t 36) 0, none⟩, ⟨.ext 41 (.t 36) 1, none⟩, ⟨.alloc 14 [(.v (.int .i64 0)), (.v (.int .i64 0)), (.v (.str ⟨#[]⟩)), (.v (.int .i64 0))], none⟩, ⟨.store (.t 14) (.t 40) 4, none⟩, ⟨.mv 15 (.t 41), none⟩] ⟨[3, 4, 5, 7, 8, 10, 12, 13, 15], [(3, 3), (4, 4), (5, 5), (13, 13)]⟩) (.seq (.seq (.region [⟨.mv 42 (.t 8), none⟩, ⟨.un 43 .not (.t 42), none⟩, ⟨.mv 44 (.t 43), none⟩, ⟨.mv 45 (.t 10), some (44, false)⟩, ⟨.un 46 .not (.t 45), some (44, false)⟩, ⟨.pick 47 (.t 44) (.c (.v (.bool true))) (.t 46), none⟩, ⟨.mv 48 (.t 47), none⟩, ⟨.mv 49 (.t 12), some (48, false)⟩, ⟨.un 50 .not (.t 49), some (48, false)⟩, ⟨.pick 51 (.t 48) (.c (.v (.bool true))) (.t 50), none⟩, ⟨.mv 52 (.t 51), none⟩, ⟨.mv 53 (.t 15), some (52, false)⟩, ⟨.pick 54 (.t 52) (.c (.v (.bool true))) (.t 53), none⟩, ⟨.mv 55 (.t 54), none⟩, ⟨.faddr 56 (.t 3) 1, some (55, false)⟩, ⟨.load 57 (.t 56) 1 false, some (55, false)⟩, ⟨.len 58 false (.t 57), some (55, false)⟩, ⟨.bin 59 false .geq (.t 58) (.c (.v (.int .i64 40))), some (55, false)⟩, ⟨.pick 60 (.t 55) (.c (.v (.bool true))) (.t 59), none⟩] ⟨[3, 4, 5, 7, 13, 60], [(3, 3), (4, 4), (5, 5), (13, 13)]⟩) (.cond (.t 60) (.seq (.region [⟨.mv 61 (.t 7), none⟩, ⟨.mv 6 (.t 61), none⟩] ⟨[6], []⟩) (.ret)) (.skip))) (.seq (.region [⟨.load 62 (.t 3) 2 true, none⟩, ⟨.call 63 (.fn 23) [(.t 62)], none⟩, ⟨.alloc 16 [(.v (.sl (.tight 47) 5 [])), (.v (.sl (.tight 42) 4 []))], none⟩, ⟨.store (.t 16) (.t 63) 2, none⟩] ⟨[3, 4, 5, 7, 13, 16], [(3, 3), (4, 4), (5, 5), (13, 13), (16, 16), (5032, 11024), (5033, 11025)]⟩) (.seq (.region [⟨.faddr 64 (.t 16) 1, none⟩, ⟨.load 65 (.t 64) 1 false, none⟩, ⟨.load 66 (.t 13) 2 true, none⟩, ⟨.build 67 [(.v (.int .i64 0)), (.v (.int .i64 0)), (.v (.str ⟨#[]⟩)), (.v (.int .i64 0))] [(0, 2, (.t 66))], none⟩, ⟨.bslice 68 42 4 [(.t 67)], none⟩, ⟨.append 69 (.t 65) (.t 68) 42 4 40, none⟩, ⟨.faddr 70 (.t 16) 1, none⟩, ⟨.store (.t 70) (.t 69) 1, none⟩] ⟨[3, 4, 5, 7, 13, 16], [(3, 3), (4, 4), (5, 5), (13, 13), (16, 16), (11024, 11024), (69, 11025)]⟩) (.seq (.seq (.region [⟨.mv 17 (.c (.v (.int .i64 0))), none⟩] ⟨[3, 4, 5, 7, 13, 16, 17], [(3, 3), (4, 4), (5, 5), (13, 13), (16, 16), (11024, 11024), (11025, 11025)]⟩) (.block 0 (f5_l1))) (.seq (.region [⟨.load 124 (.t 3) 2 true, none⟩, ⟨.load 125 (.t 4) 2 true, none⟩, ⟨.load 126 (.t 5) 2 true, none⟩, ⟨.call 127 (.fn 18) [(.t 124), (.t 125), (.t 126)], none⟩, ⟨.mv 18 (.t 127), none⟩] ⟨[3, 4, 5, 7, 16, 18], [(3, 3), (4, 4), (5, 5), (16, 16), (11024, 11024), (11025, 11025)]⟩) (.seq (.region [⟨.mv 19 (.c (.v (.int .i64 1))), none⟩] ⟨[3, 4, 5, 7, 16, 18, 19], [(3, 3), (4, 4), (5, 5), (16, 16), (11024, 11024), (11025, 11025)]⟩) (.seq (.seq (.region [⟨.mv 128 (.t 18), none⟩] ⟨[3, 4, 5, 7, 16, 19, 128], [(3, 3), (4, 4), (5, 5), (16, 16), (11024, 11024), (11025, 11025)]⟩) (.cond (.t 128) (.region [⟨.mv 19 (.c (.v (.int .i64 0))), none⟩] ⟨[3, 4, 5, 7, 16, 19], [(3, 3), (4, 4), (5, 5), (16, 16), (11024, 11024), (11025, 11025)]⟩) (.skip))) (.seq (.draw [⟨.mv 129 (.t 7), none⟩, ⟨.mv 130 (.t 129), none⟩, ⟨.load 131 (.t 16) 2 true, some (130, true)⟩, ⟨.load 132 (.t 4) 2 true, some (130, true)⟩, ⟨.load 133 (.t 5) 2 true, some (130, true)⟩, ⟨.call 134 (.fn 18) [(.t 131), (.t 132), (.t 133)], some (130, true)⟩, ⟨.pick 135 (.t 130) (.t 134) (.c (.v (.bool false))), none⟩, ⟨.mv 136 (.t 135), none⟩, ⟨.load 137 (.t 16) 2 true, some (136, true)⟩, ⟨.call 138 (.fn 16) [(.t 137)], some (136, true)⟩, ⟨.load 139 (.t 3) 2 true, some (136, true)⟩, ⟨.call 140 (.fn 16) [(.t 139)], some (136, true)⟩, ⟨.mv 141 (.t 19), some (136, true)⟩, ⟨.bin 142 false .sub (.t 140) (.t 141), some (136, true)⟩, ⟨.bin 143 false .eql (.t 138) (.t 142), some (136, true)⟩, ⟨.pick 144 (.t 136) (.t 143) (.c (.v (.bool false))), none⟩, ⟨.mv 6 (.t 144), none⟩] [0, 1, 3, 3, 3, 31, 63, 127, 255, 511, 255, 2047, 255, 8191, 16383, 32767, 65535] ⟨[6], []⟩) (.ret))))))))))))))), [.tmp 6]⟩
theorem f5_chk : chk Try.prog 5 [(0, ⟨[3, 4, 5], [(3, 3), (4, 4), (5, 5)]⟩), (1, ⟨[3, 4, 5, 7], [(3, 3), (4, 4), (5, 5)]⟩), (2, ⟨[3, 4, 5, 7, 8], [(3, 3), (4, 4), (5, 5)]⟩), (3, ⟨[3, 4, 5, 7, 8, 10], [(3, 3), (4, 4), (5, 5)]⟩), (4, ⟨[3, 4, 5, 7, 8, 10, 12], [(3, 3), (4, 4), (5, 5)]⟩), (5, ⟨[3, 4, 5, 7, 8, 10, 12, 13], [(3, 3), (4, 4), (5, 5), (13, 13)]⟩), (6, ⟨[3, 4, 5, 7, 8, 10, 12, 13, 15], [(3, 3), (4, 4), (5, 5), (13, 13)]⟩), (7, ⟨[3, 4, 5, 7, 13, 60], [(3, 3), (4, 4), (5, 5), (13, 13)]⟩), (8, ⟨[6], []⟩), (9, ⟨[3, 4, 5, 7, 13, 16], [(3, 3), (4, 4), (5, 5), (13, 13), (16, 16), (5032, 11024), (5033, 11025)]⟩), (10, ⟨[3, 4, 5, 7, 13, 16], [(3, 3), (4, 4), (5, 5), (13, 13), (16, 16), (11024, 11024), (69, 11025)]⟩), (11, ⟨[3, 4, 5, 7, 13, 16, 17], [(3, 3), (4, 4), (5, 5), (13, 13), (16, 16), (11024, 11024), (11025, 11025)]⟩), (12, ⟨[3, 4, 5, 7, 13, 16, 17, 75], [(3, 3), (4, 4), (5, 5), (13, 13), (16, 16), (11024, 11024), (11025, 11025)]⟩), (13, ⟨[3, 4, 5, 7, 13, 16, 17], [(3, 3), (4, 4), (5, 5), (13, 13), (16, 16), (11024, 11024), (11025, 11025)]⟩), (14, ⟨[3, 4, 5, 7, 13, 16, 17, 85], [(3, 3), (4, 4), (5, 5), (13, 13), (16, 16), (11024, 11024), (11025, 11025)]⟩), (15, ⟨[3, 4, 5, 7, 13, 16, 17], [(3, 3), (4, 4), (5, 5), (13, 13), (16, 16), (11024, 11024), (11025, 11025)]⟩), (16, ⟨[3, 4, 5, 7, 13, 16, 17, 108], [(3, 3), (4, 4), (5, 5), (13, 13), (16, 16), (11024, 11024), (11025, 11025)]⟩), (17, ⟨[3, 4, 5, 7, 13, 16, 17], [(3, 3), (4, 4), (5, 5), (13, 13), (16, 16), (11024, 11024), (11025, 11025)]⟩), (18, ⟨[3, 4, 5, 7, 16, 18], [(3, 3), (4, 4), (5, 5), (16, 16), (11024, 11024), (11025, 11025)]⟩), (19, ⟨[3, 4, 5, 7, 16, 18, 19], [(3, 3), (4, 4), (5, 5), (16, 16), (11024, 11024), (11025, 11025)]⟩), (20, ⟨[3, 4, 5, 7, 16, 19, 128], [(3, 3), (4, 4), (5, 5), (16, 16), (11024, 11024), (11025, 11025)]⟩), (21, ⟨[3, 4, 5, 7, 16, 19], [(3, 3), (4, 4), (5, 5), (16, 16), (11024, 11024), (11025, 11025)]⟩), (22, ⟨[6], []⟩)] [(0, ⟨[3, 4, 5, 7, 16], [(3, 3), (4, 4), (5, 5), (16, 16), (11024, 11024), (11025, 11025)]⟩), (1, ⟨[3, 4, 5, 7, 13, 16, 17], []⟩)] = some f5 := by kernel_rfl
/-- slots [1, 3, 5, 6, 7]; objects [1, 5] -/
def f6_b2 : ICode := .seq (.seq (.region [⟨.mv 55 (.t 7), none⟩, ⟨.mv 56 (.t 6), none⟩, ⟨.bin 57 false .lss (.t 55) (.t 56), none⟩] ⟨[1, 3, 5, 6, 7, 57], [(1, 1), (5, 5)]⟩) (.cond (.t 57) (.skip) (.seq (.gc ⟨[1, 3, 5, 6], [(1, 1), (5, 5)]⟩) (.exit 2)))) (.seq (.block 3 (.seq (.draw [⟨.load 60 (.t 1) 2 true, none⟩, ⟨.faddr 61 (.t 1) 0, none⟩, ⟨.load 62 (.t 61) 1 false, none⟩, ⟨.mv 63 (.t 6), none⟩, ⟨.iaddr 64 (.t 62) (.t 63) 5, none⟩, ⟨.faddr 65 (.t 64) 0, none⟩, ⟨.load 66 (.t 65) 2 true, none⟩, ⟨.faddr 67 (.t 1) 0, none⟩, ⟨.load 68 (.t 67) 1 false, none⟩, ⟨.mv 69 (.t 7), none⟩, ⟨.iaddr 70 (.t 68) (.t 69) 5, none⟩, ⟨.faddr 71 (.t 70) 0, none⟩, ⟨.load 72 (.t 71) 2 true, none⟩, ⟨.call 73 (.fn 18) [(.t 60), (.t 66), (.t 72)], none⟩, ⟨.mv 74 (.t 5), none⟩, ⟨.mv 75 (.t 6), none⟩, ⟨.iaddr 76 (.t 74) (.t 75) 1, none⟩, ⟨.load 77 (.t 76) 1 false, none⟩, ⟨.mv 78 (.t 5), none⟩, ⟨.mv 79 (.t 7), none⟩, ⟨.iaddr 80 (.t 78) (.t 79) 1, none⟩, ⟨.load 81 (.t 80) 1 false, none⟩, ⟨.bin 82 false .eql (.t 77) (.t 81), none⟩, ⟨.bin 83 true .neq (.t 73) (.t 82), none⟩] [0, 0, 2, 0, 14, 30, 62, 0, 128, 0, 896, 1920, 3968, 8191, 0, 0, 49152, 114688, 0, 0, 786432, 1835008, 4177920, 8388607] ⟨[1, 3, 5, 6, 7, 83], [(1, 1), (5, 5)]⟩) (.cond (.t 83) (.seq (.region [⟨.mv 2 (.c (.v (.bool false))), none⟩] ⟨[2], []⟩) (.ret)) (.skip)))) (.region [⟨.mv 58 (.t 7), none⟩, ⟨.bin 59 false .add (.t 58) (.c (.v (.int .i64 1))), none⟩, ⟨.mv 7 (.t 59), none⟩] ⟨[1, 3, 5, 6, 7], [(1, 1), (5, 5)]⟩))
def f6_l2 : ICode := .loop f6_b2
theorem f6_l2_eq (C : Cs) (lo : Nat) (st : St) : E C lo f6_l2 st = seqK (E C lo f6_l2) (E C lo f6_b2 st) := E_loop C lo f6_b2 st
/-- slots [1, 3, 5, 6]; objects [1, 5] -/
def f6_b1 : ICode := .seq (.seq (.region [⟨.mv 22 (.t 6), none⟩, ⟨.mv 23 (.t 5), none⟩, ⟨.len 24 false (.t 23), none⟩, ⟨.bin 25 false .lss (.t 22) (.t 24), none⟩] ⟨[1, 3, 5, 6, 25], [(1, 1), (5, 5)]⟩) (.cond (.t 25) (.skip) (.seq (.gc ⟨[3], []⟩) (.exit 0)))) (.seq (.block 1 (.seq (.seq (.draw [⟨.mv 28 (.t 5), none⟩, ⟨.mv 29 (.t 6), none⟩, ⟨.iaddr 30 (.t 28) (.t 29) 1, none⟩, ⟨.load 31 (.t 30) 1 false, none⟩, ⟨.bin 32 false .lss (.t 31) (.c (.v (.int .i64 0))), none⟩, ⟨.mv 33 (.t 32), none⟩, ⟨.mv 34 (.t 5), some (33, false)⟩, ⟨.mv 35 (.t 6), some (33, false)⟩, ⟨.iaddr 36 (.t 34) (.t 35) 1, some (33, false)⟩, ⟨.load 37 (.t 36) 1 false, some (33, false)⟩, ⟨.mv 38 (.t 6), some (33, false)⟩, ⟨.bin 39 false .gtr (.t 37) (.t 38), some (33, false)⟩, ⟨.pick 40 (.t 33) (.c (.v (.bool true))) (.t 39), none⟩, ⟨.mv 41 (.t 40), none⟩, ⟨.mv 42 (.t 5), some (41, false)⟩, ⟨.mv 43 (.t 5), some (41, false)⟩, ⟨.mv 44 (.t 6), some (41, false)⟩, ⟨.iaddr 45 (.t 43) (.t 44) 1, some (41, false)⟩, ⟨.load 46 (.t 45) 1 false, some (41, false)⟩, ⟨.iaddr 47 (.t 42) (.t 46) 1, some (41, false)⟩, ⟨.load 48 (.t 47) 1 false, some (41, false)⟩, ⟨.mv 49 (.t 5), some (41, false)⟩, ⟨.mv 50 (.t 6), some (41, false)⟩, ⟨.iaddr 51 (.t 49) (.t 50) 1, some (41, false)⟩, ⟨.load 52 (.t 51) 1 false, some (41, false)⟩, ⟨.bin 53 false .neq (.t 48) (.t 52), some (41, false)⟩, ⟨.pick 54 (.t 41) (.c (.v (.bool true))) (.t 53), none⟩] [0, 0, 3, 7, 15, 31, 63, 63, 255, 511, 63, 2047, 4095, 8191, 16383, 16383, 16383, 114687, 245759, 524287, 1048575, 16383, 16383, 6307839, 14696447, 33554431, 67108863] ⟨[1, 3, 5, 6, 54], [(1, 1), (5, 5)]⟩) (.cond (.t 54) (.seq (.region [⟨.mv 2 (.c (.v (.bool false))), none⟩] ⟨[2], []⟩) (.ret)) (.skip))) (.seq (.region [⟨.mv 7 (.c (.v (.int .i64 0))), none⟩] ⟨[1, 3, 5, 6, 7], [(1, 1), (5, 5)]⟩) (.block 2 (f6_l2))))) (.region [⟨.mv 26 (.t 6), none⟩, ⟨.bin 27 false .add (.t 26) (.c (.v (.int .i64 1))), none⟩, ⟨.mv 6 (.t 27), none⟩] ⟨[1, 3, 5, 6], [(1, 1), (5, 5)]⟩))
def f6_l1 : ICode := .loop f6_b1
theorem f6_l1_eq (C : Cs) (lo : Nat) (st : St) : E C lo f6_l1 st = seqK (E C lo f6_l1) (E C lo f6_b1 st) := E_loop C lo f6_b1 st
/-- tracery/tracerylaw06.CompPlaces -/
def f6 : IFn := ⟨.seq (.region [⟨.box 1 (.t 0) 2, none⟩, ⟨.mv 2 (.c (.v (.bool false))), none⟩] ⟨[1], [(1, 1)]⟩) (.seq (.region [⟨.call 8 (.fn 8) [], none⟩, ⟨.mv 3 (.t 8), none⟩] ⟨[1, 3], [(1, 1)]⟩) (.seq (.region [⟨.load 9 (.t 1) 2 true, none⟩, ⟨.call 10 (.fn 9) [(.t 9)], none⟩, ⟨.mv 4 (.t 10), none⟩] ⟨[1, 3, 4], [(1, 1)]⟩) (.seq (.seq (.region [⟨.mv 11 (.t 4), none⟩, ⟨.un 12 .not (.t 11), none⟩] ⟨[1, 3, 12], [(1, 1)]⟩) (.cond (.t 12) (.seq (.region [⟨.mv 13 (.t 3), none⟩, ⟨.mv 2 (.t 13), none⟩] ⟨[2], []⟩) (.ret)) (.skip))) (.seq (.region [⟨.load 14 (.t 1) 2 true, none⟩, ⟨.call 15 (.fn 11) [(.t 14)], none⟩, ⟨.mv 5 (.t 15), none⟩] ⟨[1, 3, 5], [(1, 1), (1960, 5)]⟩) (.seq (.seq (.region [⟨.mv 16 (.t 5), none⟩, ⟨.len 17 false (.t 16), none⟩, ⟨.faddr 18 (.t 1) 0, none⟩, ⟨.load 19 (.t 18) 1 false, none⟩, ⟨.len 20 false (.t 19), none⟩, ⟨.bin 21 false .neq (.t 17) (.t 20), none⟩] ⟨[1, 3, 5, 21], [(1, 1), (5, 5)]⟩) (.cond (.t 21) (.seq (.region [⟨.mv 2 (.c (.v (.bool false))), none⟩] ⟨[2], []⟩) (.ret)) (.skip))) (.seq (.seq (.region [⟨.mv 6 (.c (.v (.int .i64 0))), none⟩] ⟨[1, 3, 5, 6], [(1, 1), (5, 5)]⟩) (.block 0 (f6_l1))) (.seq (.region [⟨.mv 84 (.t 3), none⟩, ⟨.mv 2 (.t 84), none⟩] ⟨[2], []⟩) (.ret)))))))), [.tmp 2]⟩
theorem f6_chk : chk Try.prog 6 [(0, ⟨[1], [(1, 1)]⟩), (1, ⟨[1, 3], [(1, 1)]⟩), (2, ⟨[1, 3, 4], [(1, 1)]⟩), (3, ⟨[1, 3, 12], [(1, 1)]⟩), (4, ⟨[2], []⟩), (5, ⟨[1, 3, 5], [(1, 1), (1960, 5)]⟩), (6, ⟨[1, 3, 5, 21], [(1, 1), (5, 5)]⟩), (7, ⟨[2], []⟩), (8, ⟨[1, 3, 5, 6], [(1, 1), (5, 5)]⟩), (9, ⟨[1, 3, 5, 6, 25], [(1, 1), (5, 5)]⟩), (10, ⟨[1, 3, 5, 6], [(1, 1), (5, 5)]⟩), (11, ⟨[1, 3, 5, 6, 54], [(1, 1), (5, 5)]⟩), (12, ⟨[2], []⟩), (13, ⟨[1, 3, 5, 6, 7], [(1, 1), (5, 5)]⟩), (14, ⟨[1, 3, 5, 6, 7, 57], [(1, 1), (5, 5)]⟩), (15, ⟨[1, 3, 5, 6, 7], [(1, 1), (5, 5)]⟩), (16, ⟨[1, 3, 5, 6, 7, 83], [(1, 1), (5, 5)]⟩), (17, ⟨[2], []⟩), (18, ⟨[2], []⟩)] [(0, ⟨[3], []⟩), (1, ⟨[1, 3, 5, 6], []⟩), (2, ⟨[1, 3, 5, 6], [(1, 1), (5, 5)]⟩), (3, ⟨[1, 3, 5, 6, 7], []⟩)] = some f6 := by kernel_rfl
/-- slots [3, 4, 5, 7, 9, 10, 11, 12, 13]; objects [3, 4, 5, 9, 12, 10576, 10577] -/
def f7_b2 : ICode := .seq (.seq (.region [⟨.mv 39 (.t 13), none⟩, ⟨.bin 40 false .geq (.t 39) (.c (.v (.int .i64 0))), none⟩] ⟨[3, 4, 5, 7, 9, 10, 11, 12, 13, 40], [(3, 3), (4, 4), (5, 5), (9, 9), (12, 12), (10576, 10576), (10577, 10577)]⟩) (.cond (.t 40) (.skip) (.seq (.gc ⟨[3, 4, 5, 7, 9, 10, 12], [(3, 3), (4, 4), (5, 5), (9, 9), (12, 12), (10576, 10576), (10577, 10577)]⟩) (.exit 2)))) (.seq (.block 3 (.region [⟨.mv 43 (.t 12), none⟩, ⟨.mv 44 (.t 11), none⟩, ⟨.mv 45 (.t 13), none⟩, ⟨.iaddr 46 (.t 44) (.t 45) 3, none⟩, ⟨.load 47 (.t 46) 3 true, none⟩, ⟨.bslice 48 44 3 [(.t 47)], none⟩, ⟨.append 49 (.t 43) (.t 48) 44 3 24, none⟩, ⟨.mv 12 (.t 49), none⟩] ⟨[3, 4, 5, 7, 9, 10, 11, 12, 13], [(3, 3), (4, 4), (5, 5), (9, 9), (49, 12), (10576, 10576), (10577, 10577)]⟩)) (.region [⟨.mv 41 (.t 13), none⟩, ⟨.bin 42 false .sub (.t 41) (.c (.v (.int .i64 1))), none⟩, ⟨.mv 13 (.t 42), none⟩] ⟨[3, 4, 5, 7, 9, 10, 11, 12, 13], [(3, 3), (4, 4), (5, 5), (9, 9), (12, 12), (10576, 10576), (10577, 10577)]⟩))
def f7_l2 : ICode := .loop f7_b2
theorem f7_l2_eq (C : Cs) (lo : Nat) (st : St) : E C lo f7_l2 st = seqK (E C lo f7_l2) (E C lo f7_b2 st) := E_loop C lo f7_b2 st
/-- slots [3, 4, 5, 7, 9, 10]; objects [3, 4, 5, 9, 10576, 10577] -/
def f7_b1 : ICode := .seq (.seq (.region [⟨.mv 22 (.t 10), none⟩, ⟨.faddr 23 (.t 9) 0, none⟩, ⟨.load 24 (.t 23) 1 false, none⟩, ⟨.len 25 false (.t 24), none⟩, ⟨.bin 26 false .lss (.t 22) (.t 25), none⟩] ⟨[3, 4, 5, 7, 9, 10, 26], [(3, 3), (4, 4), (5, 5), (9, 9), (10576, 10576), (10577, 10577)]⟩) (.cond (.t 26) (.skip) (.seq (.gc ⟨[3, 4, 5, 7, 9], [(3, 3), (4, 4), (5, 5), (9, 9), (10576, 10576), (10577, 10577)]⟩) (.exit 0)))) (.seq (.block 1 (.seq (.region [⟨.faddr 29 (.t 9) 0, none⟩, ⟨.load 30 (.t 29) 1 false, none⟩, ⟨.mv 31 (.t 10), none⟩, ⟨.iaddr 32 (.t 30) (.t 31) 5, none⟩, ⟨.faddr 33 (.t 32) 2, none⟩, ⟨.load 34 (.t 33) 1 false, none⟩, ⟨.mv 11 (.t 34), none⟩] ⟨[3, 4, 5, 7, 9, 10, 11], [(3, 3), (4, 4), (5, 5), (9, 9), (10576, 10576), (10577, 10577)]⟩) (.seq (.region [⟨.bslice 35 44 3 [], none⟩, ⟨.mv 12 (.t 35), none⟩] ⟨[3, 4, 5, 7, 9, 10, 11, 12], [(3, 3), (4, 4), (5, 5), (9, 9), (35, 12), (10576, 10576), (10577, 10577)]⟩) (.seq (.seq (.region [⟨.mv 36 (.t 11), none⟩, ⟨.len 37 false (.t 36), none⟩, ⟨.bin 38 false .sub (.t 37) (.c (.v (.int .i64 1))), none⟩, ⟨.mv 13 (.t 38), none⟩] ⟨[3, 4, 5, 7, 9, 10, 11, 12, 13], [(3, 3), (4, 4), (5, 5), (9, 9), (12, 12), (10576, 10576), (10577, 10577)]⟩) (.block 2 (f7_l2))) (.seq (.draw [⟨.faddr 50 (.t 9) 0, none⟩, ⟨.load 51 (.t 50) 1 false, none⟩, ⟨.mv 52 (.t 10), none⟩, ⟨.mv 53 (.t 12), none⟩, ⟨.call 54 (.fn 25) [(.t 53)], none⟩, ⟨.iaddr 55 (.t 51) (.t 52) 5, none⟩, ⟨.faddr 56 (.t 55) 2, none⟩, ⟨.store (.t 56) (.t 54) 1, none⟩] [0, 1, 0, 0, 8, 31, 63, 127] ⟨[3, 4, 5, 7, 9, 10], [(3, 3), (4, 4), (5, 5), (9, 9), (10576, 10576), (10577, 10577)]⟩) (.region [⟨.faddr 57 (.t 9) 0, none⟩, ⟨.load 58 (.t 57) 1 false, none⟩, ⟨.mv 59 (.t 10), none⟩, ⟨.iaddr 60 (.t 58) (.t 59) 5, none⟩, ⟨.faddr 61 (.t 60) 3, none⟩, ⟨.store (.t 61) (.c (.v (.str ⟨#[97]⟩))) 1, none⟩] ⟨[3, 4, 5, 7, 9, 10], [(3, 3), (4, 4), (5, 5), (9, 9), (10576, 10576), (10577, 10577)]⟩)))))) (.region [⟨.mv 27 (.t 10), none⟩, ⟨.bin 28 false .add (.t 27) (.c (.v (.int .i64 1))), none⟩, ⟨.mv 10 (.t 28), none⟩] ⟨[3, 4, 5, 7, 9, 10], [(3, 3), (4, 4), (5, 5), (9, 9), (10576, 10576), (10577, 10577)]⟩))
def f7_l1 : ICode := .loop f7_b1
theorem f7_l1_eq (C : Cs) (lo : Nat) (st : St) : E C lo f7_l1 st = seqK (E C lo f7_l1) (E C lo f7_b1 st) := E_loop C lo f7_b1 st
/-- tracery/tracerylaw06.CompBlind -/
def f7 : IFn := ⟨.seq (.region [⟨.box 3 (.t 0) 2, none⟩, ⟨.box 4 (.t 1) 2, none⟩, ⟨.box 5 (.t 2) 2, none⟩, ⟨.mv 6 (.c (.v (.bool false))), none⟩] ⟨[3, 4, 5], [(3, 3), (4, 4), (5, 5)]⟩) (.seq (.region [⟨.call 14 (.fn 8) [], none⟩, ⟨.mv 7 (.t 14), none⟩] ⟨[3, 4, 5, 7], [(3, 3), (4, 4), (5, 5)]⟩) (.seq (.region [⟨.load 15 (.t 3) 2 true, none⟩, ⟨.call 16 (.fn 9) [(.t 15)], none⟩, ⟨.mv 8 (.t 16), none⟩] ⟨[3, 4, 5, 7, 8], [(3, 3), (4, 4), (5, 5)]⟩) (.seq (.seq (.region [⟨.mv 17 (.t 8), none⟩, ⟨.un 18 .not (.t 17), none⟩] ⟨[3, 4, 5, 7, 18], [(3, 3), (4, 4), (5, 5)]⟩) (.cond (.t 18) (.seq (.region [⟨.mv 19 (.t 7), none⟩, ⟨.mv 6 (.t 19), none⟩] ⟨[6], []⟩) (.ret)) (.skip))) (.seq (.region [⟨.load 20 (.t 3) 2 true, none⟩, ⟨.call 21 (.fn 23) [(.t 20)], none⟩, ⟨.alloc 9 [(.v (.sl (.tight 47) 5 [])), (.v (.sl (.tight 42) 4 []))], none⟩, ⟨.store (.t 9) (.t 21) 2, none⟩] ⟨[3, 4, 5, 7, 9], [(3, 3), (4, 4), (5, 5), (9, 9), (2344, 10576), (2345, 10577)]⟩) (.seq (.seq (.region [⟨.mv 10 (.c (.v (.int .i64 0))), none⟩] ⟨[3, 4, 5, 7, 9, 10], [(3, 3), (4, 4), (5, 5), (9, 9), (10576, 10576), (10577, 10577)]⟩) (.block 0 (f7_l1))) (.seq (.draw [⟨.mv 62 (.t 7), none⟩, ⟨.mv 63 (.t 62), none⟩, ⟨.load 64 (.t 9) 2 true, some (63, true)⟩, ⟨.call 65 (.fn 11) [(.t 64)], some (63, true)⟩, ⟨.load 66 (.t 3) 2 true, some (63, true)⟩, ⟨.call 67 (.fn 11) [(.t 66)], some (63, true)⟩, ⟨.call 68 (.fn 10) [(.t 65), (.t 67)], some (63, true)⟩, ⟨.pick 69 (.t 63) (.t 68) (.c (.v (.bool false))), none⟩, ⟨.mv 70 (.t 69), none⟩, ⟨.load 71 (.t 9) 2 true, some (70, true)⟩, ⟨.load 72 (.t 4) 2 true, some (70, true)⟩, ⟨.load 73 (.t 5) 2 true, some (70, true)⟩, ⟨.call 74 (.fn 18) [(.t 71), (.t 72), (.t 73)], some (70, true)⟩, ⟨.load 75 (.t 3) 2 true, some (70, true)⟩, ⟨.load 76 (.t 4) 2 true, some (70, true)⟩, ⟨.load 77 (.t 5) 2 true, some (70, true)⟩, ⟨.call 78 (.fn 18) [(.t 75), (.t 76), (.t 77)], some (70, true)⟩, ⟨.bin 79 true .eql (.t 74) (.t 78), some (70, true)⟩, ⟨.pick 80 (.t 70) (.t 79) (.c (.v (.bool false))), none⟩, ⟨.mv 81 (.t 80), none⟩, ⟨.load 82 (.t 3) 2 true, some (81, true)⟩, ⟨.load 83 (.t 4) 2 true, some (81, true)⟩, ⟨.load 84 (.t 5) 2 true, some (81, true)⟩, ⟨.call 85 (.fn 18) [(.t 82), (.t 83), (.t 84)], some (81, true)⟩, ⟨.load 86 (.t 3) 2 true, some (81, true)⟩, ⟨.load 87 (.t 5) 2 true, some (81, true)⟩, ⟨.load 88 (.t 4) 2 true, some (81, true)⟩, ⟨.call 89 (.fn 18) [(.t 86), (.t 87), (.t 88)], some (81, true)⟩, ⟨.bin 90 true .eql (.t 85) (.t 89), some (81, true)⟩, ⟨.pick 91 (.t 81) (.t 90) (.c (.v (.bool false))), none⟩, ⟨.mv 6 (.t 91), none⟩] [0, 1, 3, 7, 3, 31, 63, 127, 255, 511, 511, 511, 4095, 511, 511, 511, 65535, 131071, 262143, 524287, 1048575, 1048575, 1048575, 8388607, 1048575, 1048575, 1048575, 134217727, 268435455, 536870911, 1073741823] ⟨[6], []⟩) (.ret))))))), [.tmp 6]⟩
theorem f7_chk : chk Try.prog 7 [(0, ⟨[3, 4, 5], [(3, 3), (4, 4), (5, 5)]⟩), (1, ⟨[3, 4, 5, 7], [(3, 3), (4, 4), (5, 5)]⟩), (2, ⟨[3, 4, 5, 7, 8], [(3, 3), (4, 4), (5, 5)]⟩), (3, ⟨[3, 4, 5, 7, 18], [(3, 3), (4, 4), (5, 5)]⟩), (4, ⟨[6], []⟩), (5, ⟨[3, 4, 5, 7, 9], [(3, 3), (4, 4), (5, 5), (9, 9), (2344, 10576), (2345, 10577)]⟩), (6, ⟨[3, 4, 5, 7, 9, 10], [(3, 3), (4, 4), (5, 5), (9, 9), (10576, 10576), (10577, 10577)]⟩), (7, ⟨[3, 4, 5, 7, 9, 10, 26], [(3, 3), (4, 4), (5, 5), (9, 9), (10576, 10576), (10577, 10577)]⟩), (8, ⟨[3, 4, 5, 7, 9, 10], [(3, 3), (4, 4), (5, 5), (9, 9), (10576, 10576), (10577, 10577)]⟩), (9, ⟨[3, 4, 5, 7, 9, 10, 11], [(3, 3), (4, 4), (5, 5), (9, 9), (10576, 10576), (10577, 10577)]⟩), (10, ⟨[3, 4, 5, 7, 9, 10, 11, 12], [(3, 3), (4, 4), (5, 5), (9, 9), (35, 12), (10576, 10576), (10577, 10577)]⟩), (11, ⟨[3, 4, 5, 7, 9, 10, 11, 12, 13], [(3, 3), (4, 4), (5, 5), (9, 9), (12, 12), (10576, 10576), (10577, 10577)]⟩), (12, ⟨[3, 4, 5, 7, 9, 10, 11, 12, 13, 40], [(3, 3), (4, 4), (5, 5), (9, 9), (12, 12), (10576, 10576), (10577, 10577)]⟩), (13, ⟨[3, 4, 5, 7, 9, 10, 11, 12, 13], [(3, 3), (4, 4), (5, 5), (9, 9), (12, 12), (10576, 10576), (10577, 10577)]⟩), (14, ⟨[3, 4, 5, 7, 9, 10, 11, 12, 13], [(3, 3), (4, 4), (5, 5), (9, 9), (49, 12), (10576, 10576), (10577, 10577)]⟩), (15, ⟨[3, 4, 5, 7, 9, 10], [(3, 3), (4, 4), (5, 5), (9, 9), (10576, 10576), (10577, 10577)]⟩), (16, ⟨[3, 4, 5, 7, 9, 10], [(3, 3), (4, 4), (5, 5), (9, 9), (10576, 10576), (10577, 10577)]⟩), (17, ⟨[6], []⟩)] [(0, ⟨[3, 4, 5, 7, 9], [(3, 3), (4, 4), (5, 5), (9, 9), (10576, 10576), (10577, 10577)]⟩), (1, ⟨[3, 4, 5, 7, 9, 10], []⟩), (2, ⟨[3, 4, 5, 7, 9, 10, 12], [(3, 3), (4, 4), (5, 5), (9, 9), (12, 12), (10576, 10576), (10577, 10577)]⟩), (3, ⟨[3, 4, 5, 7, 9, 10, 11, 12, 13], []⟩)] = some f7 := by kernel_rfl
/-- tracery/tracerylaw06.shown -/
def f8 : IFn := ⟨.seq (.region [⟨.mv 0 (.c (.v (.bool false))), none⟩] ⟨[], []⟩) (.seq (.region [⟨.build 3 [(.v (.int .i64 0)), (.v (.int .i64 0))] [(0, 1, (.c (.v (.int .i64 1)))), (1, 1, (.c (.v (.int .i64 9))))], none⟩, ⟨.alloc 1 [(.v (.int .i64 0)), (.v (.int .i64 0))], none⟩, ⟨.store (.t 1) (.t 3) 2, none⟩] ⟨[1], [(1, 1)]⟩) (.seq (.region [⟨.build 4 [(.v (.int .i64 0)), (.v (.int .i64 0))] [(0, 1, (.c (.v (.int .i64 1)))), (1, 1, (.c (.v (.int .i64 1))))], none⟩, ⟨.load 5 (.t 1) 2 true, none⟩, ⟨.build 6 [(.v (.int .i64 0)), (.v (.int .i64 0)), (.v (.int .i64 0))] [(0, 2, (.t 5))], none⟩, ⟨.bslice 7 44 3 [(.t 6)], none⟩, ⟨.build 8 [(.v (.int .i64 0)), (.v (.int .i64 0)), (.v (.sl (.tight 44) 3 [])), (.v (.str ⟨#[]⟩)), (.v (.int .i64 0))] [(0, 2, (.t 4)), (2, 1, (.t 7))], none⟩, ⟨.build 9 [(.v (.int .i64 0)), (.v (.int .i64 0))] [(0, 1, (.c (.v (.int .i64 1)))), (1, 1, (.c (.v (.int .i64 2))))], none⟩, ⟨.load 10 (.t 1) 2 true, none⟩, ⟨.build 11 [(.v (.int .i64 0)), (.v (.int .i64 0)), (.v (.int .i64 0))] [(0, 2, (.t 10)), (2, 1, (.c (.v (.int .i64 1))))], none⟩, ⟨.bslice 12 44 3 [(.t 11)], none⟩, ⟨.build 13 [(.v (.int .i64 0)), (.v (.int .i64 0)), (.v (.sl (.tight 44) 3 [])), (.v (.str ⟨#[]⟩)), (.v (.int .i64 0))] [(0, 2, (.t 9)), (2, 1, (.t 12))], none⟩, ⟨.build 14 [(.v (.int .i64 0)), (.v (.int .i64 0))] [(0, 1, (.c (.v (.int .i64 1)))), (1, 1, (.c (.v (.int .i64 3))))], none⟩, ⟨.build 15 [(.v (.int .i64 0)), (.v (.int .i64 0)), (.v (.sl (.tight 44) 3 [])), (.v (.str ⟨#[]⟩)), (.v (.int .i64 0))] [(0, 2, (.t 14))], none⟩, ⟨.bslice 16 47 5 [(.t 8), (.t 13), (.t 15)], none⟩, ⟨.load 17 (.t 1) 2 true, none⟩, ⟨.build 18 [(.v (.int .i64 0)), (.v (.int .i64 0)), (.v (.str ⟨#[]⟩)), (.v (.int .i64 0))] [(0, 2, (.t 17))], none⟩, ⟨.bslice 19 42 4 [(.t 18)], none⟩, ⟨.build 20 [(.v (.sl (.tight 47) 5 [])), (.v (.sl (.tight 42) 4 []))] [(0, 1, (.t 16)), (1, 1, (.t 19))], none⟩, ⟨.alloc 2 [(.v (.sl (.tight 47) 5 [])), (.v (.sl (.tight 42) 4 []))], none⟩, ⟨.store (.t 2) (.t 20) 2, none⟩] ⟨[2], [(2, 2), (16, 10128), (19, 10129)]⟩) (.seq (.region [⟨.load 21 (.t 2) 2 true, none⟩, ⟨.call 22 (.fn 16) [(.t 21)], none⟩, ⟨.bin 23 false .eql (.t 22) (.c (.v (.int .i64 2))), none⟩, ⟨.mv 0 (.t 23), none⟩] ⟨[0], []⟩) (.ret)))), [.tmp 0]⟩
theorem f8_chk : chk Try.prog 8 [(0, ⟨[], []⟩), (1, ⟨[1], [(1, 1)]⟩), (2, ⟨[2], [(2, 2), (16, 10128), (19, 10129)]⟩), (3, ⟨[0], []⟩)] [] = some f8 := by kernel_rfl
/-- tracery/tracerylaw06.formed -/
def f9 : IFn := ⟨.seq (.region [⟨.box 1 (.t 0) 2, none⟩, ⟨.mv 2 (.c (.v (.bool false))), none⟩] ⟨[1], [(1, 1)]⟩) (.seq (.region [⟨.load 3 (.t 1) 2 true, none⟩, ⟨.call 4 (.fn 26) [(.t 3)], none⟩, ⟨.bin 5 false .eql (.t 4) (.c (.v (.int .i64 0))), none⟩, ⟨.mv 2 (.t 5), none⟩] ⟨[2], []⟩) (.ret)), [.tmp 2]⟩
theorem f9_chk : chk Try.prog 9 [(0, ⟨[1], [(1, 1)]⟩), (1, ⟨[2], []⟩)] [] = some f9 := by kernel_rfl
/-- slots [0, 1, 5]; objects [] -/
def f10_b1 : ICode := .seq (.seq (.region [⟨.mv 11 (.t 5), none⟩, ⟨.mv 12 (.t 0), none⟩, ⟨.len 13 false (.t 12), none⟩, ⟨.bin 14 false .lss (.t 11) (.t 13), none⟩] ⟨[0, 1, 5, 14], []⟩) (.cond (.t 14) (.skip) (.seq (.gc ⟨[], []⟩) (.exit 0)))) (.seq (.block 1 (.seq (.draw [⟨.mv 17 (.t 0), none⟩, ⟨.mv 18 (.t 5), none⟩, ⟨.iaddr 19 (.t 17) (.t 18) 1, none⟩, ⟨.load 20 (.t 19) 1 false, none⟩, ⟨.mv 21 (.t 1), none⟩, ⟨.mv 22 (.t 5), none⟩, ⟨.iaddr 23 (.t 21) (.t 22) 1, none⟩, ⟨.load 24 (.t 23) 1 false, none⟩, ⟨.bin 25 false .neq (.t 20) (.t 24), none⟩] [0, 0, 3, 7, 0, 0, 48, 112, 255] ⟨[0, 1, 5, 25], []⟩) (.cond (.t 25) (.seq (.region [⟨.mv 4 (.c (.v (.bool false))), none⟩] ⟨[4], []⟩) (.ret)) (.skip)))) (.region [⟨.mv 15 (.t 5), none⟩, ⟨.bin 16 false .add (.t 15) (.c (.v (.int .i64 1))), none⟩, ⟨.mv 5 (.t 16), none⟩] ⟨[0, 1, 5], []⟩))
def f10_l1 : ICode := .loop f10_b1
theorem f10_l1_eq (C : Cs) (lo : Nat) (st : St) : E C lo f10_l1 st = seqK (E C lo f10_l1) (E C lo f10_b1 st) := E_loop C lo f10_b1 st
/-- tracery/traceryref02.Ints -/
def f10 : IFn := ⟨.seq (.region [⟨.mv 4 (.c (.v (.bool false))), none⟩] ⟨[0, 1], []⟩) (.seq (.seq (.region [⟨.mv 6 (.t 0), none⟩, ⟨.len 7 false (.t 6), none⟩, ⟨.mv 8 (.t 1), none⟩, ⟨.len 9 false (.t 8), none⟩, ⟨.bin 10 false .neq (.t 7) (.t 9), none⟩] ⟨[0, 1, 10], []⟩) (.cond (.t 10) (.seq (.region [⟨.mv 4 (.c (.v (.bool false))), none⟩] ⟨[4], []⟩) (.ret)) (.skip))) (.seq (.seq (.region [⟨.mv 5 (.c (.v (.int .i64 0))), none⟩] ⟨[0, 1, 5], []⟩) (.block 0 (f10_l1))) (.seq (.region [⟨.mv 4 (.c (.v (.bool true))), none⟩] ⟨[4], []⟩) (.ret)))), [.tmp 4]⟩
theorem f10_chk : chk Try.prog 10 [(0, ⟨[0, 1], []⟩), (1, ⟨[0, 1, 10], []⟩), (2, ⟨[4], []⟩), (3, ⟨[0, 1, 5], []⟩), (4, ⟨[0, 1, 5, 14], []⟩), (5, ⟨[0, 1, 5], []⟩), (6, ⟨[0, 1, 5, 25], []⟩), (7, ⟨[4], []⟩), (8, ⟨[4], []⟩)] [(0, ⟨[], []⟩), (1, ⟨[0, 1, 5], []⟩)] = some f10 := by kernel_rfl
/-- slots [1, 3, 4]; objects [1, 3] -/
def f12_b1 : ICode := .seq (.seq (.region [⟨.mv 15 (.t 4), none⟩, ⟨.faddr 16 (.t 1) 0, none⟩, ⟨.load 17 (.t 16) 1 false, none⟩, ⟨.len 18 false (.t 17), none⟩, ⟨.bin 19 false .lss (.t 15) (.t 18), none⟩] ⟨[1, 3, 4, 19], [(1, 1), (3, 3)]⟩) (.cond (.t 19) (.skip) (.seq (.gc ⟨[1, 3], [(1, 1), (3, 3)]⟩) (.exit 0)))) (.seq (.block 1 (.region [⟨.mv 22 (.t 3), none⟩, ⟨.mv 23 (.t 4), none⟩, ⟨.bslice 24 3 1 [(.t 23)], none⟩, ⟨.append 25 (.t 22) (.t 24) 3 1 8, none⟩, ⟨.mv 3 (.t 25), none⟩] ⟨[1, 3, 4], [(1, 1), (25, 3)]⟩)) (.region [⟨.mv 20 (.t 4), none⟩, ⟨.bin 21 false .add (.t 20) (.c (.v (.int .i64 1))), none⟩, ⟨.mv 4 (.t 21), none⟩] ⟨[1, 3, 4], [(1, 1), (3, 3)]⟩))
def f12_l1 : ICode := .loop f12_b1
theorem f12_l1_eq (C : Cs) (lo : Nat) (st : St) : E C lo f12_l1 st = seqK (E C lo f12_l1) (E C lo f12_b1 st) := E_loop C lo f12_b1 st
/-- slots [1, 3, 5, 6]; objects [1, 3] -/
def f12_b3 : ICode := .seq (.seq (.region [⟨.mv 33 (.t 6), none⟩, ⟨.faddr 34 (.t 1) 1, none⟩, ⟨.load 35 (.t 34) 1 false, none⟩, ⟨.len 36 false (.t 35), none⟩, ⟨.bin 37 false .lss (.t 33) (.t 36), none⟩] ⟨[1, 3, 5, 6, 37], [(1, 1), (3, 3)]⟩) (.cond (.t 37) (.skip) (.seq (.gc ⟨[1, 3, 5], [(1, 1), (3, 3)]⟩) (.exit 4)))) (.seq (.block 5 (.seq (.draw [⟨.load 41 (.t 1) 2 true, none⟩, ⟨.faddr 42 (.t 1) 1, none⟩, ⟨.load 43 (.t 42) 1 false, none⟩, ⟨.mv 44 (.t 6), none⟩, ⟨.iaddr 45 (.t 43) (.t 44) 4, none⟩, ⟨.faddr 46 (.t 45) 0, none⟩, ⟨.load 47 (.t 46) 2 true, none⟩, ⟨.build 48 [(.v (.int .i64 0)), (.v (.int .i64 0)), (.v (.int .i64 0))] [(0, 2, (.t 47))], none⟩, ⟨.call 49 (.fn 20) [(.t 41), (.t 48)], none⟩, ⟨.mv 40 (.t 49), none⟩, ⟨.ext 50 (.t 40) 0, none⟩, ⟨.ext 51 (.t 40) 1, none⟩, ⟨.alloc 7 [(.v (.int .i64 0)), (.v (.int .i64 0))], none⟩, ⟨.store (.t 7) (.t 50) 2, none⟩, ⟨.mv 8 (.t 51), none⟩] [0, 0, 2, 0, 14, 30, 62, 126, 255, 511, 1023, 1023, 0, 6143, 16383] ⟨[1, 3, 5, 6, 7], [(1, 1), (3, 3), (7, 7)]⟩) (.seq (.draw [⟨.load 53 (.t 1) 2 true, none⟩, ⟨.faddr 54 (.t 1) 1, none⟩, ⟨.load 55 (.t 54) 1 false, none⟩, ⟨.mv 56 (.t 6), none⟩, ⟨.iaddr 57 (.t 55) (.t 56) 4, none⟩, ⟨.faddr 58 (.t 57) 0, none⟩, ⟨.load 59 (.t 58) 2 true, none⟩, ⟨.build 60 [(.v (.int .i64 0)), (.v (.int .i64 0)), (.v (.int .i64 0))] [(0, 2, (.t 59)), (2, 1, (.c (.v (.int .i64 1))))], none⟩, ⟨.call 61 (.fn 20) [(.t 53), (.t 60)], none⟩, ⟨.mv 52 (.t 61), none⟩, ⟨.ext 62 (.t 52) 0, none⟩, ⟨.ext 63 (.t 52) 1, none⟩, ⟨.alloc 9 [(.v (.int .i64 0)), (.v (.int .i64 0))], none⟩, ⟨.store (.t 9) (.t 62) 2, none⟩, ⟨.mv 10 (.t 63), none⟩] [0, 0, 2, 0, 14, 30, 62, 126, 255, 511, 1023, 1023, 0, 6143, 16383] ⟨[1, 3, 5, 6, 7, 9], [(1, 1), (3, 3), (7, 7), (9, 9)]⟩) (.seq (.region [⟨.load 64 (.t 1) 2 true, none⟩, ⟨.load 65 (.t 7) 2 true, none⟩, ⟨.call 66 (.fn 30) [(.t 64), (.t 65)], none⟩, ⟨.mv 11 (.t 66), none⟩] ⟨[1, 3, 5, 6, 9, 11], [(1, 1), (3, 3), (9, 9)]⟩) (.seq (.region [⟨.load 67 (.t 1) 2 true, none⟩, ⟨.load 68 (.t 9) 2 true, none⟩, ⟨.call 69 (.fn 30) [(.t 67), (.t 68)], none⟩, ⟨.mv 12 (.t 69), none⟩] ⟨[1, 3, 5, 6, 11, 12], [(1, 1), (3, 3)]⟩) (.seq (.region [⟨.mv 70 (.t 11), none⟩, ⟨.bin 71 false .geq (.t 70) (.c (.v (.int .i64 0))), none⟩, ⟨.mv 72 (.t 71), none⟩, ⟨.mv 73 (.t 12), some (72, true)⟩, ⟨.bin 74 false .geq (.t 73) (.c (.v (.int .i64 0))), some (72, true)⟩, ⟨.pick 75 (.t 72) (.t 74) (.c (.v (.bool false))), none⟩] ⟨[1, 3, 5, 6, 11, 12, 75], [(1, 1), (3, 3)]⟩) (.cond (.t 75) (.seq (.draw [⟨.mv 76 (.t 3), none⟩, ⟨.mv 77 (.t 11), none⟩, ⟨.iaddr 78 (.t 76) (.t 77) 1, none⟩, ⟨.load 79 (.t 78) 1 false, none⟩, ⟨.mv 80 (.t 3), none⟩, ⟨.mv 81 (.t 12), none⟩, ⟨.iaddr 82 (.t 80) (.t 81) 1, none⟩, ⟨.load 83 (.t 82) 1 false, none⟩, ⟨.mn 84 [(.t 79), (.t 83)], none⟩, ⟨.mv 13 (.t 84), none⟩] [0, 0, 3, 7, 0, 0, 48, 112, 255, 511] ⟨[1, 3, 5, 6, 11, 12, 13], [(1, 1), (3, 3)]⟩) (.seq (.region [⟨.mv 85 (.t 3), none⟩, ⟨.mv 86 (.t 11), none⟩, ⟨.mv 87 (.t 13), none⟩, ⟨.iaddr 88 (.t 85) (.t 86) 1, none⟩, ⟨.store (.t 88) (.t 87) 1, none⟩] ⟨[1, 3, 5, 6, 12, 13], [(1, 1), (3, 3)]⟩) (.region [⟨.mv 89 (.t 3), none⟩, ⟨.mv 90 (.t 12), none⟩, ⟨.mv 91 (.t 13), none⟩, ⟨.iaddr 92 (.t 89) (.t 90) 1, none⟩, ⟨.store (.t 92) (.t 91) 1, none⟩] ⟨[1, 3, 5, 6], [(1, 1), (3, 3)]⟩))) (.skip)))))))) (.region [⟨.mv 38 (.t 6), none⟩, ⟨.bin 39 false .add (.t 38) (.c (.v (.int .i64 1))), none⟩, ⟨.mv 6 (.t 39), none⟩] ⟨[1, 3, 5, 6], [(1, 1), (3, 3)]⟩))
def f12_l3 : ICode := .loop f12_b3
theorem f12_l3_eq (C : Cs) (lo : Nat) (st : St) : E C lo f12_l3 st = seqK (E C lo f12_l3) (E C lo f12_b3 st) := E_loop C lo f12_b3 st
/-- slots [1, 3, 5]; objects [1, 3] -/
def f12_b2 : ICode := .seq (.seq (.region [⟨.mv 26 (.t 5), none⟩, ⟨.faddr 27 (.t 1) 0, none⟩, ⟨.load 28 (.t 27) 1 false, none⟩, ⟨.len 29 false (.t 28), none⟩, ⟨.bin 30 false .lss (.t 26) (.t 29), none⟩] ⟨[1, 3, 5, 30], [(1, 1), (3, 3)]⟩) (.cond (.t 30) (.skip) (.seq (.gc ⟨[3], [(3, 3)]⟩) (.exit 2)))) (.seq (.block 3 (.seq (.region [⟨.mv 6 (.c (.v (.int .i64 0))), none⟩] ⟨[1, 3, 5, 6], [(1, 1), (3, 3)]⟩) (.block 4 (f12_l3)))) (.region [⟨.mv 31 (.t 5), none⟩, ⟨.bin 32 false .add (.t 31) (.c (.v (.int .i64 1))), none⟩, ⟨.mv 5 (.t 32), none⟩] ⟨[1, 3, 5], [(1, 1), (3, 3)]⟩))
def f12_l2 : ICode := .loop f12_b2
theorem f12_l2_eq (C : Cs) (lo : Nat) (st : St) : E C lo f12_l2 st = seqK (E C lo f12_l2) (E C lo f12_b2 st) := E_loop C lo f12_b2 st
/-- tracery/traceryref06.Labels -/
def f12 : IFn := ⟨.seq (.region [⟨.box 1 (.t 0) 2, none⟩, ⟨.mv 2 (.c (.v (.sl (.tight 3) 1 []))), none⟩] ⟨[1], [(1, 1)]⟩) (.seq (.region [⟨.bslice 14 3 1 [], none⟩, ⟨.mv 3 (.t 14), none⟩] ⟨[1, 3], [(1, 1), (14, 3)]⟩) (.seq (.seq (.region [⟨.mv 4 (.c (.v (.int .i64 0))), none⟩] ⟨[1, 3, 4], [(1, 1), (3, 3)]⟩) (.block 0 (f12_l1))) (.seq (.seq (.region [⟨.mv 5 (.c (.v (.int .i64 0))), none⟩] ⟨[1, 3, 5], [(1, 1), (3, 3)]⟩) (.block 2 (f12_l2))) (.seq (.region [⟨.mv 93 (.t 3), none⟩, ⟨.mv 2 (.t 93), none⟩] ⟨[2], [(3, 2)]⟩) (.ret))))), [.tmp 2]⟩
theorem f12_chk : chk Try.prog 12 [(0, ⟨[1], [(1, 1)]⟩), (1, ⟨[1, 3], [(1, 1), (14, 3)]⟩), (2, ⟨[1, 3, 4], [(1, 1), (3, 3)]⟩), (3, ⟨[1, 3, 4, 19], [(1, 1), (3, 3)]⟩), (4, ⟨[1, 3, 4], [(1, 1), (3, 3)]⟩), (5, ⟨[1, 3, 4], [(1, 1), (25, 3)]⟩), (6, ⟨[1, 3, 5], [(1, 1), (3, 3)]⟩), (7, ⟨[1, 3, 5, 30], [(1, 1), (3, 3)]⟩), (8, ⟨[1, 3, 5], [(1, 1), (3, 3)]⟩), (9, ⟨[1, 3, 5, 6], [(1, 1), (3, 3)]⟩), (10, ⟨[1, 3, 5, 6, 37], [(1, 1), (3, 3)]⟩), (11, ⟨[1, 3, 5, 6], [(1, 1), (3, 3)]⟩), (12, ⟨[1, 3, 5, 6, 7], [(1, 1), (3, 3), (7, 7)]⟩), (13, ⟨[1, 3, 5, 6, 7, 9], [(1, 1), (3, 3), (7, 7), (9, 9)]⟩), (14, ⟨[1, 3, 5, 6, 9, 11], [(1, 1), (3, 3), (9, 9)]⟩), (15, ⟨[1, 3, 5, 6, 11, 12], [(1, 1), (3, 3)]⟩), (16, ⟨[1, 3, 5, 6, 11, 12, 75], [(1, 1), (3, 3)]⟩), (17, ⟨[1, 3, 5, 6, 11, 12, 13], [(1, 1), (3, 3)]⟩), (18, ⟨[1, 3, 5, 6, 12, 13], [(1, 1), (3, 3)]⟩), (19, ⟨[1, 3, 5, 6], [(1, 1), (3, 3)]⟩), (20, ⟨[2], [(3, 2)]⟩)] [(0, ⟨[1, 3], [(1, 1), (3, 3)]⟩), (1, ⟨[1, 3, 4], []⟩), (2, ⟨[3], [(3, 3)]⟩), (3, ⟨[1, 3, 5], []⟩), (4, ⟨[1, 3, 5], [(1, 1), (3, 3)]⟩), (5, ⟨[1, 3, 5, 6], []⟩)] = some f12 := by kernel_rfl
/-- slots [1, 3, 4, 5, 6, 7]; objects [1, 3, 4, 6] -/
def f14_b2 : ICode := .seq (.seq (.region [⟨.mv 24 (.t 7), none⟩, ⟨.mv 25 (.t 3), none⟩, ⟨.len 26 false (.t 25), none⟩, ⟨.bin 27 false .lss (.t 24) (.t 26), none⟩] ⟨[1, 3, 4, 5, 6, 7, 27], [(1, 1), (3, 3), (4, 4), (6, 6)]⟩) (.cond (.t 27) (.skip) (.seq (.gc ⟨[1, 3, 4, 5, 6], [(1, 1), (3, 3), (4, 4), (6, 6)]⟩) (.exit 2)))) (.seq (.block 3 (.seq (.region [⟨.mv 30 (.t 3), none⟩, ⟨.mv 31 (.t 7), none⟩, ⟨.iaddr 32 (.t 30) (.t 31) 1, none⟩, ⟨.load 33 (.t 32) 1 false, none⟩, ⟨.mv 34 (.t 5), none⟩, ⟨.bin 35 false .eql (.t 33) (.t 34), none⟩] ⟨[1, 3, 4, 5, 6, 7, 35], [(1, 1), (3, 3), (4, 4), (6, 6)]⟩) (.cond (.t 35) (.region [⟨.mv 36 (.t 6), none⟩, ⟨.faddr 37 (.t 1) 0, none⟩, ⟨.load 38 (.t 37) 1 false, none⟩, ⟨.mv 39 (.t 7), none⟩, ⟨.iaddr 40 (.t 38) (.t 39) 5, none⟩, ⟨.faddr 41 (.t 40) 0, none⟩, ⟨.load 42 (.t 41) 2 true, none⟩, ⟨.bslice 43 27 2 [(.t 42)], none⟩, ⟨.append 44 (.t 36) (.t 43) 27 2 16, none⟩, ⟨.mv 6 (.t 44), none⟩] ⟨[1, 3, 4, 5, 6, 7], [(1, 1), (3, 3), (4, 4), (44, 6)]⟩) (.skip)))) (.region [⟨.mv 28 (.t 7), none⟩, ⟨.bin 29 false .add (.t 28) (.c (.v (.int .i64 1))), none⟩, ⟨.mv 7 (.t 29), none⟩] ⟨[1, 3, 4, 5, 6, 7], [(1, 1), (3, 3), (4, 4), (6, 6)]⟩))
def f14_l2 : ICode := .loop f14_b2
theorem f14_l2_eq (C : Cs) (lo : Nat) (st : St) : E C lo f14_l2 st = seqK (E C lo f14_l2) (E C lo f14_b2 st) := E_loop C lo f14_b2 st
/-- slots [1, 3, 4, 5]; objects [1, 3, 4] -/
def f14_b1 : ICode := .seq (.seq (.region [⟨.mv 11 (.t 5), none⟩, ⟨.mv 12 (.t 3), none⟩, ⟨.len 13 false (.t 12), none⟩, ⟨.bin 14 false .lss (.t 11) (.t 13), none⟩] ⟨[1, 3, 4, 5, 14], [(1, 1), (3, 3), (4, 4)]⟩) (.cond (.t 14) (.skip) (.seq (.gc ⟨[4], [(4, 4)]⟩) (.exit 0)))) (.seq (.block 1 (.seq (.seq (.region [⟨.mv 17 (.t 3), none⟩, ⟨.mv 18 (.t 5), none⟩, ⟨.iaddr 19 (.t 17) (.t 18) 1, none⟩, ⟨.load 20 (.t 19) 1 false, none⟩, ⟨.mv 21 (.t 5), none⟩, ⟨.bin 22 false .neq (.t 20) (.t 21), none⟩] ⟨[1, 3, 4, 5, 22], [(1, 1), (3, 3), (4, 4)]⟩) (.cond (.t 22) (.seq (.gc ⟨[1, 3, 4, 5], [(1, 1), (3, 3), (4, 4)]⟩) (.exit 1)) (.skip))) (.seq (.region [⟨.bslice 23 27 2 [], none⟩, ⟨.mv 6 (.t 23), none⟩] ⟨[1, 3, 4, 5, 6], [(1, 1), (3, 3), (4, 4), (23, 6)]⟩) (.seq (.seq (.region [⟨.mv 7 (.c (.v (.int .i64 0))), none⟩] ⟨[1, 3, 4, 5, 6, 7], [(1, 1), (3, 3), (4, 4), (6, 6)]⟩) (.block 2 (f14_l2))) (.region [⟨.mv 45 (.t 4), none⟩, ⟨.mv 46 (.t 6), none⟩, ⟨.bslice 47 36 1 [(.t 46)], none⟩, ⟨.append 48 (.t 45) (.t 47) 36 1 24, none⟩, ⟨.mv 4 (.t 48), none⟩] ⟨[1, 3, 4, 5], [(1, 1), (3, 3), (48, 4)]⟩))))) (.region [⟨.mv 15 (.t 5), none⟩, ⟨.bin 16 false .add (.t 15) (.c (.v (.int .i64 1))), none⟩, ⟨.mv 5 (.t 16), none⟩] ⟨[1, 3, 4, 5], [(1, 1), (3, 3), (4, 4)]⟩))
def f14_l1 : ICode := .loop f14_b1
theorem f14_l1_eq (C : Cs) (lo : Nat) (st : St) : E C lo f14_l1 st = seqK (E C lo f14_l1) (E C lo f14_b1 st) := E_loop C lo f14_b1 st
/-- tracery/traceryref06.Parts -/
def f14 : IFn := ⟨.seq (.region [⟨.box 1 (.t 0) 2, none⟩, ⟨.mv 2 (.c (.v (.sl (.tight 36) 1 []))), none⟩] ⟨[1], [(1, 1)]⟩) (.seq (.region [⟨.load 8 (.t 1) 2 true, none⟩, ⟨.call 9 (.fn 12) [(.t 8)], none⟩, ⟨.mv 3 (.t 9), none⟩] ⟨[1, 3], [(1, 1), (1576, 3)]⟩) (.seq (.region [⟨.bslice 10 36 1 [], none⟩, ⟨.mv 4 (.t 10), none⟩] ⟨[1, 3, 4], [(1, 1), (3, 3), (10, 4)]⟩) (.seq (.seq (.region [⟨.mv 5 (.c (.v (.int .i64 0))), none⟩] ⟨[1, 3, 4, 5], [(1, 1), (3, 3), (4, 4)]⟩) (.block 0 (f14_l1))) (.seq (.region [⟨.mv 49 (.t 4), none⟩, ⟨.mv 2 (.t 49), none⟩] ⟨[2], [(4, 2)]⟩) (.ret))))), [.tmp 2]⟩
theorem f14_chk : chk Try.prog 14 [(0, ⟨[1], [(1, 1)]⟩), (1, ⟨[1, 3], [(1, 1), (1576, 3)]⟩), (2, ⟨[1, 3, 4], [(1, 1), (3, 3), (10, 4)]⟩), (3, ⟨[1, 3, 4, 5], [(1, 1), (3, 3), (4, 4)]⟩), (4, ⟨[1, 3, 4, 5, 14], [(1, 1), (3, 3), (4, 4)]⟩), (5, ⟨[1, 3, 4, 5], [(1, 1), (3, 3), (4, 4)]⟩), (6, ⟨[1, 3, 4, 5, 22], [(1, 1), (3, 3), (4, 4)]⟩), (7, ⟨[1, 3, 4, 5, 6], [(1, 1), (3, 3), (4, 4), (23, 6)]⟩), (8, ⟨[1, 3, 4, 5, 6, 7], [(1, 1), (3, 3), (4, 4), (6, 6)]⟩), (9, ⟨[1, 3, 4, 5, 6, 7, 27], [(1, 1), (3, 3), (4, 4), (6, 6)]⟩), (10, ⟨[1, 3, 4, 5, 6, 7], [(1, 1), (3, 3), (4, 4), (6, 6)]⟩), (11, ⟨[1, 3, 4, 5, 6, 7, 35], [(1, 1), (3, 3), (4, 4), (6, 6)]⟩), (12, ⟨[1, 3, 4, 5, 6, 7], [(1, 1), (3, 3), (4, 4), (44, 6)]⟩), (13, ⟨[1, 3, 4, 5], [(1, 1), (3, 3), (48, 4)]⟩), (14, ⟨[2], [(4, 2)]⟩)] [(0, ⟨[4], [(4, 4)]⟩), (1, ⟨[1, 3, 4, 5], [(1, 1), (3, 3), (4, 4)]⟩), (2, ⟨[1, 3, 4, 5, 6], [(1, 1), (3, 3), (4, 4), (6, 6)]⟩), (3, ⟨[1, 3, 4, 5, 6, 7], []⟩)] = some f14 := by kernel_rfl
/-- slots [0, 1, 5]; objects [] -/
def f15_b1 : ICode := .seq (.seq (.region [⟨.mv 11 (.t 5), none⟩, ⟨.mv 12 (.t 0), none⟩, ⟨.len 13 false (.t 12), none⟩, ⟨.bin 14 false .lss (.t 11) (.t 13), none⟩] ⟨[0, 1, 5, 14], []⟩) (.cond (.t 14) (.skip) (.seq (.gc ⟨[], []⟩) (.exit 0)))) (.seq (.block 1 (.seq (.draw [⟨.mv 17 (.t 0), none⟩, ⟨.mv 18 (.t 5), none⟩, ⟨.iaddr 19 (.t 17) (.t 18) 2, none⟩, ⟨.load 20 (.t 19) 2 true, none⟩, ⟨.mv 21 (.t 1), none⟩, ⟨.mv 22 (.t 5), none⟩, ⟨.iaddr 23 (.t 21) (.t 22) 2, none⟩, ⟨.load 24 (.t 23) 2 true, none⟩, ⟨.eqs 25 true [.i, .i] (.t 20) (.t 24), none⟩] [0, 0, 3, 7, 0, 0, 48, 112, 255] ⟨[0, 1, 5, 25], []⟩) (.cond (.t 25) (.seq (.region [⟨.mv 4 (.c (.v (.bool false))), none⟩] ⟨[4], []⟩) (.ret)) (.skip)))) (.region [⟨.mv 15 (.t 5), none⟩, ⟨.bin 16 false .add (.t 15) (.c (.v (.int .i64 1))), none⟩, ⟨.mv 5 (.t 16), none⟩] ⟨[0, 1, 5], []⟩))
def f15_l1 : ICode := .loop f15_b1
theorem f15_l1_eq (C : Cs) (lo : Nat) (st : St) : E C lo f15_l1 st = seqK (E C lo f15_l1) (E C lo f15_b1 st) := E_loop C lo f15_b1 st
/-- tracery/traceryref04.IDs -/
def f15 : IFn := ⟨.seq (.region [⟨.mv 4 (.c (.v (.bool false))), none⟩] ⟨[0, 1], []⟩) (.seq (.seq (.region [⟨.mv 6 (.t 0), none⟩, ⟨.len 7 false (.t 6), none⟩, ⟨.mv 8 (.t 1), none⟩, ⟨.len 9 false (.t 8), none⟩, ⟨.bin 10 false .neq (.t 7) (.t 9), none⟩] ⟨[0, 1, 10], []⟩) (.cond (.t 10) (.seq (.region [⟨.mv 4 (.c (.v (.bool false))), none⟩] ⟨[4], []⟩) (.ret)) (.skip))) (.seq (.seq (.region [⟨.mv 5 (.c (.v (.int .i64 0))), none⟩] ⟨[0, 1, 5], []⟩) (.block 0 (f15_l1))) (.seq (.region [⟨.mv 4 (.c (.v (.bool true))), none⟩] ⟨[4], []⟩) (.ret)))), [.tmp 4]⟩
theorem f15_chk : chk Try.prog 15 [(0, ⟨[0, 1], []⟩), (1, ⟨[0, 1, 10], []⟩), (2, ⟨[4], []⟩), (3, ⟨[0, 1, 5], []⟩), (4, ⟨[0, 1, 5, 14], []⟩), (5, ⟨[0, 1, 5], []⟩), (6, ⟨[0, 1, 5, 25], []⟩), (7, ⟨[4], []⟩), (8, ⟨[4], []⟩)] [(0, ⟨[], []⟩), (1, ⟨[0, 1, 5], []⟩)] = some f15 := by kernel_rfl
/-- tracery/comp.Count -/
def f16 : IFn := ⟨.seq (.region [⟨.box 1 (.t 0) 2, none⟩, ⟨.mv 2 (.c (.v (.int .i64 0))), none⟩] ⟨[1], [(1, 1)]⟩) (.seq (.region [⟨.load 3 (.t 1) 2 true, none⟩, ⟨.call 4 (.fn 13) [(.t 3)], none⟩, ⟨.len 5 false (.t 4), none⟩, ⟨.mv 2 (.t 5), none⟩] ⟨[2], []⟩) (.ret)), [.tmp 2]⟩
theorem f16_chk : chk Try.prog 16 [(0, ⟨[1], [(1, 1)]⟩), (1, ⟨[2], []⟩)] [] = some f16 := by kernel_rfl
/-- slots [3, 4, 5]; objects [3] -/
def f17_b1 : ICode := .seq (.seq (.region [⟨.mv 8 (.t 5), none⟩, ⟨.mv 9 (.t 3), none⟩, ⟨.len 10 false (.t 9), none⟩, ⟨.bin 11 false .lss (.t 8) (.t 10), none⟩] ⟨[3, 4, 5, 11], [(3, 3)]⟩) (.cond (.t 11) (.skip) (.seq (.gc ⟨[4], []⟩) (.exit 0)))) (.seq (.block 1 (.seq (.region [⟨.mv 14 (.t 3), none⟩, ⟨.mv 15 (.t 5), none⟩, ⟨.iaddr 16 (.t 14) (.t 15) 1, none⟩, ⟨.load 17 (.t 16) 1 false, none⟩, ⟨.mv 18 (.t 5), none⟩, ⟨.bin 19 false .eql (.t 17) (.t 18), none⟩] ⟨[3, 4, 5, 19], [(3, 3)]⟩) (.cond (.t 19) (.region [⟨.mv 20 (.t 4), none⟩, ⟨.bin 21 false .add (.t 20) (.c (.v (.int .i64 1))), none⟩, ⟨.mv 4 (.t 21), none⟩] ⟨[3, 4, 5], [(3, 3)]⟩) (.skip)))) (.region [⟨.mv 12 (.t 5), none⟩, ⟨.bin 13 false .add (.t 12) (.c (.v (.int .i64 1))), none⟩, ⟨.mv 5 (.t 13), none⟩] ⟨[3, 4, 5], [(3, 3)]⟩))
def f17_l1 : ICode := .loop f17_b1
theorem f17_l1_eq (C : Cs) (lo : Nat) (st : St) : E C lo f17_l1 st = seqK (E C lo f17_l1) (E C lo f17_b1 st) := E_loop C lo f17_b1 st
/-- tracery/traceryref06.Count -/
def f17 : IFn := ⟨.seq (.region [⟨.box 1 (.t 0) 2, none⟩, ⟨.mv 2 (.c (.v (.int .i64 0))), none⟩] ⟨[1], [(1, 1)]⟩) (.seq (.region [⟨.load 6 (.t 1) 2 true, none⟩, ⟨.call 7 (.fn 12) [(.t 6)], none⟩, ⟨.mv 3 (.t 7), none⟩] ⟨[3], [(1448, 3)]⟩) (.seq (.region [⟨.mv 4 (.c (.v (.int .i64 0))), none⟩] ⟨[3, 4], [(3, 3)]⟩) (.seq (.seq (.region [⟨.mv 5 (.c (.v (.int .i64 0))), none⟩] ⟨[3, 4, 5], [(3, 3)]⟩) (.block 0 (f17_l1))) (.seq (.region [⟨.mv 22 (.t 4), none⟩, ⟨.mv 2 (.t 22), none⟩] ⟨[2], []⟩) (.ret))))), [.tmp 2]⟩
theorem f17_chk : chk Try.prog 17 [(0, ⟨[1], [(1, 1)]⟩), (1, ⟨[3], [(1448, 3)]⟩), (2, ⟨[3, 4], [(3, 3)]⟩), (3, ⟨[3, 4, 5], [(3, 3)]⟩), (4, ⟨[3, 4, 5, 11], [(3, 3)]⟩), (5, ⟨[3, 4, 5], [(3, 3)]⟩), (6, ⟨[3, 4, 5, 19], [(3, 3)]⟩), (7, ⟨[3, 4, 5], [(3, 3)]⟩), (8, ⟨[2], []⟩)] [(0, ⟨[4], []⟩), (1, ⟨[3, 4, 5], []⟩)] = some f17 := by kernel_rfl
/-- tracery/comp.Together -/
def f18 : IFn := ⟨.seq (.region [⟨.box 3 (.t 0) 2, none⟩, ⟨.box 4 (.t 1) 2, none⟩, ⟨.box 5 (.t 2) 2, none⟩, ⟨.mv 6 (.c (.v (.bool false))), none⟩] ⟨[3, 4, 5], [(3, 3), (4, 4), (5, 5)]⟩) (.seq (.region [⟨.load 7 (.t 3) 2 true, none⟩, ⟨.call 8 (.fn 13) [(.t 7)], none⟩, ⟨.mkfn 9 32 [(.t 4), (.t 5)], none⟩, ⟨.call 10 (.fn 31) [(.t 8), (.t 9)], none⟩, ⟨.mv 6 (.t 10), none⟩] ⟨[6], []⟩) (.ret)), [.tmp 6]⟩
theorem f18_chk : chk Try.prog 18 [(0, ⟨[3, 4, 5], [(3, 3), (4, 4), (5, 5)]⟩), (1, ⟨[6], []⟩)] [] = some f18 := by kernel_rfl
/-- tracery/traceryref06.Together -/
def f19 : IFn := ⟨.seq (.region [⟨.box 3 (.t 0) 2, none⟩, ⟨.box 4 (.t 1) 2, none⟩, ⟨.box 5 (.t 2) 2, none⟩, ⟨.mv 6 (.c (.v (.bool false))), none⟩] ⟨[3, 4, 5], [(3, 3), (4, 4), (5, 5)]⟩) (.seq (.region [⟨.load 10 (.t 3) 2 true, none⟩, ⟨.load 11 (.t 4) 2 true, none⟩, ⟨.call 12 (.fn 30) [(.t 10), (.t 11)], none⟩, ⟨.mv 7 (.t 12), none⟩] ⟨[3, 5, 7], [(3, 3), (5, 5)]⟩) (.seq (.region [⟨.load 13 (.t 3) 2 true, none⟩, ⟨.load 14 (.t 5) 2 true, none⟩, ⟨.call 15 (.fn 30) [(.t 13), (.t 14)], none⟩, ⟨.mv 8 (.t 15), none⟩] ⟨[3, 7, 8], [(3, 3)]⟩) (.seq (.region [⟨.load 16 (.t 3) 2 true, none⟩, ⟨.call 17 (.fn 12) [(.t 16)], none⟩, ⟨.mv 9 (.t 17), none⟩] ⟨[7, 8, 9], [(2088, 9)]⟩) (.seq (.draw [⟨.mv 18 (.t 7), none⟩, ⟨.bin 19 false .geq (.t 18) (.c (.v (.int .i64 0))), none⟩, ⟨.mv 20 (.t 19), none⟩, ⟨.mv 21 (.t 8), some (20, true)⟩, ⟨.bin 22 false .geq (.t 21) (.c (.v (.int .i64 0))), some (20, true)⟩, ⟨.pick 23 (.t 20) (.t 22) (.c (.v (.bool false))), none⟩, ⟨.mv 24 (.t 23), none⟩, ⟨.mv 25 (.t 9), some (24, true)⟩, ⟨.mv 26 (.t 7), some (24, true)⟩, ⟨.iaddr 27 (.t 25) (.t 26) 1, some (24, true)⟩, ⟨.load 28 (.t 27) 1 false, some (24, true)⟩, ⟨.mv 29 (.t 9), some (24, true)⟩, ⟨.mv 30 (.t 8), some (24, true)⟩, ⟨.iaddr 31 (.t 29) (.t 30) 1, some (24, true)⟩, ⟨.load 32 (.t 31) 1 false, some (24, true)⟩, ⟨.bin 33 false .eql (.t 28) (.t 32), some (24, true)⟩, ⟨.pick 34 (.t 24) (.t 33) (.c (.v (.bool false))), none⟩, ⟨.mv 6 (.t 34), none⟩] [0, 1, 3, 7, 15, 31, 63, 127, 127, 511, 1023, 127, 127, 6271, 14463, 32767, 65535, 131071] ⟨[6], []⟩) (.ret))))), [.tmp 6]⟩
theorem f19_chk : chk Try.prog 19 [(0, ⟨[3, 4, 5], [(3, 3), (4, 4), (5, 5)]⟩), (1, ⟨[3, 5, 7], [(3, 3), (5, 5)]⟩), (2, ⟨[3, 7, 8], [(3, 3)]⟩), (3, ⟨[7, 8, 9], [(2088, 9)]⟩), (4, ⟨[6], []⟩)] [] = some f19 := by kernel_rfl
/-- slots [2, 3, 4, 6]; objects [2, 3, 4] -/
def f20_b1 : ICode := .seq (.seq (.region [⟨.mv 7 (.t 6), none⟩, ⟨.faddr 8 (.t 2) 0, none⟩, ⟨.load 9 (.t 8) 1 false, none⟩, ⟨.len 10 false (.t 9), none⟩, ⟨.bin 11 false .lss (.t 7) (.t 10), none⟩] ⟨[2, 3, 4, 6, 11], [(2, 2), (3, 3), (4, 4)]⟩) (.cond (.t 11) (.skip) (.seq (.gc ⟨[4], [(4, 4)]⟩) (.exit 0)))) (.seq (.block 1 (.seq (.draw [⟨.faddr 14 (.t 2) 0, none⟩, ⟨.load 15 (.t 14) 1 false, none⟩, ⟨.mv 16 (.t 6), none⟩, ⟨.iaddr 17 (.t 15) (.t 16) 5, none⟩, ⟨.faddr 18 (.t 17) 2, none⟩, ⟨.load 19 (.t 18) 1 false, none⟩, ⟨.load 20 (.t 3) 3 true, none⟩, ⟨.call 21 (.fn 34) [(.t 19), (.t 20)], none⟩, ⟨.bin 22 false .geq (.t 21) (.c (.v (.int .i64 0))), none⟩] [0, 1, 0, 7, 15, 31, 0, 127, 255] ⟨[2, 3, 4, 6, 22], [(2, 2), (3, 3), (4, 4)]⟩) (.cond (.t 22) (.seq (.region [⟨.faddr 23 (.t 2) 0, none⟩, ⟨.load 24 (.t 23) 1 false, none⟩, ⟨.mv 25 (.t 6), none⟩, ⟨.iaddr 26 (.t 24) (.t 25) 5, none⟩, ⟨.faddr 27 (.t 26) 0, none⟩, ⟨.load 28 (.t 27) 2 true, none⟩, ⟨.store (.t 4) (.t 28) 2, none⟩, ⟨.mv 5 (.c (.v (.bool true))), none⟩] ⟨[4, 5], [(4, 4)]⟩) (.ret)) (.skip)))) (.region [⟨.mv 12 (.t 6), none⟩, ⟨.bin 13 false .add (.t 12) (.c (.v (.int .i64 1))), none⟩, ⟨.mv 6 (.t 13), none⟩] ⟨[2, 3, 4, 6], [(2, 2), (3, 3), (4, 4)]⟩))
def f20_l1 : ICode := .loop f20_b1
theorem f20_l1_eq (C : Cs) (lo : Nat) (st : St) : E C lo f20_l1 st = seqK (E C lo f20_l1) (E C lo f20_b1 st) := E_loop C lo f20_b1 st
/-- tracery/traceryref04.At -/
def f20 : IFn := ⟨.seq (.region [⟨.box 2 (.t 0) 2, none⟩, ⟨.box 3 (.t 1) 3, none⟩, ⟨.alloc 4 [(.v (.int .i64 0)), (.v (.int .i64 0))], none⟩, ⟨.mv 5 (.c (.v (.bool false))), none⟩] ⟨[2, 3, 4], [(2, 2), (3, 3), (4, 4)]⟩) (.seq (.seq (.region [⟨.mv 6 (.c (.v (.int .i64 0))), none⟩] ⟨[2, 3, 4, 6], [(2, 2), (3, 3), (4, 4)]⟩) (.block 0 (f20_l1))) (.seq (.region [⟨.build 29 [(.v (.int .i64 0)), (.v (.int .i64 0))] [], none⟩, ⟨.store (.t 4) (.t 29) 2, none⟩, ⟨.mv 5 (.c (.v (.bool false))), none⟩] ⟨[4, 5], [(4, 4)]⟩) (.ret))), [.cell 4 2 true, .tmp 5]⟩
theorem f20_chk : chk Try.prog 20 [(0, ⟨[2, 3, 4], [(2, 2), (3, 3), (4, 4)]⟩), (1, ⟨[2, 3, 4, 6], [(2, 2), (3, 3), (4, 4)]⟩), (2, ⟨[2, 3, 4, 6, 11], [(2, 2), (3, 3), (4, 4)]⟩), (3, ⟨[2, 3, 4, 6], [(2, 2), (3, 3), (4, 4)]⟩), (4, ⟨[2, 3, 4, 6, 22], [(2, 2), (3, 3), (4, 4)]⟩), (5, ⟨[4, 5], [(4, 4)]⟩), (6, ⟨[4, 5], [(4, 4)]⟩)] [(0, ⟨[4], [(4, 4)]⟩), (1, ⟨[2, 3, 4, 6], []⟩)] = some f20 := by kernel_rfl
/-- slots [2, 3, 4, 6]; objects [2, 3, 4] -/
def f21_b1 : ICode := .seq (.seq (.region [⟨.mv 7 (.t 6), none⟩, ⟨.faddr 8 (.t 2) 0, none⟩, ⟨.load 9 (.t 8) 1 false, none⟩, ⟨.len 10 false (.t 9), none⟩, ⟨.bin 11 false .lss (.t 7) (.t 10), none⟩] ⟨[2, 3, 4, 6, 11], [(2, 2), (3, 3), (4, 4)]⟩) (.cond (.t 11) (.skip) (.seq (.gc ⟨[4], [(4, 4)]⟩) (.exit 0)))) (.seq (.block 1 (.seq (.draw [⟨.faddr 14 (.t 2) 0, none⟩, ⟨.load 15 (.t 14) 1 false, none⟩, ⟨.mv 16 (.t 6), none⟩, ⟨.iaddr 17 (.t 15) (.t 16) 5, none⟩, ⟨.faddr 18 (.t 17) 0, none⟩, ⟨.load 19 (.t 18) 2 true, none⟩, ⟨.load 20 (.t 3) 2 true, none⟩, ⟨.eqs 21 false [.i, .i] (.t 19) (.t 20), none⟩] [0, 1, 0, 7, 15, 31, 0, 127] ⟨[2, 3, 4, 6, 21], [(2, 2), (3, 3), (4, 4)]⟩) (.cond (.t 21) (.seq (.region [⟨.faddr 22 (.t 2) 0, none⟩, ⟨.load 23 (.t 22) 1 false, none⟩, ⟨.mv 24 (.t 6), none⟩, ⟨.iaddr 25 (.t 23) (.t 24) 5, none⟩, ⟨.load 26 (.t 25) 5 true, none⟩, ⟨.store (.t 4) (.t 26) 5, none⟩, ⟨.mv 5 (.c (.v (.bool true))), none⟩] ⟨[4, 5], [(4, 4)]⟩) (.ret)) (.skip)))) (.region [⟨.mv 12 (.t 6), none⟩, ⟨.bin 13 false .add (.t 12) (.c (.v (.int .i64 1))), none⟩, ⟨.mv 6 (.t 13), none⟩] ⟨[2, 3, 4, 6], [(2, 2), (3, 3), (4, 4)]⟩))
def f21_l1 : ICode := .loop f21_b1
theorem f21_l1_eq (C : Cs) (lo : Nat) (st : St) : E C lo f21_l1 st = seqK (E C lo f21_l1) (E C lo f21_b1 st) := E_loop C lo f21_b1 st
/-- tracery/traceryref04.Vertex -/
def f21 : IFn := ⟨.seq (.region [⟨.box 2 (.t 0) 2, none⟩, ⟨.box 3 (.t 1) 2, none⟩, ⟨.alloc 4 [(.v (.int .i64 0)), (.v (.int .i64 0)), (.v (.sl (.tight 44) 3 [])), (.v (.str ⟨#[]⟩)), (.v (.int .i64 0))], none⟩, ⟨.mv 5 (.c (.v (.bool false))), none⟩] ⟨[2, 3, 4], [(2, 2), (3, 3), (4, 4)]⟩) (.seq (.seq (.region [⟨.mv 6 (.c (.v (.int .i64 0))), none⟩] ⟨[2, 3, 4, 6], [(2, 2), (3, 3), (4, 4)]⟩) (.block 0 (f21_l1))) (.seq (.region [⟨.build 27 [(.v (.int .i64 0)), (.v (.int .i64 0)), (.v (.sl (.tight 44) 3 [])), (.v (.str ⟨#[]⟩)), (.v (.int .i64 0))] [], none⟩, ⟨.store (.t 4) (.t 27) 5, none⟩, ⟨.mv 5 (.c (.v (.bool false))), none⟩] ⟨[4, 5], [(4, 4)]⟩) (.ret))), [.cell 4 5 true, .tmp 5]⟩
theorem f21_chk : chk Try.prog 21 [(0, ⟨[2, 3, 4], [(2, 2), (3, 3), (4, 4)]⟩), (1, ⟨[2, 3, 4, 6], [(2, 2), (3, 3), (4, 4)]⟩), (2, ⟨[2, 3, 4, 6, 11], [(2, 2), (3, 3), (4, 4)]⟩), (3, ⟨[2, 3, 4, 6], [(2, 2), (3, 3), (4, 4)]⟩), (4, ⟨[2, 3, 4, 6, 21], [(2, 2), (3, 3), (4, 4)]⟩), (5, ⟨[4, 5], [(4, 4)]⟩), (6, ⟨[4, 5], [(4, 4)]⟩)] [(0, ⟨[4], [(4, 4)]⟩), (1, ⟨[2, 3, 4, 6], []⟩)] = some f21 := by kernel_rfl
/-- slots [2, 3, 4, 6]; objects [2, 3, 4] -/
def f22_b1 : ICode := .seq (.seq (.region [⟨.mv 7 (.t 6), none⟩, ⟨.faddr 8 (.t 2) 1, none⟩, ⟨.load 9 (.t 8) 1 false, none⟩, ⟨.len 10 false (.t 9), none⟩, ⟨.bin 11 false .lss (.t 7) (.t 10), none⟩] ⟨[2, 3, 4, 6, 11], [(2, 2), (3, 3), (4, 4)]⟩) (.cond (.t 11) (.skip) (.seq (.gc ⟨[4], [(4, 4)]⟩) (.exit 0)))) (.seq (.block 1 (.seq (.draw [⟨.faddr 14 (.t 2) 1, none⟩, ⟨.load 15 (.t 14) 1 false, none⟩, ⟨.mv 16 (.t 6), none⟩, ⟨.iaddr 17 (.t 15) (.t 16) 4, none⟩, ⟨.faddr 18 (.t 17) 0, none⟩, ⟨.load 19 (.t 18) 2 true, none⟩, ⟨.load 20 (.t 3) 2 true, none⟩, ⟨.eqs 21 false [.i, .i] (.t 19) (.t 20), none⟩] [0, 1, 0, 7, 15, 31, 0, 127] ⟨[2, 3, 4, 6, 21], [(2, 2), (3, 3), (4, 4)]⟩) (.cond (.t 21) (.seq (.region [⟨.faddr 22 (.t 2) 1, none⟩, ⟨.load 23 (.t 22) 1 false, none⟩, ⟨.mv 24 (.t 6), none⟩, ⟨.iaddr 25 (.t 23) (.t 24) 4, none⟩, ⟨.load 26 (.t 25) 4 true, none⟩, ⟨.store (.t 4) (.t 26) 4, none⟩, ⟨.mv 5 (.c (.v (.bool true))), none⟩] ⟨[4, 5], [(4, 4)]⟩) (.ret)) (.skip)))) (.region [⟨.mv 12 (.t 6), none⟩, ⟨.bin 13 false .add (.t 12) (.c (.v (.int .i64 1))), none⟩, ⟨.mv 6 (.t 13), none⟩] ⟨[2, 3, 4, 6], [(2, 2), (3, 3), (4, 4)]⟩))
def f22_l1 : ICode := .loop f22_b1
theorem f22_l1_eq (C : Cs) (lo : Nat) (st : St) : E C lo f22_l1 st = seqK (E C lo f22_l1) (E C lo f22_b1 st) := E_loop C lo f22_b1 st
/-- tracery/traceryref04.Edge -/
def f22 : IFn := ⟨.seq (.region [⟨.box 2 (.t 0) 2, none⟩, ⟨.box 3 (.t 1) 2, none⟩, ⟨.alloc 4 [(.v (.int .i64 0)), (.v (.int .i64 0)), (.v (.str ⟨#[]⟩)), (.v (.int .i64 0))], none⟩, ⟨.mv 5 (.c (.v (.bool false))), none⟩] ⟨[2, 3, 4], [(2, 2), (3, 3), (4, 4)]⟩) (.seq (.seq (.region [⟨.mv 6 (.c (.v (.int .i64 0))), none⟩] ⟨[2, 3, 4, 6], [(2, 2), (3, 3), (4, 4)]⟩) (.block 0 (f22_l1))) (.seq (.region [⟨.build 27 [(.v (.int .i64 0)), (.v (.int .i64 0)), (.v (.str ⟨#[]⟩)), (.v (.int .i64 0))] [], none⟩, ⟨.store (.t 4) (.t 27) 4, none⟩, ⟨.mv 5 (.c (.v (.bool false))), none⟩] ⟨[4, 5], [(4, 4)]⟩) (.ret))), [.cell 4 4 true, .tmp 5]⟩
theorem f22_chk : chk Try.prog 22 [(0, ⟨[2, 3, 4], [(2, 2), (3, 3), (4, 4)]⟩), (1, ⟨[2, 3, 4, 6], [(2, 2), (3, 3), (4, 4)]⟩), (2, ⟨[2, 3, 4, 6, 11], [(2, 2), (3, 3), (4, 4)]⟩), (3, ⟨[2, 3, 4, 6], [(2, 2), (3, 3), (4, 4)]⟩), (4, ⟨[2, 3, 4, 6, 21], [(2, 2), (3, 3), (4, 4)]⟩), (5, ⟨[4, 5], [(4, 4)]⟩), (6, ⟨[4, 5], [(4, 4)]⟩)] [(0, ⟨[4], [(4, 4)]⟩), (1, ⟨[2, 3, 4, 6], []⟩)] = some f22 := by kernel_rfl
/-- slots [1, 2, 3, 4]; objects [1, 2, 3, 10192, 10193] -/
def f23_b1 : ICode := .seq (.seq (.region [⟨.mv 11 (.t 4), none⟩, ⟨.faddr 12 (.t 1) 0, none⟩, ⟨.load 13 (.t 12) 1 false, none⟩, ⟨.len 14 false (.t 13), none⟩, ⟨.bin 15 false .lss (.t 11) (.t 14), none⟩] ⟨[1, 2, 3, 4, 15], [(1, 1), (2, 2), (3, 3), (10192, 10192), (10193, 10193)]⟩) (.cond (.t 15) (.skip) (.seq (.gc ⟨[2, 3], [(2, 2), (3, 3), (10192, 10192), (10193, 10193)]⟩) (.exit 0)))) (.seq (.block 1 (.seq (.region [⟨.faddr 18 (.t 1) 0, none⟩, ⟨.load 19 (.t 18) 1 false, none⟩, ⟨.mv 20 (.t 4), none⟩, ⟨.iaddr 21 (.t 19) (.t 20) 5, none⟩, ⟨.load 22 (.t 21) 5 true, none⟩, ⟨.alloc 5 [(.v (.int .i64 0)), (.v (.int .i64 0)), (.v (.sl (.tight 44) 3 [])), (.v (.str ⟨#[]⟩)), (.v (.int .i64 0))], none⟩, ⟨.store (.t 5) (.t 22) 5, none⟩] ⟨[1, 2, 3, 4, 5], [(1, 1), (2, 2), (3, 3), (5, 5), (10192, 10192), (10193, 10193)]⟩) (.seq (.region [⟨.bslice 23 44 3 [], none⟩, ⟨.faddr 24 (.t 5) 2, none⟩, ⟨.load 25 (.t 24) 1 false, none⟩, ⟨.append 26 (.t 23) (.t 25) 44 3 24, none⟩, ⟨.faddr 27 (.t 5) 2, none⟩, ⟨.store (.t 27) (.t 26) 1, none⟩] ⟨[1, 2, 3, 4, 5], [(1, 1), (2, 2), (3, 3), (5, 5), (10192, 10192), (10193, 10193), (26, 10322)]⟩) (.region [⟨.faddr 28 (.t 3) 0, none⟩, ⟨.load 29 (.t 28) 1 false, none⟩, ⟨.load 30 (.t 5) 5 true, none⟩, ⟨.bslice 31 47 5 [(.t 30)], none⟩, ⟨.append 32 (.t 29) (.t 31) 47 5 64, none⟩, ⟨.faddr 33 (.t 3) 0, none⟩, ⟨.store (.t 33) (.t 32) 1, none⟩] ⟨[1, 2, 3, 4], [(1, 1), (2, 2), (3, 3), (32, 10192), (10193, 10193)]⟩)))) (.region [⟨.mv 16 (.t 4), none⟩, ⟨.bin 17 false .add (.t 16) (.c (.v (.int .i64 1))), none⟩, ⟨.mv 4 (.t 17), none⟩] ⟨[1, 2, 3, 4], [(1, 1), (2, 2), (3, 3), (10192, 10192), (10193, 10193)]⟩))
def f23_l1 : ICode := .loop f23_b1
theorem f23_l1_eq (C : Cs) (lo : Nat) (st : St) : E C lo f23_l1 st = seqK (E C lo f23_l1) (E C lo f23_b1 st) := E_loop C lo f23_b1 st
/-- tracery/traceryref04.Clone -/
def f23 : IFn := ⟨.seq (.region [⟨.box 1 (.t 0) 2, none⟩, ⟨.alloc 2 [(.v (.sl (.tight 47) 5 [])), (.v (.sl (.tight 42) 4 []))], none⟩] ⟨[1, 2], [(1, 1), (2, 2)]⟩) (.seq (.region [⟨.bslice 6 42 4 [], none⟩, ⟨.faddr 7 (.t 1) 1, none⟩, ⟨.load 8 (.t 7) 1 false, none⟩, ⟨.append 9 (.t 6) (.t 8) 42 4 40, none⟩, ⟨.build 10 [(.v (.sl (.tight 47) 5 [])), (.v (.sl (.tight 42) 4 []))] [(1, 1, (.t 9))], none⟩, ⟨.alloc 3 [(.v (.sl (.tight 47) 5 [])), (.v (.sl (.tight 42) 4 []))], none⟩, ⟨.store (.t 3) (.t 10) 2, none⟩] ⟨[1, 2, 3], [(1, 1), (2, 2), (3, 3), (9, 10193)]⟩) (.seq (.seq (.region [⟨.mv 4 (.c (.v (.int .i64 0))), none⟩] ⟨[1, 2, 3, 4], [(1, 1), (2, 2), (3, 3), (10193, 10193)]⟩) (.block 0 (f23_l1))) (.seq (.region [⟨.load 34 (.t 3) 2 true, none⟩, ⟨.store (.t 2) (.t 34) 2, none⟩] ⟨[2], [(2, 2), (10192, 10128), (10193, 10129)]⟩) (.ret)))), [.cell 2 2 true]⟩
theorem f23_chk : chk Try.prog 23 [(0, ⟨[1, 2], [(1, 1), (2, 2)]⟩), (1, ⟨[1, 2, 3], [(1, 1), (2, 2), (3, 3), (9, 10193)]⟩), (2, ⟨[1, 2, 3, 4], [(1, 1), (2, 2), (3, 3), (10193, 10193)]⟩), (3, ⟨[1, 2, 3, 4, 15], [(1, 1), (2, 2), (3, 3), (10192, 10192), (10193, 10193)]⟩), (4, ⟨[1, 2, 3, 4], [(1, 1), (2, 2), (3, 3), (10192, 10192), (10193, 10193)]⟩), (5, ⟨[1, 2, 3, 4, 5], [(1, 1), (2, 2), (3, 3), (5, 5), (10192, 10192), (10193, 10193)]⟩), (6, ⟨[1, 2, 3, 4, 5], [(1, 1), (2, 2), (3, 3), (5, 5), (10192, 10192), (10193, 10193), (26, 10322)]⟩), (7, ⟨[1, 2, 3, 4], [(1, 1), (2, 2), (3, 3), (32, 10192), (10193, 10193)]⟩), (8, ⟨[2], [(2, 2), (10192, 10128), (10193, 10129)]⟩)] [(0, ⟨[2, 3], [(2, 2), (3, 3), (10192, 10192), (10193, 10193)]⟩), (1, ⟨[1, 2, 3, 4], []⟩)] = some f23 := by kernel_rfl
/-- slots [0, 5, 7, 8, 9]; objects [5, 8] -/
def f24_b1 : ICode := .seq (.seq (.region [⟨.mv 21 (.t 9), none⟩, ⟨.mv 22 (.t 0), none⟩, ⟨.len 23 false (.t 22), none⟩, ⟨.bin 24 false .lss (.t 21) (.t 23), none⟩] ⟨[0, 5, 7, 8, 9, 24], [(5, 5), (8, 8)]⟩) (.cond (.t 24) (.skip) (.seq (.gc ⟨[0, 5, 8], [(5, 5), (8, 8)]⟩) (.exit 0)))) (.seq (.block 1 (.seq (.region [⟨.mv 27 (.t 8), none⟩, ⟨.mv 28 (.t 0), none⟩, ⟨.mv 29 (.t 9), none⟩, ⟨.iaddr 30 (.t 28) (.t 29) 3, none⟩, ⟨.load 31 (.t 30) 3 true, none⟩, ⟨.bslice 32 44 3 [(.t 31)], none⟩, ⟨.append 33 (.t 27) (.t 32) 44 3 24, none⟩, ⟨.mv 8 (.t 33), none⟩] ⟨[0, 5, 7, 8, 9], [(5, 5), (33, 8)]⟩) (.seq (.region [⟨.mv 34 (.t 9), none⟩, ⟨.mv 35 (.t 7), none⟩, ⟨.bin 36 false .eql (.t 34) (.t 35), none⟩] ⟨[0, 5, 7, 8, 9, 36], [(5, 5), (8, 8)]⟩) (.cond (.t 36) (.region [⟨.mv 37 (.t 8), none⟩, ⟨.load 38 (.t 5) 3 true, none⟩, ⟨.bslice 39 44 3 [(.t 38)], none⟩, ⟨.append 40 (.t 37) (.t 39) 44 3 24, none⟩, ⟨.mv 8 (.t 40), none⟩] ⟨[0, 5, 7, 8, 9], [(5, 5), (40, 8)]⟩) (.skip))))) (.region [⟨.mv 25 (.t 9), none⟩, ⟨.bin 26 false .add (.t 25) (.c (.v (.int .i64 1))), none⟩, ⟨.mv 9 (.t 26), none⟩] ⟨[0, 5, 7, 8, 9], [(5, 5), (8, 8)]⟩))
def f24_l1 : ICode := .loop f24_b1
theorem f24_l1_eq (C : Cs) (lo : Nat) (st : St) : E C lo f24_l1 st = seqK (E C lo f24_l1) (E C lo f24_b1 st) := E_loop C lo f24_b1 st
/-- tracery/traceryref03.Insert -/
def f24 : IFn := ⟨.seq (.region [⟨.box 4 (.t 1) 3, none⟩, ⟨.box 5 (.t 2) 3, none⟩, ⟨.mv 6 (.c (.v (.sl (.tight 44) 3 []))), none⟩] ⟨[0, 4, 5], [(4, 4), (5, 5)]⟩) (.seq (.seq (.region [⟨.mv 10 (.t 0), none⟩, ⟨.load 11 (.t 5) 3 true, none⟩, ⟨.call 12 (.fn 34) [(.t 10), (.t 11)], none⟩, ⟨.bin 13 false .geq (.t 12) (.c (.v (.int .i64 0))), none⟩] ⟨[0, 4, 5, 13], [(4, 4), (5, 5)]⟩) (.cond (.t 13) (.seq (.region [⟨.mv 14 (.t 0), none⟩, ⟨.call 15 (.fn 25) [(.t 14)], none⟩, ⟨.mv 6 (.t 15), none⟩] ⟨[6], [(1960, 6)]⟩) (.ret)) (.skip))) (.seq (.region [⟨.mv 16 (.t 0), none⟩, ⟨.load 17 (.t 4) 3 true, none⟩, ⟨.call 18 (.fn 34) [(.t 16), (.t 17)], none⟩, ⟨.mx 19 [(.c (.v (.int .i64 0))), (.t 18)], none⟩, ⟨.mv 7 (.t 19), none⟩] ⟨[0, 5, 7], [(5, 5)]⟩) (.seq (.region [⟨.bslice 20 44 3 [], none⟩, ⟨.mv 8 (.t 20), none⟩] ⟨[0, 5, 7, 8], [(5, 5), (20, 8)]⟩) (.seq (.seq (.region [⟨.mv 9 (.c (.v (.int .i64 0))), none⟩] ⟨[0, 5, 7, 8, 9], [(5, 5), (8, 8)]⟩) (.block 0 (f24_l1))) (.seq (.seq (.region [⟨.mv 41 (.t 0), none⟩, ⟨.len 42 false (.t 41), none⟩, ⟨.bin 43 false .eql (.t 42) (.c (.v (.int .i64 0))), none⟩] ⟨[5, 8, 43], [(5, 5), (8, 8)]⟩) (.cond (.t 43) (.region [⟨.mv 44 (.t 8), none⟩, ⟨.load 45 (.t 5) 3 true, none⟩, ⟨.bslice 46 44 3 [(.t 45)], none⟩, ⟨.append 47 (.t 44) (.t 46) 44 3 24, none⟩, ⟨.mv 8 (.t 47), none⟩] ⟨[8], [(47, 8)]⟩) (.skip))) (.seq (.region [⟨.mv 48 (.t 8), none⟩, ⟨.call 49 (.fn 25) [(.t 48)], none⟩, ⟨.mv 6 (.t 49), none⟩] ⟨[6], [(4136, 6)]⟩) (.ret))))))), [.tmp 6]⟩
theorem f24_chk : chk Try.prog 24 [(0, ⟨[0, 4, 5], [(4, 4), (5, 5)]⟩), (1, ⟨[0, 4, 5, 13], [(4, 4), (5, 5)]⟩), (2, ⟨[6], [(1960, 6)]⟩), (3, ⟨[0, 5, 7], [(5, 5)]⟩), (4, ⟨[0, 5, 7, 8], [(5, 5), (20, 8)]⟩), (5, ⟨[0, 5, 7, 8, 9], [(5, 5), (8, 8)]⟩), (6, ⟨[0, 5, 7, 8, 9, 24], [(5, 5), (8, 8)]⟩), (7, ⟨[0, 5, 7, 8, 9], [(5, 5), (8, 8)]⟩), (8, ⟨[0, 5, 7, 8, 9], [(5, 5), (33, 8)]⟩), (9, ⟨[0, 5, 7, 8, 9, 36], [(5, 5), (8, 8)]⟩), (10, ⟨[0, 5, 7, 8, 9], [(5, 5), (40, 8)]⟩), (11, ⟨[5, 8, 43], [(5, 5), (8, 8)]⟩), (12, ⟨[8], [(47, 8)]⟩), (13, ⟨[6], [(4136, 6)]⟩)] [(0, ⟨[0, 5, 8], [(5, 5), (8, 8)]⟩), (1, ⟨[0, 5, 7, 8, 9], []⟩)] = some f24 := by kernel_rfl
/-- slots [0, 3, 4]; objects [] -/
def f25_b1 : ICode := .seq (.seq (.region [⟨.mv 7 (.t 4), none⟩, ⟨.mv 8 (.t 0), none⟩, ⟨.len 9 false (.t 8), none⟩, ⟨.bin 10 false .lss (.t 7) (.t 9), none⟩] ⟨[0, 3, 4, 10], []⟩) (.cond (.t 10) (.skip) (.seq (.gc ⟨[0, 3], []⟩) (.exit 0)))) (.seq (.block 1 (.seq (.draw [⟨.mv 13 (.t 0), none⟩, ⟨.mv 14 (.t 4), none⟩, ⟨.iaddr 15 (.t 13) (.t 14) 3, none⟩, ⟨.load 16 (.t 15) 3 true, none⟩, ⟨.mv 17 (.t 0), none⟩, ⟨.mv 18 (.t 3), none⟩, ⟨.iaddr 19 (.t 17) (.t 18) 3, none⟩, ⟨.load 20 (.t 19) 3 true, none⟩, ⟨.call 21 (.fn 35) [(.t 16), (.t 20)], none⟩, ⟨.bin 22 false .lss (.t 21) (.c (.v (.int .i64 0))), none⟩] [0, 0, 3, 7, 0, 0, 48, 112, 255, 511] ⟨[0, 3, 4, 22], []⟩) (.cond (.t 22) (.region [⟨.mv 23 (.t 4), none⟩, ⟨.mv 3 (.t 23), none⟩] ⟨[0, 3, 4], []⟩) (.skip)))) (.region [⟨.mv 11 (.t 4), none⟩, ⟨.bin 12 false .add (.t 11) (.c (.v (.int .i64 1))), none⟩, ⟨.mv 4 (.t 12), none⟩] ⟨[0, 3, 4], []⟩))
def f25_l1 : ICode := .loop f25_b1
theorem f25_l1_eq (C : Cs) (lo : Nat) (st : St) : E C lo f25_l1 st = seqK (E C lo f25_l1) (E C lo f25_b1 st) := E_loop C lo f25_b1 st
/-- slots [0, 3, 5, 6]; objects [5] -/
def f25_b2 : ICode := .seq (.seq (.region [⟨.mv 25 (.t 6), none⟩, ⟨.mv 26 (.t 0), none⟩, ⟨.len 27 false (.t 26), none⟩, ⟨.bin 28 false .lss (.t 25) (.t 27), none⟩] ⟨[0, 3, 5, 6, 28], [(5, 5)]⟩) (.cond (.t 28) (.skip) (.seq (.gc ⟨[5], [(5, 5)]⟩) (.exit 2)))) (.seq (.block 3 (.region [⟨.mv 31 (.t 5), none⟩, ⟨.mv 32 (.t 0), none⟩, ⟨.mv 33 (.t 3), none⟩, ⟨.mv 34 (.t 6), none⟩, ⟨.bin 35 false .add (.t 33) (.t 34), none⟩, ⟨.mv 36 (.t 0), none⟩, ⟨.len 37 false (.t 36), none⟩, ⟨.bin 38 false .rem (.t 35) (.t 37), none⟩, ⟨.iaddr 39 (.t 32) (.t 38) 3, none⟩, ⟨.load 40 (.t 39) 3 true, none⟩, ⟨.bslice 41 44 3 [(.t 40)], none⟩, ⟨.append 42 (.t 31) (.t 41) 44 3 24, none⟩, ⟨.mv 5 (.t 42), none⟩] ⟨[0, 3, 5, 6], [(42, 5)]⟩)) (.region [⟨.mv 29 (.t 6), none⟩, ⟨.bin 30 false .add (.t 29) (.c (.v (.int .i64 1))), none⟩, ⟨.mv 6 (.t 30), none⟩] ⟨[0, 3, 5, 6], [(5, 5)]⟩))
def f25_l2 : ICode := .loop f25_b2
theorem f25_l2_eq (C : Cs) (lo : Nat) (st : St) : E C lo f25_l2 st = seqK (E C lo f25_l2) (E C lo f25_b2 st) := E_loop C lo f25_b2 st
/-- tracery/traceryref03.Turn -/
def f25 : IFn := ⟨.seq (.region [⟨.mv 2 (.c (.v (.sl (.tight 44) 3 []))), none⟩] ⟨[0], []⟩) (.seq (.region [⟨.mv 3 (.c (.v (.int .i64 0))), none⟩] ⟨[0, 3], []⟩) (.seq (.seq (.region [⟨.mv 4 (.c (.v (.int .i64 0))), none⟩] ⟨[0, 3, 4], []⟩) (.block 0 (f25_l1))) (.seq (.region [⟨.bslice 24 44 3 [], none⟩, ⟨.mv 5 (.t 24), none⟩] ⟨[0, 3, 5], [(24, 5)]⟩) (.seq (.seq (.region [⟨.mv 6 (.c (.v (.int .i64 0))), none⟩] ⟨[0, 3, 5, 6], [(5, 5)]⟩) (.block 2 (f25_l2))) (.seq (.region [⟨.mv 43 (.t 5), none⟩, ⟨.mv 2 (.t 43), none⟩] ⟨[2], [(5, 2)]⟩) (.ret)))))), [.tmp 2]⟩
theorem f25_chk : chk Try.prog 25 [(0, ⟨[0], []⟩), (1, ⟨[0, 3], []⟩), (2, ⟨[0, 3, 4], []⟩), (3, ⟨[0, 3, 4, 10], []⟩), (4, ⟨[0, 3, 4], []⟩), (5, ⟨[0, 3, 4, 22], []⟩), (6, ⟨[0, 3, 4], []⟩), (7, ⟨[0, 3, 5], [(24, 5)]⟩), (8, ⟨[0, 3, 5, 6], [(5, 5)]⟩), (9, ⟨[0, 3, 5, 6, 28], [(5, 5)]⟩), (10, ⟨[0, 3, 5, 6], [(5, 5)]⟩), (11, ⟨[0, 3, 5, 6], [(42, 5)]⟩), (12, ⟨[2], [(5, 2)]⟩)] [(0, ⟨[0, 3], []⟩), (1, ⟨[0, 3, 4], []⟩), (2, ⟨[5], [(5, 5)]⟩), (3, ⟨[0, 3, 5, 6], []⟩)] = some f25 := by kernel_rfl
/-- slots [1, 4, 7, 8, 9]; objects [1] -/
def f26_b1 : ICode := .seq (.seq (.region [⟨.mv 45 (.t 9), none⟩, ⟨.mv 46 (.t 4), none⟩, ⟨.bin 47 false .lss (.t 45) (.t 46), none⟩] ⟨[1, 4, 7, 8, 9, 47], [(1, 1)]⟩) (.cond (.t 47) (.skip) (.seq (.gc ⟨[1, 7, 8], [(1, 1)]⟩) (.exit 0)))) (.seq (.block 1 (.seq (.region [⟨.mv 50 (.t 7), none⟩, ⟨.mv 51 (.t 50), none⟩, ⟨.faddr 52 (.t 1) 0, some (51, true)⟩, ⟨.load 53 (.t 52) 1 false, some (51, true)⟩, ⟨.mv 54 (.t 9), some (51, true)⟩, ⟨.iaddr 55 (.t 53) (.t 54) 5, some (51, true)⟩, ⟨.faddr 56 (.t 55) 3, some (51, true)⟩, ⟨.load 57 (.t 56) 1 false, some (51, true)⟩, ⟨.call 58 (.fn 39) [(.t 57)], some (51, true)⟩, ⟨.pick 59 (.t 51) (.t 58) (.c (.v (.bool false))), none⟩, ⟨.mv 7 (.t 59), none⟩] ⟨[1, 4, 7, 8, 9], [(1, 1)]⟩) (.region [⟨.mv 60 (.t 8), none⟩, ⟨.mv 61 (.t 60), none⟩, ⟨.faddr 62 (.t 1) 0, some (61, true)⟩, ⟨.load 63 (.t 62) 1 false, some (61, true)⟩, ⟨.mv 64 (.t 9), some (61, true)⟩, ⟨.iaddr 65 (.t 63) (.t 64) 5, some (61, true)⟩, ⟨.faddr 66 (.t 65) 4, some (61, true)⟩, ⟨.load 67 (.t 66) 1 false, some (61, true)⟩, ⟨.call 68 (.fn 40) [(.t 67)], some (61, true)⟩, ⟨.pick 69 (.t 61) (.t 68) (.c (.v (.bool false))), none⟩, ⟨.mv 8 (.t 69), none⟩] ⟨[1, 4, 7, 8, 9], [(1, 1)]⟩))) (.region [⟨.mv 48 (.t 9), none⟩, ⟨.bin 49 false .add (.t 48) (.c (.v (.int .i64 1))), none⟩, ⟨.mv 9 (.t 49), none⟩] ⟨[1, 4, 7, 8, 9], [(1, 1)]⟩))
def f26_l1 : ICode := .loop f26_b1
theorem f26_l1_eq (C : Cs) (lo : Nat) (st : St) : E C lo f26_l1 st = seqK (E C lo f26_l1) (E C lo f26_b1 st) := E_loop C lo f26_b1 st
/-- slots [1, 7, 8, 10]; objects [1] -/
def f26_b2 : ICode := .seq (.seq (.region [⟨.mv 70 (.t 10), none⟩, ⟨.faddr 71 (.t 1) 1, none⟩, ⟨.load 72 (.t 71) 1 false, none⟩, ⟨.len 73 false (.t 72), none⟩, ⟨.bin 74 false .lss (.t 70) (.t 73), none⟩] ⟨[1, 7, 8, 10, 74], [(1, 1)]⟩) (.cond (.t 74) (.skip) (.seq (.gc ⟨[7, 8], []⟩) (.exit 2)))) (.seq (.block 3 (.seq (.region [⟨.mv 77 (.t 7), none⟩, ⟨.mv 78 (.t 77), none⟩, ⟨.faddr 79 (.t 1) 1, some (78, true)⟩, ⟨.load 80 (.t 79) 1 false, some (78, true)⟩, ⟨.mv 81 (.t 10), some (78, true)⟩, ⟨.iaddr 82 (.t 80) (.t 81) 4, some (78, true)⟩, ⟨.faddr 83 (.t 82) 2, some (78, true)⟩, ⟨.load 84 (.t 83) 1 false, some (78, true)⟩, ⟨.call 85 (.fn 39) [(.t 84)], some (78, true)⟩, ⟨.pick 86 (.t 78) (.t 85) (.c (.v (.bool false))), none⟩, ⟨.mv 7 (.t 86), none⟩] ⟨[1, 7, 8, 10], [(1, 1)]⟩) (.region [⟨.mv 87 (.t 8), none⟩, ⟨.mv 88 (.t 87), none⟩, ⟨.faddr 89 (.t 1) 1, some (88, true)⟩, ⟨.load 90 (.t 89) 1 false, some (88, true)⟩, ⟨.mv 91 (.t 10), some (88, true)⟩, ⟨.iaddr 92 (.t 90) (.t 91) 4, some (88, true)⟩, ⟨.faddr 93 (.t 92) 3, some (88, true)⟩, ⟨.load 94 (.t 93) 1 false, some (88, true)⟩, ⟨.call 95 (.fn 40) [(.t 94)], some (88, true)⟩, ⟨.pick 96 (.t 88) (.t 95) (.c (.v (.bool false))), none⟩, ⟨.mv 8 (.t 96), none⟩] ⟨[1, 7, 8, 10], [(1, 1)]⟩))) (.region [⟨.mv 75 (.t 10), none⟩, ⟨.bin 76 false .add (.t 75) (.c (.v (.int .i64 1))), none⟩, ⟨.mv 10 (.t 76), none⟩] ⟨[1, 7, 8, 10], [(1, 1)]⟩))
def f26_l2 : ICode := .loop f26_b2
theorem f26_l2_eq (C : Cs) (lo : Nat) (st : St) : E C lo f26_l2 st = seqK (E C lo f26_l2) (E C lo f26_b2 st) := E_loop C lo f26_b2 st
/-- tracery/traceryref04.Form -/
def f26 : IFn := ⟨.seq (.region [⟨.box 1 (.t 0) 2, none⟩, ⟨.mv 2 (.c (.v (.int .i64 0))), none⟩] ⟨[1], [(1, 1)]⟩) (.seq (.seq (.region [⟨.faddr 11 (.t 1) 0, none⟩, ⟨.load 12 (.t 11) 1 false, none⟩, ⟨.len 13 false (.t 12), none⟩, ⟨.bin 14 false .gtr (.t 13) (.c (.v (.int .i64 24))), none⟩, ⟨.mv 15 (.t 14), none⟩, ⟨.faddr 16 (.t 1) 1, some (15, false)⟩, ⟨.load 17 (.t 16) 1 false, some (15, false)⟩, ⟨.len 18 false (.t 17), some (15, false)⟩, ⟨.bin 19 false .gtr (.t 18) (.c (.v (.int .i64 40))), some (15, false)⟩, ⟨.pick 20 (.t 15) (.c (.v (.bool true))) (.t 19), none⟩] ⟨[1, 20], [(1, 1)]⟩) (.cond (.t 20) (.seq (.region [⟨.mv 2 (.c (.v (.int .i64 3))), none⟩] ⟨[2], []⟩) (.ret)) (.skip))) (.seq (.region [⟨.load 21 (.t 1) 2 true, none⟩, ⟨.call 22 (.fn 36) [(.t 21)], none⟩, ⟨.mv 3 (.t 22), none⟩] ⟨[1, 3], [(1, 1), (2408, 3)]⟩) (.seq (.region [⟨.faddr 23 (.t 1) 0, none⟩, ⟨.load 24 (.t 23) 1 false, none⟩, ⟨.len 25 false (.t 24), none⟩, ⟨.mv 4 (.t 25), none⟩] ⟨[1, 3, 4], [(1, 1), (3, 3)]⟩) (.seq (.region [⟨.mv 26 (.t 3), none⟩, ⟨.mv 27 (.t 4), none⟩, ⟨.slice 28 (.t 26) none (some (.t 27)) none 27 2, none⟩, ⟨.call 29 (.fn 37) [(.t 28)], none⟩, ⟨.mv 5 (.t 29), none⟩] ⟨[1, 3, 4, 5], [(1, 1), (3, 3)]⟩) (.seq (.region [⟨.mv 30 (.t 3), none⟩, ⟨.mv 31 (.t 4), none⟩, ⟨.slice 32 (.t 30) (some (.t 31)) none none 27 2, none⟩, ⟨.call 33 (.fn 37) [(.t 32)], none⟩, ⟨.mv 6 (.t 33), none⟩] ⟨[1, 4, 5, 6], [(1, 1)]⟩) (.seq (.seq (.region [⟨.mv 34 (.t 5), none⟩, ⟨.un 35 .not (.t 34), none⟩, ⟨.mv 36 (.t 35), none⟩, ⟨.mv 37 (.t 6), some (36, false)⟩, ⟨.un 38 .not (.t 37), some (36, false)⟩, ⟨.pick 39 (.t 36) (.c (.v (.bool true))) (.t 38), none⟩, ⟨.mv 40 (.t 39), none⟩, ⟨.load 41 (.t 1) 2 true, some (40, false)⟩, ⟨.call 42 (.fn 38) [(.t 41)], some (40, false)⟩, ⟨.un 43 .not (.t 42), some (40, false)⟩, ⟨.pick 44 (.t 40) (.c (.v (.bool true))) (.t 43), none⟩] ⟨[1, 4, 44], [(1, 1)]⟩) (.cond (.t 44) (.seq (.region [⟨.mv 2 (.c (.v (.int .i64 10))), none⟩] ⟨[2], []⟩) (.ret)) (.skip))) (.seq (.region [⟨.mv 7 (.c (.v (.bool true))), none⟩] ⟨[1, 4, 7], [(1, 1)]⟩) (.seq (.region [⟨.mv 8 (.c (.v (.bool true))), none⟩] ⟨[1, 4, 7, 8], [(1, 1)]⟩) (.seq (.seq (.region [⟨.mv 9 (.c (.v (.int .i64 0))), none⟩] ⟨[1, 4, 7, 8, 9], [(1, 1)]⟩) (.block 0 (f26_l1))) (.seq (.seq (.region [⟨.mv 10 (.c (.v (.int .i64 0))), none⟩] ⟨[1, 7, 8, 10], [(1, 1)]⟩) (.block 2 (f26_l2))) (.seq (.seq (.region [⟨.mv 97 (.t 7), none⟩, ⟨.un 98 .not (.t 97), none⟩] ⟨[8, 98], []⟩) (.cond (.t 98) (.seq (.region [⟨.mv 2 (.c (.v (.int .i64 4))), none⟩] ⟨[2], []⟩) (.ret)) (.skip))) (.seq (.seq (.region [⟨.mv 99 (.t 8), none⟩, ⟨.un 100 .not (.t 99), none⟩] ⟨[100], []⟩) (.cond (.t 100) (.seq (.region [⟨.mv 2 (.c (.v (.int .i64 1))), none⟩] ⟨[2], []⟩) (.ret)) (.skip))) (.seq (.region [⟨.mv 2 (.c (.v (.int .i64 0))), none⟩] ⟨[2], []⟩) (.ret)))))))))))))), [.tmp 2]⟩
theorem f26_chk : chk Try.prog 26 [(0, ⟨[1], [(1, 1)]⟩), (1, ⟨[1, 20], [(1, 1)]⟩), (2, ⟨[2], []⟩), (3, ⟨[1, 3], [(1, 1), (2408, 3)]⟩), (4, ⟨[1, 3, 4], [(1, 1), (3, 3)]⟩), (5, ⟨[1, 3, 4, 5], [(1, 1), (3, 3)]⟩), (6, ⟨[1, 4, 5, 6], [(1, 1)]⟩), (7, ⟨[1, 4, 44], [(1, 1)]⟩), (8, ⟨[2], []⟩), (9, ⟨[1, 4, 7], [(1, 1)]⟩), (10, ⟨[1, 4, 7, 8], [(1, 1)]⟩), (11, ⟨[1, 4, 7, 8, 9], [(1, 1)]⟩), (12, ⟨[1, 4, 7, 8, 9, 47], [(1, 1)]⟩), (13, ⟨[1, 4, 7, 8, 9], [(1, 1)]⟩), (14, ⟨[1, 4, 7, 8, 9], [(1, 1)]⟩), (15, ⟨[1, 4, 7, 8, 9], [(1, 1)]⟩), (16, ⟨[1, 7, 8, 10], [(1, 1)]⟩), (17, ⟨[1, 7, 8, 10, 74], [(1, 1)]⟩), (18, ⟨[1, 7, 8, 10], [(1, 1)]⟩), (19, ⟨[1, 7, 8, 10], [(1, 1)]⟩), (20, ⟨[1, 7, 8, 10], [(1, 1)]⟩), (21, ⟨[8, 98], []⟩), (22, ⟨[2], []⟩), (23, ⟨[100], []⟩), (24, ⟨[2], []⟩), (25, ⟨[2], []⟩)] [(0, ⟨[1, 7, 8], [(1, 1)]⟩), (1, ⟨[1, 4, 7, 8, 9], []⟩), (2, ⟨[7, 8], []⟩), (3, ⟨[1, 7, 8, 10], []⟩)] = some f26 := by kernel_rfl
/-- tracery/ident.Other -/
def f27 : IFn := ⟨.seq (.region [⟨.box 1 (.t 0) 3, none⟩, ⟨.alloc 2 [(.v (.int .i64 0)), (.v (.int .i64 0)), (.v (.int .i64 0))], none⟩] ⟨[1, 2], [(1, 1), (2, 2)]⟩) (.seq (.region [⟨.faddr 3 (.t 1) 2, none⟩, ⟨.load 4 (.t 3) 1 false, none⟩, ⟨.bin 5 false .xor (.t 4) (.c (.v (.int .i64 1))), none⟩, ⟨.faddr 6 (.t 1) 2, none⟩, ⟨.store (.t 6) (.t 5) 1, none⟩] ⟨[1, 2], [(1, 1), (2, 2)]⟩) (.seq (.region [⟨.load 7 (.t 1) 3 true, none⟩, ⟨.store (.t 2) (.t 7) 3, none⟩] ⟨[2], [(2, 2)]⟩) (.ret))), [.cell 2 3 true]⟩
theorem f27_chk : chk Try.prog 27 [(0, ⟨[1, 2], [(1, 1), (2, 2)]⟩), (1, ⟨[1, 2], [(1, 1), (2, 2)]⟩), (2, ⟨[2], [(2, 2)]⟩)] [] = some f27 := by kernel_rfl
/-- (tracery/comp.forest).join -/
def f28 : IFn := ⟨.seq (.region [⟨.mv 8 (.t 0), none⟩, ⟨.mv 9 (.t 1), none⟩, ⟨.icall 10 (.fn 29) [(.t 8), (.t 9)], none⟩, ⟨.mv 11 (.t 0), none⟩, ⟨.mv 12 (.t 2), none⟩, ⟨.icall 13 (.fn 29) [(.t 11), (.t 12)], none⟩, ⟨.mv 6 (.t 10), none⟩, ⟨.mv 7 (.t 13), none⟩] ⟨[0, 6, 7], []⟩) (.region [⟨.mv 14 (.t 0), none⟩, ⟨.mv 15 (.t 6), none⟩, ⟨.mv 16 (.t 7), none⟩, ⟨.mx 17 [(.t 15), (.t 16)], none⟩, ⟨.mv 18 (.t 6), none⟩, ⟨.mv 19 (.t 7), none⟩, ⟨.mn 20 [(.t 18), (.t 19)], none⟩, ⟨.iaddr 21 (.t 14) (.t 17) 1, none⟩, ⟨.store (.t 21) (.t 20) 1, none⟩] ⟨[], []⟩), []⟩
theorem f28_chk : chk Try.prog 28 [(0, ⟨[0, 6, 7], []⟩), (1, ⟨[], []⟩), (1000000, ⟨[10, 13], []⟩)] [] = some f28 := by kernel_rfl
/-- slots [0, 1]; objects [] -/
def f29_b1 : ICode := .seq (.seq (.region [⟨.mv 5 (.t 0), none⟩, ⟨.mv 6 (.t 1), none⟩, ⟨.iaddr 7 (.t 5) (.t 6) 1, none⟩, ⟨.load 8 (.t 7) 1 false, none⟩, ⟨.mv 9 (.t 1), none⟩, ⟨.bin 10 false .neq (.t 8) (.t 9), none⟩] ⟨[0, 1, 10], []⟩) (.cond (.t 10) (.skip) (.seq (.gc ⟨[1], []⟩) (.exit 0)))) (.block 1 (.seq (.region [⟨.mv 11 (.t 0), none⟩, ⟨.mv 12 (.t 1), none⟩, ⟨.mv 13 (.t 0), none⟩, ⟨.mv 14 (.t 0), none⟩, ⟨.mv 15 (.t 1), none⟩, ⟨.iaddr 16 (.t 14) (.t 15) 1, none⟩, ⟨.load 17 (.t 16) 1 false, none⟩, ⟨.iaddr 18 (.t 13) (.t 17) 1, none⟩, ⟨.load 19 (.t 18) 1 false, none⟩, ⟨.iaddr 20 (.t 11) (.t 12) 1, none⟩, ⟨.store (.t 20) (.t 19) 1, none⟩] ⟨[0, 1], []⟩) (.region [⟨.mv 21 (.t 0), none⟩, ⟨.mv 22 (.t 1), none⟩, ⟨.iaddr 23 (.t 21) (.t 22) 1, none⟩, ⟨.load 24 (.t 23) 1 false, none⟩, ⟨.mv 1 (.t 24), none⟩] ⟨[0, 1], []⟩)))
def f29_l1 : ICode := .loop f29_b1
theorem f29_l1_eq (C : Cs) (lo : Nat) (st : St) : E C lo f29_l1 st = seqK (E C lo f29_l1) (E C lo f29_b1 st) := E_loop C lo f29_b1 st
/-- (tracery/comp.forest).root -/
def f29 : IFn := ⟨.seq (.region [⟨.mv 4 (.c (.v (.int .i64 0))), none⟩] ⟨[0, 1], []⟩) (.seq (.block 0 (f29_l1)) (.seq (.region [⟨.mv 25 (.t 1), none⟩, ⟨.mv 4 (.t 25), none⟩] ⟨[4], []⟩) (.ret))), [.tmp 4]⟩
theorem f29_chk : chk Try.prog 29 [(0, ⟨[0, 1], []⟩), (1, ⟨[0, 1, 10], []⟩), (2, ⟨[0, 1], []⟩), (3, ⟨[0, 1], []⟩), (4, ⟨[4], []⟩)] [(0, ⟨[1], []⟩), (1, ⟨[0, 1], []⟩)] = some f29 := by kernel_rfl
/-- slots [2, 3, 5]; objects [2, 3] -/
def f30_b1 : ICode := .seq (.seq (.region [⟨.mv 6 (.t 5), none⟩, ⟨.faddr 7 (.t 2) 0, none⟩, ⟨.load 8 (.t 7) 1 false, none⟩, ⟨.len 9 false (.t 8), none⟩, ⟨.bin 10 false .lss (.t 6) (.t 9), none⟩] ⟨[2, 3, 5, 10], [(2, 2), (3, 3)]⟩) (.cond (.t 10) (.skip) (.seq (.gc ⟨[], []⟩) (.exit 0)))) (.seq (.block 1 (.seq (.draw [⟨.faddr 13 (.t 2) 0, none⟩, ⟨.load 14 (.t 13) 1 false, none⟩, ⟨.mv 15 (.t 5), none⟩, ⟨.iaddr 16 (.t 14) (.t 15) 5, none⟩, ⟨.faddr 17 (.t 16) 0, none⟩, ⟨.load 18 (.t 17) 2 true, none⟩, ⟨.load 19 (.t 3) 2 true, none⟩, ⟨.eqs 20 false [.i, .i] (.t 18) (.t 19), none⟩] [0, 1, 0, 7, 15, 31, 0, 127] ⟨[2, 3, 5, 20], [(2, 2), (3, 3)]⟩) (.cond (.t 20) (.seq (.region [⟨.mv 21 (.t 5), none⟩, ⟨.mv 4 (.t 21), none⟩] ⟨[4], []⟩) (.ret)) (.skip)))) (.region [⟨.mv 11 (.t 5), none⟩, ⟨.bin 12 false .add (.t 11) (.c (.v (.int .i64 1))), none⟩, ⟨.mv 5 (.t 12), none⟩] ⟨[2, 3, 5], [(2, 2), (3, 3)]⟩))
def f30_l1 : ICode := .loop f30_b1
theorem f30_l1_eq (C : Cs) (lo : Nat) (st : St) : E C lo f30_l1 st = seqK (E C lo f30_l1) (E C lo f30_b1 st) := E_loop C lo f30_b1 st
/-- tracery/traceryref06.place -/
def f30 : IFn := ⟨.seq (.region [⟨.box 2 (.t 0) 2, none⟩, ⟨.box 3 (.t 1) 2, none⟩, ⟨.mv 4 (.c (.v (.int .i64 0))), none⟩] ⟨[2, 3], [(2, 2), (3, 3)]⟩) (.seq (.seq (.region [⟨.mv 5 (.c (.v (.int .i64 0))), none⟩] ⟨[2, 3, 5], [(2, 2), (3, 3)]⟩) (.block 0 (f30_l1))) (.seq (.region [⟨.mv 4 (.c (.v (.int .i64 (-1)))), none⟩] ⟨[4], []⟩) (.ret))), [.tmp 4]⟩
theorem f30_chk : chk Try.prog 30 [(0, ⟨[2, 3], [(2, 2), (3, 3)]⟩), (1, ⟨[2, 3, 5], [(2, 2), (3, 3)]⟩), (2, ⟨[2, 3, 5, 10], [(2, 2), (3, 3)]⟩), (3, ⟨[2, 3, 5], [(2, 2), (3, 3)]⟩), (4, ⟨[2, 3, 5, 20], [(2, 2), (3, 3)]⟩), (5, ⟨[4], []⟩), (6, ⟨[4], []⟩)] [(0, ⟨[], []⟩), (1, ⟨[2, 3, 5], []⟩)] = some f30 := by kernel_rfl
/-- slices.ContainsFunc[[][]tracery/api.ID,[]tracery/api.ID] -/
def f31 : IFn := ⟨.seq (.region [⟨.mv 4 (.c (.v (.bool false))), none⟩] ⟨[0, 1], []⟩) (.seq (.region [⟨.mv 5 (.t 0), none⟩, ⟨.mv 6 (.t 1), none⟩, ⟨.call 7 (.fn 41) [(.t 5), (.t 6)], none⟩, ⟨.bin 8 false .geq (.t 7) (.c (.v (.int .i64 0))), none⟩, ⟨.mv 4 (.t 8), none⟩] ⟨[4], []⟩) (.ret)), [.tmp 4]⟩
theorem f31_chk : chk Try.prog 31 [(0, ⟨[0, 1], []⟩), (1, ⟨[4], []⟩)] [] = some f31 := by kernel_rfl
/-- tracery/comp.Together$1 -/
def f32 : IFn := ⟨.seq (.region [⟨.mv 4 (.c (.v (.bool false))), none⟩] ⟨[0, 1, 2], []⟩) (.seq (.region [⟨.mv 5 (.t 0), none⟩, ⟨.load 6 (.t 1) 2 true, none⟩, ⟨.call 7 (.fn 33) [(.t 5), (.t 6)], none⟩, ⟨.mv 8 (.t 7), none⟩, ⟨.mv 9 (.t 0), some (8, true)⟩, ⟨.load 10 (.t 2) 2 true, some (8, true)⟩, ⟨.call 11 (.fn 33) [(.t 9), (.t 10)], some (8, true)⟩, ⟨.pick 12 (.t 8) (.t 11) (.c (.v (.bool false))), none⟩, ⟨.mv 4 (.t 12), none⟩] ⟨[4], []⟩) (.ret)), [.tmp 4]⟩
theorem f32_chk : chk Try.prog 32 [(0, ⟨[0, 1, 2], []⟩), (1, ⟨[4], []⟩)] [] = some f32 := by kernel_rfl
/-- slices.Contains[[]tracery/api.ID,tracery/api.ID] -/
def f33 : IFn := ⟨.seq (.region [⟨.box 3 (.t 1) 2, none⟩, ⟨.mv 4 (.c (.v (.bool false))), none⟩] ⟨[0, 3], [(3, 3)]⟩) (.seq (.region [⟨.mv 5 (.t 0), none⟩, ⟨.load 6 (.t 3) 2 true, none⟩, ⟨.call 7 (.fn 42) [(.t 5), (.t 6)], none⟩, ⟨.bin 8 false .geq (.t 7) (.c (.v (.int .i64 0))), none⟩, ⟨.mv 4 (.t 8), none⟩] ⟨[4], []⟩) (.ret)), [.tmp 4]⟩
theorem f33_chk : chk Try.prog 33 [(0, ⟨[0, 3], [(3, 3)]⟩), (1, ⟨[4], []⟩)] [] = some f33 := by kernel_rfl
/-- slots [0, 3, 5]; objects [3] -/
def f34_b1 : ICode := .seq (.seq (.region [⟨.mv 6 (.t 5), none⟩, ⟨.mv 7 (.t 0), none⟩, ⟨.len 8 false (.t 7), none⟩, ⟨.bin 9 false .lss (.t 6) (.t 8), none⟩] ⟨[0, 3, 5, 9], [(3, 3)]⟩) (.cond (.t 9) (.skip) (.seq (.gc ⟨[], []⟩) (.exit 0)))) (.seq (.block 1 (.seq (.draw [⟨.mv 12 (.t 0), none⟩, ⟨.mv 13 (.t 5), none⟩, ⟨.iaddr 14 (.t 12) (.t 13) 3, none⟩, ⟨.load 15 (.t 14) 3 true, none⟩, ⟨.load 16 (.t 3) 3 true, none⟩, ⟨.eqs 17 false [.i, .i, .i] (.t 15) (.t 16), none⟩] [0, 0, 3, 7, 0, 31] ⟨[0, 3, 5, 17], [(3, 3)]⟩) (.cond (.t 17) (.seq (.region [⟨.mv 18 (.t 5), none⟩, ⟨.mv 4 (.t 18), none⟩] ⟨[4], []⟩) (.ret)) (.skip)))) (.region [⟨.mv 10 (.t 5), none⟩, ⟨.bin 11 false .add (.t 10) (.c (.v (.int .i64 1))), none⟩, ⟨.mv 5 (.t 11), none⟩] ⟨[0, 3, 5], [(3, 3)]⟩))
def f34_l1 : ICode := .loop f34_b1
theorem f34_l1_eq (C : Cs) (lo : Nat) (st : St) : E C lo f34_l1 st = seqK (E C lo f34_l1) (E C lo f34_b1 st) := E_loop C lo f34_b1 st
/-- tracery/traceryref03.Index -/
def f34 : IFn := ⟨.seq (.region [⟨.box 3 (.t 1) 3, none⟩, ⟨.mv 4 (.c (.v (.int .i64 0))), none⟩] ⟨[0, 3], [(3, 3)]⟩) (.seq (.seq (.region [⟨.mv 5 (.c (.v (.int .i64 0))), none⟩] ⟨[0, 3, 5], [(3, 3)]⟩) (.block 0 (f34_l1))) (.seq (.region [⟨.mv 4 (.c (.v (.int .i64 (-1)))), none⟩] ⟨[4], []⟩) (.ret))), [.tmp 4]⟩
theorem f34_chk : chk Try.prog 34 [(0, ⟨[0, 3], [(3, 3)]⟩), (1, ⟨[0, 3, 5], [(3, 3)]⟩), (2, ⟨[0, 3, 5, 9], [(3, 3)]⟩), (3, ⟨[0, 3, 5], [(3, 3)]⟩), (4, ⟨[0, 3, 5, 17], [(3, 3)]⟩), (5, ⟨[4], []⟩), (6, ⟨[4], []⟩)] [(0, ⟨[], []⟩), (1, ⟨[0, 3, 5], []⟩)] = some f34 := by kernel_rfl
/-- tracery/traceryref01.OrderDart -/
def f35 : IFn := ⟨.seq (.region [⟨.box 2 (.t 0) 3, none⟩, ⟨.box 3 (.t 1) 3, none⟩, ⟨.mv 4 (.c (.v (.int .i64 0))), none⟩] ⟨[2, 3], [(2, 2), (3, 3)]⟩) (.seq (.region [⟨.faddr 6 (.t 2) 0, none⟩, ⟨.load 7 (.t 6) 2 true, none⟩, ⟨.faddr 8 (.t 3) 0, none⟩, ⟨.load 9 (.t 8) 2 true, none⟩, ⟨.call 10 (.fn 43) [(.t 7), (.t 9)], none⟩, ⟨.mv 5 (.t 10), none⟩] ⟨[2, 3, 5], [(2, 2), (3, 3)]⟩) (.seq (.seq (.region [⟨.mv 11 (.t 5), none⟩, ⟨.bin 12 false .neq (.t 11) (.c (.v (.int .i64 0))), none⟩] ⟨[2, 3, 5, 12], [(2, 2), (3, 3)]⟩) (.cond (.t 12) (.seq (.region [⟨.mv 13 (.t 5), none⟩, ⟨.mv 4 (.t 13), none⟩] ⟨[4], []⟩) (.ret)) (.skip))) (.seq (.seq (.region [⟨.faddr 14 (.t 2) 2, none⟩, ⟨.load 15 (.t 14) 1 false, none⟩, ⟨.faddr 16 (.t 3) 2, none⟩, ⟨.load 17 (.t 16) 1 false, none⟩, ⟨.bin 18 false .lss (.t 15) (.t 17), none⟩] ⟨[2, 3, 18], [(2, 2), (3, 3)]⟩) (.cond (.t 18) (.seq (.region [⟨.mv 4 (.c (.v (.int .i64 (-1)))), none⟩] ⟨[4], []⟩) (.ret)) (.skip))) (.seq (.seq (.region [⟨.faddr 19 (.t 2) 2, none⟩, ⟨.load 20 (.t 19) 1 false, none⟩, ⟨.faddr 21 (.t 3) 2, none⟩, ⟨.load 22 (.t 21) 1 false, none⟩, ⟨.bin 23 false .gtr (.t 20) (.t 22), none⟩] ⟨[23], []⟩) (.cond (.t 23) (.seq (.region [⟨.mv 4 (.c (.v (.int .i64 1))), none⟩] ⟨[4], []⟩) (.ret)) (.skip))) (.seq (.region [⟨.mv 4 (.c (.v (.int .i64 0))), none⟩] ⟨[4], []⟩) (.ret)))))), [.tmp 4]⟩
theorem f35_chk : chk Try.prog 35 [(0, ⟨[2, 3], [(2, 2), (3, 3)]⟩), (1, ⟨[2, 3, 5], [(2, 2), (3, 3)]⟩), (2, ⟨[2, 3, 5, 12], [(2, 2), (3, 3)]⟩), (3, ⟨[4], []⟩), (4, ⟨[2, 3, 18], [(2, 2), (3, 3)]⟩), (5, ⟨[4], []⟩), (6, ⟨[23], []⟩), (7, ⟨[4], []⟩), (8, ⟨[4], []⟩)] [] = some f35 := by kernel_rfl
/-- slots [1, 3, 4]; objects [1, 3] -/
def f36_b1 : ICode := .seq (.seq (.region [⟨.mv 7 (.t 4), none⟩, ⟨.faddr 8 (.t 1) 0, none⟩, ⟨.load 9 (.t 8) 1 false, none⟩, ⟨.len 10 false (.t 9), none⟩, ⟨.bin 11 false .lss (.t 7) (.t 10), none⟩] ⟨[1, 3, 4, 11], [(1, 1), (3, 3)]⟩) (.cond (.t 11) (.skip) (.seq (.gc ⟨[1, 3], [(1, 1), (3, 3)]⟩) (.exit 0)))) (.seq (.block 1 (.region [⟨.mv 14 (.t 3), none⟩, ⟨.faddr 15 (.t 1) 0, none⟩, ⟨.load 16 (.t 15) 1 false, none⟩, ⟨.mv 17 (.t 4), none⟩, ⟨.iaddr 18 (.t 16) (.t 17) 5, none⟩, ⟨.faddr 19 (.t 18) 0, none⟩, ⟨.load 20 (.t 19) 2 true, none⟩, ⟨.bslice 21 27 2 [(.t 20)], none⟩, ⟨.append 22 (.t 14) (.t 21) 27 2 16, none⟩, ⟨.mv 3 (.t 22), none⟩] ⟨[1, 3, 4], [(1, 1), (22, 3)]⟩)) (.region [⟨.mv 12 (.t 4), none⟩, ⟨.bin 13 false .add (.t 12) (.c (.v (.int .i64 1))), none⟩, ⟨.mv 4 (.t 13), none⟩] ⟨[1, 3, 4], [(1, 1), (3, 3)]⟩))
def f36_l1 : ICode := .loop f36_b1
theorem f36_l1_eq (C : Cs) (lo : Nat) (st : St) : E C lo f36_l1 st = seqK (E C lo f36_l1) (E C lo f36_b1 st) := E_loop C lo f36_b1 st
/-- slots [1, 3, 5]; objects [1, 3] -/
def f36_b2 : ICode := .seq (.seq (.region [⟨.mv 23 (.t 5), none⟩, ⟨.faddr 24 (.t 1) 1, none⟩, ⟨.load 25 (.t 24) 1 false, none⟩, ⟨.len 26 false (.t 25), none⟩, ⟨.bin 27 false .lss (.t 23) (.t 26), none⟩] ⟨[1, 3, 5, 27], [(1, 1), (3, 3)]⟩) (.cond (.t 27) (.skip) (.seq (.gc ⟨[3], [(3, 3)]⟩) (.exit 2)))) (.seq (.block 3 (.region [⟨.mv 30 (.t 3), none⟩, ⟨.faddr 31 (.t 1) 1, none⟩, ⟨.load 32 (.t 31) 1 false, none⟩, ⟨.mv 33 (.t 5), none⟩, ⟨.iaddr 34 (.t 32) (.t 33) 4, none⟩, ⟨.faddr 35 (.t 34) 0, none⟩, ⟨.load 36 (.t 35) 2 true, none⟩, ⟨.bslice 37 27 2 [(.t 36)], none⟩, ⟨.append 38 (.t 30) (.t 37) 27 2 16, none⟩, ⟨.mv 3 (.t 38), none⟩] ⟨[1, 3, 5], [(1, 1), (38, 3)]⟩)) (.region [⟨.mv 28 (.t 5), none⟩, ⟨.bin 29 false .add (.t 28) (.c (.v (.int .i64 1))), none⟩, ⟨.mv 5 (.t 29), none⟩] ⟨[1, 3, 5], [(1, 1), (3, 3)]⟩))
def f36_l2 : ICode := .loop f36_b2
theorem f36_l2_eq (C : Cs) (lo : Nat) (st : St) : E C lo f36_l2 st = seqK (E C lo f36_l2) (E C lo f36_b2 st) := E_loop C lo f36_b2 st
/-- tracery/traceryref04.Names -/
def f36 : IFn := ⟨.seq (.region [⟨.box 1 (.t 0) 2, none⟩, ⟨.mv 2 (.c (.v (.sl (.tight 27) 2 []))), none⟩] ⟨[1], [(1, 1)]⟩) (.seq (.region [⟨.bslice 6 27 2 [], none⟩, ⟨.mv 3 (.t 6), none⟩] ⟨[1, 3], [(1, 1), (6, 3)]⟩) (.seq (.seq (.region [⟨.mv 4 (.c (.v (.int .i64 0))), none⟩] ⟨[1, 3, 4], [(1, 1), (3, 3)]⟩) (.block 0 (f36_l1))) (.seq (.seq (.region [⟨.mv 5 (.c (.v (.int .i64 0))), none⟩] ⟨[1, 3, 5], [(1, 1), (3, 3)]⟩) (.block 2 (f36_l2))) (.seq (.region [⟨.mv 39 (.t 3), none⟩, ⟨.mv 2 (.t 39), none⟩] ⟨[2], [(3, 2)]⟩) (.ret))))), [.tmp 2]⟩
theorem f36_chk : chk Try.prog 36 [(0, ⟨[1], [(1, 1)]⟩), (1, ⟨[1, 3], [(1, 1), (6, 3)]⟩), (2, ⟨[1, 3, 4], [(1, 1), (3, 3)]⟩), (3, ⟨[1, 3, 4, 11], [(1, 1), (3, 3)]⟩), (4, ⟨[1, 3, 4], [(1, 1), (3, 3)]⟩), (5, ⟨[1, 3, 4], [(1, 1), (22, 3)]⟩), (6, ⟨[1, 3, 5], [(1, 1), (3, 3)]⟩), (7, ⟨[1, 3, 5, 27], [(1, 1), (3, 3)]⟩), (8, ⟨[1, 3, 5], [(1, 1), (3, 3)]⟩), (9, ⟨[1, 3, 5], [(1, 1), (38, 3)]⟩), (10, ⟨[2], [(3, 2)]⟩)] [(0, ⟨[1, 3], [(1, 1), (3, 3)]⟩), (1, ⟨[1, 3, 4], []⟩), (2, ⟨[3], [(3, 3)]⟩), (3, ⟨[1, 3, 5], []⟩)] = some f36 := by kernel_rfl
/-- slots [0, 3]; objects [] -/
def f37_b1 : ICode := .seq (.seq (.region [⟨.mv 5 (.t 3), none⟩, ⟨.mv 6 (.t 0), none⟩, ⟨.len 7 false (.t 6), none⟩, ⟨.bin 8 false .lss (.t 5) (.t 7), none⟩] ⟨[0, 3, 8], []⟩) (.cond (.t 8) (.skip) (.seq (.gc ⟨[], []⟩) (.exit 0)))) (.seq (.block 1 (.seq (.region [⟨.mv 11 (.t 0), none⟩, ⟨.mv 12 (.t 3), none⟩, ⟨.iaddr 13 (.t 11) (.t 12) 2, none⟩, ⟨.load 14 (.t 13) 2 true, none⟩, ⟨.call 15 (.fn 44) [(.t 14)], none⟩, ⟨.mv 4 (.t 15), none⟩] ⟨[0, 3, 4], []⟩) (.seq (.draw [⟨.mv 16 (.t 4), none⟩, ⟨.un 17 .not (.t 16), none⟩, ⟨.mv 18 (.t 17), none⟩, ⟨.mv 19 (.t 3), some (18, false)⟩, ⟨.bin 20 false .gtr (.t 19) (.c (.v (.int .i64 0))), some (18, false)⟩, ⟨.mv 21 (.t 20), some (18, false)⟩, ⟨.mv 22 (.t 0), some (21, true)⟩, ⟨.mv 23 (.t 3), some (21, true)⟩, ⟨.bin 24 false .sub (.t 23) (.c (.v (.int .i64 1))), some (21, true)⟩, ⟨.iaddr 25 (.t 22) (.t 24) 2, some (21, true)⟩, ⟨.load 26 (.t 25) 2 true, some (21, true)⟩, ⟨.mv 27 (.t 0), some (21, true)⟩, ⟨.mv 28 (.t 3), some (21, true)⟩, ⟨.iaddr 29 (.t 27) (.t 28) 2, some (21, true)⟩, ⟨.load 30 (.t 29) 2 true, some (21, true)⟩, ⟨.call 31 (.fn 43) [(.t 26), (.t 30)], some (21, true)⟩, ⟨.bin 32 false .geq (.t 31) (.c (.v (.int .i64 0))), some (21, true)⟩, ⟨.pick 33 (.t 21) (.t 32) (.c (.v (.bool false))), some (18, false)⟩, ⟨.pick 34 (.t 18) (.c (.v (.bool true))) (.t 33), none⟩] [0, 1, 3, 7, 15, 31, 63, 63, 191, 511, 1023, 63, 63, 6207, 14399, 32767, 65535, 131071, 262143] ⟨[0, 3, 34], []⟩) (.cond (.t 34) (.seq (.region [⟨.mv 2 (.c (.v (.bool false))), none⟩] ⟨[2], []⟩) (.ret)) (.skip))))) (.region [⟨.mv 9 (.t 3), none⟩, ⟨.bin 10 false .add (.t 9) (.c (.v (.int .i64 1))), none⟩, ⟨.mv 3 (.t 10), none⟩] ⟨[0, 3], []⟩))
def f37_l1 : ICode := .loop f37_b1
theorem f37_l1_eq (C : Cs) (lo : Nat) (st : St) : E C lo f37_l1 st = seqK (E C lo f37_l1) (E C lo f37_b1 st) := E_loop C lo f37_b1 st
/-- tracery/traceryref04.rise -/
def f37 : IFn := ⟨.seq (.region [⟨.mv 2 (.c (.v (.bool false))), none⟩] ⟨[0], []⟩) (.seq (.seq (.region [⟨.mv 3 (.c (.v (.int .i64 0))), none⟩] ⟨[0, 3], []⟩) (.block 0 (f37_l1))) (.seq (.region [⟨.mv 2 (.c (.v (.bool true))), none⟩] ⟨[2], []⟩) (.ret))), [.tmp 2]⟩
theorem f37_chk : chk Try.prog 37 [(0, ⟨[0], []⟩), (1, ⟨[0, 3], []⟩), (2, ⟨[0, 3, 8], []⟩), (3, ⟨[0, 3], []⟩), (4, ⟨[0, 3, 4], []⟩), (5, ⟨[0, 3, 34], []⟩), (6, ⟨[2], []⟩), (7, ⟨[2], []⟩)] [(0, ⟨[], []⟩), (1, ⟨[0, 3], []⟩)] = some f37 := by kernel_rfl
/-- slots [1, 3, 4, 6]; objects [1] -/
def f38_b2 : ICode := .seq (.seq (.region [⟨.mv 30 (.t 6), none⟩, ⟨.mv 31 (.t 4), none⟩, ⟨.len 32 false (.t 31), none⟩, ⟨.bin 33 false .lss (.t 30) (.t 32), none⟩] ⟨[1, 3, 4, 6, 33], [(1, 1)]⟩) (.cond (.t 33) (.skip) (.seq (.gc ⟨[1, 3], [(1, 1)]⟩) (.exit 2)))) (.seq (.block 3 (.seq (.draw [⟨.load 37 (.t 1) 2 true, none⟩, ⟨.mv 38 (.t 4), none⟩, ⟨.mv 39 (.t 6), none⟩, ⟨.iaddr 40 (.t 38) (.t 39) 3, none⟩, ⟨.faddr 41 (.t 40) 0, none⟩, ⟨.load 42 (.t 41) 2 true, none⟩, ⟨.call 43 (.fn 22) [(.t 37), (.t 42)], none⟩, ⟨.mv 36 (.t 43), none⟩, ⟨.ext 44 (.t 36) 0, none⟩, ⟨.ext 45 (.t 36) 1, none⟩, ⟨.alloc 7 [(.v (.int .i64 0)), (.v (.int .i64 0)), (.v (.str ⟨#[]⟩)), (.v (.int .i64 0))], none⟩, ⟨.store (.t 7) (.t 44) 4, none⟩, ⟨.mv 8 (.t 45), none⟩] [0, 0, 0, 6, 14, 30, 63, 127, 255, 255, 0, 1535, 4095] ⟨[1, 3, 4, 6, 8], [(1, 1)]⟩) (.seq (.region [⟨.mv 46 (.t 8), none⟩, ⟨.un 47 .not (.t 46), none⟩, ⟨.mv 48 (.t 47), none⟩, ⟨.mv 49 (.t 4), some (48, false)⟩, ⟨.mv 50 (.t 6), some (48, false)⟩, ⟨.iaddr 51 (.t 49) (.t 50) 3, some (48, false)⟩, ⟨.faddr 52 (.t 51) 2, some (48, false)⟩, ⟨.load 53 (.t 52) 1 false, some (48, false)⟩, ⟨.bin 54 false .lss (.t 53) (.c (.v (.int .i64 0))), some (48, false)⟩, ⟨.pick 55 (.t 48) (.c (.v (.bool true))) (.t 54), none⟩, ⟨.mv 56 (.t 55), none⟩, ⟨.mv 57 (.t 4), some (56, false)⟩, ⟨.mv 58 (.t 6), some (56, false)⟩, ⟨.iaddr 59 (.t 57) (.t 58) 3, some (56, false)⟩, ⟨.faddr 60 (.t 59) 2, some (56, false)⟩, ⟨.load 61 (.t 60) 1 false, some (56, false)⟩, ⟨.bin 62 false .gtr (.t 61) (.c (.v (.int .i64 1))), some (56, false)⟩, ⟨.pick 63 (.t 56) (.c (.v (.bool true))) (.t 62), none⟩] ⟨[1, 3, 4, 6, 63], [(1, 1)]⟩) (.cond (.t 63) (.seq (.region [⟨.mv 2 (.c (.v (.bool false))), none⟩] ⟨[2], []⟩) (.ret)) (.skip))))) (.region [⟨.mv 34 (.t 6), none⟩, ⟨.bin 35 false .add (.t 34) (.c (.v (.int .i64 1))), none⟩, ⟨.mv 6 (.t 35), none⟩] ⟨[1, 3, 4, 6], [(1, 1)]⟩))
def f38_l2 : ICode := .loop f38_b2
theorem f38_l2_eq (C : Cs) (lo : Nat) (st : St) : E C lo f38_l2 st = seqK (E C lo f38_l2) (E C lo f38_b2 st) := E_loop C lo f38_b2 st
/-- slots [1, 3]; objects [1] -/
def f38_b1 : ICode := .seq (.seq (.region [⟨.mv 11 (.t 3), none⟩, ⟨.faddr 12 (.t 1) 0, none⟩, ⟨.load 13 (.t 12) 1 false, none⟩, ⟨.len 14 false (.t 13), none⟩, ⟨.bin 15 false .lss (.t 11) (.t 14), none⟩] ⟨[1, 3, 15], [(1, 1)]⟩) (.cond (.t 15) (.skip) (.seq (.gc ⟨[1], [(1, 1)]⟩) (.exit 0)))) (.seq (.block 1 (.seq (.region [⟨.faddr 18 (.t 1) 0, none⟩, ⟨.load 19 (.t 18) 1 false, none⟩, ⟨.mv 20 (.t 3), none⟩, ⟨.iaddr 21 (.t 19) (.t 20) 5, none⟩, ⟨.faddr 22 (.t 21) 2, none⟩, ⟨.load 23 (.t 22) 1 false, none⟩, ⟨.mv 4 (.t 23), none⟩] ⟨[1, 3, 4], [(1, 1)]⟩) (.seq (.region [⟨.mv 24 (.t 4), none⟩, ⟨.mv 25 (.t 4), none⟩, ⟨.call 26 (.fn 25) [(.t 25)], none⟩, ⟨.call 27 (.fn 45) [(.t 24), (.t 26)], none⟩, ⟨.mv 5 (.t 27), none⟩] ⟨[1, 3, 4, 5], [(1, 1)]⟩) (.seq (.seq (.region [⟨.mv 28 (.t 5), none⟩, ⟨.un 29 .not (.t 28), none⟩] ⟨[1, 3, 4, 29], [(1, 1)]⟩) (.cond (.t 29) (.seq (.region [⟨.mv 2 (.c (.v (.bool false))), none⟩] ⟨[2], []⟩) (.ret)) (.skip))) (.seq (.region [⟨.mv 6 (.c (.v (.int .i64 0))), none⟩] ⟨[1, 3, 4, 6], [(1, 1)]⟩) (.block 2 (f38_l2))))))) (.region [⟨.mv 16 (.t 3), none⟩, ⟨.bin 17 false .add (.t 16) (.c (.v (.int .i64 1))), none⟩, ⟨.mv 3 (.t 17), none⟩] ⟨[1, 3], [(1, 1)]⟩))
def f38_l1 : ICode := .loop f38_b1
theorem f38_l1_eq (C : Cs) (lo : Nat) (st : St) : E C lo f38_l1 st = seqK (E C lo f38_l1) (E C lo f38_b1 st) := E_loop C lo f38_b1 st
/-- slots [1, 9, 10]; objects [1] -/
def f38_b4 : ICode := .seq (.seq (.region [⟨.mv 71 (.t 10), none⟩, ⟨.bin 72 false .lss (.t 71) (.c (.v (.int .i64 2))), none⟩] ⟨[1, 9, 10, 72], [(1, 1)]⟩) (.cond (.t 72) (.skip) (.seq (.gc ⟨[1, 9], [(1, 1)]⟩) (.exit 6)))) (.seq (.block 7 (.seq (.draw [⟨.load 75 (.t 1) 2 true, none⟩, ⟨.faddr 76 (.t 1) 1, none⟩, ⟨.load 77 (.t 76) 1 false, none⟩, ⟨.mv 78 (.t 9), none⟩, ⟨.iaddr 79 (.t 77) (.t 78) 4, none⟩, ⟨.faddr 80 (.t 79) 0, none⟩, ⟨.load 81 (.t 80) 2 true, none⟩, ⟨.mv 82 (.t 10), none⟩, ⟨.build 83 [(.v (.int .i64 0)), (.v (.int .i64 0)), (.v (.int .i64 0))] [(0, 2, (.t 81)), (2, 1, (.t 82))], none⟩, ⟨.call 84 (.fn 46) [(.t 75), (.t 83)], none⟩, ⟨.bin 85 false .neq (.t 84) (.c (.v (.int .i64 1))), none⟩] [0, 0, 2, 0, 14, 30, 62, 0, 254, 511, 1023] ⟨[1, 9, 10, 85], [(1, 1)]⟩) (.cond (.t 85) (.seq (.region [⟨.mv 2 (.c (.v (.bool false))), none⟩] ⟨[2], []⟩) (.ret)) (.skip)))) (.region [⟨.mv 73 (.t 10), none⟩, ⟨.bin 74 false .add (.t 73) (.c (.v (.int .i64 1))), none⟩, ⟨.mv 10 (.t 74), none⟩] ⟨[1, 9, 10], [(1, 1)]⟩))
def f38_l4 : ICode := .loop f38_b4
theorem f38_l4_eq (C : Cs) (lo : Nat) (st : St) : E C lo f38_l4 st = seqK (E C lo f38_l4) (E C lo f38_b4 st) := E_loop C lo f38_b4 st
/-- slots [1, 9]; objects [1] -/
def f38_b3 : ICode := .seq (.seq (.region [⟨.mv 64 (.t 9), none⟩, ⟨.faddr 65 (.t 1) 1, none⟩, ⟨.load 66 (.t 65) 1 false, none⟩, ⟨.len 67 false (.t 66), none⟩, ⟨.bin 68 false .lss (.t 64) (.t 67), none⟩] ⟨[1, 9, 68], [(1, 1)]⟩) (.cond (.t 68) (.skip) (.seq (.gc ⟨[], []⟩) (.exit 4)))) (.seq (.block 5 (.seq (.region [⟨.mv 10 (.c (.v (.int .i64 0))), none⟩] ⟨[1, 9, 10], [(1, 1)]⟩) (.block 6 (f38_l4)))) (.region [⟨.mv 69 (.t 9), none⟩, ⟨.bin 70 false .add (.t 69) (.c (.v (.int .i64 1))), none⟩, ⟨.mv 9 (.t 70), none⟩] ⟨[1, 9], [(1, 1)]⟩))
def f38_l3 : ICode := .loop f38_b3
theorem f38_l3_eq (C : Cs) (lo : Nat) (st : St) : E C lo f38_l3 st = seqK (E C lo f38_l3) (E C lo f38_b3 st) := E_loop C lo f38_b3 st
/-- tracery/traceryref04.rings -/
def f38 : IFn := ⟨.seq (.region [⟨.box 1 (.t 0) 2, none⟩, ⟨.mv 2 (.c (.v (.bool false))), none⟩] ⟨[1], [(1, 1)]⟩) (.seq (.seq (.region [⟨.mv 3 (.c (.v (.int .i64 0))), none⟩] ⟨[1, 3], [(1, 1)]⟩) (.block 0 (f38_l1))) (.seq (.seq (.region [⟨.mv 9 (.c (.v (.int .i64 0))), none⟩] ⟨[1, 9], [(1, 1)]⟩) (.block 4 (f38_l3))) (.seq (.region [⟨.mv 2 (.c (.v (.bool true))), none⟩] ⟨[2], []⟩) (.ret)))), [.tmp 2]⟩
theorem f38_chk : chk Try.prog 38 [(0, ⟨[1], [(1, 1)]⟩), (1, ⟨[1, 3], [(1, 1)]⟩), (2, ⟨[1, 3, 15], [(1, 1)]⟩), (3, ⟨[1, 3], [(1, 1)]⟩), (4, ⟨[1, 3, 4], [(1, 1)]⟩), (5, ⟨[1, 3, 4, 5], [(1, 1)]⟩), (6, ⟨[1, 3, 4, 29], [(1, 1)]⟩), (7, ⟨[2], []⟩), (8, ⟨[1, 3, 4, 6], [(1, 1)]⟩), (9, ⟨[1, 3, 4, 6, 33], [(1, 1)]⟩), (10, ⟨[1, 3, 4, 6], [(1, 1)]⟩), (11, ⟨[1, 3, 4, 6, 8], [(1, 1)]⟩), (12, ⟨[1, 3, 4, 6, 63], [(1, 1)]⟩), (13, ⟨[2], []⟩), (14, ⟨[1, 9], [(1, 1)]⟩), (15, ⟨[1, 9, 68], [(1, 1)]⟩), (16, ⟨[1, 9], [(1, 1)]⟩), (17, ⟨[1, 9, 10], [(1, 1)]⟩), (18, ⟨[1, 9, 10, 72], [(1, 1)]⟩), (19, ⟨[1, 9, 10], [(1, 1)]⟩), (20, ⟨[1, 9, 10, 85], [(1, 1)]⟩), (21, ⟨[2], []⟩), (22, ⟨[2], []⟩)] [(0, ⟨[1], [(1, 1)]⟩), (1, ⟨[1, 3], []⟩), (2, ⟨[1, 3], [(1, 1)]⟩), (3, ⟨[1, 3, 4, 6], []⟩), (4, ⟨[], []⟩), (5, ⟨[1, 9], []⟩), (6, ⟨[1, 9], [(1, 1)]⟩), (7, ⟨[1, 9, 10], []⟩)] = some f38 := by kernel_rfl
/-- slots [0, 3]; objects [] -/
def f39_b1 : ICode := .seq (.seq (.region [⟨.mv 4 (.t 3), none⟩, ⟨.mv 5 (.t 0), none⟩, ⟨.len 6 true (.t 5), none⟩, ⟨.bin 7 false .lss (.t 4) (.t 6), none⟩] ⟨[0, 3, 7], []⟩) (.cond (.t 7) (.skip) (.seq (.gc ⟨[0], []⟩) (.exit 0)))) (.seq (.block 1 (.seq (.region [⟨.mv 10 (.t 0), none⟩, ⟨.mv 11 (.t 3), none⟩, ⟨.ixs 12 (.t 10) (.t 11), none⟩, ⟨.bin 13 false .lss (.t 12) (.c (.v (.int .u8 32))), none⟩, ⟨.mv 14 (.t 13), none⟩, ⟨.mv 15 (.t 0), some (14, false)⟩, ⟨.mv 16 (.t 3), some (14, false)⟩, ⟨.ixs 17 (.t 15) (.t 16), some (14, false)⟩, ⟨.bin 18 false .gtr (.t 17) (.c (.v (.int .u8 126))), some (14, false)⟩, ⟨.pick 19 (.t 14) (.c (.v (.bool true))) (.t 18), none⟩] ⟨[0, 3, 19], []⟩) (.cond (.t 19) (.seq (.region [⟨.mv 2 (.c (.v (.bool false))), none⟩] ⟨[2], []⟩) (.ret)) (.skip)))) (.region [⟨.mv 8 (.t 3), none⟩, ⟨.bin 9 false .add (.t 8) (.c (.v (.int .i64 1))), none⟩, ⟨.mv 3 (.t 9), none⟩] ⟨[0, 3], []⟩))
def f39_l1 : ICode := .loop f39_b1
theorem f39_l1_eq (C : Cs) (lo : Nat) (st : St) : E C lo f39_l1 st = seqK (E C lo f39_l1) (E C lo f39_b1 st) := E_loop C lo f39_b1 st
/-- tracery/traceryref04.MayLabel -/
def f39 : IFn := ⟨.seq (.region [⟨.mv 2 (.c (.v (.bool false))), none⟩] ⟨[0], []⟩) (.seq (.seq (.region [⟨.mv 3 (.c (.v (.int .i64 0))), none⟩] ⟨[0, 3], []⟩) (.block 0 (f39_l1))) (.seq (.region [⟨.mv 20 (.t 0), none⟩, ⟨.len 21 true (.t 20), none⟩, ⟨.bin 22 false .leq (.t 21) (.c (.v (.int .i64 16))), none⟩, ⟨.mv 2 (.t 22), none⟩] ⟨[2], []⟩) (.ret))), [.tmp 2]⟩
theorem f39_chk : chk Try.prog 39 [(0, ⟨[0], []⟩), (1, ⟨[0, 3], []⟩), (2, ⟨[0, 3, 7], []⟩), (3, ⟨[0, 3], []⟩), (4, ⟨[0, 3, 19], []⟩), (5, ⟨[2], []⟩), (6, ⟨[2], []⟩)] [(0, ⟨[0], []⟩), (1, ⟨[0, 3], []⟩)] = some f39 := by kernel_rfl
/-- tracery/traceryref04.MayAttr -/
def f40 : IFn := ⟨.seq (.region [⟨.mv 2 (.c (.v (.bool false))), none⟩] ⟨[0], []⟩) (.seq (.region [⟨.mv 3 (.t 0), none⟩, ⟨.bin 4 false .geq (.t 3) (.c (.v (.int .i64 (-1099511627776)))), none⟩, ⟨.mv 5 (.t 4), none⟩, ⟨.mv 6 (.t 0), some (5, true)⟩, ⟨.bin 7 false .leq (.t 6) (.c (.v (.int .i64 1099511627776))), some (5, true)⟩, ⟨.pick 8 (.t 5) (.t 7) (.c (.v (.bool false))), none⟩, ⟨.mv 2 (.t 8), none⟩] ⟨[2], []⟩) (.ret)), [.tmp 2]⟩
theorem f40_chk : chk Try.prog 40 [(0, ⟨[0], []⟩), (1, ⟨[2], []⟩)] [] = some f40 := by kernel_rfl
/-- slots [0, 1, 7, 8]; objects [] -/
def f41_b1 : ICode := .seq (.region [⟨.bin 9 false .lss (.t 8) (.t 7), none⟩] ⟨[0, 1, 7, 8, 9], []⟩) (.seq (.cond (.t 9) (.skip) (.seq (.gc ⟨[], []⟩) (.exit 0))) (.seq (.block 1 (.seq (.region [⟨.mv 10 (.t 8), none⟩, ⟨.mv 5 (.t 10), none⟩] ⟨[0, 1, 5, 7, 8], []⟩) (.seq (.region [⟨.mv 11 (.t 1), none⟩, ⟨.mv 12 (.t 0), none⟩, ⟨.mv 13 (.t 5), none⟩, ⟨.iaddr 14 (.t 12) (.t 13) 1, none⟩, ⟨.load 15 (.t 14) 1 false, none⟩, ⟨.call 16 (.t 11) [(.t 15)], none⟩] ⟨[0, 1, 5, 7, 8, 16], []⟩) (.cond (.t 16) (.seq (.region [⟨.mv 17 (.t 5), none⟩, ⟨.mv 4 (.t 17), none⟩] ⟨[4], []⟩) (.ret)) (.skip))))) (.region [⟨.bin 18 false .add (.t 8) (.c (.v (.int .i64 1))), none⟩, ⟨.mv 8 (.t 18), none⟩] ⟨[0, 1, 7, 8], []⟩)))
def f41_l1 : ICode := .loop f41_b1
theorem f41_l1_eq (C : Cs) (lo : Nat) (st : St) : E C lo f41_l1 st = seqK (E C lo f41_l1) (E C lo f41_b1 st) := E_loop C lo f41_b1 st
/-- slices.IndexFunc[[][]tracery/api.ID,[]tracery/api.ID] -/
def f41 : IFn := ⟨.seq (.region [⟨.mv 4 (.c (.v (.int .i64 0))), none⟩] ⟨[0, 1], []⟩) (.seq (.seq (.region [⟨.mv 6 (.t 0), none⟩, ⟨.len 7 false (.t 6), none⟩, ⟨.mv 8 (.c (.v (.int .i64 0))), none⟩] ⟨[0, 1, 7, 8], []⟩) (.block 0 (f41_l1))) (.seq (.region [⟨.mv 4 (.c (.v (.int .i64 (-1)))), none⟩] ⟨[4], []⟩) (.ret))), [.tmp 4]⟩
theorem f41_chk : chk Try.prog 41 [(0, ⟨[0, 1], []⟩), (1, ⟨[0, 1, 7, 8], []⟩), (2, ⟨[0, 1, 7, 8, 9], []⟩), (3, ⟨[0, 1, 5, 7, 8], []⟩), (4, ⟨[0, 1, 5, 7, 8, 16], []⟩), (5, ⟨[4], []⟩), (6, ⟨[0, 1, 7, 8], []⟩), (7, ⟨[4], []⟩)] [(0, ⟨[], []⟩), (1, ⟨[0, 1, 7, 8], []⟩)] = some f41 := by kernel_rfl
/-- slots [0, 3, 7, 8]; objects [3] -/
def f42_b1 : ICode := .seq (.region [⟨.bin 9 false .lss (.t 8) (.t 7), none⟩] ⟨[0, 3, 7, 8, 9], [(3, 3)]⟩) (.seq (.cond (.t 9) (.skip) (.seq (.gc ⟨[], []⟩) (.exit 0))) (.seq (.block 1 (.seq (.region [⟨.mv 10 (.t 8), none⟩, ⟨.mv 5 (.t 10), none⟩] ⟨[0, 3, 5, 7, 8], [(3, 3)]⟩) (.seq (.draw [⟨.load 11 (.t 3) 2 true, none⟩, ⟨.mv 12 (.t 0), none⟩, ⟨.mv 13 (.t 5), none⟩, ⟨.iaddr 14 (.t 12) (.t 13) 2, none⟩, ⟨.load 15 (.t 14) 2 true, none⟩, ⟨.eqs 16 false [.i, .i] (.t 11) (.t 15), none⟩] [0, 0, 0, 6, 14, 31] ⟨[0, 3, 5, 7, 8, 16], [(3, 3)]⟩) (.cond (.t 16) (.seq (.region [⟨.mv 17 (.t 5), none⟩, ⟨.mv 4 (.t 17), none⟩] ⟨[4], []⟩) (.ret)) (.skip))))) (.region [⟨.bin 18 false .add (.t 8) (.c (.v (.int .i64 1))), none⟩, ⟨.mv 8 (.t 18), none⟩] ⟨[0, 3, 7, 8], [(3, 3)]⟩)))
def f42_l1 : ICode := .loop f42_b1
theorem f42_l1_eq (C : Cs) (lo : Nat) (st : St) : E C lo f42_l1 st = seqK (E C lo f42_l1) (E C lo f42_b1 st) := E_loop C lo f42_b1 st
/-- slices.Index[[]tracery/api.ID,tracery/api.ID] -/
def f42 : IFn := ⟨.seq (.region [⟨.box 3 (.t 1) 2, none⟩, ⟨.mv 4 (.c (.v (.int .i64 0))), none⟩] ⟨[0, 3], [(3, 3)]⟩) (.seq (.seq (.region [⟨.mv 6 (.t 0), none⟩, ⟨.len 7 false (.t 6), none⟩, ⟨.mv 8 (.c (.v (.int .i64 0))), none⟩] ⟨[0, 3, 7, 8], [(3, 3)]⟩) (.block 0 (f42_l1))) (.seq (.region [⟨.mv 4 (.c (.v (.int .i64 (-1)))), none⟩] ⟨[4], []⟩) (.ret))), [.tmp 4]⟩
theorem f42_chk : chk Try.prog 42 [(0, ⟨[0, 3], [(3, 3)]⟩), (1, ⟨[0, 3, 7, 8], [(3, 3)]⟩), (2, ⟨[0, 3, 7, 8, 9], [(3, 3)]⟩), (3, ⟨[0, 3, 5, 7, 8], [(3, 3)]⟩), (4, ⟨[0, 3, 5, 7, 8, 16], [(3, 3)]⟩), (5, ⟨[4], []⟩), (6, ⟨[0, 3, 7, 8], [(3, 3)]⟩), (7, ⟨[4], []⟩)] [(0, ⟨[], []⟩), (1, ⟨[0, 3, 7, 8], []⟩)] = some f42 := by kernel_rfl
/-- tracery/traceryref01.Order -/
def f43 : IFn := ⟨.seq (.region [⟨.box 2 (.t 0) 2, none⟩, ⟨.box 3 (.t 1) 2, none⟩, ⟨.mv 4 (.c (.v (.int .i64 0))), none⟩] ⟨[2, 3], [(2, 2), (3, 3)]⟩) (.seq (.seq (.region [⟨.load 5 (.t 2) 2 true, none⟩, ⟨.load 6 (.t 3) 2 true, none⟩, ⟨.eqs 7 false [.i, .i] (.t 5) (.t 6), none⟩] ⟨[2, 3, 7], [(2, 2), (3, 3)]⟩) (.cond (.t 7) (.seq (.region [⟨.mv 4 (.c (.v (.int .i64 0))), none⟩] ⟨[4], []⟩) (.ret)) (.skip))) (.seq (.seq (.region [⟨.faddr 8 (.t 2) 0, none⟩, ⟨.load 9 (.t 8) 1 false, none⟩, ⟨.faddr 10 (.t 3) 0, none⟩, ⟨.load 11 (.t 10) 1 false, none⟩, ⟨.bin 12 false .lss (.t 9) (.t 11), none⟩, ⟨.mv 13 (.t 12), none⟩, ⟨.faddr 14 (.t 2) 0, some (13, false)⟩, ⟨.load 15 (.t 14) 1 false, some (13, false)⟩, ⟨.faddr 16 (.t 3) 0, some (13, false)⟩, ⟨.load 17 (.t 16) 1 false, some (13, false)⟩, ⟨.bin 18 false .eql (.t 15) (.t 17), some (13, false)⟩, ⟨.mv 19 (.t 18), some (13, false)⟩, ⟨.faddr 20 (.t 2) 1, some (19, true)⟩, ⟨.load 21 (.t 20) 1 false, some (19, true)⟩, ⟨.faddr 22 (.t 3) 1, some (19, true)⟩, ⟨.load 23 (.t 22) 1 false, some (19, true)⟩, ⟨.bin 24 false .lss (.t 21) (.t 23), some (19, true)⟩, ⟨.pick 25 (.t 19) (.t 24) (.c (.v (.bool false))), some (13, false)⟩, ⟨.pick 26 (.t 13) (.c (.v (.bool true))) (.t 25), none⟩] ⟨[26], []⟩) (.cond (.t 26) (.seq (.region [⟨.mv 4 (.c (.v (.int .i64 (-1)))), none⟩] ⟨[4], []⟩) (.ret)) (.skip))) (.seq (.region [⟨.mv 4 (.c (.v (.int .i64 1))), none⟩] ⟨[4], []⟩) (.ret)))), [.tmp 4]⟩
theorem f43_chk : chk Try.prog 43 [(0, ⟨[2, 3], [(2, 2), (3, 3)]⟩), (1, ⟨[2, 3, 7], [(2, 2), (3, 3)]⟩), (2, ⟨[4], []⟩), (3, ⟨[26], []⟩), (4, ⟨[4], []⟩), (5, ⟨[4], []⟩)] [] = some f43 := by kernel_rfl
/-- tracery/traceryref01.May -/
def f44 : IFn := ⟨.seq (.region [⟨.box 1 (.t 0) 2, none⟩, ⟨.mv 2 (.c (.v (.bool false))), none⟩] ⟨[1], [(1, 1)]⟩) (.seq (.region [⟨.faddr 3 (.t 1) 0, none⟩, ⟨.load 4 (.t 3) 1 false, none⟩, ⟨.bin 5 false .geq (.t 4) (.c (.v (.int .i64 1))), none⟩, ⟨.mv 6 (.t 5), none⟩, ⟨.faddr 7 (.t 1) 0, some (6, true)⟩, ⟨.load 8 (.t 7) 1 false, some (6, true)⟩, ⟨.bin 9 false .leq (.t 8) (.c (.v (.int .i64 8))), some (6, true)⟩, ⟨.pick 10 (.t 6) (.t 9) (.c (.v (.bool false))), none⟩, ⟨.mv 11 (.t 10), none⟩, ⟨.faddr 12 (.t 1) 1, some (11, true)⟩, ⟨.load 13 (.t 12) 1 false, some (11, true)⟩, ⟨.bin 14 false .geq (.t 13) (.c (.v (.int .i64 1))), some (11, true)⟩, ⟨.pick 15 (.t 11) (.t 14) (.c (.v (.bool false))), none⟩, ⟨.mv 16 (.t 15), none⟩, ⟨.faddr 17 (.t 1) 1, some (16, true)⟩, ⟨.load 18 (.t 17) 1 false, some (16, true)⟩, ⟨.bin 19 false .leq (.t 18) (.c (.v (.int .i64 1048576))), some (16, true)⟩, ⟨.pick 20 (.t 16) (.t 19) (.c (.v (.bool false))), none⟩, ⟨.mv 2 (.t 20), none⟩] ⟨[2], []⟩) (.ret)), [.tmp 2]⟩
theorem f44_chk : chk Try.prog 44 [(0, ⟨[1], [(1, 1)]⟩), (1, ⟨[2], []⟩)] [] = some f44 := by kernel_rfl
/-- slots [0, 1, 5]; objects [] -/
def f45_b1 : ICode := .seq (.seq (.region [⟨.mv 11 (.t 5), none⟩, ⟨.mv 12 (.t 0), none⟩, ⟨.len 13 false (.t 12), none⟩, ⟨.bin 14 false .lss (.t 11) (.t 13), none⟩] ⟨[0, 1, 5, 14], []⟩) (.cond (.t 14) (.skip) (.seq (.gc ⟨[], []⟩) (.exit 0)))) (.seq (.block 1 (.seq (.draw [⟨.mv 17 (.t 0), none⟩, ⟨.mv 18 (.t 5), none⟩, ⟨.iaddr 19 (.t 17) (.t 18) 3, none⟩, ⟨.load 20 (.t 19) 3 true, none⟩, ⟨.mv 21 (.t 1), none⟩, ⟨.mv 22 (.t 5), none⟩, ⟨.iaddr 23 (.t 21) (.t 22) 3, none⟩, ⟨.load 24 (.t 23) 3 true, none⟩, ⟨.eqs 25 true [.i, .i, .i] (.t 20) (.t 24), none⟩] [0, 0, 3, 7, 0, 0, 48, 112, 255] ⟨[0, 1, 5, 25], []⟩) (.cond (.t 25) (.seq (.region [⟨.mv 4 (.c (.v (.bool false))), none⟩] ⟨[4], []⟩) (.ret)) (.skip)))) (.region [⟨.mv 15 (.t 5), none⟩, ⟨.bin 16 false .add (.t 15) (.c (.v (.int .i64 1))), none⟩, ⟨.mv 5 (.t 16), none⟩] ⟨[0, 1, 5], []⟩))
def f45_l1 : ICode := .loop f45_b1
theorem f45_l1_eq (C : Cs) (lo : Nat) (st : St) : E C lo f45_l1 st = seqK (E C lo f45_l1) (E C lo f45_b1 st) := E_loop C lo f45_b1 st
/-- tracery/traceryref03.Darts -/
def f45 : IFn := ⟨.seq (.region [⟨.mv 4 (.c (.v (.bool false))), none⟩] ⟨[0, 1], []⟩) (.seq (.seq (.region [⟨.mv 6 (.t 0), none⟩, ⟨.len 7 false (.t 6), none⟩, ⟨.mv 8 (.t 1), none⟩, ⟨.len 9 false (.t 8), none⟩, ⟨.bin 10 false .neq (.t 7) (.t 9), none⟩] ⟨[0, 1, 10], []⟩) (.cond (.t 10) (.seq (.region [⟨.mv 4 (.c (.v (.bool false))), none⟩] ⟨[4], []⟩) (.ret)) (.skip))) (.seq (.seq (.region [⟨.mv 5 (.c (.v (.int .i64 0))), none⟩] ⟨[0, 1, 5], []⟩) (.block 0 (f45_l1))) (.seq (.region [⟨.mv 4 (.c (.v (.bool true))), none⟩] ⟨[4], []⟩) (.ret)))), [.tmp 4]⟩
theorem f45_chk : chk Try.prog 45 [(0, ⟨[0, 1], []⟩), (1, ⟨[0, 1, 10], []⟩), (2, ⟨[4], []⟩), (3, ⟨[0, 1, 5], []⟩), (4, ⟨[0, 1, 5, 14], []⟩), (5, ⟨[0, 1, 5], []⟩), (6, ⟨[0, 1, 5, 25], []⟩), (7, ⟨[4], []⟩), (8, ⟨[4], []⟩)] [(0, ⟨[], []⟩), (1, ⟨[0, 1, 5], []⟩)] = some f45 := by kernel_rfl
/-- slots [2, 3, 5, 6, 7]; objects [2, 3] -/
def f46_b2 : ICode := .seq (.seq (.region [⟨.mv 15 (.t 7), none⟩, ⟨.faddr 16 (.t 2) 0, none⟩, ⟨.load 17 (.t 16) 1 false, none⟩, ⟨.mv 18 (.t 6), none⟩, ⟨.iaddr 19 (.t 17) (.t 18) 5, none⟩, ⟨.faddr 20 (.t 19) 2, none⟩, ⟨.load 21 (.t 20) 1 false, none⟩, ⟨.len 22 false (.t 21), none⟩, ⟨.bin 23 false .lss (.t 15) (.t 22), none⟩] ⟨[2, 3, 5, 6, 7, 23], [(2, 2), (3, 3)]⟩) (.cond (.t 23) (.skip) (.seq (.gc ⟨[2, 3, 5, 6], [(2, 2), (3, 3)]⟩) (.exit 2)))) (.seq (.block 3 (.seq (.draw [⟨.faddr 26 (.t 2) 0, none⟩, ⟨.load 27 (.t 26) 1 false, none⟩, ⟨.mv 28 (.t 6), none⟩, ⟨.iaddr 29 (.t 27) (.t 28) 5, none⟩, ⟨.faddr 30 (.t 29) 2, none⟩, ⟨.load 31 (.t 30) 1 false, none⟩, ⟨.mv 32 (.t 7), none⟩, ⟨.iaddr 33 (.t 31) (.t 32) 3, none⟩, ⟨.load 34 (.t 33) 3 true, none⟩, ⟨.load 35 (.t 3) 3 true, none⟩, ⟨.eqs 36 false [.i, .i, .i] (.t 34) (.t 35), none⟩] [0, 1, 0, 7, 15, 31, 0, 127, 255, 0, 1023] ⟨[2, 3, 5, 6, 7, 36], [(2, 2), (3, 3)]⟩) (.cond (.t 36) (.region [⟨.mv 37 (.t 5), none⟩, ⟨.bin 38 false .add (.t 37) (.c (.v (.int .i64 1))), none⟩, ⟨.mv 5 (.t 38), none⟩] ⟨[2, 3, 5, 6, 7], [(2, 2), (3, 3)]⟩) (.skip)))) (.region [⟨.mv 24 (.t 7), none⟩, ⟨.bin 25 false .add (.t 24) (.c (.v (.int .i64 1))), none⟩, ⟨.mv 7 (.t 25), none⟩] ⟨[2, 3, 5, 6, 7], [(2, 2), (3, 3)]⟩))
def f46_l2 : ICode := .loop f46_b2
theorem f46_l2_eq (C : Cs) (lo : Nat) (st : St) : E C lo f46_l2 st = seqK (E C lo f46_l2) (E C lo f46_b2 st) := E_loop C lo f46_b2 st
/-- slots [2, 3, 5, 6]; objects [2, 3] -/
def f46_b1 : ICode := .seq (.seq (.region [⟨.mv 8 (.t 6), none⟩, ⟨.faddr 9 (.t 2) 0, none⟩, ⟨.load 10 (.t 9) 1 false, none⟩, ⟨.len 11 false (.t 10), none⟩, ⟨.bin 12 false .lss (.t 8) (.t 11), none⟩] ⟨[2, 3, 5, 6, 12], [(2, 2), (3, 3)]⟩) (.cond (.t 12) (.skip) (.seq (.gc ⟨[5], []⟩) (.exit 0)))) (.seq (.block 1 (.seq (.region [⟨.mv 7 (.c (.v (.int .i64 0))), none⟩] ⟨[2, 3, 5, 6, 7], [(2, 2), (3, 3)]⟩) (.block 2 (f46_l2)))) (.region [⟨.mv 13 (.t 6), none⟩, ⟨.bin 14 false .add (.t 13) (.c (.v (.int .i64 1))), none⟩, ⟨.mv 6 (.t 14), none⟩] ⟨[2, 3, 5, 6], [(2, 2), (3, 3)]⟩))
def f46_l1 : ICode := .loop f46_b1
theorem f46_l1_eq (C : Cs) (lo : Nat) (st : St) : E C lo f46_l1 st = seqK (E C lo f46_l1) (E C lo f46_b1 st) := E_loop C lo f46_b1 st
/-- tracery/traceryref04.times -/
def f46 : IFn := ⟨.seq (.region [⟨.box 2 (.t 0) 2, none⟩, ⟨.box 3 (.t 1) 3, none⟩, ⟨.mv 4 (.c (.v (.int .i64 0))), none⟩] ⟨[2, 3], [(2, 2), (3, 3)]⟩) (.seq (.region [⟨.mv 5 (.c (.v (.int .i64 0))), none⟩] ⟨[2, 3, 5], [(2, 2), (3, 3)]⟩) (.seq (.seq (.region [⟨.mv 6 (.c (.v (.int .i64 0))), none⟩] ⟨[2, 3, 5, 6], [(2, 2), (3, 3)]⟩) (.block 0 (f46_l1))) (.seq (.region [⟨.mv 39 (.t 5), none⟩, ⟨.mv 4 (.t 39), none⟩] ⟨[4], []⟩) (.ret)))), [.tmp 4]⟩
theorem f46_chk : chk Try.prog 46 [(0, ⟨[2, 3], [(2, 2), (3, 3)]⟩), (1, ⟨[2, 3, 5], [(2, 2), (3, 3)]⟩), (2, ⟨[2, 3, 5, 6], [(2, 2), (3, 3)]⟩), (3, ⟨[2, 3, 5, 6, 12], [(2, 2), (3, 3)]⟩), (4, ⟨[2, 3, 5, 6], [(2, 2), (3, 3)]⟩), (5, ⟨[2, 3, 5, 6, 7], [(2, 2), (3, 3)]⟩), (6, ⟨[2, 3, 5, 6, 7, 23], [(2, 2), (3, 3)]⟩), (7, ⟨[2, 3, 5, 6, 7], [(2, 2), (3, 3)]⟩), (8, ⟨[2, 3, 5, 6, 7, 36], [(2, 2), (3, 3)]⟩), (9, ⟨[2, 3, 5, 6, 7], [(2, 2), (3, 3)]⟩), (10, ⟨[4], []⟩)] [(0, ⟨[5], []⟩), (1, ⟨[2, 3, 5, 6], []⟩), (2, ⟨[2, 3, 5, 6], [(2, 2), (3, 3)]⟩), (3, ⟨[2, 3, 5, 6, 7], []⟩)] = some f46 := by kernel_rfl
def tab : List (Nat × IFn) := [(3, f3), (4, f4), (5, f5), (6, f6), (7, f7), (8, f8), (9, f9), (10, f10), (12, f12), (14, f14), (15, f15), (16, f16), (17, f17), (18, f18), (19, f19), (20, f20), (21, f21), (22, f22), (23, f23), (24, f24), (25, f25), (26, f26), (27, f27), (28, f28), (29, f29), (30, f30), (31, f31), (32, f32), (33, f33), (34, f34), (35, f35), (36, f36), (37, f37), (38, f38), (39, f39), (40, f40), (41, f41), (42, f42), (43, f43), (44, f44), (45, f45), (46, f46)]
def lookF : List (Nat × IFn) → Nat → Option FEnt
  | [], _ => none
  | (i, fn) :: r, f => if i = f then some (.code fn) else lookF r f
def lookE : List (Nat × FEnt) → Nat → Option FEnt
  | [], _ => none
  | (i, e) :: r, f => if i = f then some e else lookE r f
noncomputable def F : FuncId → Option FEnt := fun f => match lookE exts f with
  | some e => some e
  | none => lookF tab f
theorem tab_ok : ∀ x ∈ tab, ∃ A B, chk Try.prog x.1 A B = some x.2 :=
  List.forall_mem_cons.2 ⟨⟨_, _, f3_chk⟩, List.forall_mem_cons.2 ⟨⟨_, _, f4_chk⟩, List.forall_mem_cons.2 ⟨⟨_, _, f5_chk⟩, List.forall_mem_cons.2 ⟨⟨_, _, f6_chk⟩, List.forall_mem_cons.2 ⟨⟨_, _, f7_chk⟩, List.forall_mem_cons.2 ⟨⟨_, _, f8_chk⟩, List.forall_mem_cons.2 ⟨⟨_, _, f9_chk⟩, List.forall_mem_cons.2 ⟨⟨_, _, f10_chk⟩, List.forall_mem_cons.2 ⟨⟨_, _, f12_chk⟩, List.forall_mem_cons.2 ⟨⟨_, _, f14_chk⟩, List.forall_mem_cons.2 ⟨⟨_, _, f15_chk⟩, List.forall_mem_cons.2 ⟨⟨_, _, f16_chk⟩, List.forall_mem_cons.2 ⟨⟨_, _, f17_chk⟩, List.forall_mem_cons.2 ⟨⟨_, _, f18_chk⟩, List.forall_mem_cons.2 ⟨⟨_, _, f19_chk⟩, List.forall_mem_cons.2 ⟨⟨_, _, f20_chk⟩, List.forall_mem_cons.2 ⟨⟨_, _, f21_chk⟩, List.forall_mem_cons.2 ⟨⟨_, _, f22_chk⟩, List.forall_mem_cons.2 ⟨⟨_, _, f23_chk⟩, List.forall_mem_cons.2 ⟨⟨_, _, f24_chk⟩, List.forall_mem_cons.2 ⟨⟨_, _, f25_chk⟩, List.forall_mem_cons.2 ⟨⟨_, _, f26_chk⟩, List.forall_mem_cons.2 ⟨⟨_, _, f27_chk⟩, List.forall_mem_cons.2 ⟨⟨_, _, f28_chk⟩, List.forall_mem_cons.2 ⟨⟨_, _, f29_chk⟩, List.forall_mem_cons.2 ⟨⟨_, _, f30_chk⟩, List.forall_mem_cons.2 ⟨⟨_, _, f31_chk⟩, List.forall_mem_cons.2 ⟨⟨_, _, f32_chk⟩, List.forall_mem_cons.2 ⟨⟨_, _, f33_chk⟩, List.forall_mem_cons.2 ⟨⟨_, _, f34_chk⟩, List.forall_mem_cons.2 ⟨⟨_, _, f35_chk⟩, List.forall_mem_cons.2 ⟨⟨_, _, f36_chk⟩, List.forall_mem_cons.2 ⟨⟨_, _, f37_chk⟩, List.forall_mem_cons.2 ⟨⟨_, _, f38_chk⟩, List.forall_mem_cons.2 ⟨⟨_, _, f39_chk⟩, List.forall_mem_cons.2 ⟨⟨_, _, f40_chk⟩, List.forall_mem_cons.2 ⟨⟨_, _, f41_chk⟩, List.forall_mem_cons.2 ⟨⟨_, _, f42_chk⟩, List.forall_mem_cons.2 ⟨⟨_, _, f43_chk⟩, List.forall_mem_cons.2 ⟨⟨_, _, f44_chk⟩, List.forall_mem_cons.2 ⟨⟨_, _, f45_chk⟩, List.forall_mem_cons.2 ⟨⟨_, _, f46_chk⟩, fun _ h => by cases h⟩⟩⟩⟩⟩⟩⟩⟩⟩⟩⟩⟩⟩⟩⟩⟩⟩⟩⟩⟩⟩⟩⟩⟩⟩⟩⟩⟩⟩⟩⟩⟩⟩⟩⟩⟩⟩⟩⟩⟩⟩⟩
theorem lookF_ok : ∀ {l : List (Nat × IFn)}, (∀ x ∈ l, ∃ A B, chk Try.prog x.1 A B = some x.2) → ∀ f e, lookF l f = some e → EntOK Try.prog f e
  | [], _, f, e, h => by cases h
  | (i, fn) :: r, hl, f, e, h => by
    simp only [lookF] at h
    split at h
    · rename_i hi
      subst hi
      obtain rfl := Option.some.inj h
      exact hl (i, fn) (by simp)
    · exact lookF_ok (fun x hx => hl x (by simp [hx])) f e h
theorem lookE_ok : ∀ {l : List (Nat × FEnt)}, (∀ x ∈ l, EntOK Try.prog x.1 x.2) → ∀ f e, lookE l f = some e → EntOK Try.prog f e
  | [], _, f, e, h => by cases h
  | (i, x) :: r, hl, f, e, h => by
    simp only [lookE] at h
    split at h
    · rename_i hi
      subst hi
      obtain rfl := Option.some.inj h
      exact hl (i, x) (by simp)
    · exact lookE_ok (fun x hx => hl x (by simp [hx])) f e h
theorem goodC : Good Try.prog (cs F) := call_good F (Checked.mixed Try.checked) fun f e h => by
  unfold F at h
  split at h
  · rename_i x hx
    obtain rfl := Option.some.inj h
    exact lookE_ok exts_ok f _ hx
  · exact lookF_ok tab_ok f e h
theorem good : ∀ f args r, call F f args = some r → Sound Try.prog f args r := goodC.1
end Go.Proofs.Ytfhijlhiifkkhaa.Sx
namespace Go.Proofs.Ytfhijlhiifkkhaa.Sx
open Go
theorem c_r01_May (a b : Int) : call F 44 [.agg [.int .i64 a, .int .i64 b]] = some (.bool (mayI ⟨a, b⟩)) := by
  rw [call_code F (show F 44 = some (.code f44) from rfl)]
  simp only [f44, go_sem, reduceIte, reduceCtorEq, Nat.reduceEqDiff, Nat.reduceAdd, Nat.reduceLeDiff, List.length_cons, List.length_nil]
  iterate 3 all_goals (try (split <;> (rename_i h; (try simp only [Bool.not_eq_true] at h); simp only [*, go_sem, reduceIte, Nat.reduceEqDiff, Nat.reduceAdd, Nat.reduceLeDiff, List.length_cons, List.length_nil])))
  all_goals simp_all [mayI]
  all_goals omega
theorem c_r01_Order (a b c d : Int) : call F 43 [.agg [.int .i64 a, .int .i64 b], .agg [.int .i64 c, .int .i64 d]] = some (.int .i64 (ordI ⟨a, b⟩ ⟨c, d⟩)) := by
  rw [call_code F (show F 43 = some (.code f43) from rfl)]
  simp only [f43, go_sem, reduceIte, reduceCtorEq, Nat.reduceEqDiff, Nat.reduceAdd, List.length_cons, List.length_nil, Int.reduceNeg]
  iterate 6 all_goals (try (split <;> (rename_i h; (try simp only [Bool.not_eq_true] at h); simp only [*, go_sem, reduceIte, Nat.reduceEqDiff, Nat.reduceAdd, Nat.reduceLeDiff, List.length_cons, List.length_nil, Int.reduceNeg])))
  all_goals simp_all [ordI]
  all_goals omega
theorem c_r01_OrderDart (a b e c d f : Int) : call F 35 [.agg [.int .i64 a, .int .i64 b, .int .i64 e], .agg [.int .i64 c, .int .i64 d, .int .i64 f]] = some (.int .i64 (ordD ⟨⟨a, b⟩, e⟩ ⟨⟨c, d⟩, f⟩)) := by
  rw [← ordD_or]
  rw [call_code F (show F 35 = some (.code f35) from rfl)]
  simp only [f35, c_r01_Order, go_sem, reduceIte, reduceCtorEq, Nat.reduceEqDiff, Nat.reduceAdd, Nat.reduceMul, Nat.reduceLeDiff, List.length_cons, List.length_nil, Int.reduceNeg, ne_eq]
  iterate 6 all_goals (try (split <;> (rename_i h; (try simp only [Bool.not_eq_true] at h); simp only [*, go_sem, reduceIte, Nat.reduceEqDiff, Nat.reduceAdd, List.length_cons, List.length_nil, Int.reduceNeg])))
  all_goals simp_all [orZ, cmpZ]
  all_goals omega
end Go.Proofs.Ytfhijlhiifkkhaa.Sx
namespace Go.Proofs.Ytfhijlhiifkkhaa.Sx
open Go
theorem sub_bound {i n : Nat} (h : i < n) (hn : n ≤ 5864062014634) : n ≤ 9223372036854775807 := by omega
theorem i_r03_Index (l : List Dart) (x : Dart) (hl : Fits l) : call F 34 [.sl .shared 3 (rowsBy Dart.c l), .agg [.int .i64 x.e.s, .int .i64 x.e.n, .int .i64 x.d]] = some (.int .i64 (idx l x)) := by
  have hl := hl.le
  have S : ∀ r, E (cs F) 0 f34_b1 (⟨(upd (upd (upd Sx.e0 5 (.v (.int .i64 ((l.idxOf x : Int))))) 3 (.p 3 0)) 0 (.v (.sl .shared 3 (rowsBy Dart.c l)))), (upd Sx.h0 3 (some (.var false [(.v (.int .i64 (x.e.s))), (.v (.int .i64 (x.e.n))), (.v (.int .i64 (x.d)))])))⟩ : St) = some r → r.1 ≠ .norm →
      E (cs F) 0 f34_l1 (⟨(upd (upd (upd Sx.e0 5 (.v (.int .i64 (0)))) 3 (.p 3 0)) 0 (.v (.sl .shared 3 (rowsBy Dart.c l)))), (upd Sx.h0 3 (some (.var false [(.v (.int .i64 (x.e.s))), (.v (.int .i64 (x.e.n))), (.v (.int .i64 (x.d)))])))⟩ : St) = some r := by
    intro r hf hr
    refine loop_to (b := f34_b1) (fun i => (⟨(upd (upd (upd Sx.e0 5 (.v (.int .i64 ((i : Int))))) 3 (.p 3 0)) 0 (.v (.sl .shared 3 (rowsBy Dart.c l)))), (upd Sx.h0 3 (some (.var false [(.v (.int .i64 (x.e.s))), (.v (.int .i64 (x.e.n))), (.v (.int .i64 (x.d)))])))⟩ : St)) (l.idxOf x) ?_ hf hr
    intro i hi
    have h1 : i < l.length := Nat.lt_of_lt_of_le hi (idxOf_le l x)
    have hne := dec_f (idxOf_ne hi h1)
    simp only [f34_b1, dec_lt h1, rowsBy_get Dart.c h1, Dart.c, hne, wrap_succ h1 (show l.length ≤ 9223372036854775807 by omega), go_sem, reduceIte, reduceCtorEq, Nat.reduceEqDiff, Nat.reduceAdd, List.length_cons, List.length_nil]
  by_cases hm : x ∈ l
  · obtain ⟨hlt, he⟩ := idxOf_at hm
    have hd := dec_t he
    have := S _ (by simp only [f34_b1, dec_lt hlt, rowsBy_get Dart.c hlt, Dart.c, hd, go_sem, reduceIte, reduceCtorEq, Nat.reduceEqDiff, Nat.reduceAdd, List.length_cons, List.length_nil]; rfl) (by simp)
    rw [idx_pos hm]
    rw [call_code F (show F 34 = some (.code f34) from rfl)]
    simp only [f34, this, go_sem, reduceIte, reduceCtorEq, Nat.reduceEqDiff, Nat.reduceAdd, List.length_cons, List.length_nil, Int.reduceNeg]
  · have e := idxOf_not hm
    have := S _ (by rw [e]
                    simp only [f34_b1, dec_ge (Nat.le_refl l.length), go_sem, reduceIte, reduceCtorEq, Nat.reduceEqDiff]
                    rfl) (by simp)
    rw [idx_neg hm]
    rw [call_code F (show F 34 = some (.code f34) from rfl)]
    simp only [f34, this, go_sem, reduceIte, reduceCtorEq, Nat.reduceEqDiff, Nat.reduceAdd, List.length_cons, List.length_nil, Int.reduceNeg]
theorem c_r03_Index (l : List Dart) (a b c : Int) (hl : Fits l) : call F 34 [.sl .shared 3 (rowsBy Dart.c l), .agg [.int .i64 a, .int .i64 b, .int .i64 c]] = some (.int .i64 (idx l ⟨⟨a, b⟩, c⟩)) := i_r03_Index l ⟨⟨a, b⟩, c⟩ hl
/-- the least dart -/
def minFrom (x : Dart) (l : List Dart) : Dart := l.foldl (fun m y => if ordD y m < 0 then y else m) x
theorem minFrom_snoc (x : Dart) (l : List Dart) (y : Dart) : minFrom x (l ++ [y]) = if ordD y (minFrom x l) < 0 then y else minFrom x l := by unfold minFrom; rw [List.foldl_append]; rfl
def minD : List Dart → Dart
  | [] => Dart0
  | x :: l => minFrom x l
theorem flat_snoc {α : Type} {l : List (List α)} {i : Nat} (hi : i < l.length) : (l.take (i + 1)).flatten = (l.take i).flatten ++ l[i] := by
  rw [List.take_succ_eq_append_getElem hi, List.flatten_append, List.flatten_cons, List.flatten_nil, List.append_nil]
def turn (l : List Dart) : List Dart := l.drop (l.idxOf (minD l)) ++ l.take (l.idxOf (minD l))
theorem minFrom_mem (x : Dart) (l : List Dart) : minFrom x l ∈ x :: l := by
  unfold minFrom
  induction l generalizing x with
  | nil => simp
  | cons y l ih =>
    rw [List.foldl_cons]
    have := ih (if ordD y x < 0 then y else x)
    split at this <;> rename_i h <;> simp only [List.mem_cons] at this ⊢ <;> (simp only [h, if_true, if_false]; rcases this with h | h <;> simp [h])
theorem minD_mem {l : List Dart} (h : l ≠ []) : minD l ∈ l := by
  cases l with
  | nil => exact absurd rfl h
  | cons x l => exact minFrom_mem x l
theorem turn_length (l : List Dart) : (turn l).length = l.length := by
  unfold turn
  simp only [List.length_append, List.length_drop, List.length_take]
  have := idxOf_le l (minD l)
  omega
@[go_sem] theorem fits_turn {l : List Dart} (h : Fits l) : Fits (turn l) := by unfold Fits; rw [turn_length]; exact h
def byD (l : List Dart) (d : Dart) (n : Nat) : Dart := if d ∈ l then l.getD ((l.idxOf d + n) % l.length) Dart0 else Dart0
def nextD (l : List Dart) (d : Dart) : Dart := byD l d 1
def prevD (l : List Dart) (d : Dart) : Dart := byD l d (l.length - 1)
theorem tmod_nat {a b : Nat} : ((a : Int)).tmod (b : Int) = ((a % b : Nat) : Int) := by
  rw [Int.tmod_eq_emod_of_nonneg (by omega)]; omega
def dartT (x : Dart) : TV := .agg [.int .i64 x.e.s, .int .i64 x.e.n, .int .i64 x.d]
theorem first_diff {α : Type} [DecidableEq α] : ∀ (l m : List α), l.length = m.length → l ≠ m → ∃ k, ∃ (h1 : k < l.length) (h2 : k < m.length), (∀ i (h : i < k), l[i] = m[i]) ∧ l[k] ≠ m[k]
  | [], [], _, h => absurd rfl h
  | [], _ :: _, h, _ => by simp at h
  | _ :: _, [], h, _ => by simp at h
  | a :: l, b :: m, hl, hne => by
    by_cases hab : a = b
    · subst hab
      obtain ⟨k, h1, h2, h3, h4⟩ := first_diff l m (by simpa using hl) (fun e => hne (by rw [e]))
      refine ⟨k + 1, by simp; omega, by simp; omega, fun i hi => ?_, by simpa using h4⟩
      cases i with
      | zero => rfl
      | succ i => simpa using h3 i (by omega)
    · exact ⟨0, by simp, by simp, fun i hi => absurd hi (Nat.not_lt_zero _), by simpa using hab⟩
@[go_sem] theorem darts_snoc (l : List Dart) (x : Dart) : rowsBy Dart.c l ++ [[.int .i64 x.e.s, .int .i64 x.e.n, .int .i64 x.d]] = rowsBy Dart.c (l ++ [x]) := rowsBy_snoc Dart.c l x
@[go_sem] theorem darts_one (x : Dart) : [[.int .i64 x.e.s, .int .i64 x.e.n, .int .i64 x.d]] = rowsBy Dart.c [x] := rfl
theorem len_eq {n m : Nat} (h : n = m) : decide (¬ ((n : Int) = (m : Int))) = false := by simp; omega
theorem len_ne {n m : Nat} (h : n ≠ m) : decide (¬ ((n : Int) = (m : Int))) = true := by simp; omega
theorem c_r03_Darts (l m : List Dart) (hl : Fits l) : call F 45 [.sl .shared 3 (rowsBy Dart.c l), .sl .shared 3 (rowsBy Dart.c m)] = some (.bool (decide (l = m))) := by
  have hl := hl.le
  by_cases hlen : l.length = m.length
  · have he := len_eq hlen
    have S : ∀ (k : Nat) (hk : k ≤ l.length) (r : Ex × St), (∀ i (h : i < k) (h1 : i < l.length) (h2 : i < m.length), l[i] = m[i]) →
        E (cs F) 0 f45_b1 (⟨(upd (upd (upd Sx.e0 5 (.v (.int .i64 ((k : Int))))) 1 (.v (.sl .shared 3 (rowsBy Dart.c m)))) 0 (.v (.sl .shared 3 (rowsBy Dart.c l)))), Sx.h0⟩ : St) = some r → r.1 ≠ .norm →
        E (cs F) 0 f45_l1 (⟨(upd (upd (upd Sx.e0 5 (.v (.int .i64 (0)))) 1 (.v (.sl .shared 3 (rowsBy Dart.c m)))) 0 (.v (.sl .shared 3 (rowsBy Dart.c l)))), Sx.h0⟩ : St) = some r := by
      intro k hk r hsame hf hr
      refine loop_to (b := f45_b1) (fun i => (⟨(upd (upd (upd Sx.e0 5 (.v (.int .i64 ((i : Int))))) 1 (.v (.sl .shared 3 (rowsBy Dart.c m)))) 0 (.v (.sl .shared 3 (rowsBy Dart.c l)))), Sx.h0⟩ : St)) k ?_ hf hr
      intro i hi
      have h1 : i < l.length := by omega
      have h2 : i < m.length := by omega
      have hd := dec_t (hsame i hi h1 h2)
      simp only [f45_b1, dec_lt h1, rowsBy_get Dart.c h1, rowsBy_get Dart.c h2, Dart.c, hd, wrap_succ h1 (show l.length ≤ 9223372036854775807 by omega), go_sem, reduceIte, reduceCtorEq, Nat.reduceEqDiff, Nat.reduceAdd, List.length_cons, List.length_nil]
    by_cases hlm : l = m
    · have := S l.length (Nat.le_refl _) _ (fun i _ h1 h2 => by subst hlm; rfl) (by simp only [f45_b1, dec_ge (Nat.le_refl l.length), go_sem, reduceIte, reduceCtorEq, Nat.reduceEqDiff]; rfl) (by simp)
      rw [dec_t hlm]
      rw [call_code F (show F 45 = some (.code f45) from rfl)]
      simp only [f45, he, this, go_sem, reduceIte, reduceCtorEq, Nat.reduceEqDiff, Nat.reduceAdd, ne_eq]
    · obtain ⟨k, h1, h2, h3, h4⟩ := first_diff l m hlen hlm
      have hd := dec_f h4
      have := S k (by omega) _ (fun i hi _ _ => h3 i hi) (by simp only [f45_b1, dec_lt h1, rowsBy_get Dart.c h1, rowsBy_get Dart.c h2, Dart.c, hd, go_sem, reduceIte, reduceCtorEq, Nat.reduceEqDiff, Nat.reduceAdd, List.length_cons, List.length_nil]; rfl) (by simp)
      rw [dec_f hlm]
      rw [call_code F (show F 45 = some (.code f45) from rfl)]
      simp only [f45, he, this, go_sem, reduceIte, reduceCtorEq, Nat.reduceEqDiff, Nat.reduceAdd, ne_eq]
  · have hlm : l ≠ m := fun e => hlen (by rw [e])
    have he := len_ne hlen
    rw [dec_f hlm]
    rw [call_code F (show F 45 = some (.code f45) from rfl)]
    simp only [f45, he, go_sem, reduceIte, reduceCtorEq, Nat.reduceEqDiff, Nat.reduceAdd, ne_eq]
/-- where a dart goes in -/
def insK (l : List Dart) (a : Dart) : Nat := if a ∈ l then l.idxOf a + 1 else min 1 l.length
theorem insK_le (l : List Dart) (a : Dart) : insK l a ≤ l.length := by
  unfold insK; split
  · rename_i h; have := (idxOf_at h).1; omega
  · omega
def insR (l : List Dart) (a x : Dart) : List Dart := if x ∈ l then turn l else turn (l.take (insK l a) ++ [x] ++ l.drop (insK l a))
def remR (l : List Dart) (x : Dart) : List Dart := turn (l.erase x)
def swapR (l : List Dart) (o x : Dart) : List Dart := if o ∈ l ∧ x ∉ l then turn (l.set (l.idxOf o) x) else turn l
/-- the place of the least dart of the first i -/
def kOf (l : List Dart) : Nat → Nat
  | 0 => 0
  | i + 1 => if ordD (l.getD i Dart0) (l.getD (kOf l i) Dart0) < 0 then i else kOf l i
theorem kOf_lt (l : List Dart) : ∀ i, kOf l i ≤ i - 1
  | 0 => Nat.le_refl _
  | i + 1 => by
    have := kOf_lt l i
    simp only [kOf]
    split <;> omega
theorem ordD_self (x : Dart) : ordD x x = 0 := by unfold ordD; rw [if_pos rfl]
theorem minFrom_le (x : Dart) : ∀ (l : List Dart) (y : Dart), y ∈ x :: l → ordD (minFrom x l) y ≤ 0 := by
  intro l
  induction l generalizing x with
  | nil =>
    intro y hy
    have : y = x := by simpa using hy
    subst this
    unfold minFrom
    simp [ordD_self]
  | cons z l ih =>
    intro y hy
    have e : minFrom x (z :: l) = minFrom (if ordD z x < 0 then z else x) l := rfl
    rw [e]
    have h1 := ih (if ordD z x < 0 then z else x)
    have h2 := h1 (if ordD z x < 0 then z else x) (by simp)
    rcases List.mem_cons.1 hy with rfl | hy
    · by_cases hz : ordD z y < 0
      · rw [if_pos hz] at h2 ⊢
        have a := ordD_cases z y
        have b := ordD_cases (minFrom z l) z
        have c := ordD_cases (minFrom z l) y
        simp only [Dart.ext_iff'] at a b c
        omega
      · rw [if_neg hz] at h2 ⊢
        exact h2
    · rcases List.mem_cons.1 hy with rfl | hy
      · by_cases hz : ordD y x < 0
        · rw [if_pos hz] at h2 ⊢; exact h2
        · rw [if_neg hz] at h2 ⊢
          have a := ordD_cases y x
          have b := ordD_cases (minFrom x l) x
          have c := ordD_cases (minFrom x l) y
          simp only [Dart.ext_iff'] at a b c
          omega
      · exact h1 y (by simp [hy])
theorem minD_le {l : List Dart} {y : Dart} (hy : y ∈ l) : ordD (minD l) y ≤ 0 := by
  cases l with
  | nil => simp at hy
  | cons x l => exact minFrom_le x l y hy
theorem kOf_min (l : List Dart) : ∀ i, i < l.length → l.getD (kOf l (i + 1)) Dart0 = minD (l.take (i + 1)) ∧ (l.take (i + 1)).idxOf (minD (l.take (i + 1))) = kOf l (i + 1)
  | 0, hi => by
    cases l with
    | nil => simp at hi
    | cons x l => simp [kOf, minD, minFrom, ordD_self]
  | i + 1, hi => by
    obtain ⟨h1, h2⟩ := kOf_min l i (by omega)
    have hlt := kOf_lt l (i + 1)
    have ht : l.take (i + 1 + 1) = l.take (i + 1) ++ [l[i + 1]] := by rw [List.take_succ_eq_append_getElem hi]
    have hne : l.take (i + 1) ≠ [] := by
      intro e
      have h3 := congrArg List.length e
      simp only [List.length_take, List.length_nil] at h3
      omega
    have hm : minD (l.take (i + 1 + 1)) = if ordD l[i + 1] (minD (l.take (i + 1))) < 0 then l[i + 1] else minD (l.take (i + 1)) := by
      rw [ht]
      cases hl : l.take (i + 1) with
      | nil => exact absurd hl hne
      | cons x r => exact minFrom_snoc x r _
    have hg : l.getD (i + 1) Dart0 = l[i + 1] := by simp [hi]
    have hk : kOf l (i + 1 + 1) = if ordD l[i + 1] (minD (l.take (i + 1))) < 0 then i + 1 else kOf l (i + 1) := by
      rw [← h1, ← hg]; rfl
    rw [hm, hk]
    split
    · rename_i hlt'
      refine ⟨hg, ?_⟩
      rw [ht]
      have hnot : l[i + 1] ∉ l.take (i + 1) := by
        intro hmem
        have a := minD_le hmem
        have b := ordD_cases l[i + 1] (minD (l.take (i + 1)))
        have c := ordD_cases (minD (l.take (i + 1))) l[i + 1]
        simp only [Dart.ext_iff'] at b c
        omega
      rw [List.idxOf_append, if_neg hnot]
      simp
      omega
    · refine ⟨h1, ?_⟩
      rw [ht, List.idxOf_append, if_pos (minD_mem hne)]
      exact h2
end Go.Proofs.Ytfhijlhiifkkhaa.Sx
namespace Go.Proofs.Ytfhijlhiifkkhaa.Sx
open Go
structure Gn where
  d : Dart
  to : Dart
deriving DecidableEq
def Gn.c (g : Gn) : List TV := [.int .i64 g.d.e.s, .int .i64 g.d.e.n, .int .i64 g.d.d, .int .i64 g.to.e.s, .int .i64 g.to.e.n, .int .i64 g.to.d]
/-- the first that is so -/
def firstBy {α : Type} (p : α → Bool) (l : List α) : Option α := l[l.findIdx p]?
theorem firstBy_none {α : Type} {p : α → Bool} {l : List α} (h : l.findIdx p = l.length) : firstBy p l = none := by
  unfold firstBy; rw [h]; simp
theorem firstBy_some {α : Type} {p : α → Bool} {l : List α} (h : l.findIdx p < l.length) : firstBy p l = some l[l.findIdx p] := by
  unfold firstBy; rw [List.getElem?_eq_getElem h]
theorem findIdx_cases {α : Type} (p : α → Bool) (l : List α) : l.findIdx p = l.length ∨ ∃ h : l.findIdx p < l.length, p l[l.findIdx p] = true := by
  rcases Nat.lt_or_ge (l.findIdx p) l.length with h | h
  · exact .inr ⟨h, List.findIdx_getElem⟩
  · exact .inl (Nat.le_antisymm List.findIdx_le_length h)
theorem findIdx_not {α : Type} {p : α → Bool} {l : List α} {i : Nat} (h : i < l.findIdx p) (hi : i < l.length) : p l[i] = false := by
  have := List.not_of_lt_findIdx h; simpa using this
theorem firstBy_mem {α : Type} {p : α → Bool} {l : List α} {x : α} (h : firstBy p l = some x) : x ∈ l ∧ p x = true := by
  rcases findIdx_cases p l with h0 | ⟨h1, h2⟩
  · rw [firstBy_none h0] at h; cases h
  · rw [firstBy_some h1] at h
    obtain rfl := Option.some.inj h
    exact ⟨List.getElem_mem _, h2⟩
theorem firstBy_no {α : Type} {p : α → Bool} {l : List α} (h : firstBy p l = none) : ∀ x ∈ l, p x = false := by
  rcases findIdx_cases p l with h0 | ⟨h1, h2⟩
  · intro x hx
    obtain ⟨i, hi, rfl⟩ := List.mem_iff_getElem.1 hx
    exact findIdx_not (by omega) hi
  · rw [firstBy_some h1] at h; cases h
/-- which vertex, which dart's vertex, where one that is gone went -/
def vxBy (l : List Vx) (x : ID) : Option Vx := firstBy (fun v => decide (v.id = x)) l
def atBy (l : List Vx) (d : Dart) : Option Vx := firstBy (fun v => decide (d ∈ v.ring)) l
def gnBy (l : List Gn) (d : Dart) : Option Gn := firstBy (fun g => decide (g.d = d)) l
def idT (x : ID) : TV := .agg [.int .i64 x.s, .int .i64 x.n]
def atT : Option Vx → TV
  | some v => .tup [idT v.id, .bool true]
  | none => .tup [idT ⟨0, 0⟩, .bool false]
def gnT : Option Gn → TV
  | some g => .tup [dartT g.to, .bool true]
  | none => .tup [dartT Dart0, .bool false]
def FitsR (l : List Vx) : Prop := ∀ v ∈ l, Fits v.ring
def vxT (fl : Fl) : Option Vx → TV
  | some v => .tup [.agg [.int .i64 v.id.s, .int .i64 v.id.n, .sl fl 3 (rowsBy Dart.c v.ring), .str v.label, .int .i64 v.attr], .bool true]
  | none => .tup [.agg [.int .i64 0, .int .i64 0, .sl (.own 44) 3 [], .str ⟨#[]⟩, .int .i64 0], .bool false]
theorem i_r04_At (l : List Vx) (d : Dart) (hl : Fits l) (hr : FitsR l) (es : TV) : call F 20 [.agg [.sl .shared 5 (rowsBy Vx.c l), es], .agg [.int .i64 d.e.s, .int .i64 d.e.n, .int .i64 d.d]] = some (atT (atBy l d)) := by
  have hle : (l).length ≤ 5864062014634 := hl.le
  have hw : (l).length ≤ 9223372036854775807 := Nat.le_trans hle (by decide)
  have S : ∀ n, n ≤ (l).length → (∀ i, i < n → ∀ hi : i < (l).length, (fun v : Vx => decide (d ∈ v.ring)) (l)[i] = false) → ∀ r, E (cs F) 0 f20_b1 (⟨(upd (upd (upd (upd Sx.e0 6 (.v (.int .i64 ((n : Int))))) 4 (.p 4 0)) 3 (.p 3 0)) 2 (.p 2 0)), (upd (upd (upd Sx.h0 4 (some (.var false [(.v (.int .i64 (0))), (.v (.int .i64 (0)))]))) 3 (some (.var false [(.v (.int .i64 (d.e.s))), (.v (.int .i64 (d.e.n))), (.v (.int .i64 (d.d)))]))) 2 (some (.var false [(.v (.sl .shared 5 (rowsBy Vx.c l))), (.v es)])))⟩ : St) = some r → r.1 ≠ .norm →
      E (cs F) 0 f20_l1 (⟨(upd (upd (upd (upd Sx.e0 6 (.v (.int .i64 (0)))) 4 (.p 4 0)) 3 (.p 3 0)) 2 (.p 2 0)), (upd (upd (upd Sx.h0 4 (some (.var false [(.v (.int .i64 (0))), (.v (.int .i64 (0)))]))) 3 (some (.var false [(.v (.int .i64 (d.e.s))), (.v (.int .i64 (d.e.n))), (.v (.int .i64 (d.d)))]))) 2 (some (.var false [(.v (.sl .shared 5 (rowsBy Vx.c l))), (.v es)])))⟩ : St) = some r := by
    intro n hn hno r hf hrr
    refine loop_to (b := f20_b1) (fun i => (⟨(upd (upd (upd (upd Sx.e0 6 (.v (.int .i64 ((i : Int))))) 4 (.p 4 0)) 3 (.p 3 0)) 2 (.p 2 0)), (upd (upd (upd Sx.h0 4 (some (.var false [(.v (.int .i64 (0))), (.v (.int .i64 (0)))]))) 3 (some (.var false [(.v (.int .i64 (d.e.s))), (.v (.int .i64 (d.e.n))), (.v (.int .i64 (d.d)))]))) 2 (some (.var false [(.v (.sl .shared 5 (rowsBy Vx.c l))), (.v es)])))⟩ : St)) n ?_ hf hrr
    intro i hi
    have h1 : i < (l).length := Nat.lt_of_lt_of_le hi hn
    have h1z : (i : Int) < ((l).length : Int) := Int.ofNat_lt.2 h1
    have hne := hno i hi h1
    have hv := i_r03_Index l[i].ring d (hr _ (List.getElem_mem h1))
    have hm : d ∉ l[i].ring := of_decide_eq_false hne
    rw [idx_neg hm] at hv
    simp only [f20_b1, h1z, rowsBy_get Vx.c h1, Vx.c, hv, wrap_succ h1 hw, go_sem, reduceIte, Nat.reduceEqDiff, Nat.reduceAdd, Nat.reduceMul, Nat.reduceLeDiff, List.length_cons, List.length_nil, Int.reduceGE, Int.reduceNeg, Nat.testBit, Nat.reduceShiftRight, Nat.reduceAnd, Nat.reduceBNe]
  have S := S ((l).findIdx (fun v : Vx => decide (d ∈ v.ring))) List.findIdx_le_length (fun i h1 h2 => findIdx_not h1 h2)
  rcases findIdx_cases (fun v : Vx => decide (d ∈ v.ring)) (l) with h0 | ⟨hlt, hp⟩
  · rw [h0] at S
    have := S _ (by simp only [f20_b1, dec_ge (Nat.le_refl (l).length), go_sem, reduceIte, Nat.reduceEqDiff, Nat.reduceAdd, Nat.reduceLeDiff, List.length_cons, List.length_nil]
                    rfl) (by simp)
    rw [atBy, firstBy_none h0, atT, idT]
    rw [call_code F (show F 20 = some (.code f20) from rfl)]
    simp only [f20, this, go_sem, reduceIte, reduceCtorEq, Nat.reduceEqDiff, Nat.reduceAdd, List.length_cons, List.length_nil]
  · rw [atBy, firstBy_some hlt, atT, idT]
    generalize (l).findIdx (fun v : Vx => decide (d ∈ v.ring)) = n at *
    have hltz : (n : Int) < ((l).length : Int) := Int.ofNat_lt.2 hlt
    have hv := i_r03_Index l[n].ring d (hr _ (List.getElem_mem hlt))
    have hm : d ∈ l[n].ring := of_decide_eq_true hp
    rw [idx_pos hm] at hv
    have hq : decide (((l[n].ring.idxOf d : Nat) : Int) ≥ 0) = true := by simp
    have := S _ (by simp only [f20_b1, hltz, rowsBy_get Vx.c hlt, Vx.c, hv, go_sem, reduceIte, Nat.reduceEqDiff, Nat.reduceAdd, Nat.reduceMul, Nat.reduceLeDiff, List.length_cons, List.length_nil, Nat.testBit, Nat.reduceShiftRight, Nat.reduceAnd, Nat.reduceBNe]
                    rfl) (by simp)
    rw [call_code F (show F 20 = some (.code f20) from rfl)]
    simp only [f20, this, go_sem, reduceIte, reduceCtorEq, Nat.reduceEqDiff, Nat.reduceAdd, List.length_cons, List.length_nil]
theorem i_r04_Vertex (l : List Vx) (x : ID) (hl : Fits l) (es : TV) : call F 21 [.agg [.sl .shared 5 (rowsBy Vx.c l), es], .agg [.int .i64 x.s, .int .i64 x.n]] = some (vxT .shared (vxBy l x)) := by
  have hle : (l).length ≤ 5864062014634 := hl.le
  have hw : (l).length ≤ 9223372036854775807 := Nat.le_trans hle (by decide)
  have S : ∀ n, n ≤ (l).length → (∀ i, i < n → ∀ hi : i < (l).length, (fun v : Vx => decide (v.id = x)) (l)[i] = false) → ∀ r, E (cs F) 0 f21_b1 (⟨(upd (upd (upd (upd Sx.e0 6 (.v (.int .i64 ((n : Int))))) 4 (.p 4 0)) 3 (.p 3 0)) 2 (.p 2 0)), (upd (upd (upd Sx.h0 4 (some (.var false [(.v (.int .i64 (0))), (.v (.int .i64 (0))), (.v (.sl (.tight 44) 3 [])), (.v (.str ⟨#[]⟩)), (.v (.int .i64 (0)))]))) 3 (some (.var false [(.v (.int .i64 (x.s))), (.v (.int .i64 (x.n)))]))) 2 (some (.var false [(.v (.sl .shared 5 (rowsBy Vx.c l))), (.v es)])))⟩ : St) = some r → r.1 ≠ .norm →
      E (cs F) 0 f21_l1 (⟨(upd (upd (upd (upd Sx.e0 6 (.v (.int .i64 (0)))) 4 (.p 4 0)) 3 (.p 3 0)) 2 (.p 2 0)), (upd (upd (upd Sx.h0 4 (some (.var false [(.v (.int .i64 (0))), (.v (.int .i64 (0))), (.v (.sl (.tight 44) 3 [])), (.v (.str ⟨#[]⟩)), (.v (.int .i64 (0)))]))) 3 (some (.var false [(.v (.int .i64 (x.s))), (.v (.int .i64 (x.n)))]))) 2 (some (.var false [(.v (.sl .shared 5 (rowsBy Vx.c l))), (.v es)])))⟩ : St) = some r := by
    intro n hn hno r hf hrr
    refine loop_to (b := f21_b1) (fun i => (⟨(upd (upd (upd (upd Sx.e0 6 (.v (.int .i64 ((i : Int))))) 4 (.p 4 0)) 3 (.p 3 0)) 2 (.p 2 0)), (upd (upd (upd Sx.h0 4 (some (.var false [(.v (.int .i64 (0))), (.v (.int .i64 (0))), (.v (.sl (.tight 44) 3 [])), (.v (.str ⟨#[]⟩)), (.v (.int .i64 (0)))]))) 3 (some (.var false [(.v (.int .i64 (x.s))), (.v (.int .i64 (x.n)))]))) 2 (some (.var false [(.v (.sl .shared 5 (rowsBy Vx.c l))), (.v es)])))⟩ : St)) n ?_ hf hrr
    intro i hi
    have h1 : i < (l).length := Nat.lt_of_lt_of_le hi hn
    have h1z : (i : Int) < ((l).length : Int) := Int.ofNat_lt.2 h1
    have hne := hno i hi h1
    have hne' : ¬ l[i].id = x := of_decide_eq_false hne
    have hq1 := dec_f hne'
    have hq2 := dec_f (Ne.symm hne')
    simp only [f21_b1, h1z, rowsBy_get Vx.c h1, Vx.c, hq1, wrap_succ h1 hw, go_sem, reduceIte, Nat.reduceEqDiff, Nat.reduceAdd, Nat.reduceLeDiff, List.length_cons, List.length_nil, Nat.testBit, Nat.reduceShiftRight, Nat.reduceAnd, Nat.reduceBNe]
  have S := S ((l).findIdx (fun v : Vx => decide (v.id = x))) List.findIdx_le_length (fun i h1 h2 => findIdx_not h1 h2)
  rcases findIdx_cases (fun v : Vx => decide (v.id = x)) (l) with h0 | ⟨hlt, hp⟩
  · rw [h0] at S
    have := S _ (by simp only [f21_b1, dec_ge (Nat.le_refl (l).length), go_sem, reduceIte, Nat.reduceEqDiff, Nat.reduceAdd, Nat.reduceLeDiff, List.length_cons, List.length_nil]
                    rfl) (by simp)
    rw [vxBy, firstBy_none h0, vxT]
    rw [call_code F (show F 21 = some (.code f21) from rfl)]
    simp only [f21, this, go_sem, reduceIte, reduceCtorEq, Nat.reduceEqDiff, Nat.reduceAdd, List.length_cons, List.length_nil]
  · rw [vxBy, firstBy_some hlt, vxT]
    generalize (l).findIdx (fun v : Vx => decide (v.id = x)) = n at *
    have hltz : (n : Int) < ((l).length : Int) := Int.ofNat_lt.2 hlt
    have hp' : l[n].id = x := of_decide_eq_true hp
    have hq1 := dec_t hp'
    have hq2 := dec_t hp'.symm
    have := S _ (by simp only [f21_b1, hltz, rowsBy_get Vx.c hlt, Vx.c, hq1, go_sem, reduceIte, Nat.reduceEqDiff, Nat.reduceAdd, Nat.reduceLeDiff, List.length_cons, List.length_nil, Nat.testBit, Nat.reduceShiftRight, Nat.reduceAnd, Nat.reduceBNe]
                    rfl) (by simp)
    rw [call_code F (show F 21 = some (.code f21) from rfl)]
    simp only [f21, this, go_sem, reduceIte, reduceCtorEq, Nat.reduceEqDiff, Nat.reduceAdd, List.length_cons, List.length_nil]
end Go.Proofs.Ytfhijlhiifkkhaa.Sx
namespace Go.Proofs.Ytfhijlhiifkkhaa.Sx
open Go
def rotG (l : List Dart) (k i : Nat) : List Dart := (List.range i).map fun j => l.getD ((k + j) % l.length) Dart0
theorem rotG_snoc (l : List Dart) (k i : Nat) : rotG l k (i + 1) = rotG l k i ++ [l.getD ((k + i) % l.length) Dart0] := by
  unfold rotG; rw [List.range_succ, List.map_append]; rfl
theorem rotG_length (l : List Dart) (k i : Nat) : (rotG l k i).length = i := by unfold rotG; simp
theorem rotG_all {l : List Dart} {k : Nat} (hk : k < l.length) : rotG l k l.length = l.drop k ++ l.take k := by
  unfold rotG
  apply List.ext_getElem
  · simp; omega
  · intro i h1 h2
    simp only [List.length_map, List.length_range] at h1
    rw [List.getElem_map, List.getElem_range, List.getElem_append]
    split
    · rename_i h
      simp only [List.length_drop] at h
      rw [List.getElem_drop, Nat.mod_eq_of_lt (by omega)]
      simp
      rw [List.getElem?_eq_getElem (by omega)]
      rfl
    · rename_i h
      simp only [List.length_drop, Nat.not_lt] at h
      rw [List.getElem_take]
      have e : (k + i) % l.length = i - (l.length - k) := by rw [Nat.mod_eq_sub_mod (by omega), Nat.mod_eq_of_lt (by omega)]; omega
      simp only [List.length_drop, e]
      simp
      rw [List.getElem?_eq_getElem (by omega)]
      rfl
theorem turn_kOf {l : List Dart} (h : l ≠ []) : kOf l l.length = l.idxOf (minD l) := by
  have hp : 0 < l.length := List.length_pos_iff.2 h
  obtain ⟨n, hn⟩ : ∃ n, l.length = n + 1 := ⟨l.length - 1, by omega⟩
  have := (kOf_min l n (by omega)).2
  rw [← hn, List.take_length] at this
  exact this.symm
theorem turn_rot (l : List Dart) : rotG l (kOf l l.length) l.length = turn l := by
  by_cases h : l = []
  · subst h; rfl
  · rw [turn_kOf h, rotG_all (List.idxOf_lt_length_iff.2 (minD_mem h))]; rfl
theorem c_r03_Turn (l : List Dart) (hl : Fits l) : call F 25 [.sl .shared 3 (rowsBy Dart.c l)] = some (.sl (.own 44) 3 (rowsBy Dart.c (turn l))) := by
  have hle := hl.le
  have l1 : E (cs F) 0 f25_l1 (⟨(upd (upd (upd Sx.e0 4 (.v (.int .i64 (0)))) 3 (.v (.int .i64 (0)))) 0 (.v (.sl .shared 3 (rowsBy Dart.c l)))), Sx.h0⟩ : St) =
      some (.exit 0, (⟨(upd (upd Sx.e0 3 (.v (.int .i64 ((kOf l l.length : Int))))) 0 (.v (.sl .shared 3 (rowsBy Dart.c l)))), Sx.h0⟩ : St)) := by
    refine loop_to (b := f25_b1) (fun i => (⟨(upd (upd (upd Sx.e0 4 (.v (.int .i64 ((i : Int))))) 3 (.v (.int .i64 ((kOf l i : Int))))) 0 (.v (.sl .shared 3 (rowsBy Dart.c l)))), Sx.h0⟩ : St)) l.length ?_ ?_ (by simp)
    · intro i hi
      have hk : kOf l i < l.length := by have := kOf_lt l i; omega
      have h2 : ((kOf l i : Nat) : Int) < (l.length : Int) := by omega
      have g1 : l.getD i Dart0 = l[i] := by simp [hi]
      have g2 : l.getD (kOf l i) Dart0 = l[kOf l i] := by simp [hk]
      have hs : kOf l (i + 1) = if ordD l[i] l[kOf l i] < 0 then i else kOf l i := by rw [← g1, ← g2]; rfl
      rw [hs]
      cases hc : decide (ordD l[i] l[kOf l i] < 0) with
      | true =>
        rw [if_pos (of_decide_eq_true hc)]
        simp only [f25_b1, dec_lt hi, rowsBy_get Dart.c hi, rowsBy_get Dart.c hk, Dart.c, c_r01_OrderDart, hc, wrap_succ hi (show l.length ≤ 9223372036854775807 by omega), go_sem, reduceIte, reduceCtorEq, Nat.reduceEqDiff, Nat.reduceAdd, Nat.reduceMul, List.length_cons, List.length_nil]
      | false =>
        rw [if_neg (of_decide_eq_false hc)]
        simp only [f25_b1, dec_lt hi, rowsBy_get Dart.c hi, rowsBy_get Dart.c hk, Dart.c, c_r01_OrderDart, hc, wrap_succ hi (show l.length ≤ 9223372036854775807 by omega), go_sem, reduceIte, reduceCtorEq, Nat.reduceEqDiff, Nat.reduceAdd, Nat.reduceMul, List.length_cons, List.length_nil]
    · simp only [f25_b1, dec_ge (Nat.le_refl l.length), go_sem, reduceIte, reduceCtorEq, Nat.reduceEqDiff]
  have l2 : E (cs F) 0 f25_l2 (⟨(upd (upd (upd (upd Sx.e0 6 (.v (.int .i64 (0)))) 5 (.s 5 0 0)) 3 (.v (.int .i64 ((kOf l l.length : Int))))) 0 (.v (.sl .shared 3 (rowsBy Dart.c l)))), (upd Sx.h0 5 (some (.arr false 44 3 [])))⟩ : St) =
      some (.exit 2, (⟨(upd Sx.e0 5 (.s 5 0 l.length)), (upd Sx.h0 5 (some (.arr false 44 3 (rowsBy Dart.c (turn l)))))⟩ : St)) := by
    refine loop_to (b := f25_b2) (fun i => (⟨(upd (upd (upd (upd Sx.e0 6 (.v (.int .i64 ((i : Int))))) 5 (.s 5 0 i)) 3 (.v (.int .i64 ((kOf l l.length : Int))))) 0 (.v (.sl .shared 3 (rowsBy Dart.c l)))), (upd Sx.h0 5 (some (.arr false 44 3 (rowsBy Dart.c (rotG l (kOf l l.length) i)))))⟩ : St)) l.length ?_ ?_ (by simp)
    · intro i hi
      have hk : kOf l l.length < l.length := by have := kOf_lt l l.length; omega
      have h1 : IntKind.i64.wrap (((kOf l l.length : Nat) : Int) + (i : Int)) = ((kOf l l.length + i : Nat) : Int) := by rw [wrap64 (by omega) (by omega)]; omega
      have h2 : ¬ ((l.length : Int) = 0) := by omega
      have h3 : (kOf l l.length + i) % l.length < l.length := Nat.mod_lt _ (by omega)
      have h4 : (((kOf l l.length + i) % l.length : Nat) : Int) < (l.length : Int) := by omega
      have g1 : l.getD ((kOf l l.length + i) % l.length) Dart0 = l[(kOf l l.length + i) % l.length] := by simp [h3]
      have h5 : (i + 1) * 24 ≤ 140737488355328 := by omega
      have h6 : (rotG l (kOf l l.length) i).take i = rotG l (kOf l l.length) i := List.take_of_length_le (by rw [rotG_length]; omega)
      rw [rotG_snoc, g1]
      simp only [f25_b2, dec_lt hi, rowsBy_get Dart.c h3, Dart.c, h1, h2, tmod_nat, h5, h6, wrap_succ hi (show l.length ≤ 9223372036854775807 by omega), go_sem, reduceIte, reduceCtorEq, Nat.reduceEqDiff, Nat.reduceAdd, List.length_cons, List.length_nil]
    · rw [turn_rot]
      simp only [f25_b2, dec_ge (Nat.le_refl l.length), go_sem, reduceIte, reduceCtorEq, Nat.reduceEqDiff]
  have ht : (turn l).take l.length = turn l := List.take_of_length_le (by rw [turn_length]; exact Nat.le_refl _)
  rw [call_code F (show F 25 = some (.code f25) from rfl)]
  simp only [f25, l1, l2, ht, go_sem, reduceIte, reduceCtorEq, Nat.reduceEqDiff, List.length_nil]
/-- as the reference lays a dart in: behind the k-th, one by one -/
def insG (l : List Dart) (k : Nat) (x : Dart) (i : Nat) : List Dart := if k < i then l.take (k + 1) ++ [x] ++ (l.take i).drop (k + 1) else l.take i
theorem insG_at {l : List Dart} {k : Nat} {x : Dart} (i : Nat) (hi : i < l.length) : insG l k x (i + 1) = if i = k then insG l k x i ++ [l[i]] ++ [x] else insG l k x i ++ [l[i]] := by
  have ht : l.take (i + 1) = l.take i ++ [l[i]] := List.take_succ_eq_append_getElem hi
  unfold insG
  by_cases h : i = k
  · subst h
    rw [if_pos (by omega), if_pos rfl, if_neg (by omega), ht]
    simp
  · rw [if_neg h]
    by_cases h2 : k < i
    · rw [if_pos (by omega), if_pos h2, ht, List.drop_append_of_le_length (by simp; omega)]
      simp
    · rw [if_neg (by omega), if_neg h2, ht]
theorem insG_zero (l : List Dart) (k : Nat) (x : Dart) : insG l k x 0 = [] := by unfold insG; simp
theorem insG_len {l : List Dart} {k : Nat} {x : Dart} (i : Nat) : (insG l k x i).length ≤ l.length + 1 := by
  unfold insG; split
  · simp; omega
  · simp; omega
theorem ins_room (a b : Nat) (h : a ≤ b + 1) (hb : b ≤ 5864062014633) : (a + 1) * 24 ≤ 140737488355328 ∧ (a + 1 + 1) * 24 ≤ 140737488355328 := by omega
attribute [local irreducible] insG in
set_option maxHeartbeats 4000000 in
theorem r03_Insert_l1 (l : List Dart) (k : Nat) (x : Dart) (hl : l.length ≤ 5864062014633) : E (cs F) 0 f24_l1 (⟨(upd (upd (upd (upd (upd Sx.e0 9 (.v (.int .i64 (0)))) 8 (.s 8 0 (insG l k x 0).length)) 7 (.v (.int .i64 ((k : Int))))) 5 (.p 5 0)) 0 (.v (.sl .shared 3 (rowsBy Dart.c l)))), (upd (upd Sx.h0 8 (some (.arr false 44 3 (rowsBy Dart.c (insG l k x 0))))) 5 (some (.var false [(.v (.int .i64 (x.e.s))), (.v (.int .i64 (x.e.n))), (.v (.int .i64 (x.d)))])))⟩ : St) =
        some (.exit 0, (⟨(upd (upd (upd Sx.e0 8 (.s 8 0 (insG l k x l.length).length)) 5 (.p 5 0)) 0 (.v (.sl .shared 3 (rowsBy Dart.c l)))), (upd (upd Sx.h0 8 (some (.arr false 44 3 (rowsBy Dart.c (insG l k x l.length))))) 5 (some (.var false [(.v (.int .i64 (x.e.s))), (.v (.int .i64 (x.e.n))), (.v (.int .i64 (x.d)))])))⟩ : St)) := by
  refine loop_to (b := f24_b1) (fun i => (⟨(upd (upd (upd (upd (upd Sx.e0 9 (.v (.int .i64 ((i : Int))))) 8 (.s 8 0 (insG l k x i).length)) 7 (.v (.int .i64 ((k : Int))))) 5 (.p 5 0)) 0 (.v (.sl .shared 3 (rowsBy Dart.c l)))), (upd (upd Sx.h0 8 (some (.arr false 44 3 (rowsBy Dart.c (insG l k x i))))) 5 (some (.var false [(.v (.int .i64 (x.e.s))), (.v (.int .i64 (x.e.n))), (.v (.int .i64 (x.d)))])))⟩ : St)) l.length ?_ ?_ (by simp)
  · intro i hi
    have hb := insG_len (l := l) (k := k) (x := x) i
    obtain ⟨h5, h6⟩ := ins_room _ _ hb hl
    have hw : l.length ≤ 9223372036854775807 := Nat.le_trans hl (by decide)
    have hs := insG_at (k := k) (x := x) i hi
    by_cases h : i = k
    · have hd : decide ((i : Int) = (k : Int)) = true := by simp; omega
      rw [if_pos h] at hs
      rw [hs]
      generalize insG l k x i = m at *
      have e2 : (m ++ [l[i]] ++ [x]).length = m.length + 1 + 1 := by simp
      have e3 : (m ++ [l[i]]).take (m.length + 1) = m ++ [l[i]] := List.take_of_length_le (by simp)
      rw [e2]
      simp only [f24_b1, dec_lt hi, rowsBy_get Dart.c hi, Dart.c, hd, h5, h6, e3, wrap_succ hi hw, go_sem, reduceIte, reduceCtorEq, Nat.reduceEqDiff, Nat.reduceAdd, List.length_cons, List.length_nil]
    · have hd : decide ((i : Int) = (k : Int)) = false := by simp; omega
      rw [if_neg h] at hs
      rw [hs]
      generalize insG l k x i = m at *
      have e2 : (m ++ [l[i]]).length = m.length + 1 := by simp
      rw [e2]
      simp only [f24_b1, dec_lt hi, rowsBy_get Dart.c hi, Dart.c, hd, h5, wrap_succ hi hw, go_sem, reduceIte, reduceCtorEq, Nat.reduceEqDiff, Nat.reduceAdd, List.length_cons, List.length_nil]
  · simp only [f24_b1, dec_ge (Nat.le_refl l.length), go_sem, reduceIte, reduceCtorEq, Nat.reduceEqDiff]

set_option maxHeartbeats 4000000 in
theorem i_r03_Insert (l : List Dart) (a x : Dart) (hl : l.length ≤ 5864062014633) : call F 24 [.sl .shared 3 (rowsBy Dart.c l), .agg [.int .i64 a.e.s, .int .i64 a.e.n, .int .i64 a.d], .agg [.int .i64 x.e.s, .int .i64 x.e.n, .int .i64 x.d]] = some (.sl (.own 44) 3 (rowsBy Dart.c (insR l a x))) := by
  have hf : Fits l := Nat.le_trans hl (by omega)
  have ix := i_r03_Index l x hf
  have ia := i_r03_Index l a hf
  by_cases hx : x ∈ l
  · have ct := c_r03_Turn l hf
    have hd : decide (((l.idxOf x : Nat) : Int) ≥ 0) = true := by simp
    rw [idx_pos hx] at ix
    unfold insR; rw [if_pos hx]
    rw [call_code F (show F 24 = some (.code f24) from rfl)]
    simp only [f24, ix, ct, go_sem, reduceIte, reduceCtorEq, Nat.reduceEqDiff, Nat.reduceAdd, Nat.reduceMul, List.length_cons, List.length_nil]
  · rw [idx_neg hx] at ix
    unfold insR; rw [if_neg hx]
    obtain ⟨k, hk, hkl⟩ : ∃ k : Nat, (if idx l a > 0 then idx l a else 0) = (k : Int) ∧ l.take (insK l a) ++ [x] ++ l.drop (insK l a) = insG l k x l.length ++ (if l.length = 0 then [x] else []) := by
      by_cases ha : a ∈ l
      · have hlt := (idxOf_at ha).1
        refine ⟨l.idxOf a, ?_, ?_⟩
        · rw [idx_pos ha]; split <;> omega
        · unfold insK insG
          rw [if_pos ha, if_pos hlt, if_neg (by omega), List.take_length]
          simp
      · refine ⟨0, ?_, ?_⟩
        · rw [idx_neg ha]; simp
        · unfold insK insG
          rw [if_neg ha]
          cases l with
          | nil => simp
          | cons y l => simp
    have l1 := r03_Insert_l1 l k x hl
    rw [insG_zero] at l1
    simp only [List.length_nil, show rowsBy Dart.c [] = [] from rfl] at l1
    have ct := c_r03_Turn (l.take (insK l a) ++ [x] ++ l.drop (insK l a)) (by unfold Fits; simp; omega)
    rw [hkl] at ct ⊢
    have hb := insG_len (l := l) (k := k) (x := x) l.length
    by_cases h0 : l.length = 0
    · have hd : decide ((l.length : Int) = 0) = true := decide_eq_true (by omega)
      rw [if_pos h0] at ct ⊢
      generalize insG l k x l.length = m at *
      have e3 : (m ++ [x]).take (m.length + 1) = m ++ [x] := List.take_of_length_le (by simp)
      have h5 : (m.length + 1) * 24 ≤ 140737488355328 := (ins_room _ _ hb hl).1
      rw [call_code F (show F 24 = some (.code f24) from rfl)]
      simp only [f24, ix, ia, hk, l1, hd, h5, e3, ct, go_sem, reduceIte, reduceCtorEq, Nat.reduceEqDiff, Nat.reduceAdd, Nat.reduceMul, List.length_cons, List.length_nil, Int.reduceGE, Int.reduceNeg]
    · have hd : decide ((l.length : Int) = 0) = false := decide_eq_false (by omega)
      rw [if_neg h0, List.append_nil] at ct ⊢
      generalize insG l k x l.length = m at *
      rw [call_code F (show F 24 = some (.code f24) from rfl)]
      simp only [f24, ix, ia, hk, l1, hd, ct, go_sem, reduceIte, reduceCtorEq, Nat.reduceEqDiff, Nat.reduceAdd, Nat.reduceMul, List.length_cons, List.length_nil, Int.reduceGE, Int.reduceNeg]
end Go.Proofs.Ytfhijlhiifkkhaa.Sx
