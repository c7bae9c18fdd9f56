/- PRINTED BY A PROGRAM (wip/tools/fmod.py): the functions of the cut, for the abstract machine. -/
import Derived.Test.YtdmpiondalhonaaProg
import Derived.Test.YtdmpiondalhonaaAbX
namespace Go.Ab
open Go Go.Proofs

-- MTS
def MTS : MT := [("signalbox/pack.choose", [(98, (117, .none)), (101, (119, .none))]), ("Len", [(17, (114, .none)), (106, (70, (.some .none))), (108, (70, .none))]), ("Less", [(106, (120, (.some .none))), (108, (120, .none))]), ("Pop", [(106, (121, .none))]), ("Push", [(106, (122, .none))]), ("Swap", [(106, (123, (.some .none))), (108, (123, .none))])]

-- "signalbox/signalboxlaw33.EdfRuns" res .true
def F6 : AFn where
  np := 2
  nt := 116
  res := [(.t 4)]
  tab := [(.seq 2),
    (.region [⟨(.some 4), (.mv (.c (.bool .false))), .none, [], []⟩] .false), (.seq 8), (.seq 2),
    (.region [⟨(.some 17), (.call 22 []), .none, [], []⟩, ⟨(.some 18), (.un .not (.t 17)), .none, [], []⟩] .false), (.cond (.t 18) 4), (.seq 2),
    (.region [⟨(.some 4), (.mv (.c (.bool .false))), .none, [], []⟩] .false), .ret, .skip, (.seq 2),
    (.region [⟨(.some 20), (.mv (.t 0)), .none, [], []⟩, ⟨(.some 21), (.call 23 [(.t 20)]), .none, [], []⟩, ⟨(.some 19), (.mv (.t 21)), .none, [], []⟩, ⟨(.some 22), (.ext (.t 19) 0), .none, [], []⟩, ⟨(.some 23), (.ext (.t 19) 1), .none, [], []⟩, ⟨(.some 5), (.mv (.t 22)), .none, [], []⟩, ⟨(.some 6), (.mv (.t 23)), .none, [], []⟩] .false), (.seq 8), (.seq 2),
    (.region [⟨(.some 24), (.mv (.t 6)), .none, [], []⟩, ⟨(.some 25), (.un .not (.t 24)), .none, [], []⟩, ⟨(.some 26), (.mv (.t 25)), .none, [], []⟩, ⟨(.some 27), (.mv (.t 1)), (.some ((.some 26), .false)), [], []⟩, ⟨(.some 28), (.bin .gtr .o (.t 27) (.c (.int .i64 1200))), (.some ((.some 26), .false)), [], []⟩, ⟨(.some 29), (.pick (.t 26) (.c (.bool .true)) (.t 28)), .none, [], []⟩] .false), (.cond (.t 29) 4), (.seq 2),
    (.region [⟨(.some 4), (.mv (.c (.bool .true))), .none, [], []⟩] .false), .ret, .skip, (.seq 2),
    (.region [⟨(.some 31), (.mv (.t 5)), .none, [], []⟩, ⟨(.some 32), (.call 24 [(.t 31)]), .none, [], []⟩, ⟨(.some 30), (.mv (.t 32)), .none, [], []⟩, ⟨(.some 33), (.ext (.t 30) 0), .none, [], []⟩, ⟨(.some 34), (.ext (.t 30) 1), .none, [], []⟩, ⟨(.some 7), (.mv (.t 33)), .none, [], []⟩, ⟨(.some 8), (.mv (.t 34)), .none, [], []⟩] .false), (.seq 2),
    (.region [⟨(.some 35), (.mv (.t 0)), .none, [], []⟩, ⟨(.some 36), (.call 25 [(.t 35)]), .none, [], []⟩, ⟨(.some 37), (.mv (.t 0)), .none, [], []⟩, ⟨(.some 38), (.call 26 [(.t 37)]), .none, [], []⟩, ⟨(.some 39), (.mv (.t 0)), .none, [], []⟩, ⟨(.some 40), (.mv (.t 1)), .none, [], []⟩, ⟨(.some 41), (.call 27 [(.t 39), (.t 40)]), .none, [], []⟩, ⟨(.some 9), (.mv (.t 36)), .none, [], []⟩, ⟨(.some 10), (.mv (.t 38)), .none, [], []⟩, ⟨(.some 11), (.mv (.t 41)), .none, [], []⟩] .false), (.seq 8), (.seq 2),
    (.region [⟨(.some 42), (.mv (.t 9)), .none, [], []⟩, ⟨(.some 43), (.len .false (.t 42)), .none, [], []⟩, ⟨(.some 44), (.mv (.t 8)), .none, [], []⟩, ⟨(.some 45), (.len .false (.t 44)), .none, [], []⟩, ⟨(.some 46), (.bin .neq .o (.t 43) (.t 45)), .none, [], []⟩, ⟨(.some 47), (.mv (.t 46)), .none, [], []⟩, ⟨(.some 48), (.mv (.t 11)), (.some ((.some 47), .false)), [], []⟩, ⟨(.some 49), (.len .false (.t 48)), (.some ((.some 47), .false)), [], []⟩, ⟨(.some 50), (.mv (.t 1)), (.some ((.some 47), .false)), [], []⟩, ⟨(.some 51), (.mnmx .true (.t 50) (.c (.int .i64 0))), (.some ((.some 47), .false)), [], []⟩, ⟨(.some 52), (.bin .neq .o (.t 49) (.t 51)), (.some ((.some 47), .false)), [], []⟩, ⟨(.some 53), (.pick (.t 47) (.c (.bool .true)) (.t 52)), .none, [], []⟩] .false), (.cond (.t 53) 4), (.seq 2),
    (.region [⟨(.some 4), (.mv (.c (.bool .false))), .none, [], []⟩] .false), .ret, .skip, (.seq 2),
    (.region [⟨(.some 12), (.mv (.c (.int .i64 0))), .none, [], []⟩] .false), (.seq 37), (.seq 2),
    (.region [⟨(.some 54), (.mv (.t 9)), .none, [], []⟩, ⟨(.some 55), (.len .false (.t 54)), .none, [], []⟩, ⟨(.some 56), (.mv (.c (.int .i64 0))), .none, [], []⟩] .false), (.block 0), .loop, (.seq 2),
    (.region [⟨(.some 57), (.bin .lss .o (.t 56) (.t 55)), .none, [], []⟩] .false), (.seq 4), (.cond (.t 57) 2), .skip, (.exit 0), (.seq 25), (.block 1), (.seq 2),
    (.region [⟨(.some 58), (.mv (.t 56)), .none, [], []⟩, ⟨(.some 13), (.mv (.t 58)), .none, [], []⟩] .false), (.seq 8), (.seq 2),
    (.region [⟨(.some 59), (.mv (.t 9)), .none, [], [9]⟩, ⟨(.some 60), (.mv (.t 13)), .none, [], [13]⟩, ⟨(.some 61), (.idx 3 1 (.t 59) (.t 60)), .none, [0, 1], [59, 60]⟩, ⟨(.some 62), (.ld .none (.t 61)), .none, [2], [61]⟩, ⟨(.some 63), (.mv (.t 8)), .none, [], [8]⟩, ⟨(.some 64), (.mv (.t 13)), .none, [], [13]⟩, ⟨(.some 65), (.idx 3 1 (.t 63) (.t 64)), .none, [4, 5], [63, 64]⟩, ⟨(.some 66), (.ld .none (.t 65)), .none, [6], [65]⟩, ⟨(.some 67), (.bin .neq .o (.t 62) (.t 66)), .none, [3, 7], [62, 66]⟩] .true), (.cond (.t 67) 4), (.seq 2),
    (.region [⟨(.some 4), (.mv (.c (.bool .false))), .none, [], []⟩] .false), .ret, .skip, (.seq 2),
    (.region [⟨(.some 68), (.mv (.t 8)), .none, [], [8]⟩, ⟨(.some 69), (.mv (.t 13)), .none, [], [13]⟩, ⟨(.some 70), (.idx 3 1 (.t 68) (.t 69)), .none, [0, 1], [68, 69]⟩, ⟨(.some 71), (.ld .none (.t 70)), .none, [2], [70]⟩, ⟨(.some 72), (.mv (.t 5)), .none, [], [5]⟩, ⟨(.some 73), (.mv (.t 13)), .none, [], [13]⟩, ⟨(.some 74), (.idx 51 3 (.t 72) (.t 73)), .none, [4, 5], [72, 73]⟩, ⟨(.some 75), (.fad 2 (.t 74)), .none, [6], [74]⟩, ⟨(.some 76), (.ld .none (.t 75)), .none, [7], [75]⟩, ⟨(.some 77), (.bin .gtr .o (.t 71) (.t 76)), .none, [3, 8], [71, 76]⟩] .true), (.cond (.t 77) 10), (.seq 8), (.seq 2),
    (.region [⟨(.some 78), (.mv (.t 12)), .none, [], []⟩, ⟨(.some 79), (.mv (.t 10)), .none, [], []⟩, ⟨(.some 80), (.len .false (.t 79)), .none, [], []⟩, ⟨(.some 81), (.bin .geq .o (.t 78) (.t 80)), .none, [], []⟩, ⟨(.some 82), (.mv (.t 81)), .none, [], []⟩, ⟨(.some 83), (.mv (.t 10)), (.some ((.some 82), .false)), [], []⟩, ⟨(.some 84), (.mv (.t 12)), (.some ((.some 82), .false)), [], []⟩, ⟨(.some 85), (.idx 3 1 (.t 83) (.t 84)), (.some ((.some 82), .false)), [], []⟩, ⟨(.some 86), (.ld .none (.t 85)), (.some ((.some 82), .false)), [], []⟩, ⟨(.some 87), (.mv (.t 13)), (.some ((.some 82), .false)), [], []⟩, ⟨(.some 88), (.bin .neq .o (.t 86) (.t 87)), (.some ((.some 82), .false)), [], []⟩, ⟨(.some 89), (.pick (.t 82) (.c (.bool .true)) (.t 88)), .none, [], []⟩] .false), (.cond (.t 89) 4), (.seq 2),
    (.region [⟨(.some 4), (.mv (.c (.bool .false))), .none, [], []⟩] .false), .ret, .skip,
    (.region [⟨(.some 90), (.mv (.t 12)), .none, [], []⟩, ⟨(.some 91), (.bin .add .o (.t 90) (.c (.int .i64 1))), .none, [], []⟩, ⟨(.some 12), (.mv (.t 91)), .none, [], []⟩] .false), .skip,
    (.region [⟨(.some 92), (.bin .add .o (.t 56) (.c (.int .i64 1))), .none, [], []⟩, ⟨(.some 56), (.mv (.t 92)), .none, [], []⟩] .false), (.seq 31), (.seq 2),
    (.region [⟨(.some 93), (.mv (.t 11)), .none, [], []⟩, ⟨(.some 94), (.len .false (.t 93)), .none, [], []⟩, ⟨(.some 95), (.mv (.c (.int .i64 0))), .none, [], []⟩] .false), (.block 2), .loop, (.seq 2),
    (.region [⟨(.some 96), (.bin .lss .o (.t 95) (.t 94)), .none, [], []⟩] .false), (.seq 4), (.cond (.t 96) 2), .skip, (.exit 2), (.seq 19), (.block 3), (.seq 2),
    (.region [⟨(.some 97), (.mv (.t 95)), .none, [], []⟩, ⟨(.some 98), (.idx 3 1 (.t 93) (.t 95)), .none, [], []⟩, ⟨(.some 99), (.ld .none (.t 98)), .none, [], []⟩, ⟨(.some 14), (.mv (.t 97)), .none, [], []⟩, ⟨(.some 15), (.mv (.t 99)), .none, [], []⟩] .false), (.seq 2),
    (.region [⟨(.some 16), (.mv (.c (.int .i64 (-1)))), .none, [], []⟩] .false), (.seq 6), (.seq 2),
    (.region [⟨(.some 100), (.mv (.t 14)), .none, [], []⟩, ⟨(.some 101), (.mv (.t 7)), .none, [], []⟩, ⟨(.some 102), (.len .false (.t 101)), .none, [], []⟩, ⟨(.some 103), (.bin .lss .o (.t 100) (.t 102)), .none, [], []⟩] .false), (.cond (.t 103) 2),
    (.region [⟨(.some 104), (.mv (.t 7)), .none, [], []⟩, ⟨(.some 105), (.mv (.t 14)), .none, [], []⟩, ⟨(.some 106), (.idx 3 1 (.t 104) (.t 105)), .none, [], []⟩, ⟨(.some 107), (.ld .none (.t 106)), .none, [], []⟩, ⟨(.some 16), (.mv (.t 107)), .none, [], []⟩] .false), .skip, (.seq 2),
    (.region [⟨(.some 108), (.mv (.t 15)), .none, [], []⟩, ⟨(.some 109), (.mv (.t 16)), .none, [], []⟩, ⟨(.some 110), (.bin .neq .o (.t 108) (.t 109)), .none, [], []⟩] .false), (.cond (.t 110) 4), (.seq 2),
    (.region [⟨(.some 4), (.mv (.c (.bool .false))), .none, [], []⟩] .false), .ret, .skip,
    (.region [⟨(.some 111), (.bin .add .o (.t 95) (.c (.int .i64 1))), .none, [], []⟩, ⟨(.some 95), (.mv (.t 111)), .none, [], []⟩] .false), (.seq 2),
    (.region [⟨(.some 112), (.mv (.t 12)), .none, [], []⟩, ⟨(.some 113), (.mv (.t 10)), .none, [], []⟩, ⟨(.some 114), (.len .false (.t 113)), .none, [], []⟩, ⟨(.some 115), (.bin .eql .o (.t 112) (.t 114)), .none, [], []⟩, ⟨(.some 4), (.mv (.t 115)), .none, [], []⟩] .false), .ret]
theorem F6_at : F6.at Try.prog 6 Try.f6 := ⟨Try.func6, by kernel_rfl, by kernel_rfl, by kernel_rfl, by kernel_rfl, by kernel_rfl⟩

-- "signalbox/signalboxlaw33.EdfFits" res .true
def F9 : AFn where
  np := 2
  nt := 94
  res := [(.t 4)]
  tab := [(.seq 2),
    (.region [⟨(.some 4), (.mv (.c (.bool .false))), .none, [], []⟩] .false), (.seq 8), (.seq 2),
    (.region [⟨(.some 12), (.call 22 []), .none, [], []⟩, ⟨(.some 13), (.un .not (.t 12)), .none, [], []⟩] .false), (.cond (.t 13) 4), (.seq 2),
    (.region [⟨(.some 4), (.mv (.c (.bool .false))), .none, [], []⟩] .false), .ret, .skip, (.seq 2),
    (.region [⟨(.some 14), (.mv (.t 1)), .none, [], []⟩, ⟨(.some 15), (.bin .rem .o (.t 14) (.c (.int .u16 300))), .none, [], []⟩, ⟨(.some 16), (.cvt .u64 (.t 15)), .none, [], []⟩, ⟨(.some 5), (.mv (.t 16)), .none, [], []⟩] .false), (.seq 8), (.seq 2),
    (.region [⟨(.some 17), (.mv (.t 0)), .none, [], []⟩, ⟨(.some 18), (.len .false (.t 17)), .none, [], []⟩, ⟨(.some 19), (.bin .gtr .o (.t 18) (.c (.int .i64 5))), .none, [], []⟩, ⟨(.some 20), (.mv (.t 19)), .none, [], []⟩, ⟨(.some 21), (.mv (.t 0)), (.some ((.some 20), .false)), [], []⟩, ⟨(.some 22), (.mv (.t 5)), (.some ((.some 20), .false)), [], []⟩, ⟨(.some 23), (.call 31 [(.t 21), (.t 22)]), (.some ((.some 20), .false)), [], []⟩, ⟨(.some 24), (.un .not (.t 23)), (.some ((.some 20), .false)), [], []⟩, ⟨(.some 25), (.pick (.t 20) (.c (.bool .true)) (.t 24)), .none, [], []⟩] .false), (.cond (.t 25) 4), (.seq 2),
    (.region [⟨(.some 4), (.mv (.c (.bool .true))), .none, [], []⟩] .false), .ret, .skip, (.seq 2),
    (.region [⟨(.some 6), (.mv (.c .nils)), .none, [], []⟩] .false), (.seq 38), (.seq 2),
    (.region [⟨(.some 26), (.mv (.t 0)), .none, [], []⟩, ⟨(.some 27), (.len .false (.t 26)), .none, [], []⟩, ⟨(.some 28), (.mv (.c (.int .i64 0))), .none, [], []⟩] .false), (.block 0), .loop, (.seq 2),
    (.region [⟨(.some 29), (.bin .lss .o (.t 28) (.t 27)), .none, [], []⟩] .false), (.seq 4), (.cond (.t 29) 2), .skip, (.exit 0), (.seq 26), (.block 1), (.seq 2),
    (.region [⟨(.some 30), (.idx 60 3 (.t 26) (.t 28)), .none, [], []⟩, ⟨(.some 31), (.ld (.some 3) (.t 30)), .none, [], []⟩, ⟨(.some 8), (.alloc 60 [(.int .u64 0), (.int .u64 0), (.int .u64 0)]), .none, [], []⟩, ⟨.none, (.st 3 (.t 8) (.t 31)), .none, [], []⟩] .false), (.seq 8), (.seq 2),
    (.region [⟨(.some 32), (.fad 2 (.t 8)), .none, [], []⟩, ⟨(.some 33), (.ld .none (.t 32)), .none, [], []⟩, ⟨(.some 34), (.bin .eql .o (.t 33) (.c (.int .u64 0))), .none, [], []⟩, ⟨(.some 35), (.mv (.t 34)), .none, [], []⟩, ⟨(.some 36), (.fad 2 (.t 8)), (.some ((.some 35), .false)), [], []⟩, ⟨(.some 37), (.ld .none (.t 36)), (.some ((.some 35), .false)), [], []⟩, ⟨(.some 38), (.bin .gtr .o (.t 37) (.c (.int .u64 1000))), (.some ((.some 35), .false)), [], []⟩, ⟨(.some 39), (.pick (.t 35) (.c (.bool .true)) (.t 38)), .none, [], []⟩, ⟨(.some 40), (.mv (.t 39)), .none, [], []⟩, ⟨(.some 41), (.fad 1 (.t 8)), (.some ((.some 40), .false)), [], []⟩, ⟨(.some 42), (.ld .none (.t 41)), (.some ((.some 40), .false)), [], []⟩, ⟨(.some 43), (.bin .gtr .o (.t 42) (.c (.int .u64 1000))), (.some ((.some 40), .false)), [], []⟩, ⟨(.some 44), (.pick (.t 40) (.c (.bool .true)) (.t 43)), .none, [], []⟩, ⟨(.some 45), (.mv (.t 44)), .none, [], []⟩, ⟨(.some 46), (.fad 0 (.t 8)), (.some ((.some 45), .false)), [], []⟩, ⟨(.some 47), (.ld .none (.t 46)), (.some ((.some 45), .false)), [], []⟩, ⟨(.some 48), (.bin .gtr .o (.t 47) (.c (.int .u64 1000))), (.some ((.some 45), .false)), [], []⟩, ⟨(.some 49), (.pick (.t 45) (.c (.bool .true)) (.t 48)), .none, [], []⟩] .false), (.cond (.t 49) 4), (.seq 2),
    (.region [⟨(.some 4), (.mv (.c (.bool .true))), .none, [], []⟩] .false), .ret, .skip, (.seq 2),
    (.region [⟨(.some 9), (.mv (.c (.int .u64 0))), .none, [], []⟩] .false), (.block 2), .loop, (.seq 6), (.seq 2),
    (.region [⟨(.some 50), (.mv (.t 9)), .none, [], []⟩, ⟨(.some 51), (.fad 1 (.t 8)), .none, [], []⟩, ⟨(.some 52), (.ld .none (.t 51)), .none, [], []⟩, ⟨(.some 53), (.bin .add .o (.t 50) (.t 52)), .none, [], []⟩, ⟨(.some 54), (.mv (.t 5)), .none, [], []⟩, ⟨(.some 55), (.bin .leq .o (.t 53) (.t 54)), .none, [], []⟩] .false), (.cond (.t 55) 2), .skip, (.exit 2), (.seq 3), (.block 3),
    (.region [⟨(.some 60), (.mv (.t 6)), .none, [], []⟩, ⟨(.some 61), (.mv (.t 9)), .none, [], []⟩, ⟨(.some 62), (.cvt .i64 (.t 61)), .none, [], []⟩, ⟨(.some 63), (.fad 0 (.t 8)), .none, [], []⟩, ⟨(.some 64), (.ld .none (.t 63)), .none, [], []⟩, ⟨(.some 65), (.cvt .i64 (.t 64)), .none, [], []⟩, ⟨(.some 66), (.mv (.t 9)), .none, [], []⟩, ⟨(.some 67), (.fad 1 (.t 8)), .none, [], []⟩, ⟨(.some 68), (.ld .none (.t 67)), .none, [], []⟩, ⟨(.some 69), (.bin .add .o (.t 66) (.t 68)), .none, [], []⟩, ⟨(.some 70), (.cvt .i64 (.t 69)), .none, [], []⟩, ⟨(.some 71), (.build [(.int .i64 0), (.int .i64 0), (.int .i64 0)] [(0, (1, (.t 62))), (1, (1, (.t 65))), (2, (1, (.t 70)))]), .none, [], []⟩, ⟨(.some 72), (.lit 53 3 1 [(.int .i64 0), (.int .i64 0), (.int .i64 0)] [(0, (.t 71))]), .none, [], []⟩, ⟨(.some 73), (.app 53 3 24 [(.int .i64 0), (.int .i64 0), (.int .i64 0)] (.t 60) (.t 72)), .none, [], []⟩, ⟨(.some 6), (.mv (.t 73)), .none, [], []⟩] .false),
    (.region [⟨(.some 56), (.mv (.t 9)), .none, [], []⟩, ⟨(.some 57), (.fad 2 (.t 8)), .none, [], []⟩, ⟨(.some 58), (.ld .none (.t 57)), .none, [], []⟩, ⟨(.some 59), (.bin .add .o (.t 56) (.t 58)), .none, [], []⟩, ⟨(.some 9), (.mv (.t 59)), .none, [], []⟩] .false),
    (.region [⟨(.some 74), (.bin .add .o (.t 28) (.c (.int .i64 1))), .none, [], []⟩, ⟨(.some 28), (.mv (.t 74)), .none, [], []⟩] .false), (.seq 23), (.seq 2),
    (.region [⟨(.some 75), (.mv (.t 6)), .none, [], []⟩, ⟨(.some 76), (.len .false (.t 75)), .none, [], []⟩, ⟨(.some 77), (.mv (.c (.int .i64 0))), .none, [], []⟩] .false), (.block 4), .loop, (.seq 2),
    (.region [⟨(.some 78), (.bin .lss .o (.t 77) (.t 76)), .none, [], []⟩] .false), (.seq 4), (.cond (.t 78) 2), .skip, (.exit 4), (.seq 11), (.block 5), (.seq 2),
    (.region [⟨(.some 79), (.idx 53 3 (.t 75) (.t 77)), .none, [], []⟩, ⟨(.some 80), (.ld (.some 3) (.t 79)), .none, [], []⟩, ⟨(.some 11), (.alloc 53 [(.int .i64 0), (.int .i64 0), (.int .i64 0)]), .none, [], []⟩, ⟨.none, (.st 3 (.t 11) (.t 80)), .none, [], []⟩] .false), (.seq 2),
    (.region [⟨(.some 81), (.fad 2 (.t 11)), .none, [], []⟩, ⟨(.some 82), (.ld .none (.t 81)), .none, [], []⟩, ⟨(.some 83), (.bin .eql .o (.t 82) (.c (.int .i64 0))), .none, [], []⟩, ⟨(.some 84), (.mv (.t 83)), .none, [], []⟩, ⟨(.some 85), (.fad 1 (.t 11)), (.some ((.some 84), .true)), [], []⟩, ⟨(.some 86), (.ld .none (.t 85)), (.some ((.some 84), .true)), [], []⟩, ⟨(.some 87), (.bin .gtr .o (.t 86) (.c (.int .i64 0))), (.some ((.some 84), .true)), [], []⟩, ⟨(.some 88), (.pick (.t 84) (.t 87) (.c (.bool .false))), .none, [], []⟩] .false), (.cond (.t 88) 4), (.seq 2),
    (.region [⟨(.some 4), (.mv (.c (.bool .true))), .none, [], []⟩] .false), .ret, .skip,
    (.region [⟨(.some 89), (.bin .add .o (.t 77) (.c (.int .i64 1))), .none, [], []⟩, ⟨(.some 77), (.mv (.t 89)), .none, [], []⟩] .false), (.seq 2),
    (.region [⟨(.some 90), (.mv (.t 6)), .none, [], []⟩, ⟨(.some 91), (.call 26 [(.t 90)]), .none, [], []⟩, ⟨(.some 92), (.len .false (.t 91)), .none, [], []⟩, ⟨(.some 93), (.bin .eql .o (.t 92) (.c (.int .i64 0))), .none, [], []⟩, ⟨(.some 4), (.mv (.t 93)), .none, [], []⟩] .false), .ret]
theorem F9_at : F9.at Try.prog 9 Try.f9 := ⟨Try.func9, by kernel_rfl, by kernel_rfl, by kernel_rfl, by kernel_rfl, by kernel_rfl⟩

-- "signalbox/signalboxlaw33.fixed" res .true
def F22 : AFn where
  np := 0
  nt := 61
  res := [(.t 0)]
  tab := [(.seq 2),
    (.region [⟨(.some 0), (.mv (.c (.bool .false))), .none, [], []⟩] .false), (.seq 2),
    (.region [⟨(.some 3), (.build [(.int .i64 0), (.int .i64 0), (.int .i64 0)] [(1, (1, (.c (.int .i64 2)))), (2, (1, (.c (.int .i64 4))))]), .none, [], []⟩, ⟨(.some 4), (.build [(.int .i64 0), (.int .i64 0), (.int .i64 0)] [(1, (1, (.c (.int .i64 2)))), (2, (1, (.c (.int .i64 2))))]), .none, [], []⟩, ⟨(.some 5), (.lit 53 3 2 [(.int .i64 0), (.int .i64 0), (.int .i64 0)] [(0, (.t 3)), (1, (.t 4))]), .none, [], []⟩, ⟨(.some 6), (.call 25 [(.t 5)]), .none, [], []⟩, ⟨(.some 1), (.mv (.t 6)), .none, [], []⟩] .false), (.seq 2),
    (.region [⟨(.some 7), (.build [(.int .i64 0), (.int .i64 0), (.int .i64 0)] [(0, (1, (.c (.int .i64 1)))), (1, (1, (.c (.int .i64 1)))), (2, (1, (.c (.int .i64 4))))]), .none, [], []⟩, ⟨(.some 8), (.lit 53 3 1 [(.int .i64 0), (.int .i64 0), (.int .i64 0)] [(0, (.t 7))]), .none, [], []⟩, ⟨(.some 9), (.call 27 [(.t 8), (.c (.int .i64 3))]), .none, [], []⟩, ⟨(.some 2), (.mv (.t 9)), .none, [], []⟩] .false), (.seq 2),
    (.region [⟨(.some 10), (.mv (.t 1)), .none, [], []⟩, ⟨(.some 11), (.len .false (.t 10)), .none, [], []⟩, ⟨(.some 12), (.bin .eql .o (.t 11) (.c (.int .i64 2))), .none, [], []⟩, ⟨(.some 13), (.mv (.t 12)), .none, [], []⟩, ⟨(.some 14), (.mv (.t 1)), (.some ((.some 13), .true)), [], []⟩, ⟨(.some 15), (.idx 3 1 (.t 14) (.c (.int .i64 0))), (.some ((.some 13), .true)), [], []⟩, ⟨(.some 16), (.ld .none (.t 15)), (.some ((.some 13), .true)), [], []⟩, ⟨(.some 17), (.bin .eql .o (.t 16) (.c (.int .i64 4))), (.some ((.some 13), .true)), [], []⟩, ⟨(.some 18), (.pick (.t 13) (.t 17) (.c (.bool .false))), .none, [], []⟩, ⟨(.some 19), (.mv (.t 18)), .none, [], []⟩, ⟨(.some 20), (.mv (.t 1)), (.some ((.some 19), .true)), [], []⟩, ⟨(.some 21), (.idx 3 1 (.t 20) (.c (.int .i64 1))), (.some ((.some 19), .true)), [], []⟩, ⟨(.some 22), (.ld .none (.t 21)), (.some ((.some 19), .true)), [], []⟩, ⟨(.some 23), (.bin .eql .o (.t 22) (.c (.int .i64 2))), (.some ((.some 19), .true)), [], []⟩, ⟨(.some 24), (.pick (.t 19) (.t 23) (.c (.bool .false))), .none, [], []⟩, ⟨(.some 25), (.mv (.t 24)), .none, [], []⟩, ⟨(.some 26), (.mv (.t 2)), (.some ((.some 25), .true)), [], []⟩, ⟨(.some 27), (.len .false (.t 26)), (.some ((.some 25), .true)), [], []⟩, ⟨(.some 28), (.bin .eql .o (.t 27) (.c (.int .i64 3))), (.some ((.some 25), .true)), [], []⟩, ⟨(.some 29), (.pick (.t 25) (.t 28) (.c (.bool .false))), .none, [], []⟩, ⟨(.some 30), (.mv (.t 29)), .none, [], []⟩, ⟨(.some 31), (.mv (.t 2)), (.some ((.some 30), .true)), [], []⟩, ⟨(.some 32), (.idx 3 1 (.t 31) (.c (.int .i64 0))), (.some ((.some 30), .true)), [], []⟩, ⟨(.some 33), (.ld .none (.t 32)), (.some ((.some 30), .true)), [], []⟩, ⟨(.some 34), (.bin .eql .o (.t 33) (.c (.int .i64 (-1)))), (.some ((.some 30), .true)), [], []⟩, ⟨(.some 35), (.pick (.t 30) (.t 34) (.c (.bool .false))), .none, [], []⟩, ⟨(.some 36), (.mv (.t 35)), .none, [], []⟩, ⟨(.some 37), (.mv (.t 2)), (.some ((.some 36), .true)), [], []⟩, ⟨(.some 38), (.idx 3 1 (.t 37) (.c (.int .i64 1))), (.some ((.some 36), .true)), [], []⟩, ⟨(.some 39), (.ld .none (.t 38)), (.some ((.some 36), .true)), [], []⟩, ⟨(.some 40), (.bin .eql .o (.t 39) (.c (.int .i64 0))), (.some ((.some 36), .true)), [], []⟩, ⟨(.some 41), (.pick (.t 36) (.t 40) (.c (.bool .false))), .none, [], []⟩, ⟨(.some 42), (.mv (.t 41)), .none, [], []⟩, ⟨(.some 43), (.build [(.int .i64 0), (.int .i64 0), (.int .i64 0)] [(1, (1, (.c (.int .i64 2)))), (2, (1, (.c (.int .i64 1))))]), (.some ((.some 42), .true)), [], []⟩, ⟨(.some 44), (.lit 53 3 1 [(.int .i64 0), (.int .i64 0), (.int .i64 0)] [(0, (.t 43))]), (.some ((.some 42), .true)), [], []⟩, ⟨(.some 45), (.call 26 [(.t 44)]), (.some ((.some 42), .true)), [], []⟩, ⟨(.some 46), (.len .false (.t 45)), (.some ((.some 42), .true)), [], []⟩, ⟨(.some 47), (.bin .eql .o (.t 46) (.c (.int .i64 1))), (.some ((.some 42), .true)), [], []⟩, ⟨(.some 48), (.pick (.t 42) (.t 47) (.c (.bool .false))), .none, [], []⟩, ⟨(.some 49), (.mv (.t 48)), .none, [], []⟩, ⟨(.some 50), (.build [(.int .u64 0), (.int .u64 0), (.int .u64 0)] [(0, (1, (.c (.int .u64 2)))), (1, (1, (.c (.int .u64 5)))), (2, (1, (.c (.int .u64 10))))]), (.some ((.some 49), .true)), [], []⟩, ⟨(.some 51), (.lit 60 3 1 [(.int .u64 0), (.int .u64 0), (.int .u64 0)] [(0, (.t 50))]), (.some ((.some 49), .true)), [], []⟩, ⟨(.some 52), (.call 30 [(.t 51), (.c (.int .u64 15))]), (.some ((.some 49), .true)), [], []⟩, ⟨(.some 53), (.bin .eql .o (.t 52) (.c (.int .u64 4))), (.some ((.some 49), .true)), [], []⟩, ⟨(.some 54), (.pick (.t 49) (.t 53) (.c (.bool .false))), .none, [], []⟩, ⟨(.some 55), (.mv (.t 54)), .none, [], []⟩, ⟨(.some 56), (.build [(.int .u64 0), (.int .u64 0), (.int .u64 0)] [(0, (1, (.c (.int .u64 2)))), (1, (1, (.c (.int .u64 1)))), (2, (1, (.c (.int .u64 10))))]), (.some ((.some 55), .true)), [], []⟩, ⟨(.some 57), (.lit 60 3 1 [(.int .u64 0), (.int .u64 0), (.int .u64 0)] [(0, (.t 56))]), (.some ((.some 55), .true)), [], []⟩, ⟨(.some 58), (.call 31 [(.t 57), (.c (.int .u64 5))]), (.some ((.some 55), .true)), [], []⟩, ⟨(.some 59), (.un .not (.t 58)), (.some ((.some 55), .true)), [], []⟩, ⟨(.some 60), (.pick (.t 55) (.t 59) (.c (.bool .false))), .none, [], []⟩, ⟨(.some 0), (.mv (.t 60)), .none, [], []⟩] .false), .ret]
theorem F22_at : F22.at Try.prog 22 Try.f22 := ⟨Try.func22, by kernel_rfl, by kernel_rfl, by kernel_rfl, by kernel_rfl, by kernel_rfl⟩

-- "signalbox/signalboxlaw33.works" res .true
def F23 : AFn where
  np := 1
  nt := 45
  res := [(.t 2), (.t 3)]
  tab := [(.seq 2),
    (.region [⟨(.some 2), (.mv (.c .nils)), .none, [], []⟩, ⟨(.some 3), (.mv (.c (.bool .false))), .none, [], []⟩] .false), (.seq 2),
    (.region [⟨(.some 4), (.mv (.c .nils)), .none, [], []⟩] .false), (.seq 2),
    (.region [⟨(.some 5), (.mv (.c (.int .i64 0))), .none, [], []⟩] .false), (.seq 29), (.seq 2),
    (.region [⟨(.some 9), (.mv (.t 0)), .none, [], []⟩, ⟨(.some 10), (.len .false (.t 9)), .none, [], []⟩, ⟨(.some 11), (.mv (.c (.int .i64 0))), .none, [], []⟩] .false), (.block 0), .loop, (.seq 2),
    (.region [⟨(.some 12), (.bin .lss .o (.t 11) (.t 10)), .none, [], []⟩] .false), (.seq 4), (.cond (.t 12) 2), .skip, (.exit 0), (.seq 17), (.block 1), (.seq 2),
    (.region [⟨(.some 13), (.idx 53 3 (.t 9) (.t 11)), .none, [], []⟩, ⟨(.some 14), (.ld (.some 3) (.t 13)), .none, [], []⟩, ⟨(.some 7), (.alloc 53 [(.int .i64 0), (.int .i64 0), (.int .i64 0)]), .none, [], []⟩, ⟨.none, (.st 3 (.t 7) (.t 14)), .none, [], []⟩] .false), (.seq 2),
    (.region [⟨(.some 15), (.fad 0 (.t 7)), .none, [], [7]⟩, ⟨(.some 16), (.ld .none (.t 15)), .none, [0], [15]⟩, ⟨(.some 17), (.call 52 [(.t 16)]), .none, [1], [16]⟩, ⟨(.some 18), (.fad 1 (.t 7)), .none, [], [7]⟩, ⟨(.some 19), (.ld .none (.t 18)), .none, [3], [18]⟩, ⟨(.some 20), (.call 52 [(.t 19)]), .none, [4, 2], [19]⟩, ⟨(.some 21), (.fad 2 (.t 7)), .none, [], [7]⟩, ⟨(.some 22), (.ld .none (.t 21)), .none, [6], [21]⟩, ⟨(.some 23), (.call 52 [(.t 22)]), .none, [7, 5], [22]⟩, ⟨(.some 24), (.build [(.int .i64 0), (.int .i64 0), (.int .i64 0)] [(0, (1, (.t 17))), (1, (1, (.t 20))), (2, (1, (.t 23)))]), .none, [2, 5, 8], [17, 20, 23]⟩, ⟨(.some 8), (.alloc 51 [(.int .i64 0), (.int .i64 0), (.int .i64 0)]), .none, [], []⟩, ⟨.none, (.st 3 (.t 8) (.t 24)), .none, [10, 9, 8, 0, 1, 2, 3, 4, 5, 6, 7, 8, 9, 10], [8, 24]⟩] .true), (.seq 2),
    (.region [⟨(.some 25), (.mv (.t 5)), .none, [], []⟩, ⟨(.some 26), (.fad 1 (.t 8)), .none, [], []⟩, ⟨(.some 27), (.ld .none (.t 26)), .none, [], []⟩, ⟨(.some 28), (.bin .add .o (.t 25) (.t 27)), .none, [], []⟩, ⟨(.some 5), (.mv (.t 28)), .none, [], []⟩] .false), (.seq 8), (.seq 2),
    (.region [⟨(.some 29), (.fad 0 (.t 8)), .none, [], []⟩, ⟨(.some 30), (.ld .none (.t 29)), .none, [], []⟩, ⟨(.some 31), (.bin .gtr .o (.t 30) (.c (.int .i64 500))), .none, [], []⟩, ⟨(.some 32), (.mv (.t 31)), .none, [], []⟩, ⟨(.some 33), (.mv (.t 5)), (.some ((.some 32), .false)), [], []⟩, ⟨(.some 34), (.bin .gtr .o (.t 33) (.c (.int .i64 600))), (.some ((.some 32), .false)), [], []⟩, ⟨(.some 35), (.pick (.t 32) (.c (.bool .true)) (.t 34)), .none, [], []⟩] .false), (.cond (.t 35) 4), (.seq 2),
    (.region [⟨(.some 2), (.mv (.c .nils)), .none, [], []⟩, ⟨(.some 3), (.mv (.c (.bool .false))), .none, [], []⟩] .false), .ret, .skip,
    (.region [⟨(.some 36), (.mv (.t 4)), .none, [], []⟩, ⟨(.some 37), (.ld (.some 3) (.t 8)), .none, [], []⟩, ⟨(.some 38), (.lit 51 3 1 [(.int .i64 0), (.int .i64 0), (.int .i64 0)] [(0, (.t 37))]), .none, [], []⟩, ⟨(.some 39), (.app 51 3 24 [(.int .i64 0), (.int .i64 0), (.int .i64 0)] (.t 36) (.t 38)), .none, [], []⟩, ⟨(.some 4), (.mv (.t 39)), .none, [], []⟩] .false),
    (.region [⟨(.some 40), (.bin .add .o (.t 11) (.c (.int .i64 1))), .none, [], []⟩, ⟨(.some 11), (.mv (.t 40)), .none, [], []⟩] .false), (.seq 2),
    (.region [⟨(.some 41), (.mv (.t 4)), .none, [], []⟩, ⟨(.some 42), (.mv (.t 0)), .none, [], []⟩, ⟨(.some 43), (.len .false (.t 42)), .none, [], []⟩, ⟨(.some 44), (.bin .leq .o (.t 43) (.c (.int .i64 30))), .none, [], []⟩, ⟨(.some 2), (.mv (.t 41)), .none, [], []⟩, ⟨(.some 3), (.mv (.t 44)), .none, [], []⟩] .false), .ret]
theorem F23_at : F23.at Try.prog 23 Try.f23 := ⟨Try.func23, by kernel_rfl, by kernel_rfl, by kernel_rfl, by kernel_rfl, by kernel_rfl⟩

-- "signalbox/signalboxref33.Run" res .true
def F24 : AFn where
  np := 1
  nt := 103
  res := [(.t 2), (.t 3)]
  tab := [(.seq 2),
    (.region [⟨(.some 2), (.mv (.c .nils)), .none, [], []⟩, ⟨(.some 3), (.mv (.c .nils)), .none, [], []⟩] .false), (.seq 2),
    (.region [⟨(.some 14), (.lit 3 1 0 [(.int .i64 0)] []), .none, [], []⟩, ⟨(.some 4), (.mv (.t 14)), .none, [], []⟩] .false), (.seq 2),
    (.region [⟨(.some 15), (.lit 3 1 0 [(.int .i64 0)] []), .none, [], []⟩, ⟨(.some 5), (.mv (.t 15)), .none, [], []⟩] .false), (.seq 2),
    (.region [⟨(.some 6), (.mv (.c (.int .i64 0))), .none, [], []⟩] .false), (.seq 21), (.seq 2),
    (.region [⟨(.some 16), (.mv (.t 0)), .none, [], []⟩, ⟨(.some 17), (.len .false (.t 16)), .none, [], []⟩, ⟨(.some 18), (.mv (.c (.int .i64 0))), .none, [], []⟩] .false), (.block 0), .loop, (.seq 2),
    (.region [⟨(.some 19), (.bin .lss .o (.t 18) (.t 17)), .none, [], []⟩] .false), (.seq 4), (.cond (.t 19) 2), .skip, (.exit 0), (.seq 9), (.block 1), (.seq 2),
    (.region [⟨(.some 20), (.idx 51 3 (.t 16) (.t 18)), .none, [], []⟩, ⟨(.some 21), (.ld (.some 3) (.t 20)), .none, [], []⟩, ⟨(.some 8), (.alloc 51 [(.int .i64 0), (.int .i64 0), (.int .i64 0)]), .none, [], []⟩, ⟨.none, (.st 3 (.t 8) (.t 21)), .none, [], []⟩] .false), (.seq 2),
    (.region [⟨(.some 22), (.mv (.t 4)), .none, [], []⟩, ⟨(.some 23), (.fad 1 (.t 8)), .none, [], []⟩, ⟨(.some 24), (.ld .none (.t 23)), .none, [], []⟩, ⟨(.some 25), (.lit 3 1 1 [(.int .i64 0)] [(0, (.t 24))]), .none, [], []⟩, ⟨(.some 26), (.app 3 1 8 [(.int .i64 0)] (.t 22) (.t 25)), .none, [], []⟩, ⟨(.some 4), (.mv (.t 26)), .none, [], []⟩] .false), (.seq 2),
    (.region [⟨(.some 27), (.mv (.t 5)), .none, [], []⟩, ⟨(.some 28), (.fad 0 (.t 8)), .none, [], []⟩, ⟨(.some 29), (.ld .none (.t 28)), .none, [], []⟩, ⟨(.some 30), (.lit 3 1 1 [(.int .i64 0)] [(0, (.t 29))]), .none, [], []⟩, ⟨(.some 31), (.app 3 1 8 [(.int .i64 0)] (.t 27) (.t 30)), .none, [], []⟩, ⟨(.some 5), (.mv (.t 31)), .none, [], []⟩] .false),
    (.region [⟨(.some 32), (.mv (.t 6)), .none, [], []⟩, ⟨(.some 33), (.fad 1 (.t 8)), .none, [], []⟩, ⟨(.some 34), (.ld .none (.t 33)), .none, [], []⟩, ⟨(.some 35), (.bin .add .o (.t 32) (.t 34)), .none, [], []⟩, ⟨(.some 6), (.mv (.t 35)), .none, [], []⟩] .false),
    (.region [⟨(.some 36), (.bin .add .o (.t 18) (.c (.int .i64 1))), .none, [], []⟩, ⟨(.some 18), (.mv (.t 36)), .none, [], []⟩] .false), (.seq 2),
    (.region [⟨(.some 9), (.mv (.c .nils)), .none, [], []⟩] .false), (.seq 52), (.seq 2),
    (.region [⟨(.some 10), (.mv (.c (.int .i64 0))), .none, [], []⟩] .false), (.block 2), .loop, (.seq 6), (.seq 2),
    (.region [⟨(.some 37), (.mv (.t 6)), .none, [], []⟩, ⟨(.some 38), (.bin .gtr .o (.t 37) (.c (.int .i64 0))), .none, [], []⟩] .false), (.cond (.t 38) 2), .skip, (.exit 2), (.seq 40), (.block 3), (.seq 2),
    (.region [⟨(.some 11), (.mv (.c (.int .i64 (-1)))), .none, [], []⟩] .false), (.seq 21), (.seq 2),
    (.region [⟨(.some 41), (.mv (.t 0)), .none, [], []⟩, ⟨(.some 42), (.len .false (.t 41)), .none, [], []⟩, ⟨(.some 43), (.mv (.c (.int .i64 0))), .none, [], []⟩] .false), (.block 4), .loop, (.seq 2),
    (.region [⟨(.some 44), (.bin .lss .o (.t 43) (.t 42)), .none, [], []⟩] .false), (.seq 4), (.cond (.t 44) 2), .skip, (.exit 4), (.seq 9), (.block 5), (.seq 2),
    (.region [⟨(.some 45), (.mv (.t 43)), .none, [], []⟩, ⟨(.some 46), (.idx 51 3 (.t 41) (.t 43)), .none, [], []⟩, ⟨(.some 47), (.ld (.some 3) (.t 46)), .none, [], []⟩, ⟨(.some 13), (.alloc 51 [(.int .i64 0), (.int .i64 0), (.int .i64 0)]), .none, [], []⟩, ⟨(.some 12), (.mv (.t 45)), .none, [], []⟩, ⟨.none, (.st 3 (.t 13) (.t 47)), .none, [], []⟩] .false), (.seq 2),
    (.region [⟨(.some 48), (.fad 0 (.t 13)), .none, [], [13]⟩, ⟨(.some 49), (.ld .none (.t 48)), .none, [0], [48]⟩, ⟨(.some 50), (.mv (.t 10)), .none, [], [10]⟩, ⟨(.some 51), (.bin .leq .o (.t 49) (.t 50)), .none, [1, 2], [49, 50]⟩, ⟨(.some 52), (.mv (.t 51)), .none, [3], [51]⟩, ⟨(.some 53), (.mv (.t 4)), (.some ((.some 52), .true)), [4], [4, 52]⟩, ⟨(.some 54), (.mv (.t 12)), (.some ((.some 52), .true)), [4], [12, 52]⟩, ⟨(.some 55), (.idx 3 1 (.t 53) (.t 54)), (.some ((.some 52), .true)), [5, 6, 4], [53, 54, 52]⟩, ⟨(.some 56), (.ld .none (.t 55)), (.some ((.some 52), .true)), [7, 4], [55, 52]⟩, ⟨(.some 57), (.bin .gtr .o (.t 56) (.c (.int .i64 0))), (.some ((.some 52), .true)), [8, 4], [56, 52]⟩, ⟨(.some 58), (.pick (.t 52) (.t 57) (.c (.bool .false))), .none, [4, 9], [52, 57]⟩, ⟨(.some 59), (.mv (.t 58)), .none, [10, 4], [58]⟩, ⟨(.some 60), (.mv (.t 11)), (.some ((.some 59), .true)), [11], [11, 59]⟩, ⟨(.some 61), (.bin .lss .o (.t 60) (.c (.int .i64 0))), (.some ((.some 59), .true)), [12, 11], [60, 59]⟩, ⟨(.some 62), (.mv (.t 61)), (.some ((.some 59), .true)), [13, 11, 11], [61, 59]⟩, ⟨(.some 63), (.fad 2 (.t 13)), (.some ((.some 62), .false)), [14], [13, 62]⟩, ⟨(.some 64), (.ld .none (.t 63)), (.some ((.some 62), .false)), [15, 14], [63, 62]⟩, ⟨(.some 65), (.mv (.t 0)), (.some ((.some 62), .false)), [14], [0, 62]⟩, ⟨(.some 66), (.mv (.t 11)), (.some ((.some 62), .false)), [14], [11, 62]⟩, ⟨(.some 67), (.idx 51 3 (.t 65) (.t 66)), (.some ((.some 62), .false)), [17, 18, 14], [65, 66, 62]⟩, ⟨(.some 68), (.fad 2 (.t 67)), (.some ((.some 62), .false)), [19, 14], [67, 62]⟩, ⟨(.some 69), (.ld .none (.t 68)), (.some ((.some 62), .false)), [20, 14], [68, 62]⟩, ⟨(.some 70), (.bin .lss .o (.t 64) (.t 69)), (.some ((.some 62), .false)), [16, 21, 14], [64, 69, 62]⟩, ⟨(.some 71), (.pick (.t 62) (.c (.bool .true)) (.t 70)), (.some ((.some 59), .true)), [14, 22, 11], [62, 70, 59]⟩, ⟨(.some 72), (.pick (.t 59) (.t 71) (.c (.bool .false))), .none, [11, 23], [59, 71]⟩] .true), (.cond (.t 72) 2),
    (.region [⟨(.some 73), (.mv (.t 12)), .none, [], []⟩, ⟨(.some 11), (.mv (.t 73)), .none, [], []⟩] .false), .skip,
    (.region [⟨(.some 74), (.bin .add .o (.t 43) (.c (.int .i64 1))), .none, [], []⟩, ⟨(.some 43), (.mv (.t 74)), .none, [], []⟩] .false), (.seq 2),
    (.region [⟨(.some 75), (.mv (.t 9)), .none, [], []⟩, ⟨(.some 76), (.mv (.t 11)), .none, [], []⟩, ⟨(.some 77), (.lit 3 1 1 [(.int .i64 0)] [(0, (.t 76))]), .none, [], []⟩, ⟨(.some 78), (.app 3 1 8 [(.int .i64 0)] (.t 75) (.t 77)), .none, [], []⟩, ⟨(.some 9), (.mv (.t 78)), .none, [], []⟩] .false), (.seq 2),
    (.region [⟨(.some 79), (.mv (.t 11)), .none, [], []⟩, ⟨(.some 80), (.bin .geq .o (.t 79) (.c (.int .i64 0))), .none, [], []⟩] .false), (.cond (.t 80) 10), (.seq 2),
    (.region [⟨(.some 81), (.mv (.t 4)), .none, [], []⟩, ⟨(.some 82), (.mv (.t 11)), .none, [], []⟩, ⟨(.some 83), (.mv (.t 4)), .none, [], []⟩, ⟨(.some 84), (.mv (.t 11)), .none, [], []⟩, ⟨(.some 85), (.idx 3 1 (.t 83) (.t 84)), .none, [], []⟩, ⟨(.some 86), (.ld .none (.t 85)), .none, [], []⟩, ⟨(.some 87), (.bin .sub .o (.t 86) (.c (.int .i64 1))), .none, [], []⟩, ⟨(.some 88), (.idx 3 1 (.t 81) (.t 82)), .none, [], []⟩, ⟨.none, (.st 1 (.t 88) (.t 87)), .none, [], []⟩] .false), (.seq 2),
    (.region [⟨(.some 89), (.mv (.t 6)), .none, [], []⟩, ⟨(.some 90), (.bin .sub .o (.t 89) (.c (.int .i64 1))), .none, [], []⟩, ⟨(.some 6), (.mv (.t 90)), .none, [], []⟩] .false), (.seq 2),
    (.region [⟨(.some 91), (.mv (.t 4)), .none, [], []⟩, ⟨(.some 92), (.mv (.t 11)), .none, [], []⟩, ⟨(.some 93), (.idx 3 1 (.t 91) (.t 92)), .none, [], []⟩, ⟨(.some 94), (.ld .none (.t 93)), .none, [], []⟩, ⟨(.some 95), (.bin .eql .o (.t 94) (.c (.int .i64 0))), .none, [], []⟩] .false), (.cond (.t 95) 2),
    (.region [⟨(.some 96), (.mv (.t 5)), .none, [], []⟩, ⟨(.some 97), (.mv (.t 11)), .none, [], []⟩, ⟨(.some 98), (.mv (.t 10)), .none, [], []⟩, ⟨(.some 99), (.bin .add .o (.t 98) (.c (.int .i64 1))), .none, [], []⟩, ⟨(.some 100), (.idx 3 1 (.t 96) (.t 97)), .none, [], []⟩, ⟨.none, (.st 1 (.t 100) (.t 99)), .none, [], []⟩] .false), .skip, .skip,
    (.region [⟨(.some 39), (.mv (.t 10)), .none, [], []⟩, ⟨(.some 40), (.bin .add .o (.t 39) (.c (.int .i64 1))), .none, [], []⟩, ⟨(.some 10), (.mv (.t 40)), .none, [], []⟩] .false), (.seq 2),
    (.region [⟨(.some 101), (.mv (.t 9)), .none, [], []⟩, ⟨(.some 102), (.mv (.t 5)), .none, [], []⟩, ⟨(.some 2), (.mv (.t 101)), .none, [], []⟩, ⟨(.some 3), (.mv (.t 102)), .none, [], []⟩] .false), .ret]
theorem F24_at : F24.at Try.prog 24 Try.f24 := ⟨Try.func24, by kernel_rfl, by kernel_rfl, by kernel_rfl, by kernel_rfl, by kernel_rfl⟩

-- "signalbox/edf.Run" res .true
def F25 : AFn where
  np := 1
  nt := 39
  res := [(.t 2)]
  tab := [(.seq 2),
    (.region [⟨(.some 2), (.mv (.c .nils)), .none, [], []⟩] .false), (.seq 2),
    (.region [⟨(.some 3), (.mv (.c .nils)), .none, [], []⟩] .false), (.seq 17), (.seq 2),
    (.region [⟨(.some 8), (.mv (.t 0)), .none, [], []⟩, ⟨(.some 9), (.len .false (.t 8)), .none, [], []⟩, ⟨(.some 10), (.mv (.c (.int .i64 0))), .none, [], []⟩] .false), (.block 0), .loop, (.seq 2),
    (.region [⟨(.some 11), (.bin .lss .o (.t 10) (.t 9)), .none, [], []⟩] .false), (.seq 4), (.cond (.t 11) 2), .skip, (.exit 0), (.seq 5), (.block 1), (.seq 2),
    (.region [⟨(.some 12), (.idx 53 3 (.t 8) (.t 10)), .none, [], []⟩, ⟨(.some 13), (.ld (.some 3) (.t 12)), .none, [], []⟩, ⟨(.some 5), (.alloc 53 [(.int .i64 0), (.int .i64 0), (.int .i64 0)]), .none, [], []⟩, ⟨.none, (.st 3 (.t 5) (.t 13)), .none, [], []⟩] .false),
    (.region [⟨(.some 14), (.mv (.t 3)), .none, [], []⟩, ⟨(.some 15), (.fad 0 (.t 5)), .none, [], []⟩, ⟨(.some 16), (.ld .none (.t 15)), .none, [], []⟩, ⟨(.some 17), (.call 53 [(.t 16)]), .none, [], []⟩, ⟨(.some 18), (.lit 3 1 1 [(.int .i64 0)] [(0, (.t 17))]), .none, [], []⟩, ⟨(.some 19), (.app 3 1 8 [(.int .i64 0)] (.t 14) (.t 18)), .none, [], []⟩, ⟨(.some 3), (.mv (.t 19)), .none, [], []⟩] .false),
    (.region [⟨(.some 20), (.bin .add .o (.t 10) (.c (.int .i64 1))), .none, [], []⟩, ⟨(.some 10), (.mv (.t 20)), .none, [], []⟩] .false), (.seq 21), (.seq 2),
    (.region [⟨(.some 21), (.mv (.t 0)), .none, [], []⟩, ⟨(.some 22), (.call 54 [(.t 21)]), .none, [], []⟩, ⟨(.some 23), (.len .false (.t 22)), .none, [], []⟩, ⟨(.some 24), (.mv (.c (.int .i64 0))), .none, [], []⟩] .false), (.block 2), .loop, (.seq 2),
    (.region [⟨(.some 25), (.bin .lss .o (.t 24) (.t 23)), .none, [], []⟩] .false), (.seq 4), (.cond (.t 25) 2), .skip, (.exit 2), (.seq 9), (.block 3), (.seq 2),
    (.region [⟨(.some 26), (.idx 93 3 (.t 22) (.t 24)), .none, [], []⟩, ⟨(.some 27), (.ld (.some 3) (.t 26)), .none, [], []⟩, ⟨(.some 7), (.alloc 93 [(.int .i64 0), (.int .i64 0), (.int .i64 0)]), .none, [], []⟩, ⟨.none, (.st 3 (.t 7) (.t 27)), .none, [], []⟩] .false), (.seq 2),
    (.region [⟨(.some 28), (.fad 2 (.t 7)), .none, [], []⟩, ⟨(.some 29), (.ld .none (.t 28)), .none, [], []⟩, ⟨(.some 30), (.bin .neq .o (.t 29) (.c (.int .i64 (-1)))), .none, [], []⟩] .false), (.cond (.t 30) 2),
    (.region [⟨(.some 31), (.mv (.t 3)), .none, [], []⟩, ⟨(.some 32), (.fad 2 (.t 7)), .none, [], []⟩, ⟨(.some 33), (.ld .none (.t 32)), .none, [], []⟩, ⟨(.some 34), (.fad 1 (.t 7)), .none, [], []⟩, ⟨(.some 35), (.ld .none (.t 34)), .none, [], []⟩, ⟨(.some 36), (.idx 3 1 (.t 31) (.t 33)), .none, [], []⟩, ⟨.none, (.st 1 (.t 36) (.t 35)), .none, [], []⟩] .false), .skip,
    (.region [⟨(.some 37), (.bin .add .o (.t 24) (.c (.int .i64 1))), .none, [], []⟩, ⟨(.some 24), (.mv (.t 37)), .none, [], []⟩] .false), (.seq 2),
    (.region [⟨(.some 38), (.mv (.t 3)), .none, [], []⟩, ⟨(.some 2), (.mv (.t 38)), .none, [], []⟩] .false), .ret]
theorem F25_at : F25.at Try.prog 25 Try.f25 := ⟨Try.func25, by kernel_rfl, by kernel_rfl, by kernel_rfl, by kernel_rfl, by kernel_rfl⟩

-- "signalbox/edf.Late" res .true
def F26 : AFn where
  np := 1
  nt := 28
  res := [(.t 2)]
  tab := [(.seq 2),
    (.region [⟨(.some 2), (.mv (.c .nils)), .none, [], []⟩] .false), (.seq 2),
    (.region [⟨(.some 3), (.mv (.c .nils)), .none, [], []⟩] .false), (.seq 21), (.seq 2),
    (.region [⟨(.some 6), (.mv (.t 0)), .none, [], []⟩, ⟨(.some 7), (.call 25 [(.t 6)]), .none, [], []⟩, ⟨(.some 8), (.len .false (.t 7)), .none, [], []⟩, ⟨(.some 9), (.mv (.c (.int .i64 0))), .none, [], []⟩] .false), (.block 0), .loop, (.seq 2),
    (.region [⟨(.some 10), (.bin .lss .o (.t 9) (.t 8)), .none, [], []⟩] .false), (.seq 4), (.cond (.t 10) 2), .skip, (.exit 0), (.seq 9), (.block 1), (.seq 2),
    (.region [⟨(.some 11), (.mv (.t 9)), .none, [], []⟩, ⟨(.some 12), (.idx 3 1 (.t 7) (.t 9)), .none, [], []⟩, ⟨(.some 13), (.ld .none (.t 12)), .none, [], []⟩, ⟨(.some 4), (.mv (.t 11)), .none, [], []⟩, ⟨(.some 5), (.mv (.t 13)), .none, [], []⟩] .false), (.seq 2),
    (.region [⟨(.some 14), (.mv (.t 5)), .none, [], []⟩, ⟨(.some 15), (.mv (.t 0)), .none, [], []⟩, ⟨(.some 16), (.mv (.t 4)), .none, [], []⟩, ⟨(.some 17), (.idx 53 3 (.t 15) (.t 16)), .none, [], []⟩, ⟨(.some 18), (.fad 2 (.t 17)), .none, [], []⟩, ⟨(.some 19), (.ld .none (.t 18)), .none, [], []⟩, ⟨(.some 20), (.call 53 [(.t 19)]), .none, [], []⟩, ⟨(.some 21), (.bin .gtr .o (.t 14) (.t 20)), .none, [], []⟩] .false), (.cond (.t 21) 2),
    (.region [⟨(.some 22), (.mv (.t 3)), .none, [], []⟩, ⟨(.some 23), (.mv (.t 4)), .none, [], []⟩, ⟨(.some 24), (.lit 3 1 1 [(.int .i64 0)] [(0, (.t 23))]), .none, [], []⟩, ⟨(.some 25), (.app 3 1 8 [(.int .i64 0)] (.t 22) (.t 24)), .none, [], []⟩, ⟨(.some 3), (.mv (.t 25)), .none, [], []⟩] .false), .skip,
    (.region [⟨(.some 26), (.bin .add .o (.t 9) (.c (.int .i64 1))), .none, [], []⟩, ⟨(.some 9), (.mv (.t 26)), .none, [], []⟩] .false), (.seq 2),
    (.region [⟨(.some 27), (.mv (.t 3)), .none, [], []⟩, ⟨(.some 2), (.mv (.t 27)), .none, [], []⟩] .false), .ret]
theorem F26_at : F26.at Try.prog 26 Try.f26 := ⟨Try.func26, by kernel_rfl, by kernel_rfl, by kernel_rfl, by kernel_rfl, by kernel_rfl⟩

-- "signalbox/edf.Order" res .true
def F27 : AFn where
  np := 2
  nt := 51
  res := [(.t 4)]
  tab := [(.seq 2),
    (.region [⟨(.some 4), (.mv (.c .nils)), .none, [], []⟩] .false), (.seq 8), (.seq 2),
    (.region [⟨(.some 10), (.mv (.t 1)), .none, [], []⟩, ⟨(.some 11), (.bin .lss .o (.t 10) (.c (.int .i64 0))), .none, [], []⟩, ⟨(.some 12), (.mv (.t 11)), .none, [], []⟩, ⟨(.some 13), (.mv (.t 1)), (.some ((.some 12), .false)), [], []⟩, ⟨(.some 14), (.bin .gtr .o (.t 13) (.c (.int .i64 4096))), (.some ((.some 12), .false)), [], []⟩, ⟨(.some 15), (.pick (.t 12) (.c (.bool .true)) (.t 14)), .none, [], []⟩] .false), (.cond (.t 15) 4), (.seq 2),
    (.region [⟨(.some 4), (.mv (.c .nils)), .none, [], []⟩] .false), .ret, .skip, (.seq 2),
    (.region [⟨(.some 16), (.mv (.t 1)), .none, [], []⟩, ⟨(.some 17), (.mks 3 1 8 [(.int .i64 0)] (.t 16) (.t 16)), .none, [], []⟩, ⟨(.some 5), (.mv (.t 17)), .none, [], []⟩] .false), (.seq 17), (.seq 2),
    (.region [⟨(.some 18), (.mv (.t 5)), .none, [], []⟩, ⟨(.some 19), (.len .false (.t 18)), .none, [], []⟩, ⟨(.some 20), (.mv (.c (.int .i64 0))), .none, [], []⟩] .false), (.block 0), .loop, (.seq 2),
    (.region [⟨(.some 21), (.bin .lss .o (.t 20) (.t 19)), .none, [], []⟩] .false), (.seq 4), (.cond (.t 21) 2), .skip, (.exit 0), (.seq 5), (.block 1), (.seq 2),
    (.region [⟨(.some 22), (.mv (.t 20)), .none, [], []⟩, ⟨(.some 6), (.mv (.t 22)), .none, [], []⟩] .false),
    (.region [⟨(.some 23), (.mv (.t 5)), .none, [], []⟩, ⟨(.some 24), (.mv (.t 6)), .none, [], []⟩, ⟨(.some 25), (.idx 3 1 (.t 23) (.t 24)), .none, [], []⟩, ⟨.none, (.st 1 (.t 25) (.c (.int .i64 (-1)))), .none, [], []⟩] .false),
    (.region [⟨(.some 26), (.bin .add .o (.t 20) (.c (.int .i64 1))), .none, [], []⟩, ⟨(.some 20), (.mv (.t 26)), .none, [], []⟩] .false), (.seq 30), (.seq 2),
    (.region [⟨(.some 27), (.mv (.t 0)), .none, [], []⟩, ⟨(.some 28), (.call 54 [(.t 27)]), .none, [], []⟩, ⟨(.some 29), (.len .false (.t 28)), .none, [], []⟩, ⟨(.some 30), (.mv (.c (.int .i64 0))), .none, [], []⟩] .false), (.block 2), .loop, (.seq 2),
    (.region [⟨(.some 31), (.bin .lss .o (.t 30) (.t 29)), .none, [], []⟩] .false), (.seq 4), (.cond (.t 31) 2), .skip, (.exit 2), (.seq 18), (.block 3), (.seq 2),
    (.region [⟨(.some 32), (.idx 93 3 (.t 28) (.t 30)), .none, [], []⟩, ⟨(.some 33), (.ld (.some 3) (.t 32)), .none, [], []⟩, ⟨(.some 8), (.alloc 93 [(.int .i64 0), (.int .i64 0), (.int .i64 0)]), .none, [], []⟩, ⟨.none, (.st 3 (.t 8) (.t 33)), .none, [], []⟩] .false), (.seq 2),
    (.region [⟨(.some 34), (.fad 0 (.t 8)), .none, [], []⟩, ⟨(.some 35), (.ld .none (.t 34)), .none, [], []⟩, ⟨(.some 9), (.mv (.t 35)), .none, [], []⟩] .false), (.block 4), .loop, (.seq 6), (.seq 2),
    (.region [⟨(.some 36), (.mv (.t 9)), .none, [], []⟩, ⟨(.some 37), (.fad 1 (.t 8)), .none, [], []⟩, ⟨(.some 38), (.ld .none (.t 37)), .none, [], []⟩, ⟨(.some 39), (.mv (.t 1)), .none, [], []⟩, ⟨(.some 40), (.mnmx .false (.t 38) (.t 39)), .none, [], []⟩, ⟨(.some 41), (.bin .lss .o (.t 36) (.t 40)), .none, [], []⟩] .false), (.cond (.t 41) 2), .skip, (.exit 4), (.seq 3), (.block 5),
    (.region [⟨(.some 44), (.mv (.t 5)), .none, [], []⟩, ⟨(.some 45), (.mv (.t 9)), .none, [], []⟩, ⟨(.some 46), (.fad 2 (.t 8)), .none, [], []⟩, ⟨(.some 47), (.ld .none (.t 46)), .none, [], []⟩, ⟨(.some 48), (.idx 3 1 (.t 44) (.t 45)), .none, [], []⟩, ⟨.none, (.st 1 (.t 48) (.t 47)), .none, [], []⟩] .false),
    (.region [⟨(.some 42), (.mv (.t 9)), .none, [], []⟩, ⟨(.some 43), (.bin .add .o (.t 42) (.c (.int .i64 1))), .none, [], []⟩, ⟨(.some 9), (.mv (.t 43)), .none, [], []⟩] .false),
    (.region [⟨(.some 49), (.bin .add .o (.t 30) (.c (.int .i64 1))), .none, [], []⟩, ⟨(.some 30), (.mv (.t 49)), .none, [], []⟩] .false), (.seq 2),
    (.region [⟨(.some 50), (.mv (.t 5)), .none, [], []⟩, ⟨(.some 4), (.mv (.t 50)), .none, [], []⟩] .false), .ret]
theorem F27_at : F27.at Try.prog 27 Try.f27 := ⟨Try.func27, by kernel_rfl, by kernel_rfl, by kernel_rfl, by kernel_rfl, by kernel_rfl⟩

-- "signalbox/edf.Demand" res .true
def F30 : AFn where
  np := 2
  nt := 38
  res := [(.t 4)]
  tab := [(.seq 2),
    (.region [⟨(.some 4), (.mv (.c (.int .u64 0))), .none, [], []⟩] .false), (.seq 2),
    (.region [⟨(.some 5), (.mv (.c (.int .u64 0))), .none, [], []⟩] .false), (.seq 31), (.seq 2),
    (.region [⟨(.some 9), (.mv (.t 0)), .none, [], []⟩, ⟨(.some 10), (.len .false (.t 9)), .none, [], []⟩, ⟨(.some 11), (.mv (.c (.int .i64 0))), .none, [], []⟩] .false), (.block 0), .loop, (.seq 2),
    (.region [⟨(.some 12), (.bin .lss .o (.t 11) (.t 10)), .none, [], []⟩] .false), (.seq 4), (.cond (.t 12) 2), .skip, (.exit 0), (.seq 19), (.block 1), (.seq 2),
    (.region [⟨(.some 13), (.idx 60 3 (.t 9) (.t 11)), .none, [], []⟩, ⟨(.some 14), (.ld (.some 3) (.t 13)), .none, [], []⟩, ⟨(.some 7), (.alloc 60 [(.int .u64 0), (.int .u64 0), (.int .u64 0)]), .none, [], []⟩, ⟨.none, (.st 3 (.t 7) (.t 14)), .none, [], []⟩] .false), (.seq 6), (.seq 2),
    (.region [⟨(.some 15), (.mv (.t 1)), .none, [], []⟩, ⟨(.some 16), (.fad 1 (.t 7)), .none, [], []⟩, ⟨(.some 17), (.ld .none (.t 16)), .none, [], []⟩, ⟨(.some 18), (.bin .lss .o (.t 15) (.t 17)), .none, [], []⟩] .false), (.cond (.t 18) 2), (.exit 1), .skip, (.seq 2),
    (.region [⟨(.some 8), (.mv (.c (.int .u64 18446744073709551615))), .none, [], []⟩] .false), (.seq 6), (.seq 2),
    (.region [⟨(.some 19), (.fad 2 (.t 7)), .none, [], []⟩, ⟨(.some 20), (.ld .none (.t 19)), .none, [], []⟩, ⟨(.some 21), (.bin .gtr .o (.t 20) (.c (.int .u64 0))), .none, [], []⟩] .false), (.cond (.t 21) 2),
    (.region [⟨(.some 22), (.mv (.t 1)), .none, [], []⟩, ⟨(.some 23), (.fad 1 (.t 7)), .none, [], []⟩, ⟨(.some 24), (.ld .none (.t 23)), .none, [], []⟩, ⟨(.some 25), (.bin .sub .o (.t 22) (.t 24)), .none, [], []⟩, ⟨(.some 26), (.fad 2 (.t 7)), .none, [], []⟩, ⟨(.some 27), (.ld .none (.t 26)), .none, [], []⟩, ⟨(.some 28), (.bin .quo .o (.t 25) (.t 27)), .none, [], []⟩, ⟨(.some 29), (.call 56 [(.t 28), (.c (.int .u64 1))]), .none, [], []⟩, ⟨(.some 8), (.mv (.t 29)), .none, [], []⟩] .false), .skip,
    (.region [⟨(.some 30), (.mv (.t 5)), .none, [], []⟩, ⟨(.some 31), (.fad 0 (.t 7)), .none, [], []⟩, ⟨(.some 32), (.ld .none (.t 31)), .none, [], []⟩, ⟨(.some 33), (.mv (.t 8)), .none, [], []⟩, ⟨(.some 34), (.call 57 [(.t 32), (.t 33)]), .none, [], []⟩, ⟨(.some 35), (.call 56 [(.t 30), (.t 34)]), .none, [], []⟩, ⟨(.some 5), (.mv (.t 35)), .none, [], []⟩] .false),
    (.region [⟨(.some 36), (.bin .add .o (.t 11) (.c (.int .i64 1))), .none, [], []⟩, ⟨(.some 11), (.mv (.t 36)), .none, [], []⟩] .false), (.seq 2),
    (.region [⟨(.some 37), (.mv (.t 5)), .none, [], []⟩, ⟨(.some 4), (.mv (.t 37)), .none, [], []⟩] .false), .ret]
theorem F30_at : F30.at Try.prog 30 Try.f30 := ⟨Try.func30, by kernel_rfl, by kernel_rfl, by kernel_rfl, by kernel_rfl, by kernel_rfl⟩

-- "signalbox/edf.Fits" res .true
def F31 : AFn where
  np := 2
  nt := 17
  res := [(.t 4)]
  tab := [(.seq 2),
    (.region [⟨(.some 4), (.mv (.c (.bool .false))), .none, [], []⟩] .false), (.seq 21), (.seq 2),
    (.region [⟨(.some 5), (.mv (.c (.int .u64 1))), .none, [], []⟩] .false), (.block 0), .loop, (.seq 6), (.seq 2),
    (.region [⟨(.some 6), (.mv (.t 5)), .none, [], []⟩, ⟨(.some 7), (.mv (.t 1)), .none, [], []⟩, ⟨(.some 8), (.mnmx .false (.t 7) (.c (.int .u64 65536))), .none, [], []⟩, ⟨(.some 9), (.bin .leq .o (.t 6) (.t 8)), .none, [], []⟩] .false), (.cond (.t 9) 2), .skip, (.exit 0), (.seq 9), (.block 1), (.seq 2),
    (.region [⟨(.some 12), (.mv (.t 0)), .none, [], []⟩, ⟨(.some 13), (.mv (.t 5)), .none, [], []⟩, ⟨(.some 14), (.call 30 [(.t 12), (.t 13)]), .none, [], []⟩, ⟨(.some 15), (.mv (.t 5)), .none, [], []⟩, ⟨(.some 16), (.bin .gtr .o (.t 14) (.t 15)), .none, [], []⟩] .false), (.cond (.t 16) 4), (.seq 2),
    (.region [⟨(.some 4), (.mv (.c (.bool .false))), .none, [], []⟩] .false), .ret, .skip,
    (.region [⟨(.some 10), (.mv (.t 5)), .none, [], []⟩, ⟨(.some 11), (.bin .add .o (.t 10) (.c (.int .u64 1))), .none, [], []⟩, ⟨(.some 5), (.mv (.t 11)), .none, [], []⟩] .false), (.seq 2),
    (.region [⟨(.some 4), (.mv (.c (.bool .true))), .none, [], []⟩] .false), .ret]
theorem F31_at : F31.at Try.prog 31 Try.f31 := ⟨Try.func31, by kernel_rfl, by kernel_rfl, by kernel_rfl, by kernel_rfl, by kernel_rfl⟩

-- "signalbox/signalboxref33.Clamp" res .true
def F52 : AFn where
  np := 1
  nt := 8
  res := [(.t 2)]
  tab := [(.seq 2),
    (.region [⟨(.some 2), (.mv (.c (.int .i64 0))), .none, [], []⟩] .false), (.seq 8), (.seq 2),
    (.region [⟨(.some 3), (.mv (.t 0)), .none, [], []⟩, ⟨(.some 4), (.bin .lss .o (.t 3) (.c (.int .i64 0))), .none, [], []⟩] .false), (.cond (.t 4) 4), (.seq 2),
    (.region [⟨(.some 2), (.mv (.c (.int .i64 0))), .none, [], []⟩] .false), .ret, .skip, (.seq 8), (.seq 2),
    (.region [⟨(.some 5), (.mv (.t 0)), .none, [], []⟩, ⟨(.some 6), (.bin .gtr .o (.t 5) (.c (.int .i64 1048576))), .none, [], []⟩] .false), (.cond (.t 6) 4), (.seq 2),
    (.region [⟨(.some 2), (.mv (.c (.int .i64 1048576))), .none, [], []⟩] .false), .ret, .skip, (.seq 2),
    (.region [⟨(.some 7), (.mv (.t 0)), .none, [], []⟩, ⟨(.some 2), (.mv (.t 7)), .none, [], []⟩] .false), .ret]
theorem F52_at : F52.at Try.prog 52 Try.f52 := ⟨Try.func52, by kernel_rfl, by kernel_rfl, by kernel_rfl, by kernel_rfl, by kernel_rfl⟩

-- "signalbox/edf.clamp" res .true
def F53 : AFn where
  np := 1
  nt := 6
  res := [(.t 2)]
  tab := [(.seq 2),
    (.region [⟨(.some 2), (.mv (.c (.int .i64 0))), .none, [], []⟩] .false), (.seq 2),
    (.region [⟨(.some 3), (.mv (.t 0)), .none, [], []⟩, ⟨(.some 4), (.mnmx .true (.t 3) (.c (.int .i64 0))), .none, [], []⟩, ⟨(.some 5), (.mnmx .false (.t 4) (.c (.int .i64 1048576))), .none, [], []⟩, ⟨(.some 2), (.mv (.t 5)), .none, [], []⟩] .false), .ret]
theorem F53_at : F53.at Try.prog 53 Try.f53 := ⟨Try.func53, by kernel_rfl, by kernel_rfl, by kernel_rfl, by kernel_rfl, by kernel_rfl⟩

-- "signalbox/edf.run" res .true
def F54 : AFn where
  np := 1
  nt := 163
  res := [(.t 2)]
  tab := [(.seq 2),
    (.region [⟨(.some 1), (.box 42 (.t 0)), .none, [], []⟩, ⟨(.some 2), (.mv (.c .nils)), .none, [], []⟩] .false), (.seq 2),
    (.region [⟨(.some 3), (.mv (.c .nils)), .none, [], []⟩] .false), (.seq 2),
    (.region [⟨(.some 12), (.ld .none (.t 1)), .none, [], []⟩, ⟨(.some 13), (.len .false (.t 12)), .none, [], []⟩, ⟨(.some 14), (.mks 3 1 8 [(.int .i64 0)] (.t 13) (.t 13)), .none, [], []⟩, ⟨(.some 4), (.mv (.t 14)), .none, [], []⟩] .false), (.seq 23), (.seq 2),
    (.region [⟨(.some 15), (.ld .none (.t 1)), .none, [], []⟩, ⟨(.some 16), (.len .false (.t 15)), .none, [], []⟩, ⟨(.some 17), (.mv (.c (.int .i64 0))), .none, [], []⟩] .false), (.block 0), .loop, (.seq 2),
    (.region [⟨(.some 18), (.bin .lss .o (.t 17) (.t 16)), .none, [], []⟩] .false), (.seq 4), (.cond (.t 18) 2), .skip, (.exit 0), (.seq 11), (.block 1), (.seq 2),
    (.region [⟨(.some 19), (.mv (.t 17)), .none, [], []⟩, ⟨(.some 20), (.idx 53 3 (.t 15) (.t 17)), .none, [], []⟩, ⟨(.some 21), (.ld (.some 3) (.t 20)), .none, [], []⟩, ⟨(.some 6), (.alloc 53 [(.int .i64 0), (.int .i64 0), (.int .i64 0)]), .none, [], []⟩, ⟨(.some 5), (.mv (.t 19)), .none, [], []⟩, ⟨.none, (.st 3 (.t 6) (.t 21)), .none, [], []⟩] .false), (.seq 2),
    (.region [⟨(.some 22), (.mv (.t 4)), .none, [], []⟩, ⟨(.some 23), (.mv (.t 5)), .none, [], []⟩, ⟨(.some 24), (.fad 1 (.t 6)), .none, [], []⟩, ⟨(.some 25), (.ld .none (.t 24)), .none, [], []⟩, ⟨(.some 26), (.call 53 [(.t 25)]), .none, [], []⟩, ⟨(.some 27), (.idx 3 1 (.t 22) (.t 23)), .none, [], []⟩, ⟨.none, (.st 1 (.t 27) (.t 26)), .none, [], []⟩] .false), (.seq 2),
    (.region [⟨(.some 28), (.mv (.t 4)), .none, [], []⟩, ⟨(.some 29), (.mv (.t 5)), .none, [], []⟩, ⟨(.some 30), (.idx 3 1 (.t 28) (.t 29)), .none, [], []⟩, ⟨(.some 31), (.ld .none (.t 30)), .none, [], []⟩, ⟨(.some 32), (.bin .gtr .o (.t 31) (.c (.int .i64 0))), .none, [], []⟩] .false), (.cond (.t 32) 2),
    (.region [⟨(.some 33), (.mv (.t 3)), .none, [], []⟩, ⟨(.some 34), (.mv (.t 5)), .none, [], []⟩, ⟨(.some 35), (.lit 3 1 1 [(.int .i64 0)] [(0, (.t 34))]), .none, [], []⟩, ⟨(.some 36), (.app 3 1 8 [(.int .i64 0)] (.t 33) (.t 35)), .none, [], []⟩, ⟨(.some 3), (.mv (.t 36)), .none, [], []⟩] .false), .skip,
    (.region [⟨(.some 37), (.bin .add .o (.t 17) (.c (.int .i64 1))), .none, [], []⟩, ⟨(.some 17), (.mv (.t 37)), .none, [], []⟩] .false), (.seq 2),
    (.region [⟨(.some 38), (.mv (.t 3)), .none, [], []⟩, ⟨(.some 39), (.mkf (.func 69) [] [(.t 1)]), .none, [], []⟩, ⟨(.some 40), (.call 61 [(.t 38), (.t 39)]), .none, [], []⟩] .false), (.seq 2),
    (.region [⟨(.some 7), (.mv (.c .nils)), .none, [], []⟩] .false), (.seq 2),
    (.region [⟨(.some 41), (.lit 112 2 0 [(.int .i64 0), (.int .i64 0)] []), .none, [], []⟩, ⟨(.some 42), (.box 108 (.t 41)), .none, [], []⟩, ⟨(.some 8), (.mv (.t 42)), .none, [], []⟩] .false), (.seq 62), (.seq 2),
    (.region [⟨(.some 9), (.mv (.c (.int .i64 0))), .none, [], []⟩] .false), (.block 2), .loop, (.seq 6), (.seq 2),
    (.region [⟨(.some 43), (.mv (.t 3)), .none, [], []⟩, ⟨(.some 44), (.len .false (.t 43)), .none, [], []⟩, ⟨(.some 45), (.bin .gtr .o (.t 44) (.c (.int .i64 0))), .none, [], []⟩, ⟨(.some 46), (.mv (.t 45)), .none, [], []⟩, ⟨(.some 47), (.mv (.t 8)), (.some ((.some 46), .false)), [], []⟩, ⟨(.some 48), (.nilc MTS (.t 47)), (.some ((.some 46), .false)), [], []⟩, ⟨(.some 49), (.ld .none (.t 48)), (.some ((.some 46), .false)), [], []⟩, ⟨(.some 50), (.call 70 [(.t 49)]), (.some ((.some 46), .false)), [], []⟩, ⟨(.some 51), (.bin .gtr .o (.t 50) (.c (.int .i64 0))), (.some ((.some 46), .false)), [], []⟩, ⟨(.some 52), (.pick (.t 46) (.c (.bool .true)) (.t 51)), .none, [], []⟩] .false), (.cond (.t 52) 2), .skip, (.exit 2), (.block 3), (.seq 13), (.block 4), .loop, (.seq 6), (.seq 2),
    (.region [⟨(.some 53), (.mv (.t 3)), .none, [], [3]⟩, ⟨(.some 54), (.len .false (.t 53)), .none, [0], [53]⟩, ⟨(.some 55), (.bin .gtr .o (.t 54) (.c (.int .i64 0))), .none, [1], [54]⟩, ⟨(.some 56), (.mv (.t 55)), .none, [2], [55]⟩, ⟨(.some 57), (.ld .none (.t 1)), (.some ((.some 56), .true)), [3], [1, 56]⟩, ⟨(.some 58), (.mv (.t 3)), (.some ((.some 56), .true)), [3], [3, 56]⟩, ⟨(.some 59), (.idx 3 1 (.t 58) (.c (.int .i64 0))), (.some ((.some 56), .true)), [5, 3], [58, 56]⟩, ⟨(.some 60), (.ld .none (.t 59)), (.some ((.some 56), .true)), [6, 3], [59, 56]⟩, ⟨(.some 61), (.idx 53 3 (.t 57) (.t 60)), (.some ((.some 56), .true)), [4, 7, 3], [57, 60, 56]⟩, ⟨(.some 62), (.fad 0 (.t 61)), (.some ((.some 56), .true)), [8, 3], [61, 56]⟩, ⟨(.some 63), (.ld .none (.t 62)), (.some ((.some 56), .true)), [9, 3], [62, 56]⟩, ⟨(.some 64), (.call 53 [(.t 63)]), (.some ((.some 56), .true)), [10, 3, 3], [63, 56]⟩, ⟨(.some 65), (.mv (.t 9)), (.some ((.some 56), .true)), [3], [9, 56]⟩, ⟨(.some 66), (.bin .leq .o (.t 64) (.t 65)), (.some ((.some 56), .true)), [11, 12, 3], [64, 65, 56]⟩, ⟨(.some 67), (.pick (.t 56) (.t 66) (.c (.bool .false))), .none, [3, 13], [56, 66]⟩] .true), (.cond (.t 67) 2), .skip, (.exit 4), (.block 5), (.seq 2),
    (.region [⟨(.some 68), (.mv (.t 8)), .none, [], [8]⟩, ⟨(.some 69), (.mki 106 (.t 68)), .none, [0], [68]⟩, ⟨(.some 70), (.ld .none (.t 1)), .none, [], [1]⟩, ⟨(.some 71), (.mv (.t 3)), .none, [], [3]⟩, ⟨(.some 72), (.idx 3 1 (.t 71) (.c (.int .i64 0))), .none, [3], [71]⟩, ⟨(.some 73), (.ld .none (.t 72)), .none, [4], [72]⟩, ⟨(.some 74), (.idx 53 3 (.t 70) (.t 73)), .none, [2, 5], [70, 73]⟩, ⟨(.some 75), (.fad 2 (.t 74)), .none, [6], [74]⟩, ⟨(.some 76), (.ld .none (.t 75)), .none, [7], [75]⟩, ⟨(.some 77), (.call 53 [(.t 76)]), .none, [8], [76]⟩, ⟨(.some 78), (.mv (.t 3)), .none, [], [3]⟩, ⟨(.some 79), (.idx 3 1 (.t 78) (.c (.int .i64 0))), .none, [10], [78]⟩, ⟨(.some 80), (.ld .none (.t 79)), .none, [11], [79]⟩, ⟨(.some 81), (.build [(.int .i64 0), (.int .i64 0)] [(0, (1, (.t 77))), (1, (1, (.t 80)))]), .none, [9, 12], [77, 80]⟩, ⟨(.some 82), (.mki 112 (.t 81)), .none, [13], [81]⟩, ⟨(.some 83), (.call 71 [(.t 69), (.t 82)]), .none, [1, 14, 9], [69, 82]⟩] .true),
    (.region [⟨(.some 84), (.mv (.t 3)), .none, [], []⟩, ⟨(.some 85), (.slc (.some 1) (.t 84) (.some (.c (.int .i64 1))) .none), .none, [], []⟩, ⟨(.some 3), (.mv (.t 85)), .none, [], []⟩] .false), (.seq 2),
    (.region [⟨(.some 86), (.mv (.t 9)), .none, [], []⟩, ⟨(.some 87), (.mv (.t 9)), .none, [], []⟩, ⟨(.some 88), (.build [(.int .i64 0), (.int .i64 0), (.int .i64 0)] [(0, (1, (.t 86))), (1, (1, (.t 87))), (2, (1, (.c (.int .i64 (-1)))))]), .none, [], []⟩, ⟨(.some 10), (.alloc 93 [(.int .i64 0), (.int .i64 0), (.int .i64 0)]), .none, [], []⟩, ⟨.none, (.st 3 (.t 10) (.t 88)), .none, [], []⟩] .false), (.seq 8), (.seq 2),
    (.region [⟨(.some 89), (.mv (.t 8)), .none, [], []⟩, ⟨(.some 90), (.nilc MTS (.t 89)), .none, [], []⟩, ⟨(.some 91), (.ld .none (.t 90)), .none, [], []⟩, ⟨(.some 92), (.call 70 [(.t 91)]), .none, [], []⟩, ⟨(.some 93), (.bin .gtr .o (.t 92) (.c (.int .i64 0))), .none, [], []⟩] .false), (.cond (.t 93) 4), (.seq 2),
    (.region [⟨(.some 94), (.mv (.t 8)), .none, [], []⟩, ⟨(.some 95), (.nilc MTS (.t 94)), .none, [], []⟩, ⟨(.some 96), (.ld .none (.t 95)), .none, [], []⟩, ⟨(.some 97), (.idx 112 2 (.t 96) (.c (.int .i64 0))), .none, [], []⟩, ⟨(.some 98), (.fad 1 (.t 97)), .none, [], []⟩, ⟨(.some 99), (.ld .none (.t 98)), .none, [], []⟩, ⟨(.some 100), (.fad 2 (.t 10)), .none, [], []⟩, ⟨.none, (.st 1 (.t 100) (.t 99)), .none, [], []⟩] .false),
    (.region [⟨(.some 101), (.fad 1 (.t 10)), .none, [], [10]⟩, ⟨(.some 102), (.ld .none (.t 101)), .none, [0], [101]⟩, ⟨(.some 103), (.mv (.t 4)), .none, [], [4]⟩, ⟨(.some 104), (.fad 2 (.t 10)), .none, [], [10]⟩, ⟨(.some 105), (.ld .none (.t 104)), .none, [3], [104]⟩, ⟨(.some 106), (.idx 3 1 (.t 103) (.t 105)), .none, [2, 4], [103, 105]⟩, ⟨(.some 107), (.ld .none (.t 106)), .none, [5], [106]⟩, ⟨(.some 108), (.bin .add .o (.t 102) (.t 107)), .none, [1, 6], [102, 107]⟩, ⟨(.some 109), (.fad 1 (.t 10)), .none, [0, 1, 2, 3, 4, 5, 6, 7], [10]⟩, ⟨.none, (.st 1 (.t 109) (.t 108)), .none, [8, 7, 0, 1, 2, 3, 4, 5, 6, 7], [109, 108]⟩] .true), .skip, (.seq 12), (.seq 2),
    (.region [⟨(.some 110), (.mv (.t 3)), .none, [], []⟩, ⟨(.some 111), (.len .false (.t 110)), .none, [], []⟩, ⟨(.some 112), (.bin .gtr .o (.t 111) (.c (.int .i64 0))), .none, [], []⟩] .false), (.cond (.t 112) 8), (.seq 2),
    (.region [⟨(.some 113), (.ld .none (.t 1)), .none, [], [1]⟩, ⟨(.some 114), (.mv (.t 3)), .none, [], [3]⟩, ⟨(.some 115), (.idx 3 1 (.t 114) (.c (.int .i64 0))), .none, [1], [114]⟩, ⟨(.some 116), (.ld .none (.t 115)), .none, [2], [115]⟩, ⟨(.some 117), (.idx 53 3 (.t 113) (.t 116)), .none, [0, 3], [113, 116]⟩, ⟨(.some 118), (.fad 0 (.t 117)), .none, [4], [117]⟩, ⟨(.some 119), (.ld .none (.t 118)), .none, [5], [118]⟩, ⟨(.some 120), (.call 53 [(.t 119)]), .none, [6], [119]⟩, ⟨(.some 11), (.mv (.t 120)), .none, [7, 7, 0, 1, 2, 3, 4, 5, 6, 7], [120]⟩] .true), (.seq 2),
    (.region [⟨(.some 121), (.fad 2 (.t 10)), .none, [], []⟩, ⟨(.some 122), (.ld .none (.t 121)), .none, [], []⟩, ⟨(.some 123), (.bin .eql .o (.t 122) (.c (.int .i64 (-1)))), .none, [], []⟩, ⟨(.some 124), (.mv (.t 123)), .none, [], []⟩, ⟨(.some 125), (.mv (.t 11)), (.some ((.some 124), .false)), [], []⟩, ⟨(.some 126), (.fad 1 (.t 10)), (.some ((.some 124), .false)), [], []⟩, ⟨(.some 127), (.ld .none (.t 126)), (.some ((.some 124), .false)), [], []⟩, ⟨(.some 128), (.bin .lss .o (.t 125) (.t 127)), (.some ((.some 124), .false)), [], []⟩, ⟨(.some 129), (.pick (.t 124) (.c (.bool .true)) (.t 128)), .none, [], []⟩] .false), (.cond (.t 129) 2),
    (.region [⟨(.some 130), (.mv (.t 11)), .none, [], []⟩, ⟨(.some 131), (.fad 1 (.t 10)), .none, [], []⟩, ⟨.none, (.st 1 (.t 131) (.t 130)), .none, [], []⟩] .false), .skip, .skip, (.seq 12), (.seq 2),
    (.region [⟨(.some 132), (.fad 2 (.t 10)), .none, [], []⟩, ⟨(.some 133), (.ld .none (.t 132)), .none, [], []⟩, ⟨(.some 134), (.bin .neq .o (.t 133) (.c (.int .i64 (-1)))), .none, [], []⟩] .false), (.cond (.t 134) 8), (.seq 2),
    (.region [⟨(.some 135), (.mv (.t 4)), .none, [], [4]⟩, ⟨(.some 136), (.fad 2 (.t 10)), .none, [], [10]⟩, ⟨(.some 137), (.ld .none (.t 136)), .none, [1], [136]⟩, ⟨(.some 138), (.idx 3 1 (.t 135) (.t 137)), .none, [0, 2], [135, 137]⟩, ⟨(.some 139), (.ld .none (.t 138)), .none, [3], [138]⟩, ⟨(.some 140), (.fad 1 (.t 10)), .none, [], [10]⟩, ⟨(.some 141), (.ld .none (.t 140)), .none, [5], [140]⟩, ⟨(.some 142), (.fad 0 (.t 10)), .none, [], [10]⟩, ⟨(.some 143), (.ld .none (.t 142)), .none, [7], [142]⟩, ⟨(.some 144), (.bin .sub .o (.t 141) (.t 143)), .none, [6, 8], [141, 143]⟩, ⟨(.some 145), (.bin .sub .o (.t 139) (.t 144)), .none, [4, 9], [139, 144]⟩, ⟨(.some 146), (.idx 3 1 (.t 135) (.t 137)), .none, [0, 2, 0, 1, 2, 3, 4, 5, 6, 7, 8, 9, 10], [135, 137]⟩, ⟨.none, (.st 1 (.t 146) (.t 145)), .none, [11, 10, 0, 1, 2, 3, 4, 5, 6, 7, 8, 9, 10], [146, 145]⟩] .true), (.seq 2),
    (.region [⟨(.some 147), (.mv (.t 4)), .none, [], []⟩, ⟨(.some 148), (.fad 2 (.t 10)), .none, [], []⟩, ⟨(.some 149), (.ld .none (.t 148)), .none, [], []⟩, ⟨(.some 150), (.idx 3 1 (.t 147) (.t 149)), .none, [], []⟩, ⟨(.some 151), (.ld .none (.t 150)), .none, [], []⟩, ⟨(.some 152), (.bin .eql .o (.t 151) (.c (.int .i64 0))), .none, [], []⟩] .false), (.cond (.t 152) 2),
    (.region [⟨(.some 153), (.mv (.t 8)), .none, [], []⟩, ⟨(.some 154), (.mki 106 (.t 153)), .none, [], []⟩, ⟨(.some 155), (.call 72 [(.t 154)]), .none, [], []⟩] .false), .skip, .skip, (.seq 2),
    (.region [⟨(.some 156), (.fad 1 (.t 10)), .none, [], []⟩, ⟨(.some 157), (.ld .none (.t 156)), .none, [], []⟩, ⟨(.some 9), (.mv (.t 157)), .none, [], []⟩] .false),
    (.region [⟨(.some 158), (.mv (.t 7)), .none, [], []⟩, ⟨(.some 159), (.ld (.some 3) (.t 10)), .none, [], []⟩, ⟨(.some 160), (.lit 93 3 1 [(.int .i64 0), (.int .i64 0), (.int .i64 0)] [(0, (.t 159))]), .none, [], []⟩, ⟨(.some 161), (.app 93 3 24 [(.int .i64 0), (.int .i64 0), (.int .i64 0)] (.t 158) (.t 160)), .none, [], []⟩, ⟨(.some 7), (.mv (.t 161)), .none, [], []⟩] .false), (.seq 2),
    (.region [⟨(.some 162), (.mv (.t 7)), .none, [], []⟩, ⟨(.some 2), (.mv (.t 162)), .none, [], []⟩] .false), .ret]
theorem F54_at : F54.at Try.prog 54 Try.f54 := ⟨Try.func54, by kernel_rfl, by kernel_rfl, by kernel_rfl, by kernel_rfl, by kernel_rfl⟩

-- "signalbox/sat.Add" res .true
def F56 : AFn where
  np := 2
  nt := 16
  res := [(.t 4)]
  tab := [(.seq 2),
    (.region [⟨(.some 4), (.mv (.c (.int .u64 0))), .none, [], []⟩] .false), (.seq 2),
    (.region [⟨(.some 8), (.mv (.t 0)), .none, [], []⟩, ⟨(.some 9), (.mv (.t 1)), .none, [], []⟩, ⟨(.some 10), (.addc (.t 8) (.t 9) (.c (.int .u64 0))), .none, [], []⟩, ⟨(.some 7), (.mv (.t 10)), .none, [], []⟩, ⟨(.some 11), (.ext (.t 7) 0), .none, [], []⟩, ⟨(.some 12), (.ext (.t 7) 1), .none, [], []⟩, ⟨(.some 5), (.mv (.t 11)), .none, [], []⟩, ⟨(.some 6), (.mv (.t 12)), .none, [], []⟩] .false), (.seq 8), (.seq 2),
    (.region [⟨(.some 13), (.mv (.t 6)), .none, [], []⟩, ⟨(.some 14), (.bin .gtr .o (.t 13) (.c (.int .u64 0))), .none, [], []⟩] .false), (.cond (.t 14) 4), (.seq 2),
    (.region [⟨(.some 4), (.mv (.c (.int .u64 18446744073709551615))), .none, [], []⟩] .false), .ret, .skip, (.seq 2),
    (.region [⟨(.some 15), (.mv (.t 5)), .none, [], []⟩, ⟨(.some 4), (.mv (.t 15)), .none, [], []⟩] .false), .ret]
theorem F56_at : F56.at Try.prog 56 Try.f56 := ⟨Try.func56, by kernel_rfl, by kernel_rfl, by kernel_rfl, by kernel_rfl, by kernel_rfl⟩

-- "signalbox/sat.Mul" res .true
def F57 : AFn where
  np := 2
  nt := 16
  res := [(.t 4)]
  tab := [(.seq 2),
    (.region [⟨(.some 4), (.mv (.c (.int .u64 0))), .none, [], []⟩] .false), (.seq 2),
    (.region [⟨(.some 8), (.mv (.t 0)), .none, [], []⟩, ⟨(.some 9), (.mv (.t 1)), .none, [], []⟩, ⟨(.some 10), (.call 74 [(.t 8), (.t 9)]), .none, [], []⟩, ⟨(.some 7), (.mv (.t 10)), .none, [], []⟩, ⟨(.some 11), (.ext (.t 7) 0), .none, [], []⟩, ⟨(.some 12), (.ext (.t 7) 1), .none, [], []⟩, ⟨(.some 5), (.mv (.t 11)), .none, [], []⟩, ⟨(.some 6), (.mv (.t 12)), .none, [], []⟩] .false), (.seq 8), (.seq 2),
    (.region [⟨(.some 13), (.mv (.t 5)), .none, [], []⟩, ⟨(.some 14), (.bin .gtr .o (.t 13) (.c (.int .u64 0))), .none, [], []⟩] .false), (.cond (.t 14) 4), (.seq 2),
    (.region [⟨(.some 4), (.mv (.c (.int .u64 18446744073709551615))), .none, [], []⟩] .false), .ret, .skip, (.seq 2),
    (.region [⟨(.some 15), (.mv (.t 6)), .none, [], []⟩, ⟨(.some 4), (.mv (.t 15)), .none, [], []⟩] .false), .ret]
theorem F57_at : F57.at Try.prog 57 Try.f57 := ⟨Try.func57, by kernel_rfl, by kernel_rfl, by kernel_rfl, by kernel_rfl, by kernel_rfl⟩

-- "slices.SortStableFunc[[]int,int]" res .true
def F61 : AFn where
  np := 2
  nt := 9
  res := []
  tab := [(.region [⟨(.some 4), (.mv (.t 0)), .none, [], []⟩, ⟨(.some 5), (.mv (.t 0)), .none, [], []⟩, ⟨(.some 6), (.len .false (.t 5)), .none, [], []⟩, ⟨(.some 7), (.mv (.t 1)), .none, [], []⟩, ⟨(.some 8), (.call 76 [(.t 4), (.t 6), (.t 7)]), .none, [], []⟩] .false)]
theorem F61_at : F61.at Try.prog 61 Try.f61 := ⟨Try.func61, by kernel_rfl, by kernel_rfl, by kernel_rfl, by kernel_rfl, by kernel_rfl⟩

-- "signalbox/edf.run$1" res .true
def F69 : AFn where
  np := 2
  nt := 19
  res := [(.t 5)]
  tab := [(.seq 2),
    (.region [⟨(.some 5), (.mv (.c (.int .i64 0))), .none, [], []⟩] .false), (.seq 2),
    (.region [⟨(.some 6), (.ld .none (.t 2)), .none, [], [2]⟩, ⟨(.some 7), (.mv (.t 0)), .none, [], [0]⟩, ⟨(.some 8), (.idx 53 3 (.t 6) (.t 7)), .none, [0, 1], [6, 7]⟩, ⟨(.some 9), (.fad 0 (.t 8)), .none, [2], [8]⟩, ⟨(.some 10), (.ld .none (.t 9)), .none, [3], [9]⟩, ⟨(.some 11), (.call 53 [(.t 10)]), .none, [4], [10]⟩, ⟨(.some 12), (.ld .none (.t 2)), .none, [], [2]⟩, ⟨(.some 13), (.mv (.t 1)), .none, [], [1]⟩, ⟨(.some 14), (.idx 53 3 (.t 12) (.t 13)), .none, [6, 7], [12, 13]⟩, ⟨(.some 15), (.fad 0 (.t 14)), .none, [8], [14]⟩, ⟨(.some 16), (.ld .none (.t 15)), .none, [9], [15]⟩, ⟨(.some 17), (.call 53 [(.t 16)]), .none, [10, 5], [16]⟩, ⟨(.some 18), (.bin .sub .o (.t 11) (.t 17)), .none, [5, 11], [11, 17]⟩, ⟨(.some 5), (.mv (.t 18)), .none, [12, 11, 0, 1, 2, 3, 4, 5, 6, 7, 8, 9, 10, 11, 12], [18]⟩] .true), .ret]
theorem F69_at : F69.at Try.prog 69 Try.f69 := ⟨Try.func69, by kernel_rfl, by kernel_rfl, by kernel_rfl, by kernel_rfl, by kernel_rfl⟩

-- "(signalbox/edf.items).Len" res .true
def F70 : AFn where
  np := 1
  nt := 5
  res := [(.t 2)]
  tab := [(.seq 2),
    (.region [⟨(.some 2), (.mv (.c (.int .i64 0))), .none, [], []⟩] .false), (.seq 2),
    (.region [⟨(.some 3), (.mv (.t 0)), .none, [], []⟩, ⟨(.some 4), (.len .false (.t 3)), .none, [], []⟩, ⟨(.some 2), (.mv (.t 4)), .none, [], []⟩] .false), .ret]
theorem F70_at : F70.at Try.prog 70 Try.f70 := ⟨Try.func70, by kernel_rfl, by kernel_rfl, by kernel_rfl, by kernel_rfl, by kernel_rfl⟩

-- "container/heap.Push" res .true
def F71 : AFn where
  np := 2
  nt := 12
  res := []
  tab := [(.seq 2),
    (.region [⟨(.some 4), (.mv (.t 0)), .none, [], []⟩, ⟨(.some 5), (.mv (.t 1)), .none, [], []⟩, ⟨(.some 6), (.inv [(106, (122, .none))] (.t 4) [(.t 5)]), .none, [], []⟩] .false),
    (.region [⟨(.some 7), (.mv (.t 0)), .none, [], []⟩, ⟨(.some 8), (.mv (.t 0)), .none, [], []⟩, ⟨(.some 9), (.inv [(17, (114, .none)), (106, (70, (.some .none))), (108, (70, .none))] (.t 8) []), .none, [], []⟩, ⟨(.some 10), (.bin .sub .o (.t 9) (.c (.int .i64 1))), .none, [], []⟩, ⟨(.some 11), (.call 80 [(.t 7), (.t 10)]), .none, [], []⟩] .false)]
theorem F71_at : F71.at Try.prog 71 Try.f71 := ⟨Try.func71, by kernel_rfl, by kernel_rfl, by kernel_rfl, by kernel_rfl, by kernel_rfl⟩

-- "container/heap.Pop" res .true
def F72 : AFn where
  np := 1
  nt := 15
  res := [(.t 2)]
  tab := [(.seq 2),
    (.region [⟨(.some 2), (.mv (.c .nili)), .none, [], []⟩] .false), (.seq 2),
    (.region [⟨(.some 4), (.mv (.t 0)), .none, [], []⟩, ⟨(.some 5), (.inv [(17, (114, .none)), (106, (70, (.some .none))), (108, (70, .none))] (.t 4) []), .none, [], []⟩, ⟨(.some 6), (.bin .sub .o (.t 5) (.c (.int .i64 1))), .none, [], []⟩, ⟨(.some 3), (.mv (.t 6)), .none, [], []⟩] .false), (.seq 2),
    (.region [⟨(.some 7), (.mv (.t 0)), .none, [], []⟩, ⟨(.some 8), (.mv (.t 3)), .none, [], []⟩, ⟨(.some 9), (.inv [(106, (123, (.some .none))), (108, (123, .none))] (.t 7) [(.c (.int .i64 0)), (.t 8)]), .none, [], []⟩] .false), (.seq 2),
    (.region [⟨(.some 10), (.mv (.t 0)), .none, [], []⟩, ⟨(.some 11), (.mv (.t 3)), .none, [], []⟩, ⟨(.some 12), (.call 81 [(.t 10), (.c (.int .i64 0)), (.t 11)]), .none, [], []⟩] .false), (.seq 2),
    (.region [⟨(.some 13), (.mv (.t 0)), .none, [], []⟩, ⟨(.some 14), (.inv [(106, (121, .none))] (.t 13) []), .none, [], []⟩, ⟨(.some 2), (.mv (.t 14)), .none, [], []⟩] .false), .ret]
theorem F72_at : F72.at Try.prog 72 Try.f72 := ⟨Try.func72, by kernel_rfl, by kernel_rfl, by kernel_rfl, by kernel_rfl, by kernel_rfl⟩

-- "math/bits.Mul64" res .true
def F74 : AFn where
  np := 2
  nt := 51
  res := [(.t 4), (.t 5)]
  tab := [(.seq 2),
    (.region [⟨(.some 4), (.mv (.c (.int .u64 0))), .none, [], []⟩, ⟨(.some 5), (.mv (.c (.int .u64 0))), .none, [], []⟩] .false), (.seq 2),
    (.region [⟨(.some 14), (.mv (.t 0)), .none, [], []⟩, ⟨(.some 15), (.bin .and .o (.t 14) (.c (.int .u64 4294967295))), .none, [], []⟩, ⟨(.some 6), (.mv (.t 15)), .none, [], []⟩] .false), (.seq 2),
    (.region [⟨(.some 16), (.mv (.t 0)), .none, [], []⟩, ⟨(.some 17), (.bin .shr .o (.t 16) (.c (.int .u64 32))), .none, [], []⟩, ⟨(.some 7), (.mv (.t 17)), .none, [], []⟩] .false), (.seq 2),
    (.region [⟨(.some 18), (.mv (.t 1)), .none, [], []⟩, ⟨(.some 19), (.bin .and .o (.t 18) (.c (.int .u64 4294967295))), .none, [], []⟩, ⟨(.some 8), (.mv (.t 19)), .none, [], []⟩] .false), (.seq 2),
    (.region [⟨(.some 20), (.mv (.t 1)), .none, [], []⟩, ⟨(.some 21), (.bin .shr .o (.t 20) (.c (.int .u64 32))), .none, [], []⟩, ⟨(.some 9), (.mv (.t 21)), .none, [], []⟩] .false), (.seq 2),
    (.region [⟨(.some 22), (.mv (.t 6)), .none, [], []⟩, ⟨(.some 23), (.mv (.t 8)), .none, [], []⟩, ⟨(.some 24), (.bin .mul .o (.t 22) (.t 23)), .none, [], []⟩, ⟨(.some 10), (.mv (.t 24)), .none, [], []⟩] .false), (.seq 2),
    (.region [⟨(.some 25), (.mv (.t 7)), .none, [], []⟩, ⟨(.some 26), (.mv (.t 8)), .none, [], []⟩, ⟨(.some 27), (.bin .mul .o (.t 25) (.t 26)), .none, [], []⟩, ⟨(.some 28), (.mv (.t 10)), .none, [], []⟩, ⟨(.some 29), (.bin .shr .o (.t 28) (.c (.int .u64 32))), .none, [], []⟩, ⟨(.some 30), (.bin .add .o (.t 27) (.t 29)), .none, [], []⟩, ⟨(.some 11), (.mv (.t 30)), .none, [], []⟩] .false), (.seq 2),
    (.region [⟨(.some 31), (.mv (.t 11)), .none, [], []⟩, ⟨(.some 32), (.bin .and .o (.t 31) (.c (.int .u64 4294967295))), .none, [], []⟩, ⟨(.some 12), (.mv (.t 32)), .none, [], []⟩] .false), (.seq 2),
    (.region [⟨(.some 33), (.mv (.t 11)), .none, [], []⟩, ⟨(.some 34), (.bin .shr .o (.t 33) (.c (.int .u64 32))), .none, [], []⟩, ⟨(.some 13), (.mv (.t 34)), .none, [], []⟩] .false), (.seq 2),
    (.region [⟨(.some 35), (.mv (.t 12)), .none, [], []⟩, ⟨(.some 36), (.mv (.t 6)), .none, [], []⟩, ⟨(.some 37), (.mv (.t 9)), .none, [], []⟩, ⟨(.some 38), (.bin .mul .o (.t 36) (.t 37)), .none, [], []⟩, ⟨(.some 39), (.bin .add .o (.t 35) (.t 38)), .none, [], []⟩, ⟨(.some 12), (.mv (.t 39)), .none, [], []⟩] .false), (.seq 2),
    (.region [⟨(.some 40), (.mv (.t 7)), .none, [], []⟩, ⟨(.some 41), (.mv (.t 9)), .none, [], []⟩, ⟨(.some 42), (.bin .mul .o (.t 40) (.t 41)), .none, [], []⟩, ⟨(.some 43), (.mv (.t 13)), .none, [], []⟩, ⟨(.some 44), (.bin .add .o (.t 42) (.t 43)), .none, [], []⟩, ⟨(.some 45), (.mv (.t 12)), .none, [], []⟩, ⟨(.some 46), (.bin .shr .o (.t 45) (.c (.int .u64 32))), .none, [], []⟩, ⟨(.some 47), (.bin .add .o (.t 44) (.t 46)), .none, [], []⟩, ⟨(.some 4), (.mv (.t 47)), .none, [], []⟩] .false), (.seq 2),
    (.region [⟨(.some 48), (.mv (.t 0)), .none, [], []⟩, ⟨(.some 49), (.mv (.t 1)), .none, [], []⟩, ⟨(.some 50), (.bin .mul .o (.t 48) (.t 49)), .none, [], []⟩, ⟨(.some 5), (.mv (.t 50)), .none, [], []⟩] .false), .ret]
theorem F74_at : F74.at Try.prog 74 Try.f74 := ⟨Try.func74, by kernel_rfl, by kernel_rfl, by kernel_rfl, by kernel_rfl, by kernel_rfl⟩

-- "slices.stableCmpFunc[int]" res .true
def F76 : AFn where
  np := 3
  nt := 63
  res := []
  tab := [(.seq 2),
    (.region [⟨(.some 6), (.mv (.c (.int .i64 20))), .none, [], []⟩] .false), (.seq 2),
    (.region [⟨(.some 10), (.mv (.t 6)), .none, [], []⟩, ⟨(.some 7), (.mv (.c (.int .i64 0))), .none, [], []⟩, ⟨(.some 8), (.mv (.t 10)), .none, [], []⟩] .false), (.seq 15), (.block 0), .loop, (.seq 6), (.seq 2),
    (.region [⟨(.some 11), (.mv (.t 8)), .none, [], []⟩, ⟨(.some 12), (.mv (.t 1)), .none, [], []⟩, ⟨(.some 13), (.bin .leq .o (.t 11) (.t 12)), .none, [], []⟩] .false), (.cond (.t 13) 2), .skip, (.exit 0), (.block 1), (.seq 2),
    (.region [⟨(.some 14), (.mv (.t 0)), .none, [], []⟩, ⟨(.some 15), (.mv (.t 7)), .none, [], []⟩, ⟨(.some 16), (.mv (.t 8)), .none, [], []⟩, ⟨(.some 17), (.mv (.t 2)), .none, [], []⟩, ⟨(.some 18), (.call 82 [(.t 14), (.t 15), (.t 16), (.t 17)]), .none, [], []⟩] .false), (.seq 2),
    (.region [⟨(.some 19), (.mv (.t 8)), .none, [], []⟩, ⟨(.some 7), (.mv (.t 19)), .none, [], []⟩] .false),
    (.region [⟨(.some 20), (.mv (.t 8)), .none, [], []⟩, ⟨(.some 21), (.mv (.t 6)), .none, [], []⟩, ⟨(.some 22), (.bin .add .o (.t 20) (.t 21)), .none, [], []⟩, ⟨(.some 8), (.mv (.t 22)), .none, [], []⟩] .false), (.seq 2),
    (.region [⟨(.some 23), (.mv (.t 0)), .none, [], []⟩, ⟨(.some 24), (.mv (.t 7)), .none, [], []⟩, ⟨(.some 25), (.mv (.t 1)), .none, [], []⟩, ⟨(.some 26), (.mv (.t 2)), .none, [], []⟩, ⟨(.some 27), (.call 82 [(.t 23), (.t 24), (.t 25), (.t 26)]), .none, [], []⟩] .false), (.block 2), .loop, (.seq 6), (.seq 2),
    (.region [⟨(.some 28), (.mv (.t 6)), .none, [], []⟩, ⟨(.some 29), (.mv (.t 1)), .none, [], []⟩, ⟨(.some 30), (.bin .lss .o (.t 28) (.t 29)), .none, [], []⟩] .false), (.cond (.t 30) 2), .skip, (.exit 2), (.block 3), (.seq 2),
    (.region [⟨(.some 31), (.mv (.t 6)), .none, [], []⟩, ⟨(.some 32), (.bin .mul .o (.c (.int .i64 2)) (.t 31)), .none, [], []⟩, ⟨(.some 7), (.mv (.c (.int .i64 0))), .none, [], []⟩, ⟨(.some 8), (.mv (.t 32)), .none, [], []⟩] .false), (.seq 15), (.block 4), .loop, (.seq 6), (.seq 2),
    (.region [⟨(.some 33), (.mv (.t 8)), .none, [], []⟩, ⟨(.some 34), (.mv (.t 1)), .none, [], []⟩, ⟨(.some 35), (.bin .leq .o (.t 33) (.t 34)), .none, [], []⟩] .false), (.cond (.t 35) 2), .skip, (.exit 4), (.block 5), (.seq 2),
    (.region [⟨(.some 36), (.mv (.t 0)), .none, [], []⟩, ⟨(.some 37), (.mv (.t 7)), .none, [], []⟩, ⟨(.some 38), (.mv (.t 7)), .none, [], []⟩, ⟨(.some 39), (.mv (.t 6)), .none, [], []⟩, ⟨(.some 40), (.bin .add .o (.t 38) (.t 39)), .none, [], []⟩, ⟨(.some 41), (.mv (.t 8)), .none, [], []⟩, ⟨(.some 42), (.mv (.t 2)), .none, [], []⟩, ⟨(.some 43), (.call 83 [(.t 36), (.t 37), (.t 40), (.t 41), (.t 42)]), .none, [], []⟩] .false), (.seq 2),
    (.region [⟨(.some 44), (.mv (.t 8)), .none, [], []⟩, ⟨(.some 7), (.mv (.t 44)), .none, [], []⟩] .false),
    (.region [⟨(.some 45), (.mv (.t 8)), .none, [], []⟩, ⟨(.some 46), (.mv (.t 6)), .none, [], []⟩, ⟨(.some 47), (.bin .mul .o (.c (.int .i64 2)) (.t 46)), .none, [], []⟩, ⟨(.some 48), (.bin .add .o (.t 45) (.t 47)), .none, [], []⟩, ⟨(.some 8), (.mv (.t 48)), .none, [], []⟩] .false), (.seq 8), (.seq 2),
    (.region [⟨(.some 49), (.mv (.t 7)), .none, [], []⟩, ⟨(.some 50), (.mv (.t 6)), .none, [], []⟩, ⟨(.some 51), (.bin .add .o (.t 49) (.t 50)), .none, [], []⟩, ⟨(.some 9), (.mv (.t 51)), .none, [], []⟩] .false), (.seq 2),
    (.region [⟨(.some 52), (.mv (.t 9)), .none, [], []⟩, ⟨(.some 53), (.mv (.t 1)), .none, [], []⟩, ⟨(.some 54), (.bin .lss .o (.t 52) (.t 53)), .none, [], []⟩] .false), (.cond (.t 54) 2),
    (.region [⟨(.some 55), (.mv (.t 0)), .none, [], []⟩, ⟨(.some 56), (.mv (.t 7)), .none, [], []⟩, ⟨(.some 57), (.mv (.t 9)), .none, [], []⟩, ⟨(.some 58), (.mv (.t 1)), .none, [], []⟩, ⟨(.some 59), (.mv (.t 2)), .none, [], []⟩, ⟨(.some 60), (.call 83 [(.t 55), (.t 56), (.t 57), (.t 58), (.t 59)]), .none, [], []⟩] .false), .skip,
    (.region [⟨(.some 61), (.mv (.t 6)), .none, [], []⟩, ⟨(.some 62), (.bin .mul .o (.t 61) (.c (.int .i64 2))), .none, [], []⟩, ⟨(.some 6), (.mv (.t 62)), .none, [], []⟩] .false)]
theorem F76_at : F76.at Try.prog 76 Try.f76 := ⟨Try.func76, by kernel_rfl, by kernel_rfl, by kernel_rfl, by kernel_rfl, by kernel_rfl⟩

-- "container/heap.up" res .true
def F80 : AFn where
  np := 2
  nt := 23
  res := []
  tab := [(.block 0), .loop, (.block 1), (.seq 2),
    (.region [⟨(.some 5), (.mv (.t 1)), .none, [], []⟩, ⟨(.some 6), (.bin .sub .o (.t 5) (.c (.int .i64 1))), .none, [], []⟩, ⟨(.some 7), (.bin .quo .o (.t 6) (.c (.int .i64 2))), .none, [], []⟩, ⟨(.some 4), (.mv (.t 7)), .none, [], []⟩] .false), (.seq 6), (.seq 2),
    (.region [⟨(.some 8), (.mv (.t 4)), .none, [], []⟩, ⟨(.some 9), (.mv (.t 1)), .none, [], []⟩, ⟨(.some 10), (.bin .eql .o (.t 8) (.t 9)), .none, [], []⟩, ⟨(.some 11), (.mv (.t 10)), .none, [], []⟩, ⟨(.some 12), (.mv (.t 0)), (.some ((.some 11), .false)), [], []⟩, ⟨(.some 13), (.mv (.t 1)), (.some ((.some 11), .false)), [], []⟩, ⟨(.some 14), (.mv (.t 4)), (.some ((.some 11), .false)), [], []⟩, ⟨(.some 15), (.inv [(106, (120, (.some .none))), (108, (120, .none))] (.t 12) [(.t 13), (.t 14)]), (.some ((.some 11), .false)), [], []⟩, ⟨(.some 16), (.un .not (.t 15)), (.some ((.some 11), .false)), [], []⟩, ⟨(.some 17), (.pick (.t 11) (.c (.bool .true)) (.t 16)), .none, [], []⟩] .false), (.cond (.t 17) 2), (.exit 0), .skip, (.seq 2),
    (.region [⟨(.some 18), (.mv (.t 0)), .none, [], []⟩, ⟨(.some 19), (.mv (.t 4)), .none, [], []⟩, ⟨(.some 20), (.mv (.t 1)), .none, [], []⟩, ⟨(.some 21), (.inv [(106, (123, (.some .none))), (108, (123, .none))] (.t 18) [(.t 19), (.t 20)]), .none, [], []⟩] .false),
    (.region [⟨(.some 22), (.mv (.t 4)), .none, [], []⟩, ⟨(.some 1), (.mv (.t 22)), .none, [], []⟩] .false)]
theorem F80_at : F80.at Try.prog 80 Try.f80 := ⟨Try.func80, by kernel_rfl, by kernel_rfl, by kernel_rfl, by kernel_rfl, by kernel_rfl⟩

-- "container/heap.down" res .true
def F81 : AFn where
  np := 3
  nt := 48
  res := [(.t 6)]
  tab := [(.seq 2),
    (.region [⟨(.some 6), (.mv (.c (.bool .false))), .none, [], []⟩] .false), (.seq 2),
    (.region [⟨(.some 11), (.mv (.t 1)), .none, [], []⟩, ⟨(.some 7), (.mv (.t 11)), .none, [], []⟩] .false), (.seq 31), (.block 0), .loop, (.block 1), (.seq 2),
    (.region [⟨(.some 12), (.mv (.t 7)), .none, [], []⟩, ⟨(.some 13), (.bin .mul .o (.c (.int .i64 2)) (.t 12)), .none, [], []⟩, ⟨(.some 14), (.bin .add .o (.t 13) (.c (.int .i64 1))), .none, [], []⟩, ⟨(.some 8), (.mv (.t 14)), .none, [], []⟩] .false), (.seq 6), (.seq 2),
    (.region [⟨(.some 15), (.mv (.t 8)), .none, [], []⟩, ⟨(.some 16), (.mv (.t 2)), .none, [], []⟩, ⟨(.some 17), (.bin .geq .o (.t 15) (.t 16)), .none, [], []⟩, ⟨(.some 18), (.mv (.t 17)), .none, [], []⟩, ⟨(.some 19), (.mv (.t 8)), (.some ((.some 18), .false)), [], []⟩, ⟨(.some 20), (.bin .lss .o (.t 19) (.c (.int .i64 0))), (.some ((.some 18), .false)), [], []⟩, ⟨(.some 21), (.pick (.t 18) (.c (.bool .true)) (.t 20)), .none, [], []⟩] .false), (.cond (.t 21) 2), (.exit 0), .skip, (.seq 2),
    (.region [⟨(.some 22), (.mv (.t 8)), .none, [], []⟩, ⟨(.some 9), (.mv (.t 22)), .none, [], []⟩] .false), (.seq 8), (.seq 2),
    (.region [⟨(.some 23), (.mv (.t 8)), .none, [], []⟩, ⟨(.some 24), (.bin .add .o (.t 23) (.c (.int .i64 1))), .none, [], []⟩, ⟨(.some 10), (.mv (.t 24)), .none, [], []⟩] .false), (.seq 2),
    (.region [⟨(.some 25), (.mv (.t 10)), .none, [], []⟩, ⟨(.some 26), (.mv (.t 2)), .none, [], []⟩, ⟨(.some 27), (.bin .lss .o (.t 25) (.t 26)), .none, [], []⟩, ⟨(.some 28), (.mv (.t 27)), .none, [], []⟩, ⟨(.some 29), (.mv (.t 0)), (.some ((.some 28), .true)), [], []⟩, ⟨(.some 30), (.mv (.t 10)), (.some ((.some 28), .true)), [], []⟩, ⟨(.some 31), (.mv (.t 8)), (.some ((.some 28), .true)), [], []⟩, ⟨(.some 32), (.inv [(106, (120, (.some .none))), (108, (120, .none))] (.t 29) [(.t 30), (.t 31)]), (.some ((.some 28), .true)), [], []⟩, ⟨(.some 33), (.pick (.t 28) (.t 32) (.c (.bool .false))), .none, [], []⟩] .false), (.cond (.t 33) 2),
    (.region [⟨(.some 34), (.mv (.t 10)), .none, [], []⟩, ⟨(.some 9), (.mv (.t 34)), .none, [], []⟩] .false), .skip, (.seq 6), (.seq 2),
    (.region [⟨(.some 35), (.mv (.t 0)), .none, [], []⟩, ⟨(.some 36), (.mv (.t 9)), .none, [], []⟩, ⟨(.some 37), (.mv (.t 7)), .none, [], []⟩, ⟨(.some 38), (.inv [(106, (120, (.some .none))), (108, (120, .none))] (.t 35) [(.t 36), (.t 37)]), .none, [], []⟩, ⟨(.some 39), (.un .not (.t 38)), .none, [], []⟩] .false), (.cond (.t 39) 2), (.exit 0), .skip, (.seq 2),
    (.region [⟨(.some 40), (.mv (.t 0)), .none, [], []⟩, ⟨(.some 41), (.mv (.t 7)), .none, [], []⟩, ⟨(.some 42), (.mv (.t 9)), .none, [], []⟩, ⟨(.some 43), (.inv [(106, (123, (.some .none))), (108, (123, .none))] (.t 40) [(.t 41), (.t 42)]), .none, [], []⟩] .false),
    (.region [⟨(.some 44), (.mv (.t 9)), .none, [], []⟩, ⟨(.some 7), (.mv (.t 44)), .none, [], []⟩] .false), (.seq 2),
    (.region [⟨(.some 45), (.mv (.t 7)), .none, [], []⟩, ⟨(.some 46), (.mv (.t 1)), .none, [], []⟩, ⟨(.some 47), (.bin .gtr .o (.t 45) (.t 46)), .none, [], []⟩, ⟨(.some 6), (.mv (.t 47)), .none, [], []⟩] .false), .ret]
theorem F81_at : F81.at Try.prog 81 Try.f81 := ⟨Try.func81, by kernel_rfl, by kernel_rfl, by kernel_rfl, by kernel_rfl, by kernel_rfl⟩

-- "slices.insertionSortCmpFunc[int]" res .true
def F82 : AFn where
  np := 4
  nt := 53
  res := []
  tab := [(.seq 2),
    (.region [⟨(.some 10), (.mv (.t 1)), .none, [], []⟩, ⟨(.some 11), (.bin .add .o (.t 10) (.c (.int .i64 1))), .none, [], []⟩, ⟨(.some 8), (.mv (.t 11)), .none, [], []⟩] .false), (.block 0), .loop, (.seq 6), (.seq 2),
    (.region [⟨(.some 12), (.mv (.t 8)), .none, [], []⟩, ⟨(.some 13), (.mv (.t 2)), .none, [], []⟩, ⟨(.some 14), (.bin .lss .o (.t 12) (.t 13)), .none, [], []⟩] .false), (.cond (.t 14) 2), .skip, (.exit 0), (.seq 16), (.block 1), (.seq 2),
    (.region [⟨(.some 17), (.mv (.t 8)), .none, [], []⟩, ⟨(.some 9), (.mv (.t 17)), .none, [], []⟩] .false), (.block 2), .loop, (.seq 6), (.seq 2),
    (.region [⟨(.some 18), (.mv (.t 9)), .none, [], [9]⟩, ⟨(.some 19), (.mv (.t 1)), .none, [], [1]⟩, ⟨(.some 20), (.bin .gtr .o (.t 18) (.t 19)), .none, [0, 1], [18, 19]⟩, ⟨(.some 21), (.mv (.t 20)), .none, [2], [20]⟩, ⟨(.some 22), (.mv (.t 3)), (.some ((.some 21), .true)), [3], [3, 21]⟩, ⟨(.some 23), (.mv (.t 0)), (.some ((.some 21), .true)), [3], [0, 21]⟩, ⟨(.some 24), (.mv (.t 9)), (.some ((.some 21), .true)), [3], [9, 21]⟩, ⟨(.some 25), (.idx 3 1 (.t 23) (.t 24)), (.some ((.some 21), .true)), [5, 6, 3], [23, 24, 21]⟩, ⟨(.some 26), (.ld .none (.t 25)), (.some ((.some 21), .true)), [7, 3], [25, 21]⟩, ⟨(.some 27), (.mv (.t 0)), (.some ((.some 21), .true)), [3], [0, 21]⟩, ⟨(.some 28), (.mv (.t 9)), (.some ((.some 21), .true)), [3], [9, 21]⟩, ⟨(.some 29), (.bin .sub .o (.t 28) (.c (.int .i64 1))), (.some ((.some 21), .true)), [10, 3], [28, 21]⟩, ⟨(.some 30), (.idx 3 1 (.t 27) (.t 29)), (.some ((.some 21), .true)), [9, 11, 3], [27, 29, 21]⟩, ⟨(.some 31), (.ld .none (.t 30)), (.some ((.some 21), .true)), [12, 3], [30, 21]⟩, ⟨(.some 32), (.callv (.t 22) [(.t 26), (.t 31)]), (.some ((.some 21), .true)), [4, 8, 13, 3, 3], [22, 26, 31, 21]⟩, ⟨(.some 33), (.bin .lss .o (.t 32) (.c (.int .i64 0))), (.some ((.some 21), .true)), [14, 3], [32, 21]⟩, ⟨(.some 34), (.pick (.t 21) (.t 33) (.c (.bool .false))), .none, [3, 15], [21, 33]⟩] .true), (.cond (.t 34) 2), .skip, (.exit 2), (.seq 3), (.block 3),
    (.region [⟨(.some 37), (.mv (.t 0)), .none, [], [0]⟩, ⟨(.some 38), (.mv (.t 9)), .none, [], [9]⟩, ⟨(.some 39), (.mv (.t 0)), .none, [], [0]⟩, ⟨(.some 40), (.mv (.t 9)), .none, [], [9]⟩, ⟨(.some 41), (.bin .sub .o (.t 40) (.c (.int .i64 1))), .none, [3], [40]⟩, ⟨(.some 42), (.mv (.t 0)), .none, [], [0]⟩, ⟨(.some 43), (.mv (.t 9)), .none, [], [9]⟩, ⟨(.some 44), (.bin .sub .o (.t 43) (.c (.int .i64 1))), .none, [6], [43]⟩, ⟨(.some 45), (.idx 3 1 (.t 42) (.t 44)), .none, [5, 7], [42, 44]⟩, ⟨(.some 46), (.ld .none (.t 45)), .none, [8], [45]⟩, ⟨(.some 47), (.mv (.t 0)), .none, [], [0]⟩, ⟨(.some 48), (.mv (.t 9)), .none, [], [9]⟩, ⟨(.some 49), (.idx 3 1 (.t 47) (.t 48)), .none, [10, 11], [47, 48]⟩, ⟨(.some 50), (.ld .none (.t 49)), .none, [12], [49]⟩, ⟨(.some 51), (.idx 3 1 (.t 37) (.t 38)), .none, [0, 1, 0, 1, 5, 6, 7, 8, 9, 13], [37, 38]⟩, ⟨.none, (.st 1 (.t 51) (.t 46)), .none, [14, 9, 0, 1, 5, 6, 7, 8, 9, 13], [51, 46]⟩, ⟨(.some 52), (.idx 3 1 (.t 39) (.t 41)), .none, [2, 4, 0, 1, 2, 3, 4, 5, 6, 7, 8, 9, 10, 11, 12, 13, 14, 15], [39, 41]⟩, ⟨.none, (.st 1 (.t 52) (.t 50)), .none, [16, 13, 15, 0, 1, 2, 3, 4, 5, 6, 7, 8, 9, 10, 11, 12, 13, 14, 15], [52, 50]⟩] .true),
    (.region [⟨(.some 35), (.mv (.t 9)), .none, [], []⟩, ⟨(.some 36), (.bin .sub .o (.t 35) (.c (.int .i64 1))), .none, [], []⟩, ⟨(.some 9), (.mv (.t 36)), .none, [], []⟩] .false),
    (.region [⟨(.some 15), (.mv (.t 8)), .none, [], []⟩, ⟨(.some 16), (.bin .add .o (.t 15) (.c (.int .i64 1))), .none, [], []⟩, ⟨(.some 8), (.mv (.t 16)), .none, [], []⟩] .false)]
theorem F82_at : F82.at Try.prog 82 Try.f82 := ⟨Try.func82, by kernel_rfl, by kernel_rfl, by kernel_rfl, by kernel_rfl, by kernel_rfl⟩

-- "slices.symMergeCmpFunc[int]" res .true
def F83 : AFn where
  np := 5
  nt := 220
  res := []
  tab := [(.seq 42), (.seq 2),
    (.region [⟨(.some 25), (.mv (.t 2)), .none, [], []⟩, ⟨(.some 26), (.mv (.t 1)), .none, [], []⟩, ⟨(.some 27), (.bin .sub .o (.t 25) (.t 26)), .none, [], []⟩, ⟨(.some 28), (.bin .eql .o (.t 27) (.c (.int .i64 1))), .none, [], []⟩] .false), (.cond (.t 28) 38), (.seq 2),
    (.region [⟨(.some 29), (.mv (.t 2)), .none, [], []⟩, ⟨(.some 10), (.mv (.t 29)), .none, [], []⟩] .false), (.seq 2),
    (.region [⟨(.some 30), (.mv (.t 3)), .none, [], []⟩, ⟨(.some 11), (.mv (.t 30)), .none, [], []⟩] .false), (.seq 17), (.block 0), .loop, (.seq 6), (.seq 2),
    (.region [⟨(.some 31), (.mv (.t 10)), .none, [], []⟩, ⟨(.some 32), (.mv (.t 11)), .none, [], []⟩, ⟨(.some 33), (.bin .lss .o (.t 31) (.t 32)), .none, [], []⟩] .false), (.cond (.t 33) 2), .skip, (.exit 0), (.block 1), (.seq 2),
    (.region [⟨(.some 34), (.mv (.t 10)), .none, [], []⟩, ⟨(.some 35), (.mv (.t 11)), .none, [], []⟩, ⟨(.some 36), (.bin .add .o (.t 34) (.t 35)), .none, [], []⟩, ⟨(.some 37), (.cvt .u64 (.t 36)), .none, [], []⟩, ⟨(.some 38), (.bin .shr .o (.t 37) (.c (.int .u64 1))), .none, [], []⟩, ⟨(.some 39), (.cvt .i64 (.t 38)), .none, [], []⟩, ⟨(.some 12), (.mv (.t 39)), .none, [], []⟩] .false), (.seq 2),
    (.region [⟨(.some 40), (.mv (.t 4)), .none, [], [4]⟩, ⟨(.some 41), (.mv (.t 0)), .none, [], [0]⟩, ⟨(.some 42), (.mv (.t 12)), .none, [], [12]⟩, ⟨(.some 43), (.idx 3 1 (.t 41) (.t 42)), .none, [1, 2], [41, 42]⟩, ⟨(.some 44), (.ld .none (.t 43)), .none, [3], [43]⟩, ⟨(.some 45), (.mv (.t 0)), .none, [], [0]⟩, ⟨(.some 46), (.mv (.t 1)), .none, [], [1]⟩, ⟨(.some 47), (.idx 3 1 (.t 45) (.t 46)), .none, [5, 6], [45, 46]⟩, ⟨(.some 48), (.ld .none (.t 47)), .none, [7], [47]⟩, ⟨(.some 49), (.callv (.t 40) [(.t 44), (.t 48)]), .none, [0, 4, 8], [40, 44, 48]⟩, ⟨(.some 50), (.bin .lss .o (.t 49) (.c (.int .i64 0))), .none, [9], [49]⟩] .true), (.cond (.t 50) 2),
    (.region [⟨(.some 51), (.mv (.t 12)), .none, [], []⟩, ⟨(.some 52), (.bin .add .o (.t 51) (.c (.int .i64 1))), .none, [], []⟩, ⟨(.some 10), (.mv (.t 52)), .none, [], []⟩] .false),
    (.region [⟨(.some 53), (.mv (.t 12)), .none, [], []⟩, ⟨(.some 11), (.mv (.t 53)), .none, [], []⟩] .false), (.seq 15), (.seq 2),
    (.region [⟨(.some 54), (.mv (.t 1)), .none, [], []⟩, ⟨(.some 13), (.mv (.t 54)), .none, [], []⟩] .false), (.block 2), .loop, (.seq 6), (.seq 2),
    (.region [⟨(.some 55), (.mv (.t 13)), .none, [], []⟩, ⟨(.some 56), (.mv (.t 10)), .none, [], []⟩, ⟨(.some 57), (.bin .sub .o (.t 56) (.c (.int .i64 1))), .none, [], []⟩, ⟨(.some 58), (.bin .lss .o (.t 55) (.t 57)), .none, [], []⟩] .false), (.cond (.t 58) 2), .skip, (.exit 2), (.seq 3), (.block 3),
    (.region [⟨(.some 61), (.mv (.t 0)), .none, [], [0]⟩, ⟨(.some 62), (.mv (.t 13)), .none, [], [13]⟩, ⟨(.some 63), (.mv (.t 0)), .none, [], [0]⟩, ⟨(.some 64), (.mv (.t 13)), .none, [], [13]⟩, ⟨(.some 65), (.bin .add .o (.t 64) (.c (.int .i64 1))), .none, [3], [64]⟩, ⟨(.some 66), (.mv (.t 0)), .none, [], [0]⟩, ⟨(.some 67), (.mv (.t 13)), .none, [], [13]⟩, ⟨(.some 68), (.bin .add .o (.t 67) (.c (.int .i64 1))), .none, [6], [67]⟩, ⟨(.some 69), (.idx 3 1 (.t 66) (.t 68)), .none, [5, 7], [66, 68]⟩, ⟨(.some 70), (.ld .none (.t 69)), .none, [8], [69]⟩, ⟨(.some 71), (.mv (.t 0)), .none, [], [0]⟩, ⟨(.some 72), (.mv (.t 13)), .none, [], [13]⟩, ⟨(.some 73), (.idx 3 1 (.t 71) (.t 72)), .none, [10, 11], [71, 72]⟩, ⟨(.some 74), (.ld .none (.t 73)), .none, [12], [73]⟩, ⟨(.some 75), (.idx 3 1 (.t 61) (.t 62)), .none, [0, 1, 0, 1, 5, 6, 7, 8, 9, 13], [61, 62]⟩, ⟨.none, (.st 1 (.t 75) (.t 70)), .none, [14, 9, 0, 1, 5, 6, 7, 8, 9, 13], [75, 70]⟩, ⟨(.some 76), (.idx 3 1 (.t 63) (.t 65)), .none, [2, 4, 0, 1, 2, 3, 4, 5, 6, 7, 8, 9, 10, 11, 12, 13, 14, 15], [63, 65]⟩, ⟨.none, (.st 1 (.t 76) (.t 74)), .none, [16, 13, 15, 0, 1, 2, 3, 4, 5, 6, 7, 8, 9, 10, 11, 12, 13, 14, 15], [76, 74]⟩] .true),
    (.region [⟨(.some 59), (.mv (.t 13)), .none, [], []⟩, ⟨(.some 60), (.bin .add .o (.t 59) (.c (.int .i64 1))), .none, [], []⟩, ⟨(.some 13), (.mv (.t 60)), .none, [], []⟩] .false), .ret, .skip, (.seq 42), (.seq 2),
    (.region [⟨(.some 77), (.mv (.t 3)), .none, [], []⟩, ⟨(.some 78), (.mv (.t 2)), .none, [], []⟩, ⟨(.some 79), (.bin .sub .o (.t 77) (.t 78)), .none, [], []⟩, ⟨(.some 80), (.bin .eql .o (.t 79) (.c (.int .i64 1))), .none, [], []⟩] .false), (.cond (.t 80) 38), (.seq 2),
    (.region [⟨(.some 81), (.mv (.t 1)), .none, [], []⟩, ⟨(.some 14), (.mv (.t 81)), .none, [], []⟩] .false), (.seq 2),
    (.region [⟨(.some 82), (.mv (.t 2)), .none, [], []⟩, ⟨(.some 15), (.mv (.t 82)), .none, [], []⟩] .false), (.seq 17), (.block 4), .loop, (.seq 6), (.seq 2),
    (.region [⟨(.some 83), (.mv (.t 14)), .none, [], []⟩, ⟨(.some 84), (.mv (.t 15)), .none, [], []⟩, ⟨(.some 85), (.bin .lss .o (.t 83) (.t 84)), .none, [], []⟩] .false), (.cond (.t 85) 2), .skip, (.exit 4), (.block 5), (.seq 2),
    (.region [⟨(.some 86), (.mv (.t 14)), .none, [], []⟩, ⟨(.some 87), (.mv (.t 15)), .none, [], []⟩, ⟨(.some 88), (.bin .add .o (.t 86) (.t 87)), .none, [], []⟩, ⟨(.some 89), (.cvt .u64 (.t 88)), .none, [], []⟩, ⟨(.some 90), (.bin .shr .o (.t 89) (.c (.int .u64 1))), .none, [], []⟩, ⟨(.some 91), (.cvt .i64 (.t 90)), .none, [], []⟩, ⟨(.some 16), (.mv (.t 91)), .none, [], []⟩] .false), (.seq 2),
    (.region [⟨(.some 92), (.mv (.t 4)), .none, [], [4]⟩, ⟨(.some 93), (.mv (.t 0)), .none, [], [0]⟩, ⟨(.some 94), (.mv (.t 2)), .none, [], [2]⟩, ⟨(.some 95), (.idx 3 1 (.t 93) (.t 94)), .none, [1, 2], [93, 94]⟩, ⟨(.some 96), (.ld .none (.t 95)), .none, [3], [95]⟩, ⟨(.some 97), (.mv (.t 0)), .none, [], [0]⟩, ⟨(.some 98), (.mv (.t 16)), .none, [], [16]⟩, ⟨(.some 99), (.idx 3 1 (.t 97) (.t 98)), .none, [5, 6], [97, 98]⟩, ⟨(.some 100), (.ld .none (.t 99)), .none, [7], [99]⟩, ⟨(.some 101), (.callv (.t 92) [(.t 96), (.t 100)]), .none, [0, 4, 8], [92, 96, 100]⟩, ⟨(.some 102), (.bin .lss .o (.t 101) (.c (.int .i64 0))), .none, [9], [101]⟩, ⟨(.some 103), (.un .not (.t 102)), .none, [10], [102]⟩] .true), (.cond (.t 103) 2),
    (.region [⟨(.some 104), (.mv (.t 16)), .none, [], []⟩, ⟨(.some 105), (.bin .add .o (.t 104) (.c (.int .i64 1))), .none, [], []⟩, ⟨(.some 14), (.mv (.t 105)), .none, [], []⟩] .false),
    (.region [⟨(.some 106), (.mv (.t 16)), .none, [], []⟩, ⟨(.some 15), (.mv (.t 106)), .none, [], []⟩] .false), (.seq 15), (.seq 2),
    (.region [⟨(.some 107), (.mv (.t 2)), .none, [], []⟩, ⟨(.some 17), (.mv (.t 107)), .none, [], []⟩] .false), (.block 6), .loop, (.seq 6), (.seq 2),
    (.region [⟨(.some 108), (.mv (.t 17)), .none, [], []⟩, ⟨(.some 109), (.mv (.t 14)), .none, [], []⟩, ⟨(.some 110), (.bin .gtr .o (.t 108) (.t 109)), .none, [], []⟩] .false), (.cond (.t 110) 2), .skip, (.exit 6), (.seq 3), (.block 7),
    (.region [⟨(.some 113), (.mv (.t 0)), .none, [], [0]⟩, ⟨(.some 114), (.mv (.t 17)), .none, [], [17]⟩, ⟨(.some 115), (.mv (.t 0)), .none, [], [0]⟩, ⟨(.some 116), (.mv (.t 17)), .none, [], [17]⟩, ⟨(.some 117), (.bin .sub .o (.t 116) (.c (.int .i64 1))), .none, [3], [116]⟩, ⟨(.some 118), (.mv (.t 0)), .none, [], [0]⟩, ⟨(.some 119), (.mv (.t 17)), .none, [], [17]⟩, ⟨(.some 120), (.bin .sub .o (.t 119) (.c (.int .i64 1))), .none, [6], [119]⟩, ⟨(.some 121), (.idx 3 1 (.t 118) (.t 120)), .none, [5, 7], [118, 120]⟩, ⟨(.some 122), (.ld .none (.t 121)), .none, [8], [121]⟩, ⟨(.some 123), (.mv (.t 0)), .none, [], [0]⟩, ⟨(.some 124), (.mv (.t 17)), .none, [], [17]⟩, ⟨(.some 125), (.idx 3 1 (.t 123) (.t 124)), .none, [10, 11], [123, 124]⟩, ⟨(.some 126), (.ld .none (.t 125)), .none, [12], [125]⟩, ⟨(.some 127), (.idx 3 1 (.t 113) (.t 114)), .none, [0, 1, 0, 1, 5, 6, 7, 8, 9, 13], [113, 114]⟩, ⟨.none, (.st 1 (.t 127) (.t 122)), .none, [14, 9, 0, 1, 5, 6, 7, 8, 9, 13], [127, 122]⟩, ⟨(.some 128), (.idx 3 1 (.t 115) (.t 117)), .none, [2, 4, 0, 1, 2, 3, 4, 5, 6, 7, 8, 9, 10, 11, 12, 13, 14, 15], [115, 117]⟩, ⟨.none, (.st 1 (.t 128) (.t 126)), .none, [16, 13, 15, 0, 1, 2, 3, 4, 5, 6, 7, 8, 9, 10, 11, 12, 13, 14, 15], [128, 126]⟩] .true),
    (.region [⟨(.some 111), (.mv (.t 17)), .none, [], []⟩, ⟨(.some 112), (.bin .sub .o (.t 111) (.c (.int .i64 1))), .none, [], []⟩, ⟨(.some 17), (.mv (.t 112)), .none, [], []⟩] .false), .ret, .skip, (.seq 2),
    (.region [⟨(.some 129), (.mv (.t 1)), .none, [], []⟩, ⟨(.some 130), (.mv (.t 3)), .none, [], []⟩, ⟨(.some 131), (.bin .add .o (.t 129) (.t 130)), .none, [], []⟩, ⟨(.some 132), (.cvt .u64 (.t 131)), .none, [], []⟩, ⟨(.some 133), (.bin .shr .o (.t 132) (.c (.int .u64 1))), .none, [], []⟩, ⟨(.some 134), (.cvt .i64 (.t 133)), .none, [], []⟩, ⟨(.some 18), (.mv (.t 134)), .none, [], []⟩] .false), (.seq 2),
    (.region [⟨(.some 135), (.mv (.t 18)), .none, [], []⟩, ⟨(.some 136), (.mv (.t 2)), .none, [], []⟩, ⟨(.some 137), (.bin .add .o (.t 135) (.t 136)), .none, [], []⟩, ⟨(.some 19), (.mv (.t 137)), .none, [], []⟩] .false), (.seq 2),
    (.region [⟨(.some 20), (.mv (.c (.int .i64 0))), .none, [], []⟩, ⟨(.some 21), (.mv (.c (.int .i64 0))), .none, [], []⟩] .false), (.seq 10), (.seq 2),
    (.region [⟨(.some 138), (.mv (.t 2)), .none, [], []⟩, ⟨(.some 139), (.mv (.t 18)), .none, [], []⟩, ⟨(.some 140), (.bin .gtr .o (.t 138) (.t 139)), .none, [], []⟩] .false), (.cond (.t 140) 4), (.seq 2),
    (.region [⟨(.some 141), (.mv (.t 19)), .none, [], []⟩, ⟨(.some 142), (.mv (.t 3)), .none, [], []⟩, ⟨(.some 143), (.bin .sub .o (.t 141) (.t 142)), .none, [], []⟩, ⟨(.some 20), (.mv (.t 143)), .none, [], []⟩] .false),
    (.region [⟨(.some 144), (.mv (.t 18)), .none, [], []⟩, ⟨(.some 21), (.mv (.t 144)), .none, [], []⟩] .false), (.seq 2),
    (.region [⟨(.some 145), (.mv (.t 1)), .none, [], []⟩, ⟨(.some 20), (.mv (.t 145)), .none, [], []⟩] .false),
    (.region [⟨(.some 146), (.mv (.t 2)), .none, [], []⟩, ⟨(.some 21), (.mv (.t 146)), .none, [], []⟩] .false), (.seq 2),
    (.region [⟨(.some 147), (.mv (.t 19)), .none, [], []⟩, ⟨(.some 148), (.bin .sub .o (.t 147) (.c (.int .i64 1))), .none, [], []⟩, ⟨(.some 22), (.mv (.t 148)), .none, [], []⟩] .false), (.seq 17), (.block 8), .loop, (.seq 6), (.seq 2),
    (.region [⟨(.some 149), (.mv (.t 20)), .none, [], []⟩, ⟨(.some 150), (.mv (.t 21)), .none, [], []⟩, ⟨(.some 151), (.bin .lss .o (.t 149) (.t 150)), .none, [], []⟩] .false), (.cond (.t 151) 2), .skip, (.exit 8), (.block 9), (.seq 2),
    (.region [⟨(.some 152), (.mv (.t 20)), .none, [], []⟩, ⟨(.some 153), (.mv (.t 21)), .none, [], []⟩, ⟨(.some 154), (.bin .add .o (.t 152) (.t 153)), .none, [], []⟩, ⟨(.some 155), (.cvt .u64 (.t 154)), .none, [], []⟩, ⟨(.some 156), (.bin .shr .o (.t 155) (.c (.int .u64 1))), .none, [], []⟩, ⟨(.some 157), (.cvt .i64 (.t 156)), .none, [], []⟩, ⟨(.some 23), (.mv (.t 157)), .none, [], []⟩] .false), (.seq 2),
    (.region [⟨(.some 158), (.mv (.t 4)), .none, [], [4]⟩, ⟨(.some 159), (.mv (.t 0)), .none, [], [0]⟩, ⟨(.some 160), (.mv (.t 22)), .none, [], [22]⟩, ⟨(.some 161), (.mv (.t 23)), .none, [], [23]⟩, ⟨(.some 162), (.bin .sub .o (.t 160) (.t 161)), .none, [2, 3], [160, 161]⟩, ⟨(.some 163), (.idx 3 1 (.t 159) (.t 162)), .none, [1, 4], [159, 162]⟩, ⟨(.some 164), (.ld .none (.t 163)), .none, [5], [163]⟩, ⟨(.some 165), (.mv (.t 0)), .none, [], [0]⟩, ⟨(.some 166), (.mv (.t 23)), .none, [], [23]⟩, ⟨(.some 167), (.idx 3 1 (.t 165) (.t 166)), .none, [7, 8], [165, 166]⟩, ⟨(.some 168), (.ld .none (.t 167)), .none, [9], [167]⟩, ⟨(.some 169), (.callv (.t 158) [(.t 164), (.t 168)]), .none, [0, 6, 10], [158, 164, 168]⟩, ⟨(.some 170), (.bin .lss .o (.t 169) (.c (.int .i64 0))), .none, [11], [169]⟩, ⟨(.some 171), (.un .not (.t 170)), .none, [12], [170]⟩] .true), (.cond (.t 171) 2),
    (.region [⟨(.some 172), (.mv (.t 23)), .none, [], []⟩, ⟨(.some 173), (.bin .add .o (.t 172) (.c (.int .i64 1))), .none, [], []⟩, ⟨(.some 20), (.mv (.t 173)), .none, [], []⟩] .false),
    (.region [⟨(.some 174), (.mv (.t 23)), .none, [], []⟩, ⟨(.some 21), (.mv (.t 174)), .none, [], []⟩] .false), (.seq 2),
    (.region [⟨(.some 175), (.mv (.t 19)), .none, [], []⟩, ⟨(.some 176), (.mv (.t 20)), .none, [], []⟩, ⟨(.some 177), (.bin .sub .o (.t 175) (.t 176)), .none, [], []⟩, ⟨(.some 24), (.mv (.t 177)), .none, [], []⟩] .false), (.seq 6), (.seq 2),
    (.region [⟨(.some 178), (.mv (.t 20)), .none, [], []⟩, ⟨(.some 179), (.mv (.t 2)), .none, [], []⟩, ⟨(.some 180), (.bin .lss .o (.t 178) (.t 179)), .none, [], []⟩, ⟨(.some 181), (.mv (.t 180)), .none, [], []⟩, ⟨(.some 182), (.mv (.t 2)), (.some ((.some 181), .true)), [], []⟩, ⟨(.some 183), (.mv (.t 24)), (.some ((.some 181), .true)), [], []⟩, ⟨(.some 184), (.bin .lss .o (.t 182) (.t 183)), (.some ((.some 181), .true)), [], []⟩, ⟨(.some 185), (.pick (.t 181) (.t 184) (.c (.bool .false))), .none, [], []⟩] .false), (.cond (.t 185) 2),
    (.region [⟨(.some 186), (.mv (.t 0)), .none, [], []⟩, ⟨(.some 187), (.mv (.t 20)), .none, [], []⟩, ⟨(.some 188), (.mv (.t 2)), .none, [], []⟩, ⟨(.some 189), (.mv (.t 24)), .none, [], []⟩, ⟨(.some 190), (.mv (.t 4)), .none, [], []⟩, ⟨(.some 191), (.call 93 [(.t 186), (.t 187), (.t 188), (.t 189), (.t 190)]), .none, [], []⟩] .false), .skip, (.seq 6), (.seq 2),
    (.region [⟨(.some 192), (.mv (.t 1)), .none, [], []⟩, ⟨(.some 193), (.mv (.t 20)), .none, [], []⟩, ⟨(.some 194), (.bin .lss .o (.t 192) (.t 193)), .none, [], []⟩, ⟨(.some 195), (.mv (.t 194)), .none, [], []⟩, ⟨(.some 196), (.mv (.t 20)), (.some ((.some 195), .true)), [], []⟩, ⟨(.some 197), (.mv (.t 18)), (.some ((.some 195), .true)), [], []⟩, ⟨(.some 198), (.bin .lss .o (.t 196) (.t 197)), (.some ((.some 195), .true)), [], []⟩, ⟨(.some 199), (.pick (.t 195) (.t 198) (.c (.bool .false))), .none, [], []⟩] .false), (.cond (.t 199) 2),
    (.region [⟨(.some 200), (.mv (.t 0)), .none, [], []⟩, ⟨(.some 201), (.mv (.t 1)), .none, [], []⟩, ⟨(.some 202), (.mv (.t 20)), .none, [], []⟩, ⟨(.some 203), (.mv (.t 18)), .none, [], []⟩, ⟨(.some 204), (.mv (.t 4)), .none, [], []⟩, ⟨(.some 205), (.call 83 [(.t 200), (.t 201), (.t 202), (.t 203), (.t 204)]), .none, [], []⟩] .false), .skip, (.seq 2),
    (.region [⟨(.some 206), (.mv (.t 18)), .none, [], []⟩, ⟨(.some 207), (.mv (.t 24)), .none, [], []⟩, ⟨(.some 208), (.bin .lss .o (.t 206) (.t 207)), .none, [], []⟩, ⟨(.some 209), (.mv (.t 208)), .none, [], []⟩, ⟨(.some 210), (.mv (.t 24)), (.some ((.some 209), .true)), [], []⟩, ⟨(.some 211), (.mv (.t 3)), (.some ((.some 209), .true)), [], []⟩, ⟨(.some 212), (.bin .lss .o (.t 210) (.t 211)), (.some ((.some 209), .true)), [], []⟩, ⟨(.some 213), (.pick (.t 209) (.t 212) (.c (.bool .false))), .none, [], []⟩] .false), (.cond (.t 213) 2),
    (.region [⟨(.some 214), (.mv (.t 0)), .none, [], []⟩, ⟨(.some 215), (.mv (.t 18)), .none, [], []⟩, ⟨(.some 216), (.mv (.t 24)), .none, [], []⟩, ⟨(.some 217), (.mv (.t 3)), .none, [], []⟩, ⟨(.some 218), (.mv (.t 4)), .none, [], []⟩, ⟨(.some 219), (.call 83 [(.t 214), (.t 215), (.t 216), (.t 217), (.t 218)]), .none, [], []⟩] .false), .skip]
theorem F83_at : F83.at Try.prog 83 Try.f83 := ⟨Try.func83, by kernel_rfl, by kernel_rfl, by kernel_rfl, by kernel_rfl, by kernel_rfl⟩

-- "slices.rotateCmpFunc[int]" res .true
def F93 : AFn where
  np := 5
  nt := 58
  res := []
  tab := [(.seq 2),
    (.region [⟨(.some 12), (.mv (.t 2)), .none, [], []⟩, ⟨(.some 13), (.mv (.t 1)), .none, [], []⟩, ⟨(.some 14), (.bin .sub .o (.t 12) (.t 13)), .none, [], []⟩, ⟨(.some 10), (.mv (.t 14)), .none, [], []⟩] .false), (.seq 2),
    (.region [⟨(.some 15), (.mv (.t 3)), .none, [], []⟩, ⟨(.some 16), (.mv (.t 2)), .none, [], []⟩, ⟨(.some 17), (.bin .sub .o (.t 15) (.t 16)), .none, [], []⟩, ⟨(.some 11), (.mv (.t 17)), .none, [], []⟩] .false), (.seq 19), (.block 0), .loop, (.seq 6), (.seq 2),
    (.region [⟨(.some 18), (.mv (.t 10)), .none, [], []⟩, ⟨(.some 19), (.mv (.t 11)), .none, [], []⟩, ⟨(.some 20), (.bin .neq .o (.t 18) (.t 19)), .none, [], []⟩] .false), (.cond (.t 20) 2), .skip, (.exit 0), (.block 1), (.seq 2),
    (.region [⟨(.some 21), (.mv (.t 10)), .none, [], []⟩, ⟨(.some 22), (.mv (.t 11)), .none, [], []⟩, ⟨(.some 23), (.bin .gtr .o (.t 21) (.t 22)), .none, [], []⟩] .false), (.cond (.t 23) 4), (.seq 2),
    (.region [⟨(.some 24), (.mv (.t 0)), .none, [], []⟩, ⟨(.some 25), (.mv (.t 2)), .none, [], []⟩, ⟨(.some 26), (.mv (.t 10)), .none, [], []⟩, ⟨(.some 27), (.bin .sub .o (.t 25) (.t 26)), .none, [], []⟩, ⟨(.some 28), (.mv (.t 2)), .none, [], []⟩, ⟨(.some 29), (.mv (.t 11)), .none, [], []⟩, ⟨(.some 30), (.mv (.t 4)), .none, [], []⟩, ⟨(.some 31), (.call 99 [(.t 24), (.t 27), (.t 28), (.t 29), (.t 30)]), .none, [], []⟩] .false),
    (.region [⟨(.some 32), (.mv (.t 10)), .none, [], []⟩, ⟨(.some 33), (.mv (.t 11)), .none, [], []⟩, ⟨(.some 34), (.bin .sub .o (.t 32) (.t 33)), .none, [], []⟩, ⟨(.some 10), (.mv (.t 34)), .none, [], []⟩] .false), (.seq 2),
    (.region [⟨(.some 35), (.mv (.t 0)), .none, [], []⟩, ⟨(.some 36), (.mv (.t 2)), .none, [], []⟩, ⟨(.some 37), (.mv (.t 10)), .none, [], []⟩, ⟨(.some 38), (.bin .sub .o (.t 36) (.t 37)), .none, [], []⟩, ⟨(.some 39), (.mv (.t 2)), .none, [], []⟩, ⟨(.some 40), (.mv (.t 11)), .none, [], []⟩, ⟨(.some 41), (.bin .add .o (.t 39) (.t 40)), .none, [], []⟩, ⟨(.some 42), (.mv (.t 10)), .none, [], []⟩, ⟨(.some 43), (.bin .sub .o (.t 41) (.t 42)), .none, [], []⟩, ⟨(.some 44), (.mv (.t 10)), .none, [], []⟩, ⟨(.some 45), (.mv (.t 4)), .none, [], []⟩, ⟨(.some 46), (.call 99 [(.t 35), (.t 38), (.t 43), (.t 44), (.t 45)]), .none, [], []⟩] .false),
    (.region [⟨(.some 47), (.mv (.t 11)), .none, [], []⟩, ⟨(.some 48), (.mv (.t 10)), .none, [], []⟩, ⟨(.some 49), (.bin .sub .o (.t 47) (.t 48)), .none, [], []⟩, ⟨(.some 11), (.mv (.t 49)), .none, [], []⟩] .false),
    (.region [⟨(.some 50), (.mv (.t 0)), .none, [], []⟩, ⟨(.some 51), (.mv (.t 2)), .none, [], []⟩, ⟨(.some 52), (.mv (.t 10)), .none, [], []⟩, ⟨(.some 53), (.bin .sub .o (.t 51) (.t 52)), .none, [], []⟩, ⟨(.some 54), (.mv (.t 2)), .none, [], []⟩, ⟨(.some 55), (.mv (.t 10)), .none, [], []⟩, ⟨(.some 56), (.mv (.t 4)), .none, [], []⟩, ⟨(.some 57), (.call 99 [(.t 50), (.t 53), (.t 54), (.t 55), (.t 56)]), .none, [], []⟩] .false)]
theorem F93_at : F93.at Try.prog 93 Try.f93 := ⟨Try.func93, by kernel_rfl, by kernel_rfl, by kernel_rfl, by kernel_rfl, by kernel_rfl⟩

-- "slices.swapRangeCmpFunc[int]" res .true
def F99 : AFn where
  np := 5
  nt := 38
  res := []
  tab := [(.seq 2),
    (.region [⟨(.some 10), (.mv (.c (.int .i64 0))), .none, [], []⟩] .false), (.block 0), .loop, (.seq 6), (.seq 2),
    (.region [⟨(.some 11), (.mv (.t 10)), .none, [], []⟩, ⟨(.some 12), (.mv (.t 3)), .none, [], []⟩, ⟨(.some 13), (.bin .lss .o (.t 11) (.t 12)), .none, [], []⟩] .false), (.cond (.t 13) 2), .skip, (.exit 0), (.seq 3), (.block 1),
    (.region [⟨(.some 16), (.mv (.t 0)), .none, [], [0]⟩, ⟨(.some 17), (.mv (.t 1)), .none, [], [1]⟩, ⟨(.some 18), (.mv (.t 10)), .none, [], [10]⟩, ⟨(.some 19), (.bin .add .o (.t 17) (.t 18)), .none, [1, 2], [17, 18]⟩, ⟨(.some 20), (.mv (.t 0)), .none, [], [0]⟩, ⟨(.some 21), (.mv (.t 2)), .none, [], [2]⟩, ⟨(.some 22), (.mv (.t 10)), .none, [], [10]⟩, ⟨(.some 23), (.bin .add .o (.t 21) (.t 22)), .none, [5, 6], [21, 22]⟩, ⟨(.some 24), (.mv (.t 0)), .none, [], [0]⟩, ⟨(.some 25), (.mv (.t 2)), .none, [], [2]⟩, ⟨(.some 26), (.mv (.t 10)), .none, [], [10]⟩, ⟨(.some 27), (.bin .add .o (.t 25) (.t 26)), .none, [9, 10], [25, 26]⟩, ⟨(.some 28), (.idx 3 1 (.t 24) (.t 27)), .none, [8, 11], [24, 27]⟩, ⟨(.some 29), (.ld .none (.t 28)), .none, [12], [28]⟩, ⟨(.some 30), (.mv (.t 0)), .none, [], [0]⟩, ⟨(.some 31), (.mv (.t 1)), .none, [], [1]⟩, ⟨(.some 32), (.mv (.t 10)), .none, [], [10]⟩, ⟨(.some 33), (.bin .add .o (.t 31) (.t 32)), .none, [15, 16], [31, 32]⟩, ⟨(.some 34), (.idx 3 1 (.t 30) (.t 33)), .none, [14, 17], [30, 33]⟩, ⟨(.some 35), (.ld .none (.t 34)), .none, [18], [34]⟩, ⟨(.some 36), (.idx 3 1 (.t 16) (.t 19)), .none, [0, 3, 0, 1, 2, 3, 8, 9, 10, 11, 12, 13, 19], [16, 19]⟩, ⟨.none, (.st 1 (.t 36) (.t 29)), .none, [20, 13, 0, 1, 2, 3, 8, 9, 10, 11, 12, 13, 19], [36, 29]⟩, ⟨(.some 37), (.idx 3 1 (.t 20) (.t 23)), .none, [4, 7, 0, 1, 2, 3, 4, 5, 6, 7, 8, 9, 10, 11, 12, 13, 14, 15, 16, 17, 18, 19, 20, 21], [20, 23]⟩, ⟨.none, (.st 1 (.t 37) (.t 35)), .none, [22, 19, 21, 0, 1, 2, 3, 4, 5, 6, 7, 8, 9, 10, 11, 12, 13, 14, 15, 16, 17, 18, 19, 20, 21], [37, 35]⟩] .true),
    (.region [⟨(.some 14), (.mv (.t 10)), .none, [], []⟩, ⟨(.some 15), (.bin .add .o (.t 14) (.c (.int .i64 1))), .none, [], []⟩, ⟨(.some 10), (.mv (.t 15)), .none, [], []⟩] .false)]
theorem F99_at : F99.at Try.prog 99 Try.f99 := ⟨Try.func99, by kernel_rfl, by kernel_rfl, by kernel_rfl, by kernel_rfl, by kernel_rfl⟩

-- "(signalbox/edf.items).Less" res .true
def F120 : AFn where
  np := 3
  nt := 44
  res := [(.t 6)]
  tab := [(.seq 2),
    (.region [⟨(.some 6), (.mv (.c (.bool .false))), .none, [], []⟩] .false), (.seq 2),
    (.region [⟨(.some 7), (.mv (.t 0)), .none, [], [0]⟩, ⟨(.some 8), (.mv (.t 1)), .none, [], [1]⟩, ⟨(.some 9), (.idx 112 2 (.t 7) (.t 8)), .none, [0, 1], [7, 8]⟩, ⟨(.some 10), (.fad 0 (.t 9)), .none, [2], [9]⟩, ⟨(.some 11), (.ld .none (.t 10)), .none, [3], [10]⟩, ⟨(.some 12), (.mv (.t 0)), .none, [], [0]⟩, ⟨(.some 13), (.mv (.t 2)), .none, [], [2]⟩, ⟨(.some 14), (.idx 112 2 (.t 12) (.t 13)), .none, [5, 6], [12, 13]⟩, ⟨(.some 15), (.fad 0 (.t 14)), .none, [7], [14]⟩, ⟨(.some 16), (.ld .none (.t 15)), .none, [8], [15]⟩, ⟨(.some 17), (.bin .lss .o (.t 11) (.t 16)), .none, [4, 9], [11, 16]⟩, ⟨(.some 18), (.mv (.t 17)), .none, [10], [17]⟩, ⟨(.some 19), (.mv (.t 0)), (.some ((.some 18), .false)), [11], [0, 18]⟩, ⟨(.some 20), (.mv (.t 1)), (.some ((.some 18), .false)), [11], [1, 18]⟩, ⟨(.some 21), (.idx 112 2 (.t 19) (.t 20)), (.some ((.some 18), .false)), [12, 13, 11], [19, 20, 18]⟩, ⟨(.some 22), (.fad 0 (.t 21)), (.some ((.some 18), .false)), [14, 11], [21, 18]⟩, ⟨(.some 23), (.ld .none (.t 22)), (.some ((.some 18), .false)), [15, 11], [22, 18]⟩, ⟨(.some 24), (.mv (.t 0)), (.some ((.some 18), .false)), [11], [0, 18]⟩, ⟨(.some 25), (.mv (.t 2)), (.some ((.some 18), .false)), [11], [2, 18]⟩, ⟨(.some 26), (.idx 112 2 (.t 24) (.t 25)), (.some ((.some 18), .false)), [17, 18, 11], [24, 25, 18]⟩, ⟨(.some 27), (.fad 0 (.t 26)), (.some ((.some 18), .false)), [19, 11], [26, 18]⟩, ⟨(.some 28), (.ld .none (.t 27)), (.some ((.some 18), .false)), [20, 11], [27, 18]⟩, ⟨(.some 29), (.bin .eql .o (.t 23) (.t 28)), (.some ((.some 18), .false)), [16, 21, 11], [23, 28, 18]⟩, ⟨(.some 30), (.mv (.t 29)), (.some ((.some 18), .false)), [22, 11, 11], [29, 18]⟩, ⟨(.some 31), (.mv (.t 0)), (.some ((.some 30), .true)), [23], [0, 30]⟩, ⟨(.some 32), (.mv (.t 1)), (.some ((.some 30), .true)), [23], [1, 30]⟩, ⟨(.some 33), (.idx 112 2 (.t 31) (.t 32)), (.some ((.some 30), .true)), [24, 25, 23], [31, 32, 30]⟩, ⟨(.some 34), (.fad 1 (.t 33)), (.some ((.some 30), .true)), [26, 23], [33, 30]⟩, ⟨(.some 35), (.ld .none (.t 34)), (.some ((.some 30), .true)), [27, 23], [34, 30]⟩, ⟨(.some 36), (.mv (.t 0)), (.some ((.some 30), .true)), [23], [0, 30]⟩, ⟨(.some 37), (.mv (.t 2)), (.some ((.some 30), .true)), [23], [2, 30]⟩, ⟨(.some 38), (.idx 112 2 (.t 36) (.t 37)), (.some ((.some 30), .true)), [29, 30, 23], [36, 37, 30]⟩, ⟨(.some 39), (.fad 1 (.t 38)), (.some ((.some 30), .true)), [31, 23], [38, 30]⟩, ⟨(.some 40), (.ld .none (.t 39)), (.some ((.some 30), .true)), [32, 23], [39, 30]⟩, ⟨(.some 41), (.bin .lss .o (.t 35) (.t 40)), (.some ((.some 30), .true)), [28, 33, 23], [35, 40, 30]⟩, ⟨(.some 42), (.pick (.t 30) (.t 41) (.c (.bool .false))), (.some ((.some 18), .false)), [23, 34, 11], [30, 41, 18]⟩, ⟨(.some 43), (.pick (.t 18) (.c (.bool .true)) (.t 42)), .none, [11, 35], [18, 42]⟩, ⟨(.some 6), (.mv (.t 43)), .none, [36, 23, 0, 1, 2, 3, 4, 5, 6, 7, 8, 9, 10, 11, 12, 13, 14, 15, 16, 17, 18, 19, 20, 21, 22, 23, 24, 25, 26, 27, 28, 29, 30, 31, 32, 33, 34, 35, 36], [43]⟩] .true), .ret]
theorem F120_at : F120.at Try.prog 120 Try.f120 := ⟨Try.func120, by kernel_rfl, by kernel_rfl, by kernel_rfl, by kernel_rfl, by kernel_rfl⟩

-- "(*signalbox/edf.items).Pop" res .true
def F121 : AFn where
  np := 1
  nt := 25
  res := [(.t 2)]
  tab := [(.seq 2),
    (.region [⟨(.some 2), (.mv (.c .nili)), .none, [], []⟩] .false), (.seq 2),
    (.region [⟨(.some 5), (.mv (.t 0)), .none, [], []⟩, ⟨(.some 6), (.nilc MTS (.t 5)), .none, [], []⟩, ⟨(.some 7), (.ld .none (.t 6)), .none, [], []⟩, ⟨(.some 8), (.len .false (.t 7)), .none, [], []⟩, ⟨(.some 9), (.bin .sub .o (.t 8) (.c (.int .i64 1))), .none, [], []⟩, ⟨(.some 3), (.mv (.t 9)), .none, [], []⟩] .false), (.seq 2),
    (.region [⟨(.some 10), (.mv (.t 0)), .none, [], []⟩, ⟨(.some 11), (.nilc MTS (.t 10)), .none, [], []⟩, ⟨(.some 12), (.ld .none (.t 11)), .none, [], []⟩, ⟨(.some 13), (.mv (.t 3)), .none, [], []⟩, ⟨(.some 14), (.idx 112 2 (.t 12) (.t 13)), .none, [], []⟩, ⟨(.some 15), (.ld (.some 2) (.t 14)), .none, [], []⟩, ⟨(.some 4), (.alloc 112 [(.int .i64 0), (.int .i64 0)]), .none, [], []⟩, ⟨.none, (.st 2 (.t 4) (.t 15)), .none, [], []⟩] .false), (.seq 2),
    (.region [⟨(.some 16), (.mv (.t 0)), .none, [], []⟩, ⟨(.some 17), (.mv (.t 0)), .none, [], []⟩, ⟨(.some 18), (.nilc MTS (.t 17)), .none, [], []⟩, ⟨(.some 19), (.ld .none (.t 18)), .none, [], []⟩, ⟨(.some 20), (.mv (.t 3)), .none, [], []⟩, ⟨(.some 21), (.slc (.some 2) (.t 19) .none (.some (.t 20))), .none, [], []⟩, ⟨(.some 22), (.nilc MTS (.t 16)), .none, [], []⟩, ⟨.none, (.st 1 (.t 22) (.t 21)), .none, [], []⟩] .false), (.seq 2),
    (.region [⟨(.some 23), (.ld (.some 2) (.t 4)), .none, [], []⟩, ⟨(.some 24), (.mki 112 (.t 23)), .none, [], []⟩, ⟨(.some 2), (.mv (.t 24)), .none, [], []⟩] .false), .ret]
theorem F121_at : F121.at Try.prog 121 Try.f121 := ⟨Try.func121, by kernel_rfl, by kernel_rfl, by kernel_rfl, by kernel_rfl, by kernel_rfl⟩

-- "(*signalbox/edf.items).Push" res .true
def F122 : AFn where
  np := 2
  nt := 20
  res := []
  tab := [(.seq 2),
    (.region [⟨(.some 7), (.mv (.t 1)), .none, [], []⟩, ⟨(.some 8), (.asrt 112 [(.int .i64 0), (.int .i64 0)] .true .true (.t 7)), .none, [], []⟩, ⟨(.some 6), (.mv (.t 8)), .none, [], []⟩, ⟨(.some 9), (.ext (.t 6) 0), .none, [], []⟩, ⟨(.some 10), (.ext (.t 6) 1), .none, [], []⟩, ⟨(.some 4), (.alloc 112 [(.int .i64 0), (.int .i64 0)]), .none, [], []⟩, ⟨.none, (.st 2 (.t 4) (.t 9)), .none, [], []⟩, ⟨(.some 5), (.mv (.t 10)), .none, [], []⟩] .false), (.seq 2),
    (.region [⟨(.some 11), (.mv (.t 5)), .none, [], []⟩] .false), (.cond (.t 11) 2),
    (.region [⟨(.some 12), (.mv (.t 0)), .none, [], [0]⟩, ⟨(.some 13), (.mv (.t 0)), .none, [], [0]⟩, ⟨(.some 14), (.nilc MTS (.t 13)), .none, [1], [13]⟩, ⟨(.some 15), (.ld .none (.t 14)), .none, [2], [14]⟩, ⟨(.some 16), (.ld (.some 2) (.t 4)), .none, [], [4]⟩, ⟨(.some 17), (.lit 112 2 1 [(.int .i64 0), (.int .i64 0)] [(0, (.t 16))]), .none, [4], [16]⟩, ⟨(.some 18), (.app 112 2 16 [(.int .i64 0), (.int .i64 0)] (.t 15) (.t 17)), .none, [3, 5], [15, 17]⟩, ⟨(.some 19), (.nilc MTS (.t 12)), .none, [0, 0, 1, 2, 3, 4, 5, 6], [12]⟩, ⟨.none, (.st 1 (.t 19) (.t 18)), .none, [7, 6, 6, 0, 1, 2, 3, 4, 5, 6], [19, 18]⟩] .true), .skip]
theorem F122_at : F122.at Try.prog 122 Try.f122 := ⟨Try.func122, by kernel_rfl, by kernel_rfl, by kernel_rfl, by kernel_rfl, by kernel_rfl⟩

-- "(signalbox/edf.items).Swap" res .true
def F123 : AFn where
  np := 3
  nt := 20
  res := []
  tab := [(.region [⟨(.some 6), (.mv (.t 0)), .none, [], [0]⟩, ⟨(.some 7), (.mv (.t 1)), .none, [], [1]⟩, ⟨(.some 8), (.mv (.t 0)), .none, [], [0]⟩, ⟨(.some 9), (.mv (.t 2)), .none, [], [2]⟩, ⟨(.some 10), (.mv (.t 0)), .none, [], [0]⟩, ⟨(.some 11), (.mv (.t 2)), .none, [], [2]⟩, ⟨(.some 12), (.idx 112 2 (.t 10) (.t 11)), .none, [4, 5], [10, 11]⟩, ⟨(.some 13), (.ld (.some 2) (.t 12)), .none, [6], [12]⟩, ⟨(.some 14), (.mv (.t 0)), .none, [], [0]⟩, ⟨(.some 15), (.mv (.t 1)), .none, [], [1]⟩, ⟨(.some 16), (.idx 112 2 (.t 14) (.t 15)), .none, [8, 9], [14, 15]⟩, ⟨(.some 17), (.ld (.some 2) (.t 16)), .none, [10], [16]⟩, ⟨(.some 18), (.idx 112 2 (.t 6) (.t 7)), .none, [0, 1, 0, 1, 4, 5, 6, 7, 11], [6, 7]⟩, ⟨.none, (.st 2 (.t 18) (.t 13)), .none, [12, 7, 0, 1, 4, 5, 6, 7, 11], [18, 13]⟩, ⟨(.some 19), (.idx 112 2 (.t 8) (.t 9)), .none, [2, 3, 0, 1, 2, 3, 4, 5, 6, 7, 8, 9, 10, 11, 12, 13], [8, 9]⟩, ⟨.none, (.st 2 (.t 19) (.t 17)), .none, [14, 11, 13, 0, 1, 2, 3, 4, 5, 6, 7, 8, 9, 10, 11, 12, 13], [19, 17]⟩] .true)]
theorem F123_at : F123.at Try.prog 123 Try.f123 := ⟨Try.func123, by kernel_rfl, by kernel_rfl, by kernel_rfl, by kernel_rfl, by kernel_rfl⟩

end Go.Ab
