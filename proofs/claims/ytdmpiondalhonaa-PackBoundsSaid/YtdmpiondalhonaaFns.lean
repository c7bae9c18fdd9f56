/- PRINTED BY A PROGRAM (wip/tools/fmod.py): the functions of the cut, for the abstract machine. -/
import Derived.Test.YtdmpiondalhonaaProg
import Derived.Test.YtdmpiondalhonaaAbX
namespace Go.Ab
open Go Go.Proofs

-- MTS
def MTS : MT := [("signalbox/pack.choose", [(98, (117, .none)), (101, (119, .none))]), ("Len", [(17, (114, .none)), (106, (70, (.some .none))), (108, (70, .none))]), ("Less", [(106, (120, (.some .none))), (108, (120, .none))]), ("Pop", [(106, (121, .none))]), ("Push", [(106, (122, .none))]), ("Swap", [(106, (123, (.some .none))), (108, (123, .none))])]

-- "signalbox/signalboxlaw44.PackChecks" res .true
def F10 : AFn where
  np := 3
  nt := 77
  res := [(.t 6)]
  tab := [(.seq 2),
    (.region [⟨(.some 6), (.mv (.c (.bool .false))), .none, [], []⟩] .false), (.seq 8), (.seq 2),
    (.region [⟨(.some 11), (.call 32 []), .none, [], []⟩, ⟨(.some 12), (.un .not (.t 11)), .none, [], []⟩] .false), (.cond (.t 12) 4), (.seq 2),
    (.region [⟨(.some 6), (.mv (.c (.bool .false))), .none, [], []⟩] .false), .ret, .skip, (.seq 8), (.seq 2),
    (.region [⟨(.some 13), (.mv (.t 0)), .none, [], []⟩, ⟨(.some 14), (.len .false (.t 13)), .none, [], []⟩, ⟨(.some 15), (.bin .gtr .o (.t 14) (.c (.int .i64 60))), .none, [], []⟩, ⟨(.some 16), (.mv (.t 15)), .none, [], []⟩, ⟨(.some 17), (.mv (.t 2)), (.some ((.some 16), .false)), [], []⟩, ⟨(.some 18), (.len .false (.t 17)), (.some ((.some 16), .false)), [], []⟩, ⟨(.some 19), (.bin .gtr .o (.t 18) (.c (.int .i64 60))), (.some ((.some 16), .false)), [], []⟩, ⟨(.some 20), (.pick (.t 16) (.c (.bool .true)) (.t 19)), .none, [], []⟩] .false), (.cond (.t 20) 4), (.seq 2),
    (.region [⟨(.some 6), (.mv (.c (.bool .true))), .none, [], []⟩] .false), .ret, .skip, (.seq 2),
    (.region [⟨(.some 21), (.mv (.t 0)), .none, [], []⟩, ⟨(.some 22), (.mv (.t 1)), .none, [], []⟩, ⟨(.some 23), (.call 33 [(.t 21), (.t 22)]), .none, [], []⟩, ⟨(.some 24), (.mv (.t 23)), .none, [], []⟩, ⟨(.some 25), (.mv (.t 2)), (.some ((.some 24), .true)), [], []⟩, ⟨(.some 26), (.len .false (.t 25)), (.some ((.some 24), .true)), [], []⟩, ⟨(.some 27), (.mv (.t 0)), (.some ((.some 24), .true)), [], []⟩, ⟨(.some 28), (.len .false (.t 27)), (.some ((.some 24), .true)), [], []⟩, ⟨(.some 29), (.bin .eql .o (.t 26) (.t 28)), (.some ((.some 24), .true)), [], []⟩, ⟨(.some 30), (.pick (.t 24) (.t 29) (.c (.bool .false))), .none, [], []⟩, ⟨(.some 7), (.mv (.t 30)), .none, [], []⟩] .false), (.seq 38), (.seq 2),
    (.region [⟨(.some 8), (.mv (.c (.int .i64 0))), .none, [], []⟩] .false), (.block 0), .loop, (.seq 6), (.seq 2),
    (.region [⟨(.some 31), (.mv (.t 7)), .none, [], []⟩, ⟨(.some 32), (.mv (.t 31)), .none, [], []⟩, ⟨(.some 33), (.mv (.t 8)), (.some ((.some 32), .true)), [], []⟩, ⟨(.some 34), (.mv (.t 2)), (.some ((.some 32), .true)), [], []⟩, ⟨(.some 35), (.len .false (.t 34)), (.some ((.some 32), .true)), [], []⟩, ⟨(.some 36), (.bin .lss .o (.t 33) (.t 35)), (.some ((.some 32), .true)), [], []⟩, ⟨(.some 37), (.pick (.t 32) (.t 36) (.c (.bool .false))), .none, [], []⟩] .false), (.cond (.t 37) 2), .skip, (.exit 0), (.seq 26), (.block 1), (.seq 2),
    (.region [⟨(.some 9), (.mv (.c (.int .i64 0))), .none, [], []⟩] .false), (.seq 21), (.seq 2),
    (.region [⟨(.some 40), (.mv (.t 2)), .none, [], []⟩, ⟨(.some 41), (.len .false (.t 40)), .none, [], []⟩, ⟨(.some 42), (.mv (.c (.int .i64 0))), .none, [], []⟩] .false), (.block 2), .loop, (.seq 2),
    (.region [⟨(.some 43), (.bin .lss .o (.t 42) (.t 41)), .none, [], []⟩] .false), (.seq 4), (.cond (.t 43) 2), .skip, (.exit 2), (.seq 9), (.block 3), (.seq 2),
    (.region [⟨(.some 44), (.mv (.t 42)), .none, [], []⟩, ⟨(.some 10), (.mv (.t 44)), .none, [], []⟩] .false), (.seq 2),
    (.region [⟨(.some 45), (.mv (.t 2)), .none, [], [2]⟩, ⟨(.some 46), (.mv (.t 10)), .none, [], [10]⟩, ⟨(.some 47), (.idx 3 1 (.t 45) (.t 46)), .none, [0, 1], [45, 46]⟩, ⟨(.some 48), (.ld .none (.t 47)), .none, [2], [47]⟩, ⟨(.some 49), (.mv (.t 2)), .none, [], [2]⟩, ⟨(.some 50), (.mv (.t 8)), .none, [], [8]⟩, ⟨(.some 51), (.idx 3 1 (.t 49) (.t 50)), .none, [4, 5], [49, 50]⟩, ⟨(.some 52), (.ld .none (.t 51)), .none, [6], [51]⟩, ⟨(.some 53), (.bin .eql .o (.t 48) (.t 52)), .none, [3, 7], [48, 52]⟩] .true), (.cond (.t 53) 2),
    (.region [⟨(.some 54), (.mv (.t 9)), .none, [], []⟩, ⟨(.some 55), (.mv (.t 0)), .none, [], []⟩, ⟨(.some 56), (.mv (.t 10)), .none, [], []⟩, ⟨(.some 57), (.idx 3 1 (.t 55) (.t 56)), .none, [], []⟩, ⟨(.some 58), (.ld .none (.t 57)), .none, [], []⟩, ⟨(.some 59), (.bin .add .o (.t 54) (.t 58)), .none, [], []⟩, ⟨(.some 9), (.mv (.t 59)), .none, [], []⟩] .false), .skip,
    (.region [⟨(.some 60), (.bin .add .o (.t 42) (.c (.int .i64 1))), .none, [], []⟩, ⟨(.some 42), (.mv (.t 60)), .none, [], []⟩] .false),
    (.region [⟨(.some 61), (.mv (.t 2)), .none, [], []⟩, ⟨(.some 62), (.mv (.t 8)), .none, [], []⟩, ⟨(.some 63), (.idx 3 1 (.t 61) (.t 62)), .none, [], []⟩, ⟨(.some 64), (.ld .none (.t 63)), .none, [], []⟩, ⟨(.some 65), (.bin .geq .o (.t 64) (.c (.int .i64 0))), .none, [], []⟩, ⟨(.some 66), (.mv (.t 65)), .none, [], []⟩, ⟨(.some 67), (.mv (.t 9)), (.some ((.some 66), .true)), [], []⟩, ⟨(.some 68), (.mv (.t 1)), (.some ((.some 66), .true)), [], []⟩, ⟨(.some 69), (.bin .leq .o (.t 67) (.t 68)), (.some ((.some 66), .true)), [], []⟩, ⟨(.some 70), (.pick (.t 66) (.t 69) (.c (.bool .false))), .none, [], []⟩, ⟨(.some 7), (.mv (.t 70)), .none, [], []⟩] .false),
    (.region [⟨(.some 38), (.mv (.t 8)), .none, [], []⟩, ⟨(.some 39), (.bin .add .o (.t 38) (.c (.int .i64 1))), .none, [], []⟩, ⟨(.some 8), (.mv (.t 39)), .none, [], []⟩] .false), (.seq 2),
    (.region [⟨(.some 71), (.mv (.t 0)), .none, [], []⟩, ⟨(.some 72), (.mv (.t 1)), .none, [], []⟩, ⟨(.some 73), (.mv (.t 2)), .none, [], []⟩, ⟨(.some 74), (.call 34 [(.t 71), (.t 72), (.t 73)]), .none, [], []⟩, ⟨(.some 75), (.mv (.t 7)), .none, [], []⟩, ⟨(.some 76), (.bin .eql .b (.t 74) (.t 75)), .none, [], []⟩, ⟨(.some 6), (.mv (.t 76)), .none, [], []⟩] .false), .ret]
theorem F10_at : F10.at Try.prog 10 Try.f10 := ⟨Try.func10, by kernel_rfl, by kernel_rfl, by kernel_rfl, by kernel_rfl, by kernel_rfl⟩

-- "signalbox/signalboxlaw44.PackTells" res .true
def F11 : AFn where
  np := 2
  nt := 124
  res := [(.t 4)]
  tab := [(.seq 2),
    (.region [⟨(.some 4), (.mv (.c (.bool .false))), .none, [], []⟩] .false), (.seq 8), (.seq 2),
    (.region [⟨(.some 17), (.call 32 []), .none, [], []⟩, ⟨(.some 18), (.un .not (.t 17)), .none, [], []⟩] .false), (.cond (.t 18) 4), (.seq 2),
    (.region [⟨(.some 4), (.mv (.c (.bool .false))), .none, [], []⟩] .false), .ret, .skip, (.seq 8), (.seq 2),
    (.region [⟨(.some 19), (.mv (.t 0)), .none, [], []⟩, ⟨(.some 20), (.len .false (.t 19)), .none, [], []⟩, ⟨(.some 21), (.bin .gtr .o (.t 20) (.c (.int .i64 60))), .none, [], []⟩] .false), (.cond (.t 21) 4), (.seq 2),
    (.region [⟨(.some 4), (.mv (.c (.bool .true))), .none, [], []⟩] .false), .ret, .skip, (.seq 2),
    (.region [⟨(.some 23), (.mv (.t 0)), .none, [], []⟩, ⟨(.some 24), (.mv (.t 1)), .none, [], []⟩, ⟨(.some 25), (.call 35 [(.t 23), (.t 24)]), .none, [], []⟩, ⟨(.some 22), (.mv (.t 25)), .none, [], []⟩, ⟨(.some 26), (.ext (.t 22) 0), .none, [], []⟩, ⟨(.some 27), (.ext (.t 22) 1), .none, [], []⟩, ⟨(.some 5), (.mv (.t 26)), .none, [], []⟩, ⟨(.some 6), (.mv (.t 27)), .none, [], []⟩] .false), (.seq 2),
    (.region [⟨(.some 29), (.mv (.t 0)), .none, [], []⟩, ⟨(.some 30), (.mv (.t 1)), .none, [], []⟩, ⟨(.some 31), (.call 36 [(.t 29), (.t 30)]), .none, [], []⟩, ⟨(.some 28), (.mv (.t 31)), .none, [], []⟩, ⟨(.some 32), (.ext (.t 28) 0), .none, [], []⟩, ⟨(.some 33), (.ext (.t 28) 1), .none, [], []⟩, ⟨(.some 7), (.mv (.t 32)), .none, [], []⟩, ⟨(.some 8), (.mv (.t 33)), .none, [], []⟩] .false), (.seq 2),
    (.region [⟨(.some 35), (.mv (.t 0)), .none, [], []⟩, ⟨(.some 36), (.mv (.t 1)), .none, [], []⟩, ⟨(.some 37), (.call 37 [(.t 35), (.t 36)]), .none, [], []⟩, ⟨(.some 34), (.mv (.t 37)), .none, [], []⟩, ⟨(.some 38), (.ext (.t 34) 0), .none, [], []⟩, ⟨(.some 39), (.ext (.t 34) 1), .none, [], []⟩, ⟨(.some 9), (.mv (.t 38)), .none, [], []⟩, ⟨(.some 10), (.mv (.t 39)), .none, [], []⟩] .false), (.seq 8), (.seq 2),
    (.region [⟨(.some 40), (.mv (.t 0)), .none, [], []⟩, ⟨(.some 41), (.mv (.t 1)), .none, [], []⟩, ⟨(.some 42), (.call 33 [(.t 40), (.t 41)]), .none, [], []⟩, ⟨(.some 43), (.un .not (.t 42)), .none, [], []⟩] .false), (.cond (.t 43) 4), (.seq 2),
    (.region [⟨(.some 44), (.mv (.t 5)), .none, [], []⟩, ⟨(.some 45), (.len .false (.t 44)), .none, [], []⟩, ⟨(.some 46), (.mv (.t 7)), .none, [], []⟩, ⟨(.some 47), (.len .false (.t 46)), .none, [], []⟩, ⟨(.some 48), (.bin .add .o (.t 45) (.t 47)), .none, [], []⟩, ⟨(.some 49), (.mv (.t 9)), .none, [], []⟩, ⟨(.some 50), (.len .false (.t 49)), .none, [], []⟩, ⟨(.some 51), (.bin .add .o (.t 48) (.t 50)), .none, [], []⟩, ⟨(.some 52), (.mv (.t 6)), .none, [], []⟩, ⟨(.some 53), (.bin .add .o (.t 51) (.t 52)), .none, [], []⟩, ⟨(.some 54), (.mv (.t 8)), .none, [], []⟩, ⟨(.some 55), (.bin .add .o (.t 53) (.t 54)), .none, [], []⟩, ⟨(.some 56), (.mv (.t 10)), .none, [], []⟩, ⟨(.some 57), (.bin .add .o (.t 55) (.t 56)), .none, [], []⟩, ⟨(.some 58), (.mv (.t 0)), .none, [], []⟩, ⟨(.some 59), (.mv (.t 1)), .none, [], []⟩, ⟨(.some 60), (.call 38 [(.t 58), (.t 59)]), .none, [], []⟩, ⟨(.some 61), (.bin .add .o (.t 57) (.t 60)), .none, [], []⟩, ⟨(.some 62), (.bin .eql .o (.t 61) (.c (.int .i64 0))), .none, [], []⟩, ⟨(.some 63), (.mv (.t 62)), .none, [], []⟩, ⟨(.some 64), (.mv (.t 0)), (.some ((.some 63), .true)), [], []⟩, ⟨(.some 65), (.mv (.t 1)), (.some ((.some 63), .true)), [], []⟩, ⟨(.some 66), (.mv (.t 0)), (.some ((.some 63), .true)), [], []⟩, ⟨(.some 67), (.len .false (.t 66)), (.some ((.some 63), .true)), [], []⟩, ⟨(.some 68), (.mks 3 1 8 [(.int .i64 0)] (.t 67) (.t 67)), (.some ((.some 63), .true)), [], []⟩, ⟨(.some 69), (.call 34 [(.t 64), (.t 65), (.t 68)]), (.some ((.some 63), .true)), [], []⟩, ⟨(.some 70), (.un .not (.t 69)), (.some ((.some 63), .true)), [], []⟩, ⟨(.some 71), (.pick (.t 63) (.t 70) (.c (.bool .false))), .none, [], []⟩, ⟨(.some 4), (.mv (.t 71)), .none, [], []⟩] .false), .ret, .skip, (.seq 2),
    (.region [⟨(.some 73), (.mv (.t 0)), .none, [], []⟩, ⟨(.some 74), (.mv (.t 1)), .none, [], []⟩, ⟨(.some 75), (.mv (.t 0)), .none, [], []⟩, ⟨(.some 76), (.call 40 [(.t 75), (.c (.bool .false))]), .none, [], []⟩, ⟨(.some 77), (.call 39 [(.t 73), (.t 74), (.t 76), (.c (.bool .false))]), .none, [], []⟩, ⟨(.some 72), (.mv (.t 77)), .none, [], []⟩, ⟨(.some 78), (.ext (.t 72) 0), .none, [], []⟩, ⟨(.some 79), (.ext (.t 72) 1), .none, [], []⟩, ⟨(.some 11), (.mv (.t 78)), .none, [], []⟩, ⟨(.some 12), (.mv (.t 79)), .none, [], []⟩] .false), (.seq 2),
    (.region [⟨(.some 81), (.mv (.t 0)), .none, [], []⟩, ⟨(.some 82), (.mv (.t 1)), .none, [], []⟩, ⟨(.some 83), (.mv (.t 0)), .none, [], []⟩, ⟨(.some 84), (.call 40 [(.t 83), (.c (.bool .true))]), .none, [], []⟩, ⟨(.some 85), (.call 39 [(.t 81), (.t 82), (.t 84), (.c (.bool .false))]), .none, [], []⟩, ⟨(.some 80), (.mv (.t 85)), .none, [], []⟩, ⟨(.some 86), (.ext (.t 80) 0), .none, [], []⟩, ⟨(.some 87), (.ext (.t 80) 1), .none, [], []⟩, ⟨(.some 13), (.mv (.t 86)), .none, [], []⟩, ⟨(.some 14), (.mv (.t 87)), .none, [], []⟩] .false), (.seq 2),
    (.region [⟨(.some 89), (.mv (.t 0)), .none, [], []⟩, ⟨(.some 90), (.mv (.t 1)), .none, [], []⟩, ⟨(.some 91), (.mv (.t 0)), .none, [], []⟩, ⟨(.some 92), (.call 40 [(.t 91), (.c (.bool .false))]), .none, [], []⟩, ⟨(.some 93), (.call 39 [(.t 89), (.t 90), (.t 92), (.c (.bool .true))]), .none, [], []⟩, ⟨(.some 88), (.mv (.t 93)), .none, [], []⟩, ⟨(.some 94), (.ext (.t 88) 0), .none, [], []⟩, ⟨(.some 95), (.ext (.t 88) 1), .none, [], []⟩, ⟨(.some 15), (.mv (.t 94)), .none, [], []⟩, ⟨(.some 16), (.mv (.t 95)), .none, [], []⟩] .false), (.seq 2),
    (.region [⟨(.some 96), (.mv (.t 5)), .none, [], []⟩, ⟨(.some 97), (.mv (.t 11)), .none, [], []⟩, ⟨(.some 98), (.call 41 [(.t 96), (.t 97)]), .none, [], []⟩, ⟨(.some 99), (.mv (.t 98)), .none, [], []⟩, ⟨(.some 100), (.mv (.t 6)), (.some ((.some 99), .true)), [], []⟩, ⟨(.some 101), (.mv (.t 12)), (.some ((.some 99), .true)), [], []⟩, ⟨(.some 102), (.bin .eql .o (.t 100) (.t 101)), (.some ((.some 99), .true)), [], []⟩, ⟨(.some 103), (.pick (.t 99) (.t 102) (.c (.bool .false))), .none, [], []⟩, ⟨(.some 104), (.mv (.t 103)), .none, [], []⟩, ⟨(.some 105), (.mv (.t 7)), (.some ((.some 104), .true)), [], []⟩, ⟨(.some 106), (.mv (.t 13)), (.some ((.some 104), .true)), [], []⟩, ⟨(.some 107), (.call 41 [(.t 105), (.t 106)]), (.some ((.some 104), .true)), [], []⟩, ⟨(.some 108), (.pick (.t 104) (.t 107) (.c (.bool .false))), .none, [], []⟩, ⟨(.some 109), (.mv (.t 108)), .none, [], []⟩, ⟨(.some 110), (.mv (.t 8)), (.some ((.some 109), .true)), [], []⟩, ⟨(.some 111), (.mv (.t 14)), (.some ((.some 109), .true)), [], []⟩, ⟨(.some 112), (.bin .eql .o (.t 110) (.t 111)), (.some ((.some 109), .true)), [], []⟩, ⟨(.some 113), (.pick (.t 109) (.t 112) (.c (.bool .false))), .none, [], []⟩, ⟨(.some 114), (.mv (.t 113)), .none, [], []⟩, ⟨(.some 115), (.mv (.t 9)), (.some ((.some 114), .true)), [], []⟩, ⟨(.some 116), (.mv (.t 15)), (.some ((.some 114), .true)), [], []⟩, ⟨(.some 117), (.call 41 [(.t 115), (.t 116)]), (.some ((.some 114), .true)), [], []⟩, ⟨(.some 118), (.pick (.t 114) (.t 117) (.c (.bool .false))), .none, [], []⟩, ⟨(.some 119), (.mv (.t 118)), .none, [], []⟩, ⟨(.some 120), (.mv (.t 10)), (.some ((.some 119), .true)), [], []⟩, ⟨(.some 121), (.mv (.t 16)), (.some ((.some 119), .true)), [], []⟩, ⟨(.some 122), (.bin .eql .o (.t 120) (.t 121)), (.some ((.some 119), .true)), [], []⟩, ⟨(.some 123), (.pick (.t 119) (.t 122) (.c (.bool .false))), .none, [], []⟩, ⟨(.some 4), (.mv (.t 123)), .none, [], []⟩] .false), .ret]
theorem F11_at : F11.at Try.prog 11 Try.f11 := ⟨Try.func11, by kernel_rfl, by kernel_rfl, by kernel_rfl, by kernel_rfl, by kernel_rfl⟩

-- "signalbox/signalboxlaw44.PackBounds" res .true
def F12 : AFn where
  np := 2
  nt := 129
  res := [(.t 4)]
  tab := [(.seq 2),
    (.region [⟨(.some 4), (.mv (.c (.bool .false))), .none, [], []⟩] .false), (.seq 8), (.seq 2),
    (.region [⟨(.some 15), (.call 32 []), .none, [], []⟩, ⟨(.some 16), (.un .not (.t 15)), .none, [], []⟩] .false), (.cond (.t 16) 4), (.seq 2),
    (.region [⟨(.some 4), (.mv (.c (.bool .false))), .none, [], []⟩] .false), .ret, .skip, (.seq 8), (.seq 2),
    (.region [⟨(.some 17), (.mv (.t 0)), .none, [], []⟩, ⟨(.some 18), (.len .false (.t 17)), .none, [], []⟩, ⟨(.some 19), (.bin .gtr .o (.t 18) (.c (.int .i64 200))), .none, [], []⟩, ⟨(.some 20), (.mv (.t 19)), .none, [], []⟩, ⟨(.some 21), (.mv (.t 0)), (.some ((.some 20), .false)), [], []⟩, ⟨(.some 22), (.mv (.t 1)), (.some ((.some 20), .false)), [], []⟩, ⟨(.some 23), (.call 33 [(.t 21), (.t 22)]), (.some ((.some 20), .false)), [], []⟩, ⟨(.some 24), (.un .not (.t 23)), (.some ((.some 20), .false)), [], []⟩, ⟨(.some 25), (.pick (.t 20) (.c (.bool .true)) (.t 24)), .none, [], []⟩] .false), (.cond (.t 25) 4), (.seq 2),
    (.region [⟨(.some 4), (.mv (.c (.bool .true))), .none, [], []⟩] .false), .ret, .skip, (.seq 2),
    (.region [⟨(.some 26), (.mv (.t 0)), .none, [], []⟩, ⟨(.some 27), (.mv (.t 1)), .none, [], []⟩, ⟨(.some 28), (.call 38 [(.t 26), (.t 27)]), .none, [], []⟩, ⟨(.some 5), (.mv (.t 28)), .none, [], []⟩] .false), (.seq 2),
    (.region [⟨(.some 6), (.mv (.c (.int .i64 0))), .none, [], []⟩] .false), (.seq 17), (.seq 2),
    (.region [⟨(.some 29), (.mv (.t 0)), .none, [], []⟩, ⟨(.some 30), (.len .false (.t 29)), .none, [], []⟩, ⟨(.some 31), (.mv (.c (.int .i64 0))), .none, [], []⟩] .false), (.block 0), .loop, (.seq 2),
    (.region [⟨(.some 32), (.bin .lss .o (.t 31) (.t 30)), .none, [], []⟩] .false), (.seq 4), (.cond (.t 32) 2), .skip, (.exit 0), (.seq 5), (.block 1), (.seq 2),
    (.region [⟨(.some 33), (.idx 3 1 (.t 29) (.t 31)), .none, [], []⟩, ⟨(.some 34), (.ld .none (.t 33)), .none, [], []⟩, ⟨(.some 8), (.mv (.t 34)), .none, [], []⟩] .false),
    (.region [⟨(.some 35), (.mv (.t 6)), .none, [], []⟩, ⟨(.some 36), (.mv (.t 8)), .none, [], []⟩, ⟨(.some 37), (.bin .add .o (.t 35) (.t 36)), .none, [], []⟩, ⟨(.some 6), (.mv (.t 37)), .none, [], []⟩] .false),
    (.region [⟨(.some 38), (.bin .add .o (.t 31) (.c (.int .i64 1))), .none, [], []⟩, ⟨(.some 31), (.mv (.t 38)), .none, [], []⟩] .false), (.seq 2),
    (.region [⟨(.some 40), (.mv (.t 0)), .none, [], []⟩, ⟨(.some 41), (.mv (.t 1)), .none, [], []⟩, ⟨(.some 42), (.call 35 [(.t 40), (.t 41)]), .none, [], []⟩, ⟨(.some 39), (.mv (.t 42)), .none, [], []⟩, ⟨(.some 43), (.ext (.t 39) 0), .none, [], []⟩, ⟨(.some 44), (.ext (.t 39) 1), .none, [], []⟩, ⟨(.some 9), (.mv (.t 43)), .none, [], []⟩, ⟨(.some 10), (.mv (.t 44)), .none, [], []⟩] .false), (.seq 2),
    (.region [⟨(.some 46), (.mv (.t 0)), .none, [], []⟩, ⟨(.some 47), (.mv (.t 1)), .none, [], []⟩, ⟨(.some 48), (.call 36 [(.t 46), (.t 47)]), .none, [], []⟩, ⟨(.some 45), (.mv (.t 48)), .none, [], []⟩, ⟨(.some 49), (.ext (.t 45) 0), .none, [], []⟩, ⟨(.some 50), (.ext (.t 45) 1), .none, [], []⟩, ⟨(.some 11), (.mv (.t 49)), .none, [], []⟩, ⟨(.some 12), (.mv (.t 50)), .none, [], []⟩] .false), (.seq 2),
    (.region [⟨(.some 52), (.mv (.t 0)), .none, [], []⟩, ⟨(.some 53), (.mv (.t 1)), .none, [], []⟩, ⟨(.some 54), (.call 37 [(.t 52), (.t 53)]), .none, [], []⟩, ⟨(.some 51), (.mv (.t 54)), .none, [], []⟩, ⟨(.some 55), (.ext (.t 51) 0), .none, [], []⟩, ⟨(.some 56), (.ext (.t 51) 1), .none, [], []⟩, ⟨(.some 13), (.mv (.t 55)), .none, [], []⟩, ⟨(.some 14), (.mv (.t 56)), .none, [], []⟩] .false), (.seq 8), (.seq 2),
    (.region [⟨(.some 57), (.mv (.t 0)), .none, [], []⟩, ⟨(.some 58), (.mv (.t 1)), .none, [], []⟩, ⟨(.some 59), (.mv (.t 9)), .none, [], []⟩, ⟨(.some 60), (.call 34 [(.t 57), (.t 58), (.t 59)]), .none, [], []⟩, ⟨(.some 61), (.un .not (.t 60)), .none, [], []⟩, ⟨(.some 62), (.mv (.t 61)), .none, [], []⟩, ⟨(.some 63), (.mv (.t 0)), (.some ((.some 62), .false)), [], []⟩, ⟨(.some 64), (.mv (.t 1)), (.some ((.some 62), .false)), [], []⟩, ⟨(.some 65), (.mv (.t 11)), (.some ((.some 62), .false)), [], []⟩, ⟨(.some 66), (.call 34 [(.t 63), (.t 64), (.t 65)]), (.some ((.some 62), .false)), [], []⟩, ⟨(.some 67), (.un .not (.t 66)), (.some ((.some 62), .false)), [], []⟩, ⟨(.some 68), (.pick (.t 62) (.c (.bool .true)) (.t 67)), .none, [], []⟩, ⟨(.some 69), (.mv (.t 68)), .none, [], []⟩, ⟨(.some 70), (.mv (.t 0)), (.some ((.some 69), .false)), [], []⟩, ⟨(.some 71), (.mv (.t 1)), (.some ((.some 69), .false)), [], []⟩, ⟨(.some 72), (.mv (.t 13)), (.some ((.some 69), .false)), [], []⟩, ⟨(.some 73), (.call 34 [(.t 70), (.t 71), (.t 72)]), (.some ((.some 69), .false)), [], []⟩, ⟨(.some 74), (.un .not (.t 73)), (.some ((.some 69), .false)), [], []⟩, ⟨(.some 75), (.pick (.t 69) (.c (.bool .true)) (.t 74)), .none, [], []⟩, ⟨(.some 76), (.mv (.t 75)), .none, [], []⟩, ⟨(.some 77), (.mv (.t 5)), (.some ((.some 76), .false)), [], []⟩, ⟨(.some 78), (.bin .sub .o (.t 77) (.c (.int .i64 1))), (.some ((.some 76), .false)), [], []⟩, ⟨(.some 79), (.mv (.t 1)), (.some ((.some 76), .false)), [], []⟩, ⟨(.some 80), (.bin .mul .o (.t 78) (.t 79)), (.some ((.some 76), .false)), [], []⟩, ⟨(.some 81), (.mv (.t 6)), (.some ((.some 76), .false)), [], []⟩, ⟨(.some 82), (.bin .geq .o (.t 80) (.t 81)), (.some ((.some 76), .false)), [], []⟩, ⟨(.some 83), (.mv (.t 82)), (.some ((.some 76), .false)), [], []⟩, ⟨(.some 84), (.mv (.t 5)), (.some ((.some 83), .true)), [], []⟩, ⟨(.some 85), (.bin .gtr .o (.t 84) (.c (.int .i64 0))), (.some ((.some 83), .true)), [], []⟩, ⟨(.some 86), (.pick (.t 83) (.t 85) (.c (.bool .false))), (.some ((.some 76), .false)), [], []⟩, ⟨(.some 87), (.pick (.t 76) (.c (.bool .true)) (.t 86)), .none, [], []⟩, ⟨(.some 88), (.mv (.t 87)), .none, [], []⟩, ⟨(.some 89), (.mv (.t 5)), (.some ((.some 88), .false)), [], []⟩, ⟨(.some 90), (.mv (.t 1)), (.some ((.some 88), .false)), [], []⟩, ⟨(.some 91), (.bin .mul .o (.t 89) (.t 90)), (.some ((.some 88), .false)), [], []⟩, ⟨(.some 92), (.mv (.t 6)), (.some ((.some 88), .false)), [], []⟩, ⟨(.some 93), (.bin .lss .o (.t 91) (.t 92)), (.some ((.some 88), .false)), [], []⟩, ⟨(.some 94), (.pick (.t 88) (.c (.bool .true)) (.t 93)), .none, [], []⟩] .false), (.cond (.t 94) 4), (.seq 2),
    (.region [⟨(.some 4), (.mv (.c (.bool .false))), .none, [], []⟩] .false), .ret, .skip, (.seq 2),
    (.region [⟨(.some 95), (.mv (.t 10)), .none, [], []⟩, ⟨(.some 96), (.mv (.t 5)), .none, [], []⟩, ⟨(.some 97), (.bin .geq .o (.t 95) (.t 96)), .none, [], []⟩, ⟨(.some 98), (.mv (.t 97)), .none, [], []⟩, ⟨(.some 99), (.mv (.t 12)), (.some ((.some 98), .true)), [], []⟩, ⟨(.some 100), (.mv (.t 5)), (.some ((.some 98), .true)), [], []⟩, ⟨(.some 101), (.bin .geq .o (.t 99) (.t 100)), (.some ((.some 98), .true)), [], []⟩, ⟨(.some 102), (.pick (.t 98) (.t 101) (.c (.bool .false))), .none, [], []⟩, ⟨(.some 103), (.mv (.t 102)), .none, [], []⟩, ⟨(.some 104), (.mv (.t 14)), (.some ((.some 103), .true)), [], []⟩, ⟨(.some 105), (.mv (.t 5)), (.some ((.some 103), .true)), [], []⟩, ⟨(.some 106), (.bin .geq .o (.t 104) (.t 105)), (.some ((.some 103), .true)), [], []⟩, ⟨(.some 107), (.pick (.t 103) (.t 106) (.c (.bool .false))), .none, [], []⟩, ⟨(.some 108), (.mv (.t 107)), .none, [], []⟩, ⟨(.some 109), (.mv (.t 10)), (.some ((.some 108), .true)), [], []⟩, ⟨(.some 110), (.mv (.t 5)), (.some ((.some 108), .true)), [], []⟩, ⟨(.some 111), (.bin .mul .o (.c (.int .i64 2)) (.t 110)), (.some ((.some 108), .true)), [], []⟩, ⟨(.some 112), (.bin .add .o (.t 111) (.c (.int .i64 1))), (.some ((.some 108), .true)), [], []⟩, ⟨(.some 113), (.bin .lss .o (.t 109) (.t 112)), (.some ((.some 108), .true)), [], []⟩, ⟨(.some 114), (.pick (.t 108) (.t 113) (.c (.bool .false))), .none, [], []⟩, ⟨(.some 115), (.mv (.t 114)), .none, [], []⟩, ⟨(.some 116), (.mv (.t 12)), (.some ((.some 115), .true)), [], []⟩, ⟨(.some 117), (.mv (.t 5)), (.some ((.some 115), .true)), [], []⟩, ⟨(.some 118), (.bin .mul .o (.c (.int .i64 2)) (.t 117)), (.some ((.some 115), .true)), [], []⟩, ⟨(.some 119), (.bin .add .o (.t 118) (.c (.int .i64 1))), (.some ((.some 115), .true)), [], []⟩, ⟨(.some 120), (.bin .lss .o (.t 116) (.t 119)), (.some ((.some 115), .true)), [], []⟩, ⟨(.some 121), (.pick (.t 115) (.t 120) (.c (.bool .false))), .none, [], []⟩, ⟨(.some 122), (.mv (.t 121)), .none, [], []⟩, ⟨(.some 123), (.mv (.t 14)), (.some ((.some 122), .true)), [], []⟩, ⟨(.some 124), (.mv (.t 5)), (.some ((.some 122), .true)), [], []⟩, ⟨(.some 125), (.bin .mul .o (.c (.int .i64 2)) (.t 124)), (.some ((.some 122), .true)), [], []⟩, ⟨(.some 126), (.bin .add .o (.t 125) (.c (.int .i64 1))), (.some ((.some 122), .true)), [], []⟩, ⟨(.some 127), (.bin .lss .o (.t 123) (.t 126)), (.some ((.some 122), .true)), [], []⟩, ⟨(.some 128), (.pick (.t 122) (.t 127) (.c (.bool .false))), .none, [], []⟩, ⟨(.some 4), (.mv (.t 128)), .none, [], []⟩] .false), .ret]
theorem F12_at : F12.at Try.prog 12 Try.f12 := ⟨Try.func12, by kernel_rfl, by kernel_rfl, by kernel_rfl, by kernel_rfl, by kernel_rfl⟩

-- "signalbox/signalboxlaw44.fixed" res .true
def F32 : AFn where
  np := 0
  nt := 77
  res := [(.t 0)]
  tab := [(.seq 2),
    (.region [⟨(.some 0), (.mv (.c (.bool .false))), .none, [], []⟩] .false), (.seq 2),
    (.region [⟨(.some 8), (.lit 3 1 3 [(.int .i64 0)] [(0, (.c (.int .i64 3))), (1, (.c (.int .i64 5))), (2, (.c (.int .i64 2)))]), .none, [], []⟩, ⟨(.some 9), (.call 35 [(.t 8), (.c (.int .i64 5))]), .none, [], []⟩, ⟨(.some 7), (.mv (.t 9)), .none, [], []⟩, ⟨(.some 10), (.ext (.t 7) 0), .none, [], []⟩, ⟨(.some 11), (.ext (.t 7) 1), .none, [], []⟩, ⟨(.some 1), (.mv (.t 10)), .none, [], []⟩, ⟨(.some 2), (.mv (.t 11)), .none, [], []⟩] .false), (.seq 2),
    (.region [⟨(.some 13), (.lit 3 1 3 [(.int .i64 0)] [(0, (.c (.int .i64 3))), (1, (.c (.int .i64 5))), (2, (.c (.int .i64 2)))]), .none, [], []⟩, ⟨(.some 14), (.call 36 [(.t 13), (.c (.int .i64 5))]), .none, [], []⟩, ⟨(.some 12), (.mv (.t 14)), .none, [], []⟩, ⟨(.some 15), (.ext (.t 12) 0), .none, [], []⟩, ⟨(.some 16), (.ext (.t 12) 1), .none, [], []⟩, ⟨(.some 3), (.mv (.t 15)), .none, [], []⟩, ⟨(.some 4), (.mv (.t 16)), .none, [], []⟩] .false), (.seq 2),
    (.region [⟨(.some 18), (.lit 3 1 1 [(.int .i64 0)] [(0, (.c (.int .i64 6)))]), .none, [], []⟩, ⟨(.some 19), (.call 35 [(.t 18), (.c (.int .i64 5))]), .none, [], []⟩, ⟨(.some 17), (.mv (.t 19)), .none, [], []⟩, ⟨(.some 20), (.ext (.t 17) 0), .none, [], []⟩, ⟨(.some 21), (.ext (.t 17) 1), .none, [], []⟩, ⟨(.some 5), (.mv (.t 20)), .none, [], []⟩, ⟨(.some 6), (.mv (.t 21)), .none, [], []⟩] .false), (.seq 2),
    (.region [⟨(.some 22), (.mv (.t 1)), .none, [], []⟩, ⟨(.some 23), (.len .false (.t 22)), .none, [], []⟩, ⟨(.some 24), (.bin .eql .o (.t 23) (.c (.int .i64 3))), .none, [], []⟩, ⟨(.some 25), (.mv (.t 24)), .none, [], []⟩, ⟨(.some 26), (.mv (.t 1)), (.some ((.some 25), .true)), [], []⟩, ⟨(.some 27), (.idx 3 1 (.t 26) (.c (.int .i64 0))), (.some ((.some 25), .true)), [], []⟩, ⟨(.some 28), (.ld .none (.t 27)), (.some ((.some 25), .true)), [], []⟩, ⟨(.some 29), (.bin .eql .o (.t 28) (.c (.int .i64 0))), (.some ((.some 25), .true)), [], []⟩, ⟨(.some 30), (.pick (.t 25) (.t 29) (.c (.bool .false))), .none, [], []⟩, ⟨(.some 31), (.mv (.t 30)), .none, [], []⟩, ⟨(.some 32), (.mv (.t 1)), (.some ((.some 31), .true)), [], []⟩, ⟨(.some 33), (.idx 3 1 (.t 32) (.c (.int .i64 1))), (.some ((.some 31), .true)), [], []⟩, ⟨(.some 34), (.ld .none (.t 33)), (.some ((.some 31), .true)), [], []⟩, ⟨(.some 35), (.bin .eql .o (.t 34) (.c (.int .i64 1))), (.some ((.some 31), .true)), [], []⟩, ⟨(.some 36), (.pick (.t 31) (.t 35) (.c (.bool .false))), .none, [], []⟩, ⟨(.some 37), (.mv (.t 36)), .none, [], []⟩, ⟨(.some 38), (.mv (.t 1)), (.some ((.some 37), .true)), [], []⟩, ⟨(.some 39), (.idx 3 1 (.t 38) (.c (.int .i64 2))), (.some ((.some 37), .true)), [], []⟩, ⟨(.some 40), (.ld .none (.t 39)), (.some ((.some 37), .true)), [], []⟩, ⟨(.some 41), (.bin .eql .o (.t 40) (.c (.int .i64 0))), (.some ((.some 37), .true)), [], []⟩, ⟨(.some 42), (.pick (.t 37) (.t 41) (.c (.bool .false))), .none, [], []⟩, ⟨(.some 43), (.mv (.t 42)), .none, [], []⟩, ⟨(.some 44), (.mv (.t 2)), (.some ((.some 43), .true)), [], []⟩, ⟨(.some 45), (.bin .eql .o (.t 44) (.c (.int .i64 2))), (.some ((.some 43), .true)), [], []⟩, ⟨(.some 46), (.pick (.t 43) (.t 45) (.c (.bool .false))), .none, [], []⟩, ⟨(.some 47), (.mv (.t 46)), .none, [], []⟩, ⟨(.some 48), (.mv (.t 3)), (.some ((.some 47), .true)), [], []⟩, ⟨(.some 49), (.idx 3 1 (.t 48) (.c (.int .i64 1))), (.some ((.some 47), .true)), [], []⟩, ⟨(.some 50), (.ld .none (.t 49)), (.some ((.some 47), .true)), [], []⟩, ⟨(.some 51), (.bin .eql .o (.t 50) (.c (.int .i64 0))), (.some ((.some 47), .true)), [], []⟩, ⟨(.some 52), (.pick (.t 47) (.t 51) (.c (.bool .false))), .none, [], []⟩, ⟨(.some 53), (.mv (.t 52)), .none, [], []⟩, ⟨(.some 54), (.mv (.t 4)), (.some ((.some 53), .true)), [], []⟩, ⟨(.some 55), (.bin .eql .o (.t 54) (.c (.int .i64 2))), (.some ((.some 53), .true)), [], []⟩, ⟨(.some 56), (.pick (.t 53) (.t 55) (.c (.bool .false))), .none, [], []⟩, ⟨(.some 57), (.mv (.t 56)), .none, [], []⟩, ⟨(.some 58), (.mv (.t 6)), (.some ((.some 57), .true)), [], []⟩, ⟨(.some 59), (.bin .eql .o (.t 58) (.c (.int .i64 0))), (.some ((.some 57), .true)), [], []⟩, ⟨(.some 60), (.pick (.t 57) (.t 59) (.c (.bool .false))), .none, [], []⟩, ⟨(.some 61), (.mv (.t 60)), .none, [], []⟩, ⟨(.some 62), (.lit 3 1 3 [(.int .i64 0)] [(0, (.c (.int .i64 3))), (1, (.c (.int .i64 5))), (2, (.c (.int .i64 2)))]), (.some ((.some 61), .true)), [], []⟩, ⟨(.some 63), (.call 38 [(.t 62), (.c (.int .i64 5))]), (.some ((.some 61), .true)), [], []⟩, ⟨(.some 64), (.bin .eql .o (.t 63) (.c (.int .i64 2))), (.some ((.some 61), .true)), [], []⟩, ⟨(.some 65), (.pick (.t 61) (.t 64) (.c (.bool .false))), .none, [], []⟩, ⟨(.some 66), (.mv (.t 65)), .none, [], []⟩, ⟨(.some 67), (.lit 3 1 1 [(.int .i64 0)] [(0, (.c (.int .i64 3)))]), (.some ((.some 66), .true)), [], []⟩, ⟨(.some 68), (.lit 3 1 1 [(.int .i64 0)] [(0, (.c (.int .i64 7)))]), (.some ((.some 66), .true)), [], []⟩, ⟨(.some 69), (.call 34 [(.t 67), (.c (.int .i64 5)), (.t 68)]), (.some ((.some 66), .true)), [], []⟩, ⟨(.some 70), (.pick (.t 66) (.t 69) (.c (.bool .false))), .none, [], []⟩, ⟨(.some 71), (.mv (.t 70)), .none, [], []⟩, ⟨(.some 72), (.lit 3 1 2 [(.int .i64 0)] [(0, (.c (.int .i64 3))), (1, (.c (.int .i64 3)))]), (.some ((.some 71), .true)), [], []⟩, ⟨(.some 73), (.lit 3 1 2 [(.int .i64 0)] [(0, (.c (.int .i64 7))), (1, (.c (.int .i64 7)))]), (.some ((.some 71), .true)), [], []⟩, ⟨(.some 74), (.call 34 [(.t 72), (.c (.int .i64 5)), (.t 73)]), (.some ((.some 71), .true)), [], []⟩, ⟨(.some 75), (.un .not (.t 74)), (.some ((.some 71), .true)), [], []⟩, ⟨(.some 76), (.pick (.t 71) (.t 75) (.c (.bool .false))), .none, [], []⟩, ⟨(.some 0), (.mv (.t 76)), .none, [], []⟩] .false), .ret]
theorem F32_at : F32.at Try.prog 32 Try.f32 := ⟨Try.func32, by kernel_rfl, by kernel_rfl, by kernel_rfl, by kernel_rfl, by kernel_rfl⟩

-- "signalbox/signalboxref44.Right" res .true
def F33 : AFn where
  np := 2
  nt := 32
  res := [(.t 4)]
  tab := [(.seq 2),
    (.region [⟨(.some 4), (.mv (.c (.bool .false))), .none, [], []⟩] .false), (.seq 23), (.seq 2),
    (.region [⟨(.some 7), (.mv (.t 0)), .none, [], []⟩, ⟨(.some 8), (.len .false (.t 7)), .none, [], []⟩, ⟨(.some 9), (.mv (.c (.int .i64 0))), .none, [], []⟩] .false), (.block 0), .loop, (.seq 2),
    (.region [⟨(.some 10), (.bin .lss .o (.t 9) (.t 8)), .none, [], []⟩] .false), (.seq 4), (.cond (.t 10) 2), .skip, (.exit 0), (.seq 11), (.block 1), (.seq 2),
    (.region [⟨(.some 11), (.idx 3 1 (.t 7) (.t 9)), .none, [], []⟩, ⟨(.some 12), (.ld .none (.t 11)), .none, [], []⟩, ⟨(.some 6), (.mv (.t 12)), .none, [], []⟩] .false), (.seq 2),
    (.region [⟨(.some 13), (.mv (.t 6)), .none, [], []⟩, ⟨(.some 14), (.bin .lss .o (.t 13) (.c (.int .i64 1))), .none, [], []⟩, ⟨(.some 15), (.mv (.t 14)), .none, [], []⟩, ⟨(.some 16), (.mv (.t 6)), (.some ((.some 15), .false)), [], []⟩, ⟨(.some 17), (.mv (.t 1)), (.some ((.some 15), .false)), [], []⟩, ⟨(.some 18), (.bin .gtr .o (.t 16) (.t 17)), (.some ((.some 15), .false)), [], []⟩, ⟨(.some 19), (.pick (.t 15) (.c (.bool .true)) (.t 18)), .none, [], []⟩] .false), (.cond (.t 19) 4), (.seq 2),
    (.region [⟨(.some 4), (.mv (.c (.bool .false))), .none, [], []⟩] .false), .ret, .skip,
    (.region [⟨(.some 20), (.bin .add .o (.t 9) (.c (.int .i64 1))), .none, [], []⟩, ⟨(.some 9), (.mv (.t 20)), .none, [], []⟩] .false), (.seq 2),
    (.region [⟨(.some 21), (.mv (.t 0)), .none, [], []⟩, ⟨(.some 22), (.len .false (.t 21)), .none, [], []⟩, ⟨(.some 23), (.bin .leq .o (.t 22) (.c (.int .i64 4096))), .none, [], []⟩, ⟨(.some 24), (.mv (.t 23)), .none, [], []⟩, ⟨(.some 25), (.mv (.t 1)), (.some ((.some 24), .true)), [], []⟩, ⟨(.some 26), (.bin .geq .o (.t 25) (.c (.int .i64 1))), (.some ((.some 24), .true)), [], []⟩, ⟨(.some 27), (.pick (.t 24) (.t 26) (.c (.bool .false))), .none, [], []⟩, ⟨(.some 28), (.mv (.t 27)), .none, [], []⟩, ⟨(.some 29), (.mv (.t 1)), (.some ((.some 28), .true)), [], []⟩, ⟨(.some 30), (.bin .leq .o (.t 29) (.c (.int .i64 1048576))), (.some ((.some 28), .true)), [], []⟩, ⟨(.some 31), (.pick (.t 28) (.t 30) (.c (.bool .false))), .none, [], []⟩, ⟨(.some 4), (.mv (.t 31)), .none, [], []⟩] .false), .ret]
theorem F33_at : F33.at Try.prog 33 Try.f33 := ⟨Try.func33, by kernel_rfl, by kernel_rfl, by kernel_rfl, by kernel_rfl, by kernel_rfl⟩

-- "signalbox/pack.Check" res .true
def F34 : AFn where
  np := 3
  nt := 47
  res := [(.t 6)]
  tab := [(.seq 2),
    (.region [⟨(.some 6), (.mv (.c (.bool .false))), .none, [], []⟩] .false), (.seq 8), (.seq 2),
    (.region [⟨(.some 10), (.mv (.t 0)), .none, [], []⟩, ⟨(.some 11), (.mv (.t 1)), .none, [], []⟩, ⟨(.some 12), (.call 58 [(.t 10), (.t 11)]), .none, [], []⟩, ⟨(.some 13), (.un .not (.t 12)), .none, [], []⟩, ⟨(.some 14), (.mv (.t 13)), .none, [], []⟩, ⟨(.some 15), (.mv (.t 2)), (.some ((.some 14), .false)), [], []⟩, ⟨(.some 16), (.len .false (.t 15)), (.some ((.some 14), .false)), [], []⟩, ⟨(.some 17), (.mv (.t 0)), (.some ((.some 14), .false)), [], []⟩, ⟨(.some 18), (.len .false (.t 17)), (.some ((.some 14), .false)), [], []⟩, ⟨(.some 19), (.bin .neq .o (.t 16) (.t 18)), (.some ((.some 14), .false)), [], []⟩, ⟨(.some 20), (.pick (.t 14) (.c (.bool .true)) (.t 19)), .none, [], []⟩] .false), (.cond (.t 20) 4), (.seq 2),
    (.region [⟨(.some 6), (.mv (.c (.bool .false))), .none, [], []⟩] .false), .ret, .skip, (.seq 2),
    (.region [⟨(.some 21), .mkm, .none, [], []⟩, ⟨(.some 7), (.mv (.t 21)), .none, [], []⟩] .false), (.seq 25), (.seq 2),
    (.region [⟨(.some 22), (.mv (.t 2)), .none, [], []⟩, ⟨(.some 23), (.len .false (.t 22)), .none, [], []⟩, ⟨(.some 24), (.mv (.c (.int .i64 0))), .none, [], []⟩] .false), (.block 0), .loop, (.seq 2),
    (.region [⟨(.some 25), (.bin .lss .o (.t 24) (.t 23)), .none, [], []⟩] .false), (.seq 4), (.cond (.t 25) 2), .skip, (.exit 0), (.seq 13), (.block 1), (.seq 2),
    (.region [⟨(.some 26), (.mv (.t 24)), .none, [], []⟩, ⟨(.some 27), (.idx 3 1 (.t 22) (.t 24)), .none, [], []⟩, ⟨(.some 28), (.ld .none (.t 27)), .none, [], []⟩, ⟨(.some 8), (.mv (.t 26)), .none, [], []⟩, ⟨(.some 9), (.mv (.t 28)), .none, [], []⟩] .false), (.seq 2),
    (.region [⟨(.some 29), (.mv (.t 7)), .none, [], [7]⟩, ⟨(.some 30), (.mv (.t 9)), .none, [], [9]⟩, ⟨(.some 31), (.mget (.int .i64 0) (.t 29) (.t 30)), .none, [0, 1], [29, 30]⟩, ⟨(.some 32), (.mv (.t 0)), .none, [], [0]⟩, ⟨(.some 33), (.mv (.t 8)), .none, [], [8]⟩, ⟨(.some 34), (.idx 3 1 (.t 32) (.t 33)), .none, [3, 4], [32, 33]⟩, ⟨(.some 35), (.ld .none (.t 34)), .none, [5], [34]⟩, ⟨(.some 36), (.bin .add .o (.t 31) (.t 35)), .none, [2, 6], [31, 35]⟩, ⟨.none, (.mset (.t 29) (.t 30) (.t 36)), .none, [0, 1, 7, 0, 1, 2, 3, 4, 5, 6, 7], [29, 30, 36]⟩] .true), (.seq 2),
    (.region [⟨(.some 37), (.mv (.t 9)), .none, [], []⟩, ⟨(.some 38), (.bin .lss .o (.t 37) (.c (.int .i64 0))), .none, [], []⟩, ⟨(.some 39), (.mv (.t 38)), .none, [], []⟩, ⟨(.some 40), (.mv (.t 7)), (.some ((.some 39), .false)), [], []⟩, ⟨(.some 41), (.mv (.t 9)), (.some ((.some 39), .false)), [], []⟩, ⟨(.some 42), (.mget (.int .i64 0) (.t 40) (.t 41)), (.some ((.some 39), .false)), [], []⟩, ⟨(.some 43), (.mv (.t 1)), (.some ((.some 39), .false)), [], []⟩, ⟨(.some 44), (.bin .gtr .o (.t 42) (.t 43)), (.some ((.some 39), .false)), [], []⟩, ⟨(.some 45), (.pick (.t 39) (.c (.bool .true)) (.t 44)), .none, [], []⟩] .false), (.cond (.t 45) 4), (.seq 2),
    (.region [⟨(.some 6), (.mv (.c (.bool .false))), .none, [], []⟩] .false), .ret, .skip,
    (.region [⟨(.some 46), (.bin .add .o (.t 24) (.c (.int .i64 1))), .none, [], []⟩, ⟨(.some 24), (.mv (.t 46)), .none, [], []⟩] .false), (.seq 2),
    (.region [⟨(.some 6), (.mv (.c (.bool .true))), .none, [], []⟩] .false), .ret]
theorem F34_at : F34.at Try.prog 34 Try.f34 := ⟨Try.func34, by kernel_rfl, by kernel_rfl, by kernel_rfl, by kernel_rfl, by kernel_rfl⟩

-- "signalbox/pack.First" res .true
def F35 : AFn where
  np := 2
  nt := 15
  res := [(.t 4), (.t 5)]
  tab := [(.seq 2),
    (.region [⟨(.some 4), (.mv (.c .nils)), .none, [], []⟩, ⟨(.some 5), (.mv (.c (.int .i64 0))), .none, [], []⟩] .false), (.seq 2),
    (.region [⟨(.some 6), (.mv (.t 0)), .none, [], []⟩, ⟨(.some 7), (.mv (.t 1)), .none, [], []⟩, ⟨(.some 8), (.mv (.t 0)), .none, [], []⟩, ⟨(.some 9), (.call 60 [(.t 8)]), .none, [], []⟩, ⟨(.some 10), (.build [] []), .none, [], []⟩, ⟨(.some 11), (.mki 98 (.t 10)), .none, [], []⟩, ⟨(.some 12), (.call 59 [(.t 6), (.t 7), (.t 9), (.t 11)]), .none, [], []⟩, ⟨(.some 13), (.ext (.t 12) 0), .none, [], []⟩, ⟨(.some 14), (.ext (.t 12) 1), .none, [], []⟩, ⟨(.some 4), (.mv (.t 13)), .none, [], []⟩, ⟨(.some 5), (.mv (.t 14)), .none, [], []⟩] .false), .ret]
theorem F35_at : F35.at Try.prog 35 Try.f35 := ⟨Try.func35, by kernel_rfl, by kernel_rfl, by kernel_rfl, by kernel_rfl, by kernel_rfl⟩

-- "signalbox/pack.Falling" res .true
def F36 : AFn where
  np := 2
  nt := 20
  res := [(.t 4), (.t 5)]
  tab := [(.seq 2),
    (.region [⟨(.some 2), (.box 24 (.t 0)), .none, [], []⟩, ⟨(.some 4), (.mv (.c .nils)), .none, [], []⟩, ⟨(.some 5), (.mv (.c (.int .i64 0))), .none, [], []⟩] .false), (.seq 2),
    (.region [⟨(.some 7), (.ld .none (.t 2)), .none, [], []⟩, ⟨(.some 8), (.call 60 [(.t 7)]), .none, [], []⟩, ⟨(.some 6), (.mv (.t 8)), .none, [], []⟩] .false), (.seq 2),
    (.region [⟨(.some 9), (.mv (.t 6)), .none, [], []⟩, ⟨(.some 10), (.mkf (.func 62) [] [(.t 2)]), .none, [], []⟩, ⟨(.some 11), (.call 61 [(.t 9), (.t 10)]), .none, [], []⟩] .false), (.seq 2),
    (.region [⟨(.some 12), (.ld .none (.t 2)), .none, [], []⟩, ⟨(.some 13), (.mv (.t 1)), .none, [], []⟩, ⟨(.some 14), (.mv (.t 6)), .none, [], []⟩, ⟨(.some 15), (.build [] []), .none, [], []⟩, ⟨(.some 16), (.mki 98 (.t 15)), .none, [], []⟩, ⟨(.some 17), (.call 59 [(.t 12), (.t 13), (.t 14), (.t 16)]), .none, [], []⟩, ⟨(.some 18), (.ext (.t 17) 0), .none, [], []⟩, ⟨(.some 19), (.ext (.t 17) 1), .none, [], []⟩, ⟨(.some 4), (.mv (.t 18)), .none, [], []⟩, ⟨(.some 5), (.mv (.t 19)), .none, [], []⟩] .false), .ret]
theorem F36_at : F36.at Try.prog 36 Try.f36 := ⟨Try.func36, by kernel_rfl, by kernel_rfl, by kernel_rfl, by kernel_rfl, by kernel_rfl⟩

-- "signalbox/pack.Best" res .true
def F37 : AFn where
  np := 2
  nt := 15
  res := [(.t 4), (.t 5)]
  tab := [(.seq 2),
    (.region [⟨(.some 4), (.mv (.c .nils)), .none, [], []⟩, ⟨(.some 5), (.mv (.c (.int .i64 0))), .none, [], []⟩] .false), (.seq 2),
    (.region [⟨(.some 6), (.mv (.t 0)), .none, [], []⟩, ⟨(.some 7), (.mv (.t 1)), .none, [], []⟩, ⟨(.some 8), (.mv (.t 0)), .none, [], []⟩, ⟨(.some 9), (.call 60 [(.t 8)]), .none, [], []⟩, ⟨(.some 10), (.build [] []), .none, [], []⟩, ⟨(.some 11), (.mki 101 (.t 10)), .none, [], []⟩, ⟨(.some 12), (.call 59 [(.t 6), (.t 7), (.t 9), (.t 11)]), .none, [], []⟩, ⟨(.some 13), (.ext (.t 12) 0), .none, [], []⟩, ⟨(.some 14), (.ext (.t 12) 1), .none, [], []⟩, ⟨(.some 4), (.mv (.t 13)), .none, [], []⟩, ⟨(.some 5), (.mv (.t 14)), .none, [], []⟩] .false), .ret]
theorem F37_at : F37.at Try.prog 37 Try.f37 := ⟨Try.func37, by kernel_rfl, by kernel_rfl, by kernel_rfl, by kernel_rfl, by kernel_rfl⟩

-- "signalbox/pack.Least" res .true
def F38 : AFn where
  np := 2
  nt := 28
  res := [(.t 4)]
  tab := [(.seq 2),
    (.region [⟨(.some 4), (.mv (.c (.int .i64 0))), .none, [], []⟩] .false), (.seq 8), (.seq 2),
    (.region [⟨(.some 8), (.mv (.t 0)), .none, [], []⟩, ⟨(.some 9), (.mv (.t 1)), .none, [], []⟩, ⟨(.some 10), (.call 58 [(.t 8), (.t 9)]), .none, [], []⟩, ⟨(.some 11), (.un .not (.t 10)), .none, [], []⟩] .false), (.cond (.t 11) 4), (.seq 2),
    (.region [⟨(.some 4), (.mv (.c (.int .i64 0))), .none, [], []⟩] .false), .ret, .skip, (.seq 2),
    (.region [⟨(.some 5), (.mv (.c (.int .i64 0))), .none, [], []⟩] .false), (.seq 17), (.seq 2),
    (.region [⟨(.some 12), (.mv (.t 0)), .none, [], []⟩, ⟨(.some 13), (.len .false (.t 12)), .none, [], []⟩, ⟨(.some 14), (.mv (.c (.int .i64 0))), .none, [], []⟩] .false), (.block 0), .loop, (.seq 2),
    (.region [⟨(.some 15), (.bin .lss .o (.t 14) (.t 13)), .none, [], []⟩] .false), (.seq 4), (.cond (.t 15) 2), .skip, (.exit 0), (.seq 5), (.block 1), (.seq 2),
    (.region [⟨(.some 16), (.idx 3 1 (.t 12) (.t 14)), .none, [], []⟩, ⟨(.some 17), (.ld .none (.t 16)), .none, [], []⟩, ⟨(.some 7), (.mv (.t 17)), .none, [], []⟩] .false),
    (.region [⟨(.some 18), (.mv (.t 5)), .none, [], []⟩, ⟨(.some 19), (.mv (.t 7)), .none, [], []⟩, ⟨(.some 20), (.bin .add .o (.t 18) (.t 19)), .none, [], []⟩, ⟨(.some 5), (.mv (.t 20)), .none, [], []⟩] .false),
    (.region [⟨(.some 21), (.bin .add .o (.t 14) (.c (.int .i64 1))), .none, [], []⟩, ⟨(.some 14), (.mv (.t 21)), .none, [], []⟩] .false), (.seq 2),
    (.region [⟨(.some 22), (.mv (.t 5)), .none, [], []⟩, ⟨(.some 23), (.mv (.t 1)), .none, [], []⟩, ⟨(.some 24), (.bin .add .o (.t 22) (.t 23)), .none, [], []⟩, ⟨(.some 25), (.bin .sub .o (.t 24) (.c (.int .i64 1))), .none, [], []⟩, ⟨(.some 26), (.mv (.t 1)), .none, [], []⟩, ⟨(.some 27), (.bin .quo .o (.t 25) (.t 26)), .none, [], []⟩, ⟨(.some 4), (.mv (.t 27)), .none, [], []⟩] .false), .ret]
theorem F38_at : F38.at Try.prog 38 Try.f38 := ⟨Try.func38, by kernel_rfl, by kernel_rfl, by kernel_rfl, by kernel_rfl, by kernel_rfl⟩

-- "signalbox/signalboxref44.Pack" res .true
def F39 : AFn where
  np := 4
  nt := 81
  res := [(.t 8), (.t 9)]
  tab := [(.seq 2),
    (.region [⟨(.some 8), (.mv (.c .nils)), .none, [], []⟩, ⟨(.some 9), (.mv (.c (.int .i64 0))), .none, [], []⟩] .false), (.seq 2),
    (.region [⟨(.some 18), (.mv (.t 0)), .none, [], []⟩, ⟨(.some 19), (.len .false (.t 18)), .none, [], []⟩, ⟨(.some 20), (.mks 3 1 8 [(.int .i64 0)] (.t 19) (.t 19)), .none, [], []⟩, ⟨(.some 10), (.mv (.t 20)), .none, [], []⟩] .false), (.seq 17), (.seq 2),
    (.region [⟨(.some 21), (.mv (.t 10)), .none, [], []⟩, ⟨(.some 22), (.len .false (.t 21)), .none, [], []⟩, ⟨(.some 23), (.mv (.c (.int .i64 0))), .none, [], []⟩] .false), (.block 0), .loop, (.seq 2),
    (.region [⟨(.some 24), (.bin .lss .o (.t 23) (.t 22)), .none, [], []⟩] .false), (.seq 4), (.cond (.t 24) 2), .skip, (.exit 0), (.seq 5), (.block 1), (.seq 2),
    (.region [⟨(.some 25), (.mv (.t 23)), .none, [], []⟩, ⟨(.some 11), (.mv (.t 25)), .none, [], []⟩] .false),
    (.region [⟨(.some 26), (.mv (.t 10)), .none, [], []⟩, ⟨(.some 27), (.mv (.t 11)), .none, [], []⟩, ⟨(.some 28), (.idx 3 1 (.t 26) (.t 27)), .none, [], []⟩, ⟨.none, (.st 1 (.t 28) (.c (.int .i64 (-1)))), .none, [], []⟩] .false),
    (.region [⟨(.some 29), (.bin .add .o (.t 23) (.c (.int .i64 1))), .none, [], []⟩, ⟨(.some 23), (.mv (.t 29)), .none, [], []⟩] .false), (.seq 2),
    (.region [⟨(.some 12), (.mv (.c (.int .i64 0))), .none, [], []⟩] .false), (.seq 48), (.seq 2),
    (.region [⟨(.some 30), (.mv (.t 2)), .none, [], []⟩, ⟨(.some 31), (.len .false (.t 30)), .none, [], []⟩, ⟨(.some 32), (.mv (.c (.int .i64 0))), .none, [], []⟩] .false), (.block 2), .loop, (.seq 2),
    (.region [⟨(.some 33), (.bin .lss .o (.t 32) (.t 31)), .none, [], []⟩] .false), (.seq 4), (.cond (.t 33) 2), .skip, (.exit 2), (.seq 36), (.block 3), (.seq 2),
    (.region [⟨(.some 34), (.idx 3 1 (.t 30) (.t 32)), .none, [], []⟩, ⟨(.some 35), (.ld .none (.t 34)), .none, [], []⟩, ⟨(.some 14), (.mv (.t 35)), .none, [], []⟩] .false), (.seq 2),
    (.region [⟨(.some 15), (.mv (.c (.int .i64 (-1)))), .none, [], []⟩] .false), (.seq 21), (.seq 2),
    (.region [⟨(.some 16), (.mv (.c (.int .i64 0))), .none, [], []⟩] .false), (.block 4), .loop, (.seq 6), (.seq 2),
    (.region [⟨(.some 36), (.mv (.t 16)), .none, [], []⟩, ⟨(.some 37), (.mv (.t 12)), .none, [], []⟩, ⟨(.some 38), (.bin .lss .o (.t 36) (.t 37)), .none, [], []⟩] .false), (.cond (.t 38) 2), .skip, (.exit 4), (.seq 9), (.block 5), (.seq 2),
    (.region [⟨(.some 41), (.mv (.t 0)), .none, [], []⟩, ⟨(.some 42), (.mv (.t 1)), .none, [], []⟩, ⟨(.some 43), (.mv (.t 10)), .none, [], []⟩, ⟨(.some 44), (.mv (.t 16)), .none, [], []⟩, ⟨(.some 45), (.call 64 [(.t 41), (.t 42), (.t 43), (.t 44)]), .none, [], []⟩, ⟨(.some 17), (.mv (.t 45)), .none, [], []⟩] .false), (.seq 2),
    (.region [⟨(.some 46), (.mv (.t 17)), .none, [], []⟩, ⟨(.some 47), (.mv (.t 0)), .none, [], []⟩, ⟨(.some 48), (.mv (.t 14)), .none, [], []⟩, ⟨(.some 49), (.idx 3 1 (.t 47) (.t 48)), .none, [], []⟩, ⟨(.some 50), (.ld .none (.t 49)), .none, [], []⟩, ⟨(.some 51), (.bin .geq .o (.t 46) (.t 50)), .none, [], []⟩, ⟨(.some 52), (.mv (.t 51)), .none, [], []⟩, ⟨(.some 53), (.mv (.t 15)), (.some ((.some 52), .true)), [], []⟩, ⟨(.some 54), (.bin .lss .o (.t 53) (.c (.int .i64 0))), (.some ((.some 52), .true)), [], []⟩, ⟨(.some 55), (.mv (.t 54)), (.some ((.some 52), .true)), [], []⟩, ⟨(.some 56), (.mv (.t 3)), (.some ((.some 55), .false)), [], []⟩, ⟨(.some 57), (.mv (.t 56)), (.some ((.some 55), .false)), [], []⟩, ⟨(.some 58), (.mv (.t 17)), (.some ((.some 57), .true)), [], []⟩, ⟨(.some 59), (.mv (.t 0)), (.some ((.some 57), .true)), [], []⟩, ⟨(.some 60), (.mv (.t 1)), (.some ((.some 57), .true)), [], []⟩, ⟨(.some 61), (.mv (.t 10)), (.some ((.some 57), .true)), [], []⟩, ⟨(.some 62), (.mv (.t 15)), (.some ((.some 57), .true)), [], []⟩, ⟨(.some 63), (.call 64 [(.t 59), (.t 60), (.t 61), (.t 62)]), (.some ((.some 57), .true)), [], []⟩, ⟨(.some 64), (.bin .lss .o (.t 58) (.t 63)), (.some ((.some 57), .true)), [], []⟩, ⟨(.some 65), (.pick (.t 57) (.t 64) (.c (.bool .false))), (.some ((.some 55), .false)), [], []⟩, ⟨(.some 66), (.pick (.t 55) (.c (.bool .true)) (.t 65)), (.some ((.some 52), .true)), [], []⟩, ⟨(.some 67), (.pick (.t 52) (.t 66) (.c (.bool .false))), .none, [], []⟩] .false), (.cond (.t 67) 2),
    (.region [⟨(.some 68), (.mv (.t 16)), .none, [], []⟩, ⟨(.some 15), (.mv (.t 68)), .none, [], []⟩] .false), .skip,
    (.region [⟨(.some 39), (.mv (.t 16)), .none, [], []⟩, ⟨(.some 40), (.bin .add .o (.t 39) (.c (.int .i64 1))), .none, [], []⟩, ⟨(.some 16), (.mv (.t 40)), .none, [], []⟩] .false), (.seq 8), (.seq 2),
    (.region [⟨(.some 69), (.mv (.t 15)), .none, [], []⟩, ⟨(.some 70), (.bin .lss .o (.t 69) (.c (.int .i64 0))), .none, [], []⟩] .false), (.cond (.t 70) 4), (.seq 2),
    (.region [⟨(.some 71), (.mv (.t 12)), .none, [], []⟩, ⟨(.some 15), (.mv (.t 71)), .none, [], []⟩] .false),
    (.region [⟨(.some 72), (.mv (.t 12)), .none, [], []⟩, ⟨(.some 73), (.bin .add .o (.t 72) (.c (.int .i64 1))), .none, [], []⟩, ⟨(.some 12), (.mv (.t 73)), .none, [], []⟩] .false), .skip,
    (.region [⟨(.some 74), (.mv (.t 10)), .none, [], []⟩, ⟨(.some 75), (.mv (.t 14)), .none, [], []⟩, ⟨(.some 76), (.mv (.t 15)), .none, [], []⟩, ⟨(.some 77), (.idx 3 1 (.t 74) (.t 75)), .none, [], []⟩, ⟨.none, (.st 1 (.t 77) (.t 76)), .none, [], []⟩] .false),
    (.region [⟨(.some 78), (.bin .add .o (.t 32) (.c (.int .i64 1))), .none, [], []⟩, ⟨(.some 32), (.mv (.t 78)), .none, [], []⟩] .false), (.seq 2),
    (.region [⟨(.some 79), (.mv (.t 10)), .none, [], []⟩, ⟨(.some 80), (.mv (.t 12)), .none, [], []⟩, ⟨(.some 8), (.mv (.t 79)), .none, [], []⟩, ⟨(.some 9), (.mv (.t 80)), .none, [], []⟩] .false), .ret]
theorem F39_at : F39.at Try.prog 39 Try.f39 := ⟨Try.func39, by kernel_rfl, by kernel_rfl, by kernel_rfl, by kernel_rfl, by kernel_rfl⟩

-- "signalbox/signalboxref44.Order" res .true
def F40 : AFn where
  np := 2
  nt := 51
  res := [(.t 4)]
  tab := [(.seq 2),
    (.region [⟨(.some 4), (.mv (.c .nils)), .none, [], []⟩] .false), (.seq 2),
    (.region [⟨(.some 5), (.mv (.c .nils)), .none, [], []⟩] .false), (.seq 30), (.seq 2),
    (.region [⟨(.some 8), (.mv (.t 0)), .none, [], []⟩, ⟨(.some 9), (.len .false (.t 8)), .none, [], []⟩, ⟨(.some 10), (.mv (.c (.int .i64 0))), .none, [], []⟩] .false), (.block 0), .loop, (.seq 2),
    (.region [⟨(.some 11), (.bin .lss .o (.t 10) (.t 9)), .none, [], []⟩] .false), (.seq 4), (.cond (.t 11) 2), .skip, (.exit 0), (.seq 18), (.block 1), (.seq 2),
    (.region [⟨(.some 12), (.mv (.t 10)), .none, [], []⟩, ⟨(.some 6), (.mv (.t 12)), .none, [], []⟩] .false), (.seq 2),
    (.region [⟨(.some 13), (.mv (.t 5)), .none, [], []⟩, ⟨(.some 14), (.len .false (.t 13)), .none, [], []⟩, ⟨(.some 7), (.mv (.t 14)), .none, [], []⟩] .false), (.seq 11), (.block 2), .loop, (.seq 6), (.seq 2),
    (.region [⟨(.some 15), (.mv (.t 1)), .none, [], [1]⟩, ⟨(.some 16), (.mv (.t 15)), .none, [0], [15]⟩, ⟨(.some 17), (.mv (.t 7)), (.some ((.some 16), .true)), [1], [7, 16]⟩, ⟨(.some 18), (.bin .gtr .o (.t 17) (.c (.int .i64 0))), (.some ((.some 16), .true)), [2, 1], [17, 16]⟩, ⟨(.some 19), (.pick (.t 16) (.t 18) (.c (.bool .false))), .none, [1, 3], [16, 18]⟩, ⟨(.some 20), (.mv (.t 19)), .none, [4, 1], [19]⟩, ⟨(.some 21), (.mv (.t 0)), (.some ((.some 20), .true)), [5], [0, 20]⟩, ⟨(.some 22), (.mv (.t 5)), (.some ((.some 20), .true)), [5], [5, 20]⟩, ⟨(.some 23), (.mv (.t 7)), (.some ((.some 20), .true)), [5], [7, 20]⟩, ⟨(.some 24), (.bin .sub .o (.t 23) (.c (.int .i64 1))), (.some ((.some 20), .true)), [8, 5], [23, 20]⟩, ⟨(.some 25), (.idx 3 1 (.t 22) (.t 24)), (.some ((.some 20), .true)), [7, 9, 5], [22, 24, 20]⟩, ⟨(.some 26), (.ld .none (.t 25)), (.some ((.some 20), .true)), [10, 5], [25, 20]⟩, ⟨(.some 27), (.idx 3 1 (.t 21) (.t 26)), (.some ((.some 20), .true)), [6, 11, 5], [21, 26, 20]⟩, ⟨(.some 28), (.ld .none (.t 27)), (.some ((.some 20), .true)), [12, 5], [27, 20]⟩, ⟨(.some 29), (.mv (.t 0)), (.some ((.some 20), .true)), [5], [0, 20]⟩, ⟨(.some 30), (.mv (.t 6)), (.some ((.some 20), .true)), [5], [6, 20]⟩, ⟨(.some 31), (.idx 3 1 (.t 29) (.t 30)), (.some ((.some 20), .true)), [14, 15, 5], [29, 30, 20]⟩, ⟨(.some 32), (.ld .none (.t 31)), (.some ((.some 20), .true)), [16, 5], [31, 20]⟩, ⟨(.some 33), (.bin .lss .o (.t 28) (.t 32)), (.some ((.some 20), .true)), [13, 17, 5], [28, 32, 20]⟩, ⟨(.some 34), (.pick (.t 20) (.t 33) (.c (.bool .false))), .none, [5, 18], [20, 33]⟩] .true), (.cond (.t 34) 2), .skip, (.exit 2), (.block 3),
    (.region [⟨(.some 35), (.mv (.t 7)), .none, [], []⟩, ⟨(.some 36), (.bin .sub .o (.t 35) (.c (.int .i64 1))), .none, [], []⟩, ⟨(.some 7), (.mv (.t 36)), .none, [], []⟩] .false),
    (.region [⟨(.some 37), (.lit 3 1 0 [(.int .i64 0)] []), .none, [], []⟩, ⟨(.some 38), (.mv (.t 5)), .none, [], [5]⟩, ⟨(.some 39), (.mv (.t 7)), .none, [], [7]⟩, ⟨(.some 40), (.slc (.some 1) (.t 38) .none (.some (.t 39))), .none, [1, 2], [38, 39]⟩, ⟨(.some 41), (.app 3 1 8 [(.int .i64 0)] (.t 37) (.t 40)), .none, [0, 3], [37, 40]⟩, ⟨(.some 42), (.mv (.t 6)), .none, [], [6]⟩, ⟨(.some 43), (.lit 3 1 1 [(.int .i64 0)] [(0, (.t 42))]), .none, [5], [42]⟩, ⟨(.some 44), (.app 3 1 8 [(.int .i64 0)] (.t 41) (.t 43)), .none, [4, 6, 4], [41, 43]⟩, ⟨(.some 45), (.mv (.t 5)), .none, [], [5]⟩, ⟨(.some 46), (.mv (.t 7)), .none, [], [7]⟩, ⟨(.some 47), (.slc (.some 1) (.t 45) (.some (.t 46)) .none), .none, [8, 9], [45, 46]⟩, ⟨(.some 48), (.app 3 1 8 [(.int .i64 0)] (.t 44) (.t 47)), .none, [7, 10, 7], [44, 47]⟩, ⟨(.some 5), (.mv (.t 48)), .none, [11, 11, 0, 1, 2, 3, 4, 5, 6, 7, 8, 9, 10, 11], [48]⟩] .true),
    (.region [⟨(.some 49), (.bin .add .o (.t 10) (.c (.int .i64 1))), .none, [], []⟩, ⟨(.some 10), (.mv (.t 49)), .none, [], []⟩] .false), (.seq 2),
    (.region [⟨(.some 50), (.mv (.t 5)), .none, [], []⟩, ⟨(.some 4), (.mv (.t 50)), .none, [], []⟩] .false), .ret]
theorem F40_at : F40.at Try.prog 40 Try.f40 := ⟨Try.func40, by kernel_rfl, by kernel_rfl, by kernel_rfl, by kernel_rfl, by kernel_rfl⟩

-- "signalbox/signalboxlaw44.same" res .true
def F41 : AFn where
  np := 2
  nt := 26
  res := [(.t 4)]
  tab := [(.seq 2),
    (.region [⟨(.some 4), (.mv (.c (.bool .false))), .none, [], []⟩] .false), (.seq 8), (.seq 2),
    (.region [⟨(.some 6), (.mv (.t 0)), .none, [], []⟩, ⟨(.some 7), (.len .false (.t 6)), .none, [], []⟩, ⟨(.some 8), (.mv (.t 1)), .none, [], []⟩, ⟨(.some 9), (.len .false (.t 8)), .none, [], []⟩, ⟨(.some 10), (.bin .neq .o (.t 7) (.t 9)), .none, [], []⟩] .false), (.cond (.t 10) 4), (.seq 2),
    (.region [⟨(.some 4), (.mv (.c (.bool .false))), .none, [], []⟩] .false), .ret, .skip, (.seq 23), (.seq 2),
    (.region [⟨(.some 11), (.mv (.t 0)), .none, [], []⟩, ⟨(.some 12), (.len .false (.t 11)), .none, [], []⟩, ⟨(.some 13), (.mv (.c (.int .i64 0))), .none, [], []⟩] .false), (.block 0), .loop, (.seq 2),
    (.region [⟨(.some 14), (.bin .lss .o (.t 13) (.t 12)), .none, [], []⟩] .false), (.seq 4), (.cond (.t 14) 2), .skip, (.exit 0), (.seq 11), (.block 1), (.seq 2),
    (.region [⟨(.some 15), (.mv (.t 13)), .none, [], []⟩, ⟨(.some 5), (.mv (.t 15)), .none, [], []⟩] .false), (.seq 2),
    (.region [⟨(.some 16), (.mv (.t 0)), .none, [], [0]⟩, ⟨(.some 17), (.mv (.t 5)), .none, [], [5]⟩, ⟨(.some 18), (.idx 3 1 (.t 16) (.t 17)), .none, [0, 1], [16, 17]⟩, ⟨(.some 19), (.ld .none (.t 18)), .none, [2], [18]⟩, ⟨(.some 20), (.mv (.t 1)), .none, [], [1]⟩, ⟨(.some 21), (.mv (.t 5)), .none, [], [5]⟩, ⟨(.some 22), (.idx 3 1 (.t 20) (.t 21)), .none, [4, 5], [20, 21]⟩, ⟨(.some 23), (.ld .none (.t 22)), .none, [6], [22]⟩, ⟨(.some 24), (.bin .neq .o (.t 19) (.t 23)), .none, [3, 7], [19, 23]⟩] .true), (.cond (.t 24) 4), (.seq 2),
    (.region [⟨(.some 4), (.mv (.c (.bool .false))), .none, [], []⟩] .false), .ret, .skip,
    (.region [⟨(.some 25), (.bin .add .o (.t 13) (.c (.int .i64 1))), .none, [], []⟩, ⟨(.some 13), (.mv (.t 25)), .none, [], []⟩] .false), (.seq 2),
    (.region [⟨(.some 4), (.mv (.c (.bool .true))), .none, [], []⟩] .false), .ret]
theorem F41_at : F41.at Try.prog 41 Try.f41 := ⟨Try.func41, by kernel_rfl, by kernel_rfl, by kernel_rfl, by kernel_rfl, by kernel_rfl⟩

-- "slices.ContainsFunc[[]int,int]" res .true
def F49 : AFn where
  np := 2
  nt := 9
  res := [(.t 4)]
  tab := [(.seq 2),
    (.region [⟨(.some 4), (.mv (.c (.bool .false))), .none, [], []⟩] .false), (.seq 2),
    (.region [⟨(.some 5), (.mv (.t 0)), .none, [], []⟩, ⟨(.some 6), (.mv (.t 1)), .none, [], []⟩, ⟨(.some 7), (.call 68 [(.t 5), (.t 6)]), .none, [], []⟩, ⟨(.some 8), (.bin .geq .o (.t 7) (.c (.int .i64 0))), .none, [], []⟩, ⟨(.some 4), (.mv (.t 8)), .none, [], []⟩] .false), .ret]
theorem F49_at : F49.at Try.prog 49 Try.f49 := ⟨Try.func49, by kernel_rfl, by kernel_rfl, by kernel_rfl, by kernel_rfl, by kernel_rfl⟩

-- "signalbox/pack.right" res .true
def F58 : AFn where
  np := 2
  nt := 24
  res := [(.t 4)]
  tab := [(.seq 2),
    (.region [⟨(.some 3), (.box 3 (.t 1)), .none, [], []⟩, ⟨(.some 4), (.mv (.c (.bool .false))), .none, [], []⟩] .false), (.seq 2),
    (.region [⟨(.some 6), (.mkf (.func 75) [] [(.t 3)]), .none, [], []⟩, ⟨(.some 5), (.mv (.t 6)), .none, [], []⟩] .false), (.seq 2),
    (.region [⟨(.some 7), (.mv (.t 0)), .none, [], []⟩, ⟨(.some 8), (.len .false (.t 7)), .none, [], []⟩, ⟨(.some 9), (.bin .leq .o (.t 8) (.c (.int .i64 4096))), .none, [], []⟩, ⟨(.some 10), (.mv (.t 9)), .none, [], []⟩, ⟨(.some 11), (.ld .none (.t 3)), (.some ((.some 10), .true)), [], []⟩, ⟨(.some 12), (.bin .geq .o (.t 11) (.c (.int .i64 1))), (.some ((.some 10), .true)), [], []⟩, ⟨(.some 13), (.pick (.t 10) (.t 12) (.c (.bool .false))), .none, [], []⟩, ⟨(.some 14), (.mv (.t 13)), .none, [], []⟩, ⟨(.some 15), (.ld .none (.t 3)), (.some ((.some 14), .true)), [], []⟩, ⟨(.some 16), (.bin .leq .o (.t 15) (.c (.int .i64 1048576))), (.some ((.some 14), .true)), [], []⟩, ⟨(.some 17), (.pick (.t 14) (.t 16) (.c (.bool .false))), .none, [], []⟩, ⟨(.some 18), (.mv (.t 17)), .none, [], []⟩, ⟨(.some 19), (.mv (.t 0)), (.some ((.some 18), .true)), [], []⟩, ⟨(.some 20), (.mv (.t 5)), (.some ((.some 18), .true)), [], []⟩, ⟨(.some 21), (.call 49 [(.t 19), (.t 20)]), (.some ((.some 18), .true)), [], []⟩, ⟨(.some 22), (.un .not (.t 21)), (.some ((.some 18), .true)), [], []⟩, ⟨(.some 23), (.pick (.t 18) (.t 22) (.c (.bool .false))), .none, [], []⟩, ⟨(.some 4), (.mv (.t 23)), .none, [], []⟩] .false), .ret]
theorem F58_at : F58.at Try.prog 58 Try.f58 := ⟨Try.func58, by kernel_rfl, by kernel_rfl, by kernel_rfl, by kernel_rfl, by kernel_rfl⟩

-- "signalbox/pack.lay" res .true
def F59 : AFn where
  np := 4
  nt := 65
  res := [(.t 8), (.t 9)]
  tab := [(.seq 2),
    (.region [⟨(.some 8), (.mv (.c .nils)), .none, [], []⟩, ⟨(.some 9), (.mv (.c (.int .i64 0))), .none, [], []⟩] .false), (.seq 8), (.seq 2),
    (.region [⟨(.some 15), (.mv (.t 0)), .none, [], []⟩, ⟨(.some 16), (.mv (.t 1)), .none, [], []⟩, ⟨(.some 17), (.call 58 [(.t 15), (.t 16)]), .none, [], []⟩, ⟨(.some 18), (.un .not (.t 17)), .none, [], []⟩] .false), (.cond (.t 18) 4), (.seq 2),
    (.region [⟨(.some 8), (.mv (.c .nils)), .none, [], []⟩, ⟨(.some 9), (.mv (.c (.int .i64 0))), .none, [], []⟩] .false), .ret, .skip, (.seq 2),
    (.region [⟨(.some 19), (.mv (.t 0)), .none, [], []⟩, ⟨(.some 20), (.len .false (.t 19)), .none, [], []⟩, ⟨(.some 21), (.mks 3 1 8 [(.int .i64 0)] (.t 20) (.t 20)), .none, [], []⟩, ⟨(.some 10), (.mv (.t 21)), .none, [], []⟩] .false), (.seq 2),
    (.region [⟨(.some 11), (.mv (.c .nils)), .none, [], []⟩] .false), (.seq 29), (.seq 2),
    (.region [⟨(.some 22), (.mv (.t 2)), .none, [], []⟩, ⟨(.some 23), (.len .false (.t 22)), .none, [], []⟩, ⟨(.some 24), (.mv (.c (.int .i64 0))), .none, [], []⟩] .false), (.block 0), .loop, (.seq 2),
    (.region [⟨(.some 25), (.bin .lss .o (.t 24) (.t 23)), .none, [], []⟩] .false), (.seq 4), (.cond (.t 25) 2), .skip, (.exit 0), (.seq 17), (.block 1), (.seq 2),
    (.region [⟨(.some 26), (.idx 3 1 (.t 22) (.t 24)), .none, [], []⟩, ⟨(.some 27), (.ld .none (.t 26)), .none, [], []⟩, ⟨(.some 13), (.mv (.t 27)), .none, [], []⟩] .false), (.seq 2),
    (.region [⟨(.some 28), (.mv (.t 3)), .none, [], [3]⟩, ⟨(.some 29), (.mv (.t 11)), .none, [], [11]⟩, ⟨(.some 30), (.mv (.t 0)), .none, [], [0]⟩, ⟨(.some 31), (.mv (.t 13)), .none, [], [13]⟩, ⟨(.some 32), (.idx 3 1 (.t 30) (.t 31)), .none, [2, 3], [30, 31]⟩, ⟨(.some 33), (.ld .none (.t 32)), .none, [4], [32]⟩, ⟨(.some 34), (.mkf (.method "signalbox/pack.choose") [(.t 28)] []), .none, [0], [28]⟩, ⟨(.some 35), (.nilc MTS (.t 34)), .none, [6], [34]⟩, ⟨(.some 36), (.mv (.t 28)), .none, [0, 6, 7], [28]⟩, ⟨(.some 37), (.inv [(98, (117, .none)), (101, (119, .none))] (.t 36) [(.t 29), (.t 33)]), .none, [8, 1, 5], [36, 29, 33]⟩, ⟨(.some 14), (.mv (.t 37)), .none, [9, 9, 0, 1, 2, 3, 4, 5, 6, 7, 8, 9], [37]⟩] .true), (.seq 8), (.seq 2),
    (.region [⟨(.some 38), (.mv (.t 14)), .none, [], []⟩, ⟨(.some 39), (.bin .lss .o (.t 38) (.c (.int .i64 0))), .none, [], []⟩] .false), (.cond (.t 39) 4), (.seq 2),
    (.region [⟨(.some 40), (.mv (.t 11)), .none, [], []⟩, ⟨(.some 41), (.mv (.t 1)), .none, [], []⟩, ⟨(.some 42), (.lit 3 1 1 [(.int .i64 0)] [(0, (.t 41))]), .none, [], []⟩, ⟨(.some 43), (.app 3 1 8 [(.int .i64 0)] (.t 40) (.t 42)), .none, [], []⟩, ⟨(.some 11), (.mv (.t 43)), .none, [], []⟩] .false),
    (.region [⟨(.some 44), (.mv (.t 11)), .none, [], []⟩, ⟨(.some 45), (.len .false (.t 44)), .none, [], []⟩, ⟨(.some 46), (.bin .sub .o (.t 45) (.c (.int .i64 1))), .none, [], []⟩, ⟨(.some 14), (.mv (.t 46)), .none, [], []⟩] .false), .skip, (.seq 2),
    (.region [⟨(.some 47), (.mv (.t 11)), .none, [], [11]⟩, ⟨(.some 48), (.mv (.t 14)), .none, [], [14]⟩, ⟨(.some 49), (.idx 3 1 (.t 47) (.t 48)), .none, [0, 1], [47, 48]⟩, ⟨(.some 50), (.ld .none (.t 49)), .none, [2], [49]⟩, ⟨(.some 51), (.mv (.t 0)), .none, [], [0]⟩, ⟨(.some 52), (.mv (.t 13)), .none, [], [13]⟩, ⟨(.some 53), (.idx 3 1 (.t 51) (.t 52)), .none, [4, 5], [51, 52]⟩, ⟨(.some 54), (.ld .none (.t 53)), .none, [6], [53]⟩, ⟨(.some 55), (.bin .sub .o (.t 50) (.t 54)), .none, [3, 7], [50, 54]⟩, ⟨(.some 56), (.idx 3 1 (.t 47) (.t 48)), .none, [0, 1, 0, 1, 2, 3, 4, 5, 6, 7, 8], [47, 48]⟩, ⟨.none, (.st 1 (.t 56) (.t 55)), .none, [9, 8, 0, 1, 2, 3, 4, 5, 6, 7, 8], [56, 55]⟩] .true),
    (.region [⟨(.some 57), (.mv (.t 10)), .none, [], []⟩, ⟨(.some 58), (.mv (.t 13)), .none, [], []⟩, ⟨(.some 59), (.mv (.t 14)), .none, [], []⟩, ⟨(.some 60), (.idx 3 1 (.t 57) (.t 58)), .none, [], []⟩, ⟨.none, (.st 1 (.t 60) (.t 59)), .none, [], []⟩] .false),
    (.region [⟨(.some 61), (.bin .add .o (.t 24) (.c (.int .i64 1))), .none, [], []⟩, ⟨(.some 24), (.mv (.t 61)), .none, [], []⟩] .false), (.seq 2),
    (.region [⟨(.some 62), (.mv (.t 10)), .none, [], []⟩, ⟨(.some 63), (.mv (.t 11)), .none, [], []⟩, ⟨(.some 64), (.len .false (.t 63)), .none, [], []⟩, ⟨(.some 8), (.mv (.t 62)), .none, [], []⟩, ⟨(.some 9), (.mv (.t 64)), .none, [], []⟩] .false), .ret]
theorem F59_at : F59.at Try.prog 59 Try.f59 := ⟨Try.func59, by kernel_rfl, by kernel_rfl, by kernel_rfl, by kernel_rfl, by kernel_rfl⟩

-- "signalbox/pack.order" res .true
def F60 : AFn where
  np := 1
  nt := 19
  res := [(.t 2)]
  tab := [(.seq 2),
    (.region [⟨(.some 2), (.mv (.c .nils)), .none, [], []⟩] .false), (.seq 2),
    (.region [⟨(.some 5), (.mv (.t 0)), .none, [], []⟩, ⟨(.some 6), (.len .false (.t 5)), .none, [], []⟩, ⟨(.some 7), (.mks 3 1 8 [(.int .i64 0)] (.t 6) (.t 6)), .none, [], []⟩, ⟨(.some 3), (.mv (.t 7)), .none, [], []⟩] .false), (.seq 17), (.seq 2),
    (.region [⟨(.some 8), (.mv (.t 3)), .none, [], []⟩, ⟨(.some 9), (.len .false (.t 8)), .none, [], []⟩, ⟨(.some 10), (.mv (.c (.int .i64 0))), .none, [], []⟩] .false), (.block 0), .loop, (.seq 2),
    (.region [⟨(.some 11), (.bin .lss .o (.t 10) (.t 9)), .none, [], []⟩] .false), (.seq 4), (.cond (.t 11) 2), .skip, (.exit 0), (.seq 5), (.block 1), (.seq 2),
    (.region [⟨(.some 12), (.mv (.t 10)), .none, [], []⟩, ⟨(.some 4), (.mv (.t 12)), .none, [], []⟩] .false),
    (.region [⟨(.some 13), (.mv (.t 3)), .none, [], []⟩, ⟨(.some 14), (.mv (.t 4)), .none, [], []⟩, ⟨(.some 15), (.mv (.t 4)), .none, [], []⟩, ⟨(.some 16), (.idx 3 1 (.t 13) (.t 14)), .none, [], []⟩, ⟨.none, (.st 1 (.t 16) (.t 15)), .none, [], []⟩] .false),
    (.region [⟨(.some 17), (.bin .add .o (.t 10) (.c (.int .i64 1))), .none, [], []⟩, ⟨(.some 10), (.mv (.t 17)), .none, [], []⟩] .false), (.seq 2),
    (.region [⟨(.some 18), (.mv (.t 3)), .none, [], []⟩, ⟨(.some 2), (.mv (.t 18)), .none, [], []⟩] .false), .ret]
theorem F60_at : F60.at Try.prog 60 Try.f60 := ⟨Try.func60, by kernel_rfl, by kernel_rfl, by kernel_rfl, by kernel_rfl, by kernel_rfl⟩

-- "slices.SortStableFunc[[]int,int]" res .true
def F61 : AFn where
  np := 2
  nt := 9
  res := []
  tab := [(.region [⟨(.some 4), (.mv (.t 0)), .none, [], []⟩, ⟨(.some 5), (.mv (.t 0)), .none, [], []⟩, ⟨(.some 6), (.len .false (.t 5)), .none, [], []⟩, ⟨(.some 7), (.mv (.t 1)), .none, [], []⟩, ⟨(.some 8), (.call 76 [(.t 4), (.t 6), (.t 7)]), .none, [], []⟩] .false)]
theorem F61_at : F61.at Try.prog 61 Try.f61 := ⟨Try.func61, by kernel_rfl, by kernel_rfl, by kernel_rfl, by kernel_rfl, by kernel_rfl⟩

-- "signalbox/pack.Falling$1" res .true
def F62 : AFn where
  np := 2
  nt := 15
  res := [(.t 5)]
  tab := [(.seq 2),
    (.region [⟨(.some 5), (.mv (.c (.int .i64 0))), .none, [], []⟩] .false), (.seq 2),
    (.region [⟨(.some 6), (.ld .none (.t 2)), .none, [], [2]⟩, ⟨(.some 7), (.mv (.t 1)), .none, [], [1]⟩, ⟨(.some 8), (.idx 3 1 (.t 6) (.t 7)), .none, [0, 1], [6, 7]⟩, ⟨(.some 9), (.ld .none (.t 8)), .none, [2], [8]⟩, ⟨(.some 10), (.ld .none (.t 2)), .none, [], [2]⟩, ⟨(.some 11), (.mv (.t 0)), .none, [], [0]⟩, ⟨(.some 12), (.idx 3 1 (.t 10) (.t 11)), .none, [4, 5], [10, 11]⟩, ⟨(.some 13), (.ld .none (.t 12)), .none, [6], [12]⟩, ⟨(.some 14), (.call 63 [(.t 9), (.t 13)]), .none, [3, 7], [9, 13]⟩, ⟨(.some 5), (.mv (.t 14)), .none, [8, 8, 0, 1, 2, 3, 4, 5, 6, 7, 8], [14]⟩] .true), .ret]
theorem F62_at : F62.at Try.prog 62 Try.f62 := ⟨Try.func62, by kernel_rfl, by kernel_rfl, by kernel_rfl, by kernel_rfl, by kernel_rfl⟩

-- "cmp.Compare[int]" res .true
def F63 : AFn where
  np := 2
  nt := 20
  res := [(.t 4)]
  tab := [(.seq 2),
    (.region [⟨(.some 4), (.mv (.c (.int .i64 0))), .none, [], []⟩] .false), (.seq 2),
    (.region [⟨(.some 7), (.mv (.t 0)), .none, [], []⟩, ⟨(.some 8), (.call 77 [(.t 7)]), .none, [], []⟩, ⟨(.some 5), (.mv (.t 8)), .none, [], []⟩] .false), (.seq 2),
    (.region [⟨(.some 9), (.mv (.t 1)), .none, [], []⟩, ⟨(.some 10), (.call 77 [(.t 9)]), .none, [], []⟩, ⟨(.some 6), (.mv (.t 10)), .none, [], []⟩] .false), (.seq 16), (.seq 2),
    (.region [⟨(.some 11), (.mv (.t 5)), .none, [], []⟩] .false), (.cond (.t 11) 12), (.seq 8), (.seq 2),
    (.region [⟨(.some 12), (.mv (.t 6)), .none, [], []⟩] .false), (.cond (.t 12) 4), (.seq 2),
    (.region [⟨(.some 4), (.mv (.c (.int .i64 0))), .none, [], []⟩] .false), .ret, .skip, (.seq 2),
    (.region [⟨(.some 4), (.mv (.c (.int .i64 (-1)))), .none, [], []⟩] .false), .ret, .skip, (.seq 8), (.seq 2),
    (.region [⟨(.some 13), (.mv (.t 6)), .none, [], []⟩] .false), (.cond (.t 13) 4), (.seq 2),
    (.region [⟨(.some 4), (.mv (.c (.int .i64 1))), .none, [], []⟩] .false), .ret, .skip, (.seq 8), (.seq 2),
    (.region [⟨(.some 14), (.mv (.t 0)), .none, [], []⟩, ⟨(.some 15), (.mv (.t 1)), .none, [], []⟩, ⟨(.some 16), (.bin .lss .o (.t 14) (.t 15)), .none, [], []⟩] .false), (.cond (.t 16) 4), (.seq 2),
    (.region [⟨(.some 4), (.mv (.c (.int .i64 (-1)))), .none, [], []⟩] .false), .ret, .skip, (.seq 8), (.seq 2),
    (.region [⟨(.some 17), (.mv (.t 0)), .none, [], []⟩, ⟨(.some 18), (.mv (.t 1)), .none, [], []⟩, ⟨(.some 19), (.bin .gtr .o (.t 17) (.t 18)), .none, [], []⟩] .false), (.cond (.t 19) 4), (.seq 2),
    (.region [⟨(.some 4), (.mv (.c (.int .i64 1))), .none, [], []⟩] .false), .ret, .skip, (.seq 2),
    (.region [⟨(.some 4), (.mv (.c (.int .i64 0))), .none, [], []⟩] .false), .ret]
theorem F63_at : F63.at Try.prog 63 Try.f63 := ⟨Try.func63, by kernel_rfl, by kernel_rfl, by kernel_rfl, by kernel_rfl, by kernel_rfl⟩

-- "signalbox/signalboxref44.left" res .true
def F64 : AFn where
  np := 4
  nt := 29
  res := [(.t 8)]
  tab := [(.seq 2),
    (.region [⟨(.some 8), (.mv (.c (.int .i64 0))), .none, [], []⟩] .false), (.seq 21), (.seq 2),
    (.region [⟨(.some 11), (.mv (.t 2)), .none, [], []⟩, ⟨(.some 12), (.len .false (.t 11)), .none, [], []⟩, ⟨(.some 13), (.mv (.c (.int .i64 0))), .none, [], []⟩] .false), (.block 0), .loop, (.seq 2),
    (.region [⟨(.some 14), (.bin .lss .o (.t 13) (.t 12)), .none, [], []⟩] .false), (.seq 4), (.cond (.t 14) 2), .skip, (.exit 0), (.seq 9), (.block 1), (.seq 2),
    (.region [⟨(.some 15), (.mv (.t 13)), .none, [], []⟩, ⟨(.some 16), (.idx 3 1 (.t 11) (.t 13)), .none, [], []⟩, ⟨(.some 17), (.ld .none (.t 16)), .none, [], []⟩, ⟨(.some 9), (.mv (.t 15)), .none, [], []⟩, ⟨(.some 10), (.mv (.t 17)), .none, [], []⟩] .false), (.seq 2),
    (.region [⟨(.some 18), (.mv (.t 10)), .none, [], []⟩, ⟨(.some 19), (.mv (.t 3)), .none, [], []⟩, ⟨(.some 20), (.bin .eql .o (.t 18) (.t 19)), .none, [], []⟩] .false), (.cond (.t 20) 2),
    (.region [⟨(.some 21), (.mv (.t 1)), .none, [], []⟩, ⟨(.some 22), (.mv (.t 0)), .none, [], []⟩, ⟨(.some 23), (.mv (.t 9)), .none, [], []⟩, ⟨(.some 24), (.idx 3 1 (.t 22) (.t 23)), .none, [], []⟩, ⟨(.some 25), (.ld .none (.t 24)), .none, [], []⟩, ⟨(.some 26), (.bin .sub .o (.t 21) (.t 25)), .none, [], []⟩, ⟨(.some 1), (.mv (.t 26)), .none, [], []⟩] .false), .skip,
    (.region [⟨(.some 27), (.bin .add .o (.t 13) (.c (.int .i64 1))), .none, [], []⟩, ⟨(.some 13), (.mv (.t 27)), .none, [], []⟩] .false), (.seq 2),
    (.region [⟨(.some 28), (.mv (.t 1)), .none, [], []⟩, ⟨(.some 8), (.mv (.t 28)), .none, [], []⟩] .false), .ret]
theorem F64_at : F64.at Try.prog 64 Try.f64 := ⟨Try.func64, by kernel_rfl, by kernel_rfl, by kernel_rfl, by kernel_rfl, by kernel_rfl⟩

-- "slices.IndexFunc[[]int,int]" res .true
def F68 : AFn where
  np := 2
  nt := 19
  res := [(.t 4)]
  tab := [(.seq 2),
    (.region [⟨(.some 4), (.mv (.c (.int .i64 0))), .none, [], []⟩] .false), (.seq 23), (.seq 2),
    (.region [⟨(.some 6), (.mv (.t 0)), .none, [], []⟩, ⟨(.some 7), (.len .false (.t 6)), .none, [], []⟩, ⟨(.some 8), (.mv (.c (.int .i64 0))), .none, [], []⟩] .false), (.block 0), .loop, (.seq 2),
    (.region [⟨(.some 9), (.bin .lss .o (.t 8) (.t 7)), .none, [], []⟩] .false), (.seq 4), (.cond (.t 9) 2), .skip, (.exit 0), (.seq 11), (.block 1), (.seq 2),
    (.region [⟨(.some 10), (.mv (.t 8)), .none, [], []⟩, ⟨(.some 5), (.mv (.t 10)), .none, [], []⟩] .false), (.seq 2),
    (.region [⟨(.some 11), (.mv (.t 1)), .none, [], []⟩, ⟨(.some 12), (.mv (.t 0)), .none, [], []⟩, ⟨(.some 13), (.mv (.t 5)), .none, [], []⟩, ⟨(.some 14), (.idx 3 1 (.t 12) (.t 13)), .none, [], []⟩, ⟨(.some 15), (.ld .none (.t 14)), .none, [], []⟩, ⟨(.some 16), (.callv (.t 11) [(.t 15)]), .none, [], []⟩] .false), (.cond (.t 16) 4), (.seq 2),
    (.region [⟨(.some 17), (.mv (.t 5)), .none, [], []⟩, ⟨(.some 4), (.mv (.t 17)), .none, [], []⟩] .false), .ret, .skip,
    (.region [⟨(.some 18), (.bin .add .o (.t 8) (.c (.int .i64 1))), .none, [], []⟩, ⟨(.some 8), (.mv (.t 18)), .none, [], []⟩] .false), (.seq 2),
    (.region [⟨(.some 4), (.mv (.c (.int .i64 (-1)))), .none, [], []⟩] .false), .ret]
theorem F68_at : F68.at Try.prog 68 Try.f68 := ⟨Try.func68, by kernel_rfl, by kernel_rfl, by kernel_rfl, by kernel_rfl, by kernel_rfl⟩

-- "signalbox/pack.right$1" res .true
def F75 : AFn where
  np := 1
  nt := 11
  res := [(.t 3)]
  tab := [(.seq 2),
    (.region [⟨(.some 3), (.mv (.c (.bool .false))), .none, [], []⟩] .false), (.seq 2),
    (.region [⟨(.some 4), (.mv (.t 0)), .none, [], []⟩, ⟨(.some 5), (.bin .lss .o (.t 4) (.c (.int .i64 1))), .none, [], []⟩, ⟨(.some 6), (.mv (.t 5)), .none, [], []⟩, ⟨(.some 7), (.mv (.t 0)), (.some ((.some 6), .false)), [], []⟩, ⟨(.some 8), (.ld .none (.t 1)), (.some ((.some 6), .false)), [], []⟩, ⟨(.some 9), (.bin .gtr .o (.t 7) (.t 8)), (.some ((.some 6), .false)), [], []⟩, ⟨(.some 10), (.pick (.t 6) (.c (.bool .true)) (.t 9)), .none, [], []⟩, ⟨(.some 3), (.mv (.t 10)), .none, [], []⟩] .false), .ret]
theorem F75_at : F75.at Try.prog 75 Try.f75 := ⟨Try.func75, by kernel_rfl, by kernel_rfl, by kernel_rfl, by kernel_rfl, by kernel_rfl⟩

-- "slices.stableCmpFunc[int]" res .true
def F76 : AFn where
  np := 3
  nt := 63
  res := []
  tab := [(.seq 2),
    (.region [⟨(.some 6), (.mv (.c (.int .i64 20))), .none, [], []⟩] .false), (.seq 2),
    (.region [⟨(.some 10), (.mv (.t 6)), .none, [], []⟩, ⟨(.some 7), (.mv (.c (.int .i64 0))), .none, [], []⟩, ⟨(.some 8), (.mv (.t 10)), .none, [], []⟩] .false), (.seq 15), (.block 0), .loop, (.seq 6), (.seq 2),
    (.region [⟨(.some 11), (.mv (.t 8)), .none, [], []⟩, ⟨(.some 12), (.mv (.t 1)), .none, [], []⟩, ⟨(.some 13), (.bin .leq .o (.t 11) (.t 12)), .none, [], []⟩] .false), (.cond (.t 13) 2), .skip, (.exit 0), (.block 1), (.seq 2),
    (.region [⟨(.some 14), (.mv (.t 0)), .none, [], []⟩, ⟨(.some 15), (.mv (.t 7)), .none, [], []⟩, ⟨(.some 16), (.mv (.t 8)), .none, [], []⟩, ⟨(.some 17), (.mv (.t 2)), .none, [], []⟩, ⟨(.some 18), (.call 82 [(.t 14), (.t 15), (.t 16), (.t 17)]), .none, [], []⟩] .false), (.seq 2),
    (.region [⟨(.some 19), (.mv (.t 8)), .none, [], []⟩, ⟨(.some 7), (.mv (.t 19)), .none, [], []⟩] .false),
    (.region [⟨(.some 20), (.mv (.t 8)), .none, [], []⟩, ⟨(.some 21), (.mv (.t 6)), .none, [], []⟩, ⟨(.some 22), (.bin .add .o (.t 20) (.t 21)), .none, [], []⟩, ⟨(.some 8), (.mv (.t 22)), .none, [], []⟩] .false), (.seq 2),
    (.region [⟨(.some 23), (.mv (.t 0)), .none, [], []⟩, ⟨(.some 24), (.mv (.t 7)), .none, [], []⟩, ⟨(.some 25), (.mv (.t 1)), .none, [], []⟩, ⟨(.some 26), (.mv (.t 2)), .none, [], []⟩, ⟨(.some 27), (.call 82 [(.t 23), (.t 24), (.t 25), (.t 26)]), .none, [], []⟩] .false), (.block 2), .loop, (.seq 6), (.seq 2),
    (.region [⟨(.some 28), (.mv (.t 6)), .none, [], []⟩, ⟨(.some 29), (.mv (.t 1)), .none, [], []⟩, ⟨(.some 30), (.bin .lss .o (.t 28) (.t 29)), .none, [], []⟩] .false), (.cond (.t 30) 2), .skip, (.exit 2), (.block 3), (.seq 2),
    (.region [⟨(.some 31), (.mv (.t 6)), .none, [], []⟩, ⟨(.some 32), (.bin .mul .o (.c (.int .i64 2)) (.t 31)), .none, [], []⟩, ⟨(.some 7), (.mv (.c (.int .i64 0))), .none, [], []⟩, ⟨(.some 8), (.mv (.t 32)), .none, [], []⟩] .false), (.seq 15), (.block 4), .loop, (.seq 6), (.seq 2),
    (.region [⟨(.some 33), (.mv (.t 8)), .none, [], []⟩, ⟨(.some 34), (.mv (.t 1)), .none, [], []⟩, ⟨(.some 35), (.bin .leq .o (.t 33) (.t 34)), .none, [], []⟩] .false), (.cond (.t 35) 2), .skip, (.exit 4), (.block 5), (.seq 2),
    (.region [⟨(.some 36), (.mv (.t 0)), .none, [], []⟩, ⟨(.some 37), (.mv (.t 7)), .none, [], []⟩, ⟨(.some 38), (.mv (.t 7)), .none, [], []⟩, ⟨(.some 39), (.mv (.t 6)), .none, [], []⟩, ⟨(.some 40), (.bin .add .o (.t 38) (.t 39)), .none, [], []⟩, ⟨(.some 41), (.mv (.t 8)), .none, [], []⟩, ⟨(.some 42), (.mv (.t 2)), .none, [], []⟩, ⟨(.some 43), (.call 83 [(.t 36), (.t 37), (.t 40), (.t 41), (.t 42)]), .none, [], []⟩] .false), (.seq 2),
    (.region [⟨(.some 44), (.mv (.t 8)), .none, [], []⟩, ⟨(.some 7), (.mv (.t 44)), .none, [], []⟩] .false),
    (.region [⟨(.some 45), (.mv (.t 8)), .none, [], []⟩, ⟨(.some 46), (.mv (.t 6)), .none, [], []⟩, ⟨(.some 47), (.bin .mul .o (.c (.int .i64 2)) (.t 46)), .none, [], []⟩, ⟨(.some 48), (.bin .add .o (.t 45) (.t 47)), .none, [], []⟩, ⟨(.some 8), (.mv (.t 48)), .none, [], []⟩] .false), (.seq 8), (.seq 2),
    (.region [⟨(.some 49), (.mv (.t 7)), .none, [], []⟩, ⟨(.some 50), (.mv (.t 6)), .none, [], []⟩, ⟨(.some 51), (.bin .add .o (.t 49) (.t 50)), .none, [], []⟩, ⟨(.some 9), (.mv (.t 51)), .none, [], []⟩] .false), (.seq 2),
    (.region [⟨(.some 52), (.mv (.t 9)), .none, [], []⟩, ⟨(.some 53), (.mv (.t 1)), .none, [], []⟩, ⟨(.some 54), (.bin .lss .o (.t 52) (.t 53)), .none, [], []⟩] .false), (.cond (.t 54) 2),
    (.region [⟨(.some 55), (.mv (.t 0)), .none, [], []⟩, ⟨(.some 56), (.mv (.t 7)), .none, [], []⟩, ⟨(.some 57), (.mv (.t 9)), .none, [], []⟩, ⟨(.some 58), (.mv (.t 1)), .none, [], []⟩, ⟨(.some 59), (.mv (.t 2)), .none, [], []⟩, ⟨(.some 60), (.call 83 [(.t 55), (.t 56), (.t 57), (.t 58), (.t 59)]), .none, [], []⟩] .false), .skip,
    (.region [⟨(.some 61), (.mv (.t 6)), .none, [], []⟩, ⟨(.some 62), (.bin .mul .o (.t 61) (.c (.int .i64 2))), .none, [], []⟩, ⟨(.some 6), (.mv (.t 62)), .none, [], []⟩] .false)]
theorem F76_at : F76.at Try.prog 76 Try.f76 := ⟨Try.func76, by kernel_rfl, by kernel_rfl, by kernel_rfl, by kernel_rfl, by kernel_rfl⟩

-- "cmp.isNaN[int]" res .true
def F77 : AFn where
  np := 1
  nt := 6
  res := [(.t 2)]
  tab := [(.seq 2),
    (.region [⟨(.some 2), (.mv (.c (.bool .false))), .none, [], []⟩] .false), (.seq 2),
    (.region [⟨(.some 3), (.mv (.t 0)), .none, [], []⟩, ⟨(.some 4), (.mv (.t 0)), .none, [], []⟩, ⟨(.some 5), (.bin .neq .o (.t 3) (.t 4)), .none, [], []⟩, ⟨(.some 2), (.mv (.t 5)), .none, [], []⟩] .false), .ret]
theorem F77_at : F77.at Try.prog 77 Try.f77 := ⟨Try.func77, by kernel_rfl, by kernel_rfl, by kernel_rfl, by kernel_rfl, by kernel_rfl⟩

-- "slices.insertionSortCmpFunc[int]" res .true
def F82 : AFn where
  np := 4
  nt := 53
  res := []
  tab := [(.seq 2),
    (.region [⟨(.some 10), (.mv (.t 1)), .none, [], []⟩, ⟨(.some 11), (.bin .add .o (.t 10) (.c (.int .i64 1))), .none, [], []⟩, ⟨(.some 8), (.mv (.t 11)), .none, [], []⟩] .false), (.block 0), .loop, (.seq 6), (.seq 2),
    (.region [⟨(.some 12), (.mv (.t 8)), .none, [], []⟩, ⟨(.some 13), (.mv (.t 2)), .none, [], []⟩, ⟨(.some 14), (.bin .lss .o (.t 12) (.t 13)), .none, [], []⟩] .false), (.cond (.t 14) 2), .skip, (.exit 0), (.seq 16), (.block 1), (.seq 2),
    (.region [⟨(.some 17), (.mv (.t 8)), .none, [], []⟩, ⟨(.some 9), (.mv (.t 17)), .none, [], []⟩] .false), (.block 2), .loop, (.seq 6), (.seq 2),
    (.region [⟨(.some 18), (.mv (.t 9)), .none, [], [9]⟩, ⟨(.some 19), (.mv (.t 1)), .none, [], [1]⟩, ⟨(.some 20), (.bin .gtr .o (.t 18) (.t 19)), .none, [0, 1], [18, 19]⟩, ⟨(.some 21), (.mv (.t 20)), .none, [2], [20]⟩, ⟨(.some 22), (.mv (.t 3)), (.some ((.some 21), .true)), [3], [3, 21]⟩, ⟨(.some 23), (.mv (.t 0)), (.some ((.some 21), .true)), [3], [0, 21]⟩, ⟨(.some 24), (.mv (.t 9)), (.some ((.some 21), .true)), [3], [9, 21]⟩, ⟨(.some 25), (.idx 3 1 (.t 23) (.t 24)), (.some ((.some 21), .true)), [5, 6, 3], [23, 24, 21]⟩, ⟨(.some 26), (.ld .none (.t 25)), (.some ((.some 21), .true)), [7, 3], [25, 21]⟩, ⟨(.some 27), (.mv (.t 0)), (.some ((.some 21), .true)), [3], [0, 21]⟩, ⟨(.some 28), (.mv (.t 9)), (.some ((.some 21), .true)), [3], [9, 21]⟩, ⟨(.some 29), (.bin .sub .o (.t 28) (.c (.int .i64 1))), (.some ((.some 21), .true)), [10, 3], [28, 21]⟩, ⟨(.some 30), (.idx 3 1 (.t 27) (.t 29)), (.some ((.some 21), .true)), [9, 11, 3], [27, 29, 21]⟩, ⟨(.some 31), (.ld .none (.t 30)), (.some ((.some 21), .true)), [12, 3], [30, 21]⟩, ⟨(.some 32), (.callv (.t 22) [(.t 26), (.t 31)]), (.some ((.some 21), .true)), [4, 8, 13, 3, 3], [22, 26, 31, 21]⟩, ⟨(.some 33), (.bin .lss .o (.t 32) (.c (.int .i64 0))), (.some ((.some 21), .true)), [14, 3], [32, 21]⟩, ⟨(.some 34), (.pick (.t 21) (.t 33) (.c (.bool .false))), .none, [3, 15], [21, 33]⟩] .true), (.cond (.t 34) 2), .skip, (.exit 2), (.seq 3), (.block 3),
    (.region [⟨(.some 37), (.mv (.t 0)), .none, [], [0]⟩, ⟨(.some 38), (.mv (.t 9)), .none, [], [9]⟩, ⟨(.some 39), (.mv (.t 0)), .none, [], [0]⟩, ⟨(.some 40), (.mv (.t 9)), .none, [], [9]⟩, ⟨(.some 41), (.bin .sub .o (.t 40) (.c (.int .i64 1))), .none, [3], [40]⟩, ⟨(.some 42), (.mv (.t 0)), .none, [], [0]⟩, ⟨(.some 43), (.mv (.t 9)), .none, [], [9]⟩, ⟨(.some 44), (.bin .sub .o (.t 43) (.c (.int .i64 1))), .none, [6], [43]⟩, ⟨(.some 45), (.idx 3 1 (.t 42) (.t 44)), .none, [5, 7], [42, 44]⟩, ⟨(.some 46), (.ld .none (.t 45)), .none, [8], [45]⟩, ⟨(.some 47), (.mv (.t 0)), .none, [], [0]⟩, ⟨(.some 48), (.mv (.t 9)), .none, [], [9]⟩, ⟨(.some 49), (.idx 3 1 (.t 47) (.t 48)), .none, [10, 11], [47, 48]⟩, ⟨(.some 50), (.ld .none (.t 49)), .none, [12], [49]⟩, ⟨(.some 51), (.idx 3 1 (.t 37) (.t 38)), .none, [0, 1, 0, 1, 5, 6, 7, 8, 9, 13], [37, 38]⟩, ⟨.none, (.st 1 (.t 51) (.t 46)), .none, [14, 9, 0, 1, 5, 6, 7, 8, 9, 13], [51, 46]⟩, ⟨(.some 52), (.idx 3 1 (.t 39) (.t 41)), .none, [2, 4, 0, 1, 2, 3, 4, 5, 6, 7, 8, 9, 10, 11, 12, 13, 14, 15], [39, 41]⟩, ⟨.none, (.st 1 (.t 52) (.t 50)), .none, [16, 13, 15, 0, 1, 2, 3, 4, 5, 6, 7, 8, 9, 10, 11, 12, 13, 14, 15], [52, 50]⟩] .true),
    (.region [⟨(.some 35), (.mv (.t 9)), .none, [], []⟩, ⟨(.some 36), (.bin .sub .o (.t 35) (.c (.int .i64 1))), .none, [], []⟩, ⟨(.some 9), (.mv (.t 36)), .none, [], []⟩] .false),
    (.region [⟨(.some 15), (.mv (.t 8)), .none, [], []⟩, ⟨(.some 16), (.bin .add .o (.t 15) (.c (.int .i64 1))), .none, [], []⟩, ⟨(.some 8), (.mv (.t 16)), .none, [], []⟩] .false)]
theorem F82_at : F82.at Try.prog 82 Try.f82 := ⟨Try.func82, by kernel_rfl, by kernel_rfl, by kernel_rfl, by kernel_rfl, by kernel_rfl⟩

-- "slices.symMergeCmpFunc[int]" res .true
def F83 : AFn where
  np := 5
  nt := 220
  res := []
  tab := [(.seq 42), (.seq 2),
    (.region [⟨(.some 25), (.mv (.t 2)), .none, [], []⟩, ⟨(.some 26), (.mv (.t 1)), .none, [], []⟩, ⟨(.some 27), (.bin .sub .o (.t 25) (.t 26)), .none, [], []⟩, ⟨(.some 28), (.bin .eql .o (.t 27) (.c (.int .i64 1))), .none, [], []⟩] .false), (.cond (.t 28) 38), (.seq 2),
    (.region [⟨(.some 29), (.mv (.t 2)), .none, [], []⟩, ⟨(.some 10), (.mv (.t 29)), .none, [], []⟩] .false), (.seq 2),
    (.region [⟨(.some 30), (.mv (.t 3)), .none, [], []⟩, ⟨(.some 11), (.mv (.t 30)), .none, [], []⟩] .false), (.seq 17), (.block 0), .loop, (.seq 6), (.seq 2),
    (.region [⟨(.some 31), (.mv (.t 10)), .none, [], []⟩, ⟨(.some 32), (.mv (.t 11)), .none, [], []⟩, ⟨(.some 33), (.bin .lss .o (.t 31) (.t 32)), .none, [], []⟩] .false), (.cond (.t 33) 2), .skip, (.exit 0), (.block 1), (.seq 2),
    (.region [⟨(.some 34), (.mv (.t 10)), .none, [], []⟩, ⟨(.some 35), (.mv (.t 11)), .none, [], []⟩, ⟨(.some 36), (.bin .add .o (.t 34) (.t 35)), .none, [], []⟩, ⟨(.some 37), (.cvt .u64 (.t 36)), .none, [], []⟩, ⟨(.some 38), (.bin .shr .o (.t 37) (.c (.int .u64 1))), .none, [], []⟩, ⟨(.some 39), (.cvt .i64 (.t 38)), .none, [], []⟩, ⟨(.some 12), (.mv (.t 39)), .none, [], []⟩] .false), (.seq 2),
    (.region [⟨(.some 40), (.mv (.t 4)), .none, [], [4]⟩, ⟨(.some 41), (.mv (.t 0)), .none, [], [0]⟩, ⟨(.some 42), (.mv (.t 12)), .none, [], [12]⟩, ⟨(.some 43), (.idx 3 1 (.t 41) (.t 42)), .none, [1, 2], [41, 42]⟩, ⟨(.some 44), (.ld .none (.t 43)), .none, [3], [43]⟩, ⟨(.some 45), (.mv (.t 0)), .none, [], [0]⟩, ⟨(.some 46), (.mv (.t 1)), .none, [], [1]⟩, ⟨(.some 47), (.idx 3 1 (.t 45) (.t 46)), .none, [5, 6], [45, 46]⟩, ⟨(.some 48), (.ld .none (.t 47)), .none, [7], [47]⟩, ⟨(.some 49), (.callv (.t 40) [(.t 44), (.t 48)]), .none, [0, 4, 8], [40, 44, 48]⟩, ⟨(.some 50), (.bin .lss .o (.t 49) (.c (.int .i64 0))), .none, [9], [49]⟩] .true), (.cond (.t 50) 2),
    (.region [⟨(.some 51), (.mv (.t 12)), .none, [], []⟩, ⟨(.some 52), (.bin .add .o (.t 51) (.c (.int .i64 1))), .none, [], []⟩, ⟨(.some 10), (.mv (.t 52)), .none, [], []⟩] .false),
    (.region [⟨(.some 53), (.mv (.t 12)), .none, [], []⟩, ⟨(.some 11), (.mv (.t 53)), .none, [], []⟩] .false), (.seq 15), (.seq 2),
    (.region [⟨(.some 54), (.mv (.t 1)), .none, [], []⟩, ⟨(.some 13), (.mv (.t 54)), .none, [], []⟩] .false), (.block 2), .loop, (.seq 6), (.seq 2),
    (.region [⟨(.some 55), (.mv (.t 13)), .none, [], []⟩, ⟨(.some 56), (.mv (.t 10)), .none, [], []⟩, ⟨(.some 57), (.bin .sub .o (.t 56) (.c (.int .i64 1))), .none, [], []⟩, ⟨(.some 58), (.bin .lss .o (.t 55) (.t 57)), .none, [], []⟩] .false), (.cond (.t 58) 2), .skip, (.exit 2), (.seq 3), (.block 3),
    (.region [⟨(.some 61), (.mv (.t 0)), .none, [], [0]⟩, ⟨(.some 62), (.mv (.t 13)), .none, [], [13]⟩, ⟨(.some 63), (.mv (.t 0)), .none, [], [0]⟩, ⟨(.some 64), (.mv (.t 13)), .none, [], [13]⟩, ⟨(.some 65), (.bin .add .o (.t 64) (.c (.int .i64 1))), .none, [3], [64]⟩, ⟨(.some 66), (.mv (.t 0)), .none, [], [0]⟩, ⟨(.some 67), (.mv (.t 13)), .none, [], [13]⟩, ⟨(.some 68), (.bin .add .o (.t 67) (.c (.int .i64 1))), .none, [6], [67]⟩, ⟨(.some 69), (.idx 3 1 (.t 66) (.t 68)), .none, [5, 7], [66, 68]⟩, ⟨(.some 70), (.ld .none (.t 69)), .none, [8], [69]⟩, ⟨(.some 71), (.mv (.t 0)), .none, [], [0]⟩, ⟨(.some 72), (.mv (.t 13)), .none, [], [13]⟩, ⟨(.some 73), (.idx 3 1 (.t 71) (.t 72)), .none, [10, 11], [71, 72]⟩, ⟨(.some 74), (.ld .none (.t 73)), .none, [12], [73]⟩, ⟨(.some 75), (.idx 3 1 (.t 61) (.t 62)), .none, [0, 1, 0, 1, 5, 6, 7, 8, 9, 13], [61, 62]⟩, ⟨.none, (.st 1 (.t 75) (.t 70)), .none, [14, 9, 0, 1, 5, 6, 7, 8, 9, 13], [75, 70]⟩, ⟨(.some 76), (.idx 3 1 (.t 63) (.t 65)), .none, [2, 4, 0, 1, 2, 3, 4, 5, 6, 7, 8, 9, 10, 11, 12, 13, 14, 15], [63, 65]⟩, ⟨.none, (.st 1 (.t 76) (.t 74)), .none, [16, 13, 15, 0, 1, 2, 3, 4, 5, 6, 7, 8, 9, 10, 11, 12, 13, 14, 15], [76, 74]⟩] .true),
    (.region [⟨(.some 59), (.mv (.t 13)), .none, [], []⟩, ⟨(.some 60), (.bin .add .o (.t 59) (.c (.int .i64 1))), .none, [], []⟩, ⟨(.some 13), (.mv (.t 60)), .none, [], []⟩] .false), .ret, .skip, (.seq 42), (.seq 2),
    (.region [⟨(.some 77), (.mv (.t 3)), .none, [], []⟩, ⟨(.some 78), (.mv (.t 2)), .none, [], []⟩, ⟨(.some 79), (.bin .sub .o (.t 77) (.t 78)), .none, [], []⟩, ⟨(.some 80), (.bin .eql .o (.t 79) (.c (.int .i64 1))), .none, [], []⟩] .false), (.cond (.t 80) 38), (.seq 2),
    (.region [⟨(.some 81), (.mv (.t 1)), .none, [], []⟩, ⟨(.some 14), (.mv (.t 81)), .none, [], []⟩] .false), (.seq 2),
    (.region [⟨(.some 82), (.mv (.t 2)), .none, [], []⟩, ⟨(.some 15), (.mv (.t 82)), .none, [], []⟩] .false), (.seq 17), (.block 4), .loop, (.seq 6), (.seq 2),
    (.region [⟨(.some 83), (.mv (.t 14)), .none, [], []⟩, ⟨(.some 84), (.mv (.t 15)), .none, [], []⟩, ⟨(.some 85), (.bin .lss .o (.t 83) (.t 84)), .none, [], []⟩] .false), (.cond (.t 85) 2), .skip, (.exit 4), (.block 5), (.seq 2),
    (.region [⟨(.some 86), (.mv (.t 14)), .none, [], []⟩, ⟨(.some 87), (.mv (.t 15)), .none, [], []⟩, ⟨(.some 88), (.bin .add .o (.t 86) (.t 87)), .none, [], []⟩, ⟨(.some 89), (.cvt .u64 (.t 88)), .none, [], []⟩, ⟨(.some 90), (.bin .shr .o (.t 89) (.c (.int .u64 1))), .none, [], []⟩, ⟨(.some 91), (.cvt .i64 (.t 90)), .none, [], []⟩, ⟨(.some 16), (.mv (.t 91)), .none, [], []⟩] .false), (.seq 2),
    (.region [⟨(.some 92), (.mv (.t 4)), .none, [], [4]⟩, ⟨(.some 93), (.mv (.t 0)), .none, [], [0]⟩, ⟨(.some 94), (.mv (.t 2)), .none, [], [2]⟩, ⟨(.some 95), (.idx 3 1 (.t 93) (.t 94)), .none, [1, 2], [93, 94]⟩, ⟨(.some 96), (.ld .none (.t 95)), .none, [3], [95]⟩, ⟨(.some 97), (.mv (.t 0)), .none, [], [0]⟩, ⟨(.some 98), (.mv (.t 16)), .none, [], [16]⟩, ⟨(.some 99), (.idx 3 1 (.t 97) (.t 98)), .none, [5, 6], [97, 98]⟩, ⟨(.some 100), (.ld .none (.t 99)), .none, [7], [99]⟩, ⟨(.some 101), (.callv (.t 92) [(.t 96), (.t 100)]), .none, [0, 4, 8], [92, 96, 100]⟩, ⟨(.some 102), (.bin .lss .o (.t 101) (.c (.int .i64 0))), .none, [9], [101]⟩, ⟨(.some 103), (.un .not (.t 102)), .none, [10], [102]⟩] .true), (.cond (.t 103) 2),
    (.region [⟨(.some 104), (.mv (.t 16)), .none, [], []⟩, ⟨(.some 105), (.bin .add .o (.t 104) (.c (.int .i64 1))), .none, [], []⟩, ⟨(.some 14), (.mv (.t 105)), .none, [], []⟩] .false),
    (.region [⟨(.some 106), (.mv (.t 16)), .none, [], []⟩, ⟨(.some 15), (.mv (.t 106)), .none, [], []⟩] .false), (.seq 15), (.seq 2),
    (.region [⟨(.some 107), (.mv (.t 2)), .none, [], []⟩, ⟨(.some 17), (.mv (.t 107)), .none, [], []⟩] .false), (.block 6), .loop, (.seq 6), (.seq 2),
    (.region [⟨(.some 108), (.mv (.t 17)), .none, [], []⟩, ⟨(.some 109), (.mv (.t 14)), .none, [], []⟩, ⟨(.some 110), (.bin .gtr .o (.t 108) (.t 109)), .none, [], []⟩] .false), (.cond (.t 110) 2), .skip, (.exit 6), (.seq 3), (.block 7),
    (.region [⟨(.some 113), (.mv (.t 0)), .none, [], [0]⟩, ⟨(.some 114), (.mv (.t 17)), .none, [], [17]⟩, ⟨(.some 115), (.mv (.t 0)), .none, [], [0]⟩, ⟨(.some 116), (.mv (.t 17)), .none, [], [17]⟩, ⟨(.some 117), (.bin .sub .o (.t 116) (.c (.int .i64 1))), .none, [3], [116]⟩, ⟨(.some 118), (.mv (.t 0)), .none, [], [0]⟩, ⟨(.some 119), (.mv (.t 17)), .none, [], [17]⟩, ⟨(.some 120), (.bin .sub .o (.t 119) (.c (.int .i64 1))), .none, [6], [119]⟩, ⟨(.some 121), (.idx 3 1 (.t 118) (.t 120)), .none, [5, 7], [118, 120]⟩, ⟨(.some 122), (.ld .none (.t 121)), .none, [8], [121]⟩, ⟨(.some 123), (.mv (.t 0)), .none, [], [0]⟩, ⟨(.some 124), (.mv (.t 17)), .none, [], [17]⟩, ⟨(.some 125), (.idx 3 1 (.t 123) (.t 124)), .none, [10, 11], [123, 124]⟩, ⟨(.some 126), (.ld .none (.t 125)), .none, [12], [125]⟩, ⟨(.some 127), (.idx 3 1 (.t 113) (.t 114)), .none, [0, 1, 0, 1, 5, 6, 7, 8, 9, 13], [113, 114]⟩, ⟨.none, (.st 1 (.t 127) (.t 122)), .none, [14, 9, 0, 1, 5, 6, 7, 8, 9, 13], [127, 122]⟩, ⟨(.some 128), (.idx 3 1 (.t 115) (.t 117)), .none, [2, 4, 0, 1, 2, 3, 4, 5, 6, 7, 8, 9, 10, 11, 12, 13, 14, 15], [115, 117]⟩, ⟨.none, (.st 1 (.t 128) (.t 126)), .none, [16, 13, 15, 0, 1, 2, 3, 4, 5, 6, 7, 8, 9, 10, 11, 12, 13, 14, 15], [128, 126]⟩] .true),
    (.region [⟨(.some 111), (.mv (.t 17)), .none, [], []⟩, ⟨(.some 112), (.bin .sub .o (.t 111) (.c (.int .i64 1))), .none, [], []⟩, ⟨(.some 17), (.mv (.t 112)), .none, [], []⟩] .false), .ret, .skip, (.seq 2),
    (.region [⟨(.some 129), (.mv (.t 1)), .none, [], []⟩, ⟨(.some 130), (.mv (.t 3)), .none, [], []⟩, ⟨(.some 131), (.bin .add .o (.t 129) (.t 130)), .none, [], []⟩, ⟨(.some 132), (.cvt .u64 (.t 131)), .none, [], []⟩, ⟨(.some 133), (.bin .shr .o (.t 132) (.c (.int .u64 1))), .none, [], []⟩, ⟨(.some 134), (.cvt .i64 (.t 133)), .none, [], []⟩, ⟨(.some 18), (.mv (.t 134)), .none, [], []⟩] .false), (.seq 2),
    (.region [⟨(.some 135), (.mv (.t 18)), .none, [], []⟩, ⟨(.some 136), (.mv (.t 2)), .none, [], []⟩, ⟨(.some 137), (.bin .add .o (.t 135) (.t 136)), .none, [], []⟩, ⟨(.some 19), (.mv (.t 137)), .none, [], []⟩] .false), (.seq 2),
    (.region [⟨(.some 20), (.mv (.c (.int .i64 0))), .none, [], []⟩, ⟨(.some 21), (.mv (.c (.int .i64 0))), .none, [], []⟩] .false), (.seq 10), (.seq 2),
    (.region [⟨(.some 138), (.mv (.t 2)), .none, [], []⟩, ⟨(.some 139), (.mv (.t 18)), .none, [], []⟩, ⟨(.some 140), (.bin .gtr .o (.t 138) (.t 139)), .none, [], []⟩] .false), (.cond (.t 140) 4), (.seq 2),
    (.region [⟨(.some 141), (.mv (.t 19)), .none, [], []⟩, ⟨(.some 142), (.mv (.t 3)), .none, [], []⟩, ⟨(.some 143), (.bin .sub .o (.t 141) (.t 142)), .none, [], []⟩, ⟨(.some 20), (.mv (.t 143)), .none, [], []⟩] .false),
    (.region [⟨(.some 144), (.mv (.t 18)), .none, [], []⟩, ⟨(.some 21), (.mv (.t 144)), .none, [], []⟩] .false), (.seq 2),
    (.region [⟨(.some 145), (.mv (.t 1)), .none, [], []⟩, ⟨(.some 20), (.mv (.t 145)), .none, [], []⟩] .false),
    (.region [⟨(.some 146), (.mv (.t 2)), .none, [], []⟩, ⟨(.some 21), (.mv (.t 146)), .none, [], []⟩] .false), (.seq 2),
    (.region [⟨(.some 147), (.mv (.t 19)), .none, [], []⟩, ⟨(.some 148), (.bin .sub .o (.t 147) (.c (.int .i64 1))), .none, [], []⟩, ⟨(.some 22), (.mv (.t 148)), .none, [], []⟩] .false), (.seq 17), (.block 8), .loop, (.seq 6), (.seq 2),
    (.region [⟨(.some 149), (.mv (.t 20)), .none, [], []⟩, ⟨(.some 150), (.mv (.t 21)), .none, [], []⟩, ⟨(.some 151), (.bin .lss .o (.t 149) (.t 150)), .none, [], []⟩] .false), (.cond (.t 151) 2), .skip, (.exit 8), (.block 9), (.seq 2),
    (.region [⟨(.some 152), (.mv (.t 20)), .none, [], []⟩, ⟨(.some 153), (.mv (.t 21)), .none, [], []⟩, ⟨(.some 154), (.bin .add .o (.t 152) (.t 153)), .none, [], []⟩, ⟨(.some 155), (.cvt .u64 (.t 154)), .none, [], []⟩, ⟨(.some 156), (.bin .shr .o (.t 155) (.c (.int .u64 1))), .none, [], []⟩, ⟨(.some 157), (.cvt .i64 (.t 156)), .none, [], []⟩, ⟨(.some 23), (.mv (.t 157)), .none, [], []⟩] .false), (.seq 2),
    (.region [⟨(.some 158), (.mv (.t 4)), .none, [], [4]⟩, ⟨(.some 159), (.mv (.t 0)), .none, [], [0]⟩, ⟨(.some 160), (.mv (.t 22)), .none, [], [22]⟩, ⟨(.some 161), (.mv (.t 23)), .none, [], [23]⟩, ⟨(.some 162), (.bin .sub .o (.t 160) (.t 161)), .none, [2, 3], [160, 161]⟩, ⟨(.some 163), (.idx 3 1 (.t 159) (.t 162)), .none, [1, 4], [159, 162]⟩, ⟨(.some 164), (.ld .none (.t 163)), .none, [5], [163]⟩, ⟨(.some 165), (.mv (.t 0)), .none, [], [0]⟩, ⟨(.some 166), (.mv (.t 23)), .none, [], [23]⟩, ⟨(.some 167), (.idx 3 1 (.t 165) (.t 166)), .none, [7, 8], [165, 166]⟩, ⟨(.some 168), (.ld .none (.t 167)), .none, [9], [167]⟩, ⟨(.some 169), (.callv (.t 158) [(.t 164), (.t 168)]), .none, [0, 6, 10], [158, 164, 168]⟩, ⟨(.some 170), (.bin .lss .o (.t 169) (.c (.int .i64 0))), .none, [11], [169]⟩, ⟨(.some 171), (.un .not (.t 170)), .none, [12], [170]⟩] .true), (.cond (.t 171) 2),
    (.region [⟨(.some 172), (.mv (.t 23)), .none, [], []⟩, ⟨(.some 173), (.bin .add .o (.t 172) (.c (.int .i64 1))), .none, [], []⟩, ⟨(.some 20), (.mv (.t 173)), .none, [], []⟩] .false),
    (.region [⟨(.some 174), (.mv (.t 23)), .none, [], []⟩, ⟨(.some 21), (.mv (.t 174)), .none, [], []⟩] .false), (.seq 2),
    (.region [⟨(.some 175), (.mv (.t 19)), .none, [], []⟩, ⟨(.some 176), (.mv (.t 20)), .none, [], []⟩, ⟨(.some 177), (.bin .sub .o (.t 175) (.t 176)), .none, [], []⟩, ⟨(.some 24), (.mv (.t 177)), .none, [], []⟩] .false), (.seq 6), (.seq 2),
    (.region [⟨(.some 178), (.mv (.t 20)), .none, [], []⟩, ⟨(.some 179), (.mv (.t 2)), .none, [], []⟩, ⟨(.some 180), (.bin .lss .o (.t 178) (.t 179)), .none, [], []⟩, ⟨(.some 181), (.mv (.t 180)), .none, [], []⟩, ⟨(.some 182), (.mv (.t 2)), (.some ((.some 181), .true)), [], []⟩, ⟨(.some 183), (.mv (.t 24)), (.some ((.some 181), .true)), [], []⟩, ⟨(.some 184), (.bin .lss .o (.t 182) (.t 183)), (.some ((.some 181), .true)), [], []⟩, ⟨(.some 185), (.pick (.t 181) (.t 184) (.c (.bool .false))), .none, [], []⟩] .false), (.cond (.t 185) 2),
    (.region [⟨(.some 186), (.mv (.t 0)), .none, [], []⟩, ⟨(.some 187), (.mv (.t 20)), .none, [], []⟩, ⟨(.some 188), (.mv (.t 2)), .none, [], []⟩, ⟨(.some 189), (.mv (.t 24)), .none, [], []⟩, ⟨(.some 190), (.mv (.t 4)), .none, [], []⟩, ⟨(.some 191), (.call 93 [(.t 186), (.t 187), (.t 188), (.t 189), (.t 190)]), .none, [], []⟩] .false), .skip, (.seq 6), (.seq 2),
    (.region [⟨(.some 192), (.mv (.t 1)), .none, [], []⟩, ⟨(.some 193), (.mv (.t 20)), .none, [], []⟩, ⟨(.some 194), (.bin .lss .o (.t 192) (.t 193)), .none, [], []⟩, ⟨(.some 195), (.mv (.t 194)), .none, [], []⟩, ⟨(.some 196), (.mv (.t 20)), (.some ((.some 195), .true)), [], []⟩, ⟨(.some 197), (.mv (.t 18)), (.some ((.some 195), .true)), [], []⟩, ⟨(.some 198), (.bin .lss .o (.t 196) (.t 197)), (.some ((.some 195), .true)), [], []⟩, ⟨(.some 199), (.pick (.t 195) (.t 198) (.c (.bool .false))), .none, [], []⟩] .false), (.cond (.t 199) 2),
    (.region [⟨(.some 200), (.mv (.t 0)), .none, [], []⟩, ⟨(.some 201), (.mv (.t 1)), .none, [], []⟩, ⟨(.some 202), (.mv (.t 20)), .none, [], []⟩, ⟨(.some 203), (.mv (.t 18)), .none, [], []⟩, ⟨(.some 204), (.mv (.t 4)), .none, [], []⟩, ⟨(.some 205), (.call 83 [(.t 200), (.t 201), (.t 202), (.t 203), (.t 204)]), .none, [], []⟩] .false), .skip, (.seq 2),
    (.region [⟨(.some 206), (.mv (.t 18)), .none, [], []⟩, ⟨(.some 207), (.mv (.t 24)), .none, [], []⟩, ⟨(.some 208), (.bin .lss .o (.t 206) (.t 207)), .none, [], []⟩, ⟨(.some 209), (.mv (.t 208)), .none, [], []⟩, ⟨(.some 210), (.mv (.t 24)), (.some ((.some 209), .true)), [], []⟩, ⟨(.some 211), (.mv (.t 3)), (.some ((.some 209), .true)), [], []⟩, ⟨(.some 212), (.bin .lss .o (.t 210) (.t 211)), (.some ((.some 209), .true)), [], []⟩, ⟨(.some 213), (.pick (.t 209) (.t 212) (.c (.bool .false))), .none, [], []⟩] .false), (.cond (.t 213) 2),
    (.region [⟨(.some 214), (.mv (.t 0)), .none, [], []⟩, ⟨(.some 215), (.mv (.t 18)), .none, [], []⟩, ⟨(.some 216), (.mv (.t 24)), .none, [], []⟩, ⟨(.some 217), (.mv (.t 3)), .none, [], []⟩, ⟨(.some 218), (.mv (.t 4)), .none, [], []⟩, ⟨(.some 219), (.call 83 [(.t 214), (.t 215), (.t 216), (.t 217), (.t 218)]), .none, [], []⟩] .false), .skip]
theorem F83_at : F83.at Try.prog 83 Try.f83 := ⟨Try.func83, by kernel_rfl, by kernel_rfl, by kernel_rfl, by kernel_rfl, by kernel_rfl⟩

-- "slices.rotateCmpFunc[int]" res .true
def F93 : AFn where
  np := 5
  nt := 58
  res := []
  tab := [(.seq 2),
    (.region [⟨(.some 12), (.mv (.t 2)), .none, [], []⟩, ⟨(.some 13), (.mv (.t 1)), .none, [], []⟩, ⟨(.some 14), (.bin .sub .o (.t 12) (.t 13)), .none, [], []⟩, ⟨(.some 10), (.mv (.t 14)), .none, [], []⟩] .false), (.seq 2),
    (.region [⟨(.some 15), (.mv (.t 3)), .none, [], []⟩, ⟨(.some 16), (.mv (.t 2)), .none, [], []⟩, ⟨(.some 17), (.bin .sub .o (.t 15) (.t 16)), .none, [], []⟩, ⟨(.some 11), (.mv (.t 17)), .none, [], []⟩] .false), (.seq 19), (.block 0), .loop, (.seq 6), (.seq 2),
    (.region [⟨(.some 18), (.mv (.t 10)), .none, [], []⟩, ⟨(.some 19), (.mv (.t 11)), .none, [], []⟩, ⟨(.some 20), (.bin .neq .o (.t 18) (.t 19)), .none, [], []⟩] .false), (.cond (.t 20) 2), .skip, (.exit 0), (.block 1), (.seq 2),
    (.region [⟨(.some 21), (.mv (.t 10)), .none, [], []⟩, ⟨(.some 22), (.mv (.t 11)), .none, [], []⟩, ⟨(.some 23), (.bin .gtr .o (.t 21) (.t 22)), .none, [], []⟩] .false), (.cond (.t 23) 4), (.seq 2),
    (.region [⟨(.some 24), (.mv (.t 0)), .none, [], []⟩, ⟨(.some 25), (.mv (.t 2)), .none, [], []⟩, ⟨(.some 26), (.mv (.t 10)), .none, [], []⟩, ⟨(.some 27), (.bin .sub .o (.t 25) (.t 26)), .none, [], []⟩, ⟨(.some 28), (.mv (.t 2)), .none, [], []⟩, ⟨(.some 29), (.mv (.t 11)), .none, [], []⟩, ⟨(.some 30), (.mv (.t 4)), .none, [], []⟩, ⟨(.some 31), (.call 99 [(.t 24), (.t 27), (.t 28), (.t 29), (.t 30)]), .none, [], []⟩] .false),
    (.region [⟨(.some 32), (.mv (.t 10)), .none, [], []⟩, ⟨(.some 33), (.mv (.t 11)), .none, [], []⟩, ⟨(.some 34), (.bin .sub .o (.t 32) (.t 33)), .none, [], []⟩, ⟨(.some 10), (.mv (.t 34)), .none, [], []⟩] .false), (.seq 2),
    (.region [⟨(.some 35), (.mv (.t 0)), .none, [], []⟩, ⟨(.some 36), (.mv (.t 2)), .none, [], []⟩, ⟨(.some 37), (.mv (.t 10)), .none, [], []⟩, ⟨(.some 38), (.bin .sub .o (.t 36) (.t 37)), .none, [], []⟩, ⟨(.some 39), (.mv (.t 2)), .none, [], []⟩, ⟨(.some 40), (.mv (.t 11)), .none, [], []⟩, ⟨(.some 41), (.bin .add .o (.t 39) (.t 40)), .none, [], []⟩, ⟨(.some 42), (.mv (.t 10)), .none, [], []⟩, ⟨(.some 43), (.bin .sub .o (.t 41) (.t 42)), .none, [], []⟩, ⟨(.some 44), (.mv (.t 10)), .none, [], []⟩, ⟨(.some 45), (.mv (.t 4)), .none, [], []⟩, ⟨(.some 46), (.call 99 [(.t 35), (.t 38), (.t 43), (.t 44), (.t 45)]), .none, [], []⟩] .false),
    (.region [⟨(.some 47), (.mv (.t 11)), .none, [], []⟩, ⟨(.some 48), (.mv (.t 10)), .none, [], []⟩, ⟨(.some 49), (.bin .sub .o (.t 47) (.t 48)), .none, [], []⟩, ⟨(.some 11), (.mv (.t 49)), .none, [], []⟩] .false),
    (.region [⟨(.some 50), (.mv (.t 0)), .none, [], []⟩, ⟨(.some 51), (.mv (.t 2)), .none, [], []⟩, ⟨(.some 52), (.mv (.t 10)), .none, [], []⟩, ⟨(.some 53), (.bin .sub .o (.t 51) (.t 52)), .none, [], []⟩, ⟨(.some 54), (.mv (.t 2)), .none, [], []⟩, ⟨(.some 55), (.mv (.t 10)), .none, [], []⟩, ⟨(.some 56), (.mv (.t 4)), .none, [], []⟩, ⟨(.some 57), (.call 99 [(.t 50), (.t 53), (.t 54), (.t 55), (.t 56)]), .none, [], []⟩] .false)]
theorem F93_at : F93.at Try.prog 93 Try.f93 := ⟨Try.func93, by kernel_rfl, by kernel_rfl, by kernel_rfl, by kernel_rfl, by kernel_rfl⟩

-- "slices.swapRangeCmpFunc[int]" res .true
def F99 : AFn where
  np := 5
  nt := 38
  res := []
  tab := [(.seq 2),
    (.region [⟨(.some 10), (.mv (.c (.int .i64 0))), .none, [], []⟩] .false), (.block 0), .loop, (.seq 6), (.seq 2),
    (.region [⟨(.some 11), (.mv (.t 10)), .none, [], []⟩, ⟨(.some 12), (.mv (.t 3)), .none, [], []⟩, ⟨(.some 13), (.bin .lss .o (.t 11) (.t 12)), .none, [], []⟩] .false), (.cond (.t 13) 2), .skip, (.exit 0), (.seq 3), (.block 1),
    (.region [⟨(.some 16), (.mv (.t 0)), .none, [], [0]⟩, ⟨(.some 17), (.mv (.t 1)), .none, [], [1]⟩, ⟨(.some 18), (.mv (.t 10)), .none, [], [10]⟩, ⟨(.some 19), (.bin .add .o (.t 17) (.t 18)), .none, [1, 2], [17, 18]⟩, ⟨(.some 20), (.mv (.t 0)), .none, [], [0]⟩, ⟨(.some 21), (.mv (.t 2)), .none, [], [2]⟩, ⟨(.some 22), (.mv (.t 10)), .none, [], [10]⟩, ⟨(.some 23), (.bin .add .o (.t 21) (.t 22)), .none, [5, 6], [21, 22]⟩, ⟨(.some 24), (.mv (.t 0)), .none, [], [0]⟩, ⟨(.some 25), (.mv (.t 2)), .none, [], [2]⟩, ⟨(.some 26), (.mv (.t 10)), .none, [], [10]⟩, ⟨(.some 27), (.bin .add .o (.t 25) (.t 26)), .none, [9, 10], [25, 26]⟩, ⟨(.some 28), (.idx 3 1 (.t 24) (.t 27)), .none, [8, 11], [24, 27]⟩, ⟨(.some 29), (.ld .none (.t 28)), .none, [12], [28]⟩, ⟨(.some 30), (.mv (.t 0)), .none, [], [0]⟩, ⟨(.some 31), (.mv (.t 1)), .none, [], [1]⟩, ⟨(.some 32), (.mv (.t 10)), .none, [], [10]⟩, ⟨(.some 33), (.bin .add .o (.t 31) (.t 32)), .none, [15, 16], [31, 32]⟩, ⟨(.some 34), (.idx 3 1 (.t 30) (.t 33)), .none, [14, 17], [30, 33]⟩, ⟨(.some 35), (.ld .none (.t 34)), .none, [18], [34]⟩, ⟨(.some 36), (.idx 3 1 (.t 16) (.t 19)), .none, [0, 3, 0, 1, 2, 3, 8, 9, 10, 11, 12, 13, 19], [16, 19]⟩, ⟨.none, (.st 1 (.t 36) (.t 29)), .none, [20, 13, 0, 1, 2, 3, 8, 9, 10, 11, 12, 13, 19], [36, 29]⟩, ⟨(.some 37), (.idx 3 1 (.t 20) (.t 23)), .none, [4, 7, 0, 1, 2, 3, 4, 5, 6, 7, 8, 9, 10, 11, 12, 13, 14, 15, 16, 17, 18, 19, 20, 21], [20, 23]⟩, ⟨.none, (.st 1 (.t 37) (.t 35)), .none, [22, 19, 21, 0, 1, 2, 3, 4, 5, 6, 7, 8, 9, 10, 11, 12, 13, 14, 15, 16, 17, 18, 19, 20, 21], [37, 35]⟩] .true),
    (.region [⟨(.some 14), (.mv (.t 10)), .none, [], []⟩, ⟨(.some 15), (.bin .add .o (.t 14) (.c (.int .i64 1))), .none, [], []⟩, ⟨(.some 10), (.mv (.t 15)), .none, [], []⟩] .false)]
theorem F99_at : F99.at Try.prog 99 Try.f99 := ⟨Try.func99, by kernel_rfl, by kernel_rfl, by kernel_rfl, by kernel_rfl, by kernel_rfl⟩

-- "(signalbox/pack.first).choose" res .true
def F117 : AFn where
  np := 3
  nt := 10
  res := [(.t 6)]
  tab := [(.seq 2),
    (.region [⟨(.some 3), (.box 98 (.t 0)), .none, [], []⟩, ⟨(.some 5), (.box 3 (.t 2)), .none, [], []⟩, ⟨(.some 6), (.mv (.c (.int .i64 0))), .none, [], []⟩] .false), (.seq 2),
    (.region [⟨(.some 7), (.mv (.t 1)), .none, [], []⟩, ⟨(.some 8), (.mkf (.func 118) [] [(.t 5)]), .none, [], []⟩, ⟨(.some 9), (.call 68 [(.t 7), (.t 8)]), .none, [], []⟩, ⟨(.some 6), (.mv (.t 9)), .none, [], []⟩] .false), .ret]
theorem F117_at : F117.at Try.prog 117 Try.f117 := ⟨Try.func117, by kernel_rfl, by kernel_rfl, by kernel_rfl, by kernel_rfl, by kernel_rfl⟩

-- "(signalbox/pack.first).choose$1" res .true
def F118 : AFn where
  np := 1
  nt := 7
  res := [(.t 3)]
  tab := [(.seq 2),
    (.region [⟨(.some 3), (.mv (.c (.bool .false))), .none, [], []⟩] .false), (.seq 2),
    (.region [⟨(.some 4), (.mv (.t 0)), .none, [], []⟩, ⟨(.some 5), (.ld .none (.t 1)), .none, [], []⟩, ⟨(.some 6), (.bin .geq .o (.t 4) (.t 5)), .none, [], []⟩, ⟨(.some 3), (.mv (.t 6)), .none, [], []⟩] .false), .ret]
theorem F118_at : F118.at Try.prog 118 Try.f118 := ⟨Try.func118, by kernel_rfl, by kernel_rfl, by kernel_rfl, by kernel_rfl, by kernel_rfl⟩

-- "(signalbox/pack.tightest).choose" res .true
def F119 : AFn where
  np := 3
  nt := 35
  res := [(.t 6)]
  tab := [(.seq 2),
    (.region [⟨(.some 3), (.box 101 (.t 0)), .none, [], []⟩, ⟨(.some 6), (.mv (.c (.int .i64 0))), .none, [], []⟩] .false), (.seq 2),
    (.region [⟨(.some 7), (.mv (.c (.int .i64 (-1)))), .none, [], []⟩] .false), (.seq 21), (.seq 2),
    (.region [⟨(.some 10), (.mv (.t 1)), .none, [], []⟩, ⟨(.some 11), (.len .false (.t 10)), .none, [], []⟩, ⟨(.some 12), (.mv (.c (.int .i64 0))), .none, [], []⟩] .false), (.block 0), .loop, (.seq 2),
    (.region [⟨(.some 13), (.bin .lss .o (.t 12) (.t 11)), .none, [], []⟩] .false), (.seq 4), (.cond (.t 13) 2), .skip, (.exit 0), (.seq 9), (.block 1), (.seq 2),
    (.region [⟨(.some 14), (.mv (.t 12)), .none, [], []⟩, ⟨(.some 15), (.idx 3 1 (.t 10) (.t 12)), .none, [], []⟩, ⟨(.some 16), (.ld .none (.t 15)), .none, [], []⟩, ⟨(.some 8), (.mv (.t 14)), .none, [], []⟩, ⟨(.some 9), (.mv (.t 16)), .none, [], []⟩] .false), (.seq 2),
    (.region [⟨(.some 17), (.mv (.t 9)), .none, [], []⟩, ⟨(.some 18), (.mv (.t 2)), .none, [], []⟩, ⟨(.some 19), (.bin .geq .o (.t 17) (.t 18)), .none, [], []⟩, ⟨(.some 20), (.mv (.t 19)), .none, [], []⟩, ⟨(.some 21), (.mv (.t 7)), (.some ((.some 20), .true)), [], []⟩, ⟨(.some 22), (.bin .eql .o (.t 21) (.c (.int .i64 (-1)))), (.some ((.some 20), .true)), [], []⟩, ⟨(.some 23), (.mv (.t 22)), (.some ((.some 20), .true)), [], []⟩, ⟨(.some 24), (.mv (.t 9)), (.some ((.some 23), .false)), [], []⟩, ⟨(.some 25), (.mv (.t 1)), (.some ((.some 23), .false)), [], []⟩, ⟨(.some 26), (.mv (.t 7)), (.some ((.some 23), .false)), [], []⟩, ⟨(.some 27), (.idx 3 1 (.t 25) (.t 26)), (.some ((.some 23), .false)), [], []⟩, ⟨(.some 28), (.ld .none (.t 27)), (.some ((.some 23), .false)), [], []⟩, ⟨(.some 29), (.bin .lss .o (.t 24) (.t 28)), (.some ((.some 23), .false)), [], []⟩, ⟨(.some 30), (.pick (.t 23) (.c (.bool .true)) (.t 29)), (.some ((.some 20), .true)), [], []⟩, ⟨(.some 31), (.pick (.t 20) (.t 30) (.c (.bool .false))), .none, [], []⟩] .false), (.cond (.t 31) 2),
    (.region [⟨(.some 32), (.mv (.t 8)), .none, [], []⟩, ⟨(.some 7), (.mv (.t 32)), .none, [], []⟩] .false), .skip,
    (.region [⟨(.some 33), (.bin .add .o (.t 12) (.c (.int .i64 1))), .none, [], []⟩, ⟨(.some 12), (.mv (.t 33)), .none, [], []⟩] .false), (.seq 2),
    (.region [⟨(.some 34), (.mv (.t 7)), .none, [], []⟩, ⟨(.some 6), (.mv (.t 34)), .none, [], []⟩] .false), .ret]
theorem F119_at : F119.at Try.prog 119 Try.f119 := ⟨Try.func119, by kernel_rfl, by kernel_rfl, by kernel_rfl, by kernel_rfl, by kernel_rfl⟩

end Go.Ab
