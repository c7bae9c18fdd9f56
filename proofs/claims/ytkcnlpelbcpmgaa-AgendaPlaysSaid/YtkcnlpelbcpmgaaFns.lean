/- PRINTED BY A PROGRAM (wip/tools/fmod.py): the functions of the cut, for the abstract machine. -/
import Derived.Test.YtkcnlpelbcpmgaaProg
import Derived.Test.YtkcnlpelbcpmgaaAbX
namespace Go.Ab
open Go Go.Proofs

-- "signalbox/signalboxlaw05.AgendaPlays" res .true
def F5 : AFn where
  np := 3
  nt := 143
  res := [(.t 6)]
  tab := [(.seq 2),
    (.region [⟨(.some 6), (.mv (.c (.bool .false))), .none, [], []⟩] .false), (.seq 8), (.seq 2),
    (.region [⟨(.some 18), (.call 18 []), .none, [], []⟩, ⟨(.some 19), (.un .not (.t 18)), .none, [], []⟩] .false), (.cond (.t 19) 4), (.seq 2),
    (.region [⟨(.some 6), (.mv (.c (.bool .false))), .none, [], []⟩] .false), .ret, .skip, (.seq 8), (.seq 2),
    (.region [⟨(.some 20), (.mv (.t 0)), .none, [], []⟩, ⟨(.some 21), (.len .false (.t 20)), .none, [], []⟩, ⟨(.some 22), (.bin .gtr .o (.t 21) (.c (.int .i64 60))), .none, [], []⟩, ⟨(.some 23), (.mv (.t 22)), .none, [], []⟩, ⟨(.some 24), (.mv (.t 1)), (.some ((.some 23), .false)), [], []⟩, ⟨(.some 25), (.len .false (.t 24)), (.some ((.some 23), .false)), [], []⟩, ⟨(.some 26), (.bin .gtr .o (.t 25) (.c (.int .i64 60))), (.some ((.some 23), .false)), [], []⟩, ⟨(.some 27), (.pick (.t 23) (.c (.bool .true)) (.t 26)), .none, [], []⟩, ⟨(.some 28), (.mv (.t 27)), .none, [], []⟩, ⟨(.some 29), (.mv (.t 2)), (.some ((.some 28), .false)), [], []⟩, ⟨(.some 30), (.len .false (.t 29)), (.some ((.some 28), .false)), [], []⟩, ⟨(.some 31), (.bin .gtr .o (.t 30) (.c (.int .i64 60))), (.some ((.some 28), .false)), [], []⟩, ⟨(.some 32), (.pick (.t 28) (.c (.bool .true)) (.t 31)), .none, [], []⟩] .false), (.cond (.t 32) 4), (.seq 2),
    (.region [⟨(.some 6), (.mv (.c (.bool .true))), .none, [], []⟩] .false), .ret, .skip, (.seq 2),
    (.region [⟨(.some 33), (.mv (.t 0)), .none, [], []⟩, ⟨(.some 34), (.call 19 [(.t 33)]), .none, [], []⟩, ⟨(.some 7), (.mv (.t 34)), .none, [], []⟩] .false), (.seq 2),
    (.region [⟨(.some 35), (.lit 45 5 0 [(.int .i64 0), (.int .i64 0), (.int .i64 0), (.int .i64 0), (.int .i64 0)] []), .none, [], []⟩, ⟨(.some 36), (.mv (.t 0)), .none, [], []⟩, ⟨(.some 37), (.app 45 5 40 [(.int .i64 0), (.int .i64 0), (.int .i64 0), (.int .i64 0), (.int .i64 0)] (.t 35) (.t 36)), .none, [], []⟩, ⟨(.some 8), (.mv (.t 37)), .none, [], []⟩] .false), (.seq 72), (.seq 2),
    (.region [⟨(.some 38), (.mv (.t 2)), .none, [], []⟩, ⟨(.some 39), (.len .false (.t 38)), .none, [], []⟩, ⟨(.some 40), (.mv (.c (.int .i64 0))), .none, [], []⟩] .false), (.block 0), .loop, (.seq 2),
    (.region [⟨(.some 41), (.bin .lss .o (.t 40) (.t 39)), .none, [], []⟩] .false), (.seq 4), (.cond (.t 41) 2), .skip, (.exit 0), (.seq 60), (.block 1), (.seq 2),
    (.region [⟨(.some 42), (.mv (.t 40)), .none, [], []⟩, ⟨(.some 43), (.idx 3 1 (.t 38) (.t 40)), .none, [], []⟩, ⟨(.some 44), (.ld .none (.t 43)), .none, [], []⟩, ⟨(.some 9), (.mv (.t 42)), .none, [], []⟩, ⟨(.some 10), (.mv (.t 44)), .none, [], []⟩] .false), (.seq 8), (.seq 2),
    (.region [⟨(.some 45), (.mv (.t 9)), .none, [], []⟩, ⟨(.some 46), (.mv (.t 1)), .none, [], []⟩, ⟨(.some 47), (.len .false (.t 46)), .none, [], []⟩, ⟨(.some 48), (.bin .lss .o (.t 45) (.t 47)), .none, [], []⟩] .false), (.cond (.t 48) 4), (.seq 2),
    (.region [⟨(.some 49), (.mv (.t 7)), .none, [], []⟩, ⟨(.some 50), (.mv (.t 1)), .none, [], []⟩, ⟨(.some 51), (.mv (.t 9)), .none, [], []⟩, ⟨(.some 52), (.idx 45 5 (.t 50) (.t 51)), .none, [], []⟩, ⟨(.some 53), (.ld (.some 5) (.t 52)), .none, [], []⟩, ⟨(.some 54), (.call 20 [(.t 49), (.t 53)]), .none, [], []⟩] .false),
    (.region [⟨(.some 55), (.mv (.t 8)), .none, [], []⟩, ⟨(.some 56), (.mv (.t 1)), .none, [], []⟩, ⟨(.some 57), (.mv (.t 9)), .none, [], []⟩, ⟨(.some 58), (.idx 45 5 (.t 56) (.t 57)), .none, [], []⟩, ⟨(.some 59), (.ld (.some 5) (.t 58)), .none, [], []⟩, ⟨(.some 60), (.lit 45 5 1 [(.int .i64 0), (.int .i64 0), (.int .i64 0), (.int .i64 0), (.int .i64 0)] [(0, (.t 59))]), .none, [], []⟩, ⟨(.some 61), (.app 45 5 40 [(.int .i64 0), (.int .i64 0), (.int .i64 0), (.int .i64 0), (.int .i64 0)] (.t 55) (.t 60)), .none, [], []⟩, ⟨(.some 8), (.mv (.t 61)), .none, [], []⟩] .false), .skip, (.seq 2),
    (.region [⟨(.some 62), (.mv (.t 8)), .none, [], []⟩, ⟨(.some 63), (.call 21 [(.t 62)]), .none, [], []⟩, ⟨(.some 11), (.mv (.t 63)), .none, [], []⟩] .false), (.seq 2),
    (.region [⟨(.some 65), (.mv (.t 7)), .none, [], []⟩, ⟨(.some 66), (.call 22 [(.t 65)]), .none, [], []⟩, ⟨(.some 64), (.mv (.t 66)), .none, [], []⟩, ⟨(.some 67), (.ext (.t 64) 0), .none, [], []⟩, ⟨(.some 68), (.ext (.t 64) 1), .none, [], []⟩, ⟨(.some 12), (.mv (.t 67)), .none, [], []⟩, ⟨(.some 13), (.mv (.t 68)), .none, [], []⟩] .false), (.seq 8), (.seq 2),
    (.region [⟨(.some 69), (.mv (.t 13)), .none, [], []⟩, ⟨(.some 70), (.mv (.t 11)), .none, [], []⟩, ⟨(.some 71), (.bin .geq .o (.t 70) (.c (.int .i64 0))), .none, [], []⟩, ⟨(.some 72), (.bin .neq .b (.t 69) (.t 71)), .none, [], []⟩, ⟨(.some 73), (.mv (.t 72)), .none, [], []⟩, ⟨(.some 74), (.mv (.t 13)), (.some ((.some 73), .false)), [], []⟩, ⟨(.some 75), (.mv (.t 74)), (.some ((.some 73), .false)), [], []⟩, ⟨(.some 76), (.mv (.t 12)), (.some ((.some 75), .true)), [], []⟩, ⟨(.some 77), (.mv (.t 8)), (.some ((.some 75), .true)), [], []⟩, ⟨(.some 78), (.mv (.t 11)), (.some ((.some 75), .true)), [], []⟩, ⟨(.some 79), (.idx 45 5 (.t 77) (.t 78)), (.some ((.some 75), .true)), [], []⟩, ⟨(.some 80), (.fad 0 (.t 79)), (.some ((.some 75), .true)), [], []⟩, ⟨(.some 81), (.ld .none (.t 80)), (.some ((.some 75), .true)), [], []⟩, ⟨(.some 82), (.bin .neq .o (.t 76) (.t 81)), (.some ((.some 75), .true)), [], []⟩, ⟨(.some 83), (.pick (.t 75) (.t 82) (.c (.bool .false))), (.some ((.some 73), .false)), [], []⟩, ⟨(.some 84), (.pick (.t 73) (.c (.bool .true)) (.t 83)), .none, [], []⟩] .false), (.cond (.t 84) 4), (.seq 2),
    (.region [⟨(.some 6), (.mv (.c (.bool .false))), .none, [], []⟩] .false), .ret, .skip, (.seq 27), (.seq 2),
    (.region [⟨(.some 85), (.mv (.t 7)), .none, [], []⟩, ⟨(.some 86), (.mv (.t 10)), .none, [], []⟩, ⟨(.some 87), (.call 23 [(.t 85), (.t 86)]), .none, [], []⟩, ⟨(.some 88), (.len .false (.t 87)), .none, [], []⟩, ⟨(.some 89), (.mv (.c (.int .i64 0))), .none, [], []⟩] .false), (.block 2), .loop, (.seq 2),
    (.region [⟨(.some 90), (.bin .lss .o (.t 89) (.t 88)), .none, [], []⟩] .false), (.seq 4), (.cond (.t 90) 2), .skip, (.exit 2), (.seq 15), (.block 3), (.seq 2),
    (.region [⟨(.some 91), (.idx 45 5 (.t 87) (.t 89)), .none, [], []⟩, ⟨(.some 92), (.ld (.some 5) (.t 91)), .none, [], []⟩, ⟨(.some 15), (.alloc 45 [(.int .i64 0), (.int .i64 0), (.int .i64 0), (.int .i64 0), (.int .i64 0)]), .none, [], []⟩, ⟨.none, (.st 5 (.t 15) (.t 92)), .none, [], []⟩] .false), (.seq 2),
    (.region [⟨(.some 93), (.mv (.t 8)), .none, [], []⟩, ⟨(.some 94), (.call 21 [(.t 93)]), .none, [], []⟩, ⟨(.some 16), (.mv (.t 94)), .none, [], []⟩] .false), (.seq 8), (.seq 2),
    (.region [⟨(.some 95), (.mv (.t 16)), .none, [], [16]⟩, ⟨(.some 96), (.bin .lss .o (.t 95) (.c (.int .i64 0))), .none, [0], [95]⟩, ⟨(.some 97), (.mv (.t 96)), .none, [1], [96]⟩, ⟨(.some 98), (.mv (.t 8)), (.some ((.some 97), .false)), [2], [8, 97]⟩, ⟨(.some 99), (.mv (.t 16)), (.some ((.some 97), .false)), [2], [16, 97]⟩, ⟨(.some 100), (.idx 45 5 (.t 98) (.t 99)), (.some ((.some 97), .false)), [3, 4, 2], [98, 99, 97]⟩, ⟨(.some 101), (.ld (.some 5) (.t 100)), (.some ((.some 97), .false)), [5, 2], [100, 97]⟩, ⟨(.some 102), (.ld (.some 5) (.t 15)), (.some ((.some 97), .false)), [2], [15, 97]⟩, ⟨(.some 103), (.bin .neq (.ag [(0, 0), (1, 0), (2, 0), (3, 0), (4, 0)]) (.t 101) (.t 102)), (.some ((.some 97), .false)), [6, 7, 2], [101, 102, 97]⟩, ⟨(.some 104), (.pick (.t 97) (.c (.bool .true)) (.t 103)), .none, [2, 8], [97, 103]⟩, ⟨(.some 105), (.mv (.t 104)), .none, [9, 2], [104]⟩, ⟨(.some 106), (.fad 0 (.t 15)), (.some ((.some 105), .false)), [10], [15, 105]⟩, ⟨(.some 107), (.ld .none (.t 106)), (.some ((.some 105), .false)), [11, 10], [106, 105]⟩, ⟨(.some 108), (.mv (.t 10)), (.some ((.some 105), .false)), [10], [10, 105]⟩, ⟨(.some 109), (.bin .gtr .o (.t 107) (.t 108)), (.some ((.some 105), .false)), [12, 13, 10], [107, 108, 105]⟩, ⟨(.some 110), (.pick (.t 105) (.c (.bool .true)) (.t 109)), .none, [10, 14], [105, 109]⟩] .true), (.cond (.t 110) 4), (.seq 2),
    (.region [⟨(.some 6), (.mv (.c (.bool .false))), .none, [], []⟩] .false), .ret, .skip,
    (.region [⟨(.some 111), (.lit 45 5 0 [(.int .i64 0), (.int .i64 0), (.int .i64 0), (.int .i64 0), (.int .i64 0)] []), .none, [], []⟩, ⟨(.some 112), (.mv (.t 8)), .none, [], [8]⟩, ⟨(.some 113), (.mv (.t 16)), .none, [], [16]⟩, ⟨(.some 114), (.slc (.some 5) (.t 112) .none (.some (.t 113))), .none, [1, 2], [112, 113]⟩, ⟨(.some 115), (.app 45 5 40 [(.int .i64 0), (.int .i64 0), (.int .i64 0), (.int .i64 0), (.int .i64 0)] (.t 111) (.t 114)), .none, [0, 3], [111, 114]⟩, ⟨(.some 116), (.mv (.t 8)), .none, [], [8]⟩, ⟨(.some 117), (.mv (.t 16)), .none, [], [16]⟩, ⟨(.some 118), (.bin .add .o (.t 117) (.c (.int .i64 1))), .none, [6], [117]⟩, ⟨(.some 119), (.slc (.some 5) (.t 116) (.some (.t 118)) .none), .none, [5, 7], [116, 118]⟩, ⟨(.some 120), (.app 45 5 40 [(.int .i64 0), (.int .i64 0), (.int .i64 0), (.int .i64 0), (.int .i64 0)] (.t 115) (.t 119)), .none, [4, 8, 4], [115, 119]⟩, ⟨(.some 8), (.mv (.t 120)), .none, [9, 9, 0, 1, 2, 3, 4, 5, 6, 7, 8, 9], [120]⟩] .true),
    (.region [⟨(.some 121), (.bin .add .o (.t 89) (.c (.int .i64 1))), .none, [], []⟩, ⟨(.some 89), (.mv (.t 121)), .none, [], []⟩] .false), (.seq 2),
    (.region [⟨(.some 122), (.mv (.t 8)), .none, [], []⟩, ⟨(.some 123), (.call 21 [(.t 122)]), .none, [], []⟩, ⟨(.some 17), (.mv (.t 123)), .none, [], []⟩] .false), (.seq 2),
    (.region [⟨(.some 124), (.mv (.t 17)), .none, [], []⟩, ⟨(.some 125), (.bin .geq .o (.t 124) (.c (.int .i64 0))), .none, [], []⟩, ⟨(.some 126), (.mv (.t 125)), .none, [], []⟩, ⟨(.some 127), (.mv (.t 8)), (.some ((.some 126), .true)), [], []⟩, ⟨(.some 128), (.mv (.t 17)), (.some ((.some 126), .true)), [], []⟩, ⟨(.some 129), (.idx 45 5 (.t 127) (.t 128)), (.some ((.some 126), .true)), [], []⟩, ⟨(.some 130), (.fad 0 (.t 129)), (.some ((.some 126), .true)), [], []⟩, ⟨(.some 131), (.ld .none (.t 130)), (.some ((.some 126), .true)), [], []⟩, ⟨(.some 132), (.mv (.t 10)), (.some ((.some 126), .true)), [], []⟩, ⟨(.some 133), (.bin .leq .o (.t 131) (.t 132)), (.some ((.some 126), .true)), [], []⟩, ⟨(.some 134), (.pick (.t 126) (.t 133) (.c (.bool .false))), .none, [], []⟩, ⟨(.some 135), (.mv (.t 134)), .none, [], []⟩, ⟨(.some 136), (.mv (.t 7)), (.some ((.some 135), .false)), [], []⟩, ⟨(.some 137), (.call 24 [(.t 136)]), (.some ((.some 135), .false)), [], []⟩, ⟨(.some 138), (.mv (.t 8)), (.some ((.some 135), .false)), [], []⟩, ⟨(.some 139), (.len .false (.t 138)), (.some ((.some 135), .false)), [], []⟩, ⟨(.some 140), (.bin .neq .o (.t 137) (.t 139)), (.some ((.some 135), .false)), [], []⟩, ⟨(.some 141), (.pick (.t 135) (.c (.bool .true)) (.t 140)), .none, [], []⟩] .false), (.cond (.t 141) 4), (.seq 2),
    (.region [⟨(.some 6), (.mv (.c (.bool .false))), .none, [], []⟩] .false), .ret, .skip,
    (.region [⟨(.some 142), (.bin .add .o (.t 40) (.c (.int .i64 1))), .none, [], []⟩, ⟨(.some 40), (.mv (.t 142)), .none, [], []⟩] .false), (.seq 2),
    (.region [⟨(.some 6), (.mv (.c (.bool .true))), .none, [], []⟩] .false), .ret]
theorem F5_at : F5.at Try.prog 5 Try.f5 := ⟨Try.func5, by kernel_rfl, by kernel_rfl, by kernel_rfl, by kernel_rfl, by kernel_rfl⟩

-- "(*signalbox/ceiling.Locks).Len" res .true
def F17 : AFn where
  np := 1
  nt := 10
  res := [(.t 2)]
  tab := [(.seq 2),
    (.region [⟨(.some 2), (.mv (.c (.int .i64 0))), .none, [], []⟩] .false), (.seq 8), (.seq 2),
    (.region [⟨(.some 3), (.mv (.t 0)), .none, [], []⟩, ⟨(.some 4), (.bin .eql .p (.t 3) (.c .nilp)), .none, [], []⟩] .false), (.cond (.t 4) 4), (.seq 2),
    (.region [⟨(.some 2), (.mv (.c (.int .i64 0))), .none, [], []⟩] .false), .ret, .skip, (.seq 2),
    (.region [⟨(.some 5), (.mv (.t 0)), .none, [], []⟩, ⟨(.some 6), (.nilc (.t 5)), .none, [], []⟩, ⟨(.some 7), (.fad 0 (.t 6)), .none, [], []⟩, ⟨(.some 8), (.ld .none (.t 7)), .none, [], []⟩, ⟨(.some 9), (.len .false (.t 8)), .none, [], []⟩, ⟨(.some 2), (.mv (.t 9)), .none, [], []⟩] .false), .ret]
theorem F17_at : F17.at Try.prog 17 Try.f17 := ⟨Try.func17, by kernel_rfl, by kernel_rfl, by kernel_rfl, by kernel_rfl, by kernel_rfl⟩

-- "signalbox/signalboxlaw05.fixed" res .true
def F18 : AFn where
  np := 0
  nt := 46
  res := [(.t 0)]
  tab := [(.seq 2),
    (.region [⟨(.some 0), (.mv (.c (.bool .false))), .none, [], []⟩] .false), (.seq 2),
    (.region [⟨(.some 5), (.build [(.int .i64 0), (.int .i64 0), (.int .i64 0), (.int .i64 0), (.int .i64 0)] [(0, (1, (.c (.int .i64 5)))), (1, (1, (.c (.int .i64 1))))]), .none, [], []⟩, ⟨(.some 6), (.build [(.int .i64 0), (.int .i64 0), (.int .i64 0), (.int .i64 0), (.int .i64 0)] [(0, (1, (.c (.int .i64 3)))), (1, (1, (.c (.int .i64 2))))]), .none, [], []⟩, ⟨(.some 7), (.build [(.int .i64 0), (.int .i64 0), (.int .i64 0), (.int .i64 0), (.int .i64 0)] [(0, (1, (.c (.int .i64 3)))), (1, (1, (.c (.int .i64 3))))]), .none, [], []⟩, ⟨(.some 8), (.lit 45 5 3 [(.int .i64 0), (.int .i64 0), (.int .i64 0), (.int .i64 0), (.int .i64 0)] [(0, (.t 5)), (1, (.t 6)), (2, (.t 7))]), .none, [], []⟩, ⟨(.some 9), (.call 19 [(.t 8)]), .none, [], []⟩, ⟨(.some 1), (.mv (.t 9)), .none, [], []⟩] .false), (.seq 2),
    (.region [⟨(.some 11), (.mv (.t 1)), .none, [], []⟩, ⟨(.some 12), (.call 22 [(.t 11)]), .none, [], []⟩, ⟨(.some 10), (.mv (.t 12)), .none, [], []⟩, ⟨(.some 13), (.ext (.t 10) 0), .none, [], []⟩, ⟨(.some 14), (.ext (.t 10) 1), .none, [], []⟩, ⟨(.some 2), (.mv (.t 13)), .none, [], []⟩, ⟨(.some 3), (.mv (.t 14)), .none, [], []⟩] .false), (.seq 2),
    (.region [⟨(.some 15), (.mv (.t 1)), .none, [], []⟩, ⟨(.some 16), (.call 23 [(.t 15), (.c (.int .i64 4))]), .none, [], []⟩, ⟨(.some 4), (.mv (.t 16)), .none, [], []⟩] .false), (.seq 2),
    (.region [⟨(.some 17), (.mv (.t 3)), .none, [], []⟩, ⟨(.some 18), (.mv (.t 17)), .none, [], []⟩, ⟨(.some 19), (.mv (.t 2)), (.some ((.some 18), .true)), [], []⟩, ⟨(.some 20), (.bin .eql .o (.t 19) (.c (.int .i64 3))), (.some ((.some 18), .true)), [], []⟩, ⟨(.some 21), (.pick (.t 18) (.t 20) (.c (.bool .false))), .none, [], []⟩, ⟨(.some 22), (.mv (.t 21)), .none, [], []⟩, ⟨(.some 23), (.mv (.t 4)), (.some ((.some 22), .true)), [], []⟩, ⟨(.some 24), (.len .false (.t 23)), (.some ((.some 22), .true)), [], []⟩, ⟨(.some 25), (.bin .eql .o (.t 24) (.c (.int .i64 2))), (.some ((.some 22), .true)), [], []⟩, ⟨(.some 26), (.pick (.t 22) (.t 25) (.c (.bool .false))), .none, [], []⟩, ⟨(.some 27), (.mv (.t 26)), .none, [], []⟩, ⟨(.some 28), (.mv (.t 4)), (.some ((.some 27), .true)), [], []⟩, ⟨(.some 29), (.idx 45 5 (.t 28) (.c (.int .i64 0))), (.some ((.some 27), .true)), [], []⟩, ⟨(.some 30), (.fad 1 (.t 29)), (.some ((.some 27), .true)), [], []⟩, ⟨(.some 31), (.ld .none (.t 30)), (.some ((.some 27), .true)), [], []⟩, ⟨(.some 32), (.bin .eql .o (.t 31) (.c (.int .i64 2))), (.some ((.some 27), .true)), [], []⟩, ⟨(.some 33), (.pick (.t 27) (.t 32) (.c (.bool .false))), .none, [], []⟩, ⟨(.some 34), (.mv (.t 33)), .none, [], []⟩, ⟨(.some 35), (.mv (.t 4)), (.some ((.some 34), .true)), [], []⟩, ⟨(.some 36), (.idx 45 5 (.t 35) (.c (.int .i64 1))), (.some ((.some 34), .true)), [], []⟩, ⟨(.some 37), (.fad 1 (.t 36)), (.some ((.some 34), .true)), [], []⟩, ⟨(.some 38), (.ld .none (.t 37)), (.some ((.some 34), .true)), [], []⟩, ⟨(.some 39), (.bin .eql .o (.t 38) (.c (.int .i64 3))), (.some ((.some 34), .true)), [], []⟩, ⟨(.some 40), (.pick (.t 34) (.t 39) (.c (.bool .false))), .none, [], []⟩, ⟨(.some 41), (.mv (.t 40)), .none, [], []⟩, ⟨(.some 42), (.mv (.t 1)), (.some ((.some 41), .true)), [], []⟩, ⟨(.some 43), (.call 24 [(.t 42)]), (.some ((.some 41), .true)), [], []⟩, ⟨(.some 44), (.bin .eql .o (.t 43) (.c (.int .i64 1))), (.some ((.some 41), .true)), [], []⟩, ⟨(.some 45), (.pick (.t 41) (.t 44) (.c (.bool .false))), .none, [], []⟩, ⟨(.some 0), (.mv (.t 45)), .none, [], []⟩] .false), .ret]
theorem F18_at : F18.at Try.prog 18 Try.f18 := ⟨Try.func18, by kernel_rfl, by kernel_rfl, by kernel_rfl, by kernel_rfl, by kernel_rfl⟩

-- "signalbox/agenda.New" res .true
def F19 : AFn where
  np := 1
  nt := 19
  res := [(.t 2)]
  tab := [(.seq 2),
    (.region [⟨(.some 2), (.mv (.c .nilp)), .none, [], []⟩] .false), (.seq 2),
    (.region [⟨(.some 6), (.build [.nils, (.int .i64 0)] []), .none, [], []⟩, ⟨(.some 7), (.box 77 (.t 6)), .none, [], []⟩, ⟨(.some 3), (.mv (.t 7)), .none, [], []⟩] .false), (.seq 17), (.seq 2),
    (.region [⟨(.some 8), (.mv (.t 0)), .none, [], []⟩, ⟨(.some 9), (.len .false (.t 8)), .none, [], []⟩, ⟨(.some 10), (.mv (.c (.int .i64 0))), .none, [], []⟩] .false), (.block 0), .loop, (.seq 2),
    (.region [⟨(.some 11), (.bin .lss .o (.t 10) (.t 9)), .none, [], []⟩] .false), (.seq 4), (.cond (.t 11) 2), .skip, (.exit 0), (.seq 5), (.block 1), (.seq 2),
    (.region [⟨(.some 12), (.idx 45 5 (.t 8) (.t 10)), .none, [], []⟩, ⟨(.some 13), (.ld (.some 5) (.t 12)), .none, [], []⟩, ⟨(.some 5), (.alloc 45 [(.int .i64 0), (.int .i64 0), (.int .i64 0), (.int .i64 0), (.int .i64 0)]), .none, [], []⟩, ⟨.none, (.st 5 (.t 5) (.t 13)), .none, [], []⟩] .false),
    (.region [⟨(.some 14), (.mv (.t 3)), .none, [], []⟩, ⟨(.some 15), (.ld (.some 5) (.t 5)), .none, [], []⟩, ⟨(.some 16), (.call 20 [(.t 14), (.t 15)]), .none, [], []⟩] .false),
    (.region [⟨(.some 17), (.bin .add .o (.t 10) (.c (.int .i64 1))), .none, [], []⟩, ⟨(.some 10), (.mv (.t 17)), .none, [], []⟩] .false), (.seq 2),
    (.region [⟨(.some 18), (.mv (.t 3)), .none, [], []⟩, ⟨(.some 2), (.mv (.t 18)), .none, [], []⟩] .false), .ret]
theorem F19_at : F19.at Try.prog 19 Try.f19 := ⟨Try.func19, by kernel_rfl, by kernel_rfl, by kernel_rfl, by kernel_rfl, by kernel_rfl⟩

-- "(*signalbox/agenda.Agenda).Put" res .true
def F20 : AFn where
  np := 2
  nt := 25
  res := []
  tab := [(.seq 2),
    (.region [⟨(.some 3), (.box 45 (.t 1)), .none, [], []⟩] .false), (.seq 2),
    (.region [⟨(.some 4), (.mv (.t 0)), .none, [], []⟩, ⟨(.some 5), (.bin .neq .p (.t 4) (.c .nilp)), .none, [], []⟩] .false), (.cond (.t 5) 4), (.seq 2),
    (.region [⟨(.some 6), (.mv (.t 0)), .none, [], [0]⟩, ⟨(.some 7), (.nilc (.t 6)), .none, [0], [6]⟩, ⟨(.some 8), (.fad 0 (.t 7)), .none, [1], [7]⟩, ⟨(.some 9), (.mki 79 (.t 8)), .none, [2], [8]⟩, ⟨(.some 10), (.ld (.some 5) (.t 3)), .none, [], [3]⟩, ⟨(.some 11), (.mv (.t 0)), .none, [], [0]⟩, ⟨(.some 12), (.nilc (.t 11)), .none, [5], [11]⟩, ⟨(.some 13), (.fad 1 (.t 12)), .none, [6], [12]⟩, ⟨(.some 14), (.ld .none (.t 13)), .none, [7], [13]⟩, ⟨(.some 15), (.build [(.int .i64 0), (.int .i64 0), (.int .i64 0), (.int .i64 0), (.int .i64 0), (.int .i64 0)] [(0, (5, (.t 10))), (5, (1, (.t 14)))]), .none, [4, 8], [10, 14]⟩, ⟨(.some 16), (.mki 81 (.t 15)), .none, [9], [15]⟩, ⟨(.some 17), (.call 37 [(.t 9), (.t 16)]), .none, [3, 10], [9, 16]⟩] .true),
    (.region [⟨(.some 18), (.mv (.t 0)), .none, [], []⟩, ⟨(.some 19), (.nilc (.t 18)), .none, [], []⟩, ⟨(.some 20), (.fad 1 (.t 19)), .none, [], []⟩, ⟨(.some 21), (.ld .none (.t 20)), .none, [], []⟩, ⟨(.some 22), (.bin .add .o (.t 21) (.c (.int .i64 1))), .none, [], []⟩, ⟨(.some 23), (.nilc (.t 18)), .none, [], []⟩, ⟨(.some 24), (.fad 1 (.t 23)), .none, [], []⟩, ⟨.none, (.st 1 (.t 24) (.t 22)), .none, [], []⟩] .false), .skip]
theorem F20_at : F20.at Try.prog 20 Try.f20 := ⟨Try.func20, by kernel_rfl, by kernel_rfl, by kernel_rfl, by kernel_rfl, by kernel_rfl⟩

-- "signalbox/signalboxlaw05.first" res .true
def F21 : AFn where
  np := 1
  nt := 28
  res := [(.t 2)]
  tab := [(.seq 2),
    (.region [⟨(.some 2), (.mv (.c (.int .i64 0))), .none, [], []⟩] .false), (.seq 2),
    (.region [⟨(.some 3), (.mv (.c (.int .i64 (-1)))), .none, [], []⟩] .false), (.seq 21), (.seq 2),
    (.region [⟨(.some 6), (.mv (.t 0)), .none, [], []⟩, ⟨(.some 7), (.len .false (.t 6)), .none, [], []⟩, ⟨(.some 8), (.mv (.c (.int .i64 0))), .none, [], []⟩] .false), (.block 0), .loop, (.seq 2),
    (.region [⟨(.some 9), (.bin .lss .o (.t 8) (.t 7)), .none, [], []⟩] .false), (.seq 4), (.cond (.t 9) 2), .skip, (.exit 0), (.seq 9), (.block 1), (.seq 2),
    (.region [⟨(.some 10), (.mv (.t 8)), .none, [], []⟩, ⟨(.some 11), (.idx 45 5 (.t 6) (.t 8)), .none, [], []⟩, ⟨(.some 12), (.ld (.some 5) (.t 11)), .none, [], []⟩, ⟨(.some 5), (.alloc 45 [(.int .i64 0), (.int .i64 0), (.int .i64 0), (.int .i64 0), (.int .i64 0)]), .none, [], []⟩, ⟨(.some 4), (.mv (.t 10)), .none, [], []⟩, ⟨.none, (.st 5 (.t 5) (.t 12)), .none, [], []⟩] .false), (.seq 2),
    (.region [⟨(.some 13), (.mv (.t 3)), .none, [], [3]⟩, ⟨(.some 14), (.bin .lss .o (.t 13) (.c (.int .i64 0))), .none, [0], [13]⟩, ⟨(.some 15), (.mv (.t 14)), .none, [1], [14]⟩, ⟨(.some 16), (.fad 0 (.t 5)), (.some ((.some 15), .false)), [2], [5, 15]⟩, ⟨(.some 17), (.ld .none (.t 16)), (.some ((.some 15), .false)), [3, 2], [16, 15]⟩, ⟨(.some 18), (.mv (.t 0)), (.some ((.some 15), .false)), [2], [0, 15]⟩, ⟨(.some 19), (.mv (.t 3)), (.some ((.some 15), .false)), [2], [3, 15]⟩, ⟨(.some 20), (.idx 45 5 (.t 18) (.t 19)), (.some ((.some 15), .false)), [5, 6, 2], [18, 19, 15]⟩, ⟨(.some 21), (.fad 0 (.t 20)), (.some ((.some 15), .false)), [7, 2], [20, 15]⟩, ⟨(.some 22), (.ld .none (.t 21)), (.some ((.some 15), .false)), [8, 2], [21, 15]⟩, ⟨(.some 23), (.bin .lss .o (.t 17) (.t 22)), (.some ((.some 15), .false)), [4, 9, 2], [17, 22, 15]⟩, ⟨(.some 24), (.pick (.t 15) (.c (.bool .true)) (.t 23)), .none, [2, 10], [15, 23]⟩] .true), (.cond (.t 24) 2),
    (.region [⟨(.some 25), (.mv (.t 4)), .none, [], []⟩, ⟨(.some 3), (.mv (.t 25)), .none, [], []⟩] .false), .skip,
    (.region [⟨(.some 26), (.bin .add .o (.t 8) (.c (.int .i64 1))), .none, [], []⟩, ⟨(.some 8), (.mv (.t 26)), .none, [], []⟩] .false), (.seq 2),
    (.region [⟨(.some 27), (.mv (.t 3)), .none, [], []⟩, ⟨(.some 2), (.mv (.t 27)), .none, [], []⟩] .false), .ret]
theorem F21_at : F21.at Try.prog 21 Try.f21 := ⟨Try.func21, by kernel_rfl, by kernel_rfl, by kernel_rfl, by kernel_rfl, by kernel_rfl⟩

-- "(*signalbox/agenda.Agenda).Next" res .true
def F22 : AFn where
  np := 1
  nt := 15
  res := [(.t 2), (.t 3)]
  tab := [(.seq 2),
    (.region [⟨(.some 2), (.mv (.c (.int .i64 0))), .none, [], []⟩, ⟨(.some 3), (.mv (.c (.bool .false))), .none, [], []⟩] .false), (.seq 8), (.seq 2),
    (.region [⟨(.some 4), (.mv (.t 0)), .none, [], []⟩, ⟨(.some 5), (.call 24 [(.t 4)]), .none, [], []⟩, ⟨(.some 6), (.bin .eql .o (.t 5) (.c (.int .i64 0))), .none, [], []⟩] .false), (.cond (.t 6) 4), (.seq 2),
    (.region [⟨(.some 2), (.mv (.c (.int .i64 0))), .none, [], []⟩, ⟨(.some 3), (.mv (.c (.bool .false))), .none, [], []⟩] .false), .ret, .skip, (.seq 2),
    (.region [⟨(.some 7), (.mv (.t 0)), .none, [], []⟩, ⟨(.some 8), (.nilc (.t 7)), .none, [], []⟩, ⟨(.some 9), (.fad 0 (.t 8)), .none, [], []⟩, ⟨(.some 10), (.ld .none (.t 9)), .none, [], []⟩, ⟨(.some 11), (.idx 81 6 (.t 10) (.c (.int .i64 0))), .none, [], []⟩, ⟨(.some 12), (.fad 0 (.t 11)), .none, [], []⟩, ⟨(.some 13), (.fad 0 (.t 12)), .none, [], []⟩, ⟨(.some 14), (.ld .none (.t 13)), .none, [], []⟩, ⟨(.some 2), (.mv (.t 14)), .none, [], []⟩, ⟨(.some 3), (.mv (.c (.bool .true))), .none, [], []⟩] .false), .ret]
theorem F22_at : F22.at Try.prog 22 Try.f22 := ⟨Try.func22, by kernel_rfl, by kernel_rfl, by kernel_rfl, by kernel_rfl, by kernel_rfl⟩

-- "(*signalbox/agenda.Agenda).Take" res .true
def F23 : AFn where
  np := 2
  nt := 39
  res := [(.t 4)]
  tab := [(.seq 2),
    (.region [⟨(.some 4), (.mv (.c .nils)), .none, [], []⟩] .false), (.seq 2),
    (.region [⟨(.some 5), (.mv (.c .nils)), .none, [], []⟩] .false), (.seq 17), (.block 0), .loop, (.seq 6), (.seq 2),
    (.region [⟨(.some 8), (.mv (.t 0)), .none, [], []⟩, ⟨(.some 9), (.call 24 [(.t 8)]), .none, [], []⟩, ⟨(.some 10), (.bin .gtr .o (.t 9) (.c (.int .i64 0))), .none, [], []⟩, ⟨(.some 11), (.mv (.t 10)), .none, [], []⟩, ⟨(.some 12), (.mv (.t 0)), (.some ((.some 11), .true)), [], []⟩, ⟨(.some 13), (.nilc (.t 12)), (.some ((.some 11), .true)), [], []⟩, ⟨(.some 14), (.fad 0 (.t 13)), (.some ((.some 11), .true)), [], []⟩, ⟨(.some 15), (.ld .none (.t 14)), (.some ((.some 11), .true)), [], []⟩, ⟨(.some 16), (.idx 81 6 (.t 15) (.c (.int .i64 0))), (.some ((.some 11), .true)), [], []⟩, ⟨(.some 17), (.fad 0 (.t 16)), (.some ((.some 11), .true)), [], []⟩, ⟨(.some 18), (.fad 0 (.t 17)), (.some ((.some 11), .true)), [], []⟩, ⟨(.some 19), (.ld .none (.t 18)), (.some ((.some 11), .true)), [], []⟩, ⟨(.some 20), (.mv (.t 1)), (.some ((.some 11), .true)), [], []⟩, ⟨(.some 21), (.bin .leq .o (.t 19) (.t 20)), (.some ((.some 11), .true)), [], []⟩, ⟨(.some 22), (.pick (.t 11) (.t 21) (.c (.bool .false))), .none, [], []⟩] .false), (.cond (.t 22) 2), .skip, (.exit 0), (.block 1), (.seq 2),
    (.region [⟨(.some 24), (.mv (.t 0)), .none, [], []⟩, ⟨(.some 25), (.nilc (.t 24)), .none, [], []⟩, ⟨(.some 26), (.fad 0 (.t 25)), .none, [], []⟩, ⟨(.some 27), (.mki 79 (.t 26)), .none, [], []⟩, ⟨(.some 28), (.call 38 [(.t 27)]), .none, [], []⟩, ⟨(.some 29), (.asrt 81 [(.int .i64 0), (.int .i64 0), (.int .i64 0), (.int .i64 0), (.int .i64 0), (.int .i64 0)] .true .true (.t 28)), .none, [], []⟩, ⟨(.some 23), (.mv (.t 29)), .none, [], []⟩, ⟨(.some 30), (.ext (.t 23) 0), .none, [], []⟩, ⟨(.some 31), (.ext (.t 23) 1), .none, [], []⟩, ⟨(.some 6), (.alloc 81 [(.int .i64 0), (.int .i64 0), (.int .i64 0), (.int .i64 0), (.int .i64 0), (.int .i64 0)]), .none, [], []⟩, ⟨.none, (.st 6 (.t 6) (.t 30)), .none, [], []⟩, ⟨(.some 7), (.mv (.t 31)), .none, [], []⟩] .false), (.seq 2),
    (.region [⟨(.some 32), (.mv (.t 7)), .none, [], []⟩] .false), (.cond (.t 32) 2),
    (.region [⟨(.some 33), (.mv (.t 5)), .none, [], []⟩, ⟨(.some 34), (.fad 0 (.t 6)), .none, [], []⟩, ⟨(.some 35), (.ld (.some 5) (.t 34)), .none, [], []⟩, ⟨(.some 36), (.lit 45 5 1 [(.int .i64 0), (.int .i64 0), (.int .i64 0), (.int .i64 0), (.int .i64 0)] [(0, (.t 35))]), .none, [], []⟩, ⟨(.some 37), (.app 45 5 40 [(.int .i64 0), (.int .i64 0), (.int .i64 0), (.int .i64 0), (.int .i64 0)] (.t 33) (.t 36)), .none, [], []⟩, ⟨(.some 5), (.mv (.t 37)), .none, [], []⟩] .false), .skip, (.seq 2),
    (.region [⟨(.some 38), (.mv (.t 5)), .none, [], []⟩, ⟨(.some 4), (.mv (.t 38)), .none, [], []⟩] .false), .ret]
theorem F23_at : F23.at Try.prog 23 Try.f23 := ⟨Try.func23, by kernel_rfl, by kernel_rfl, by kernel_rfl, by kernel_rfl, by kernel_rfl⟩

-- "(*signalbox/agenda.Agenda).Len" res .true
def F24 : AFn where
  np := 1
  nt := 10
  res := [(.t 2)]
  tab := [(.seq 2),
    (.region [⟨(.some 2), (.mv (.c (.int .i64 0))), .none, [], []⟩] .false), (.seq 8), (.seq 2),
    (.region [⟨(.some 3), (.mv (.t 0)), .none, [], []⟩, ⟨(.some 4), (.bin .eql .p (.t 3) (.c .nilp)), .none, [], []⟩] .false), (.cond (.t 4) 4), (.seq 2),
    (.region [⟨(.some 2), (.mv (.c (.int .i64 0))), .none, [], []⟩] .false), .ret, .skip, (.seq 2),
    (.region [⟨(.some 5), (.mv (.t 0)), .none, [], []⟩, ⟨(.some 6), (.nilc (.t 5)), .none, [], []⟩, ⟨(.some 7), (.fad 0 (.t 6)), .none, [], []⟩, ⟨(.some 8), (.ld .none (.t 7)), .none, [], []⟩, ⟨(.some 9), (.len .false (.t 8)), .none, [], []⟩, ⟨(.some 2), (.mv (.t 9)), .none, [], []⟩] .false), .ret]
theorem F24_at : F24.at Try.prog 24 Try.f24 := ⟨Try.func24, by kernel_rfl, by kernel_rfl, by kernel_rfl, by kernel_rfl, by kernel_rfl⟩

-- "container/heap.Push" res .true
def F37 : AFn where
  np := 2
  nt := 12
  res := []
  tab := [(.seq 2),
    (.region [⟨(.some 4), (.mv (.t 0)), .none, [], []⟩, ⟨(.some 5), (.mv (.t 1)), .none, [], []⟩, ⟨(.some 6), (.inv [(79, (91, .none))] (.t 4) [(.t 5)]), .none, [], []⟩] .false),
    (.region [⟨(.some 7), (.mv (.t 0)), .none, [], []⟩, ⟨(.some 8), (.mv (.t 0)), .none, [], []⟩, ⟨(.some 9), (.inv [(17, (84, .none)), (25, (17, .none)), (41, (24, .none)), (75, (87, .none)), (79, (87, (.some .none)))] (.t 8) []), .none, [], []⟩, ⟨(.some 10), (.bin .sub .o (.t 9) (.c (.int .i64 1))), .none, [], []⟩, ⟨(.some 11), (.call 57 [(.t 7), (.t 10)]), .none, [], []⟩] .false)]
theorem F37_at : F37.at Try.prog 37 Try.f37 := ⟨Try.func37, by kernel_rfl, by kernel_rfl, by kernel_rfl, by kernel_rfl, by kernel_rfl⟩

-- "container/heap.Pop" res .true
def F38 : AFn where
  np := 1
  nt := 15
  res := [(.t 2)]
  tab := [(.seq 2),
    (.region [⟨(.some 2), (.mv (.c .nili)), .none, [], []⟩] .false), (.seq 2),
    (.region [⟨(.some 4), (.mv (.t 0)), .none, [], []⟩, ⟨(.some 5), (.inv [(17, (84, .none)), (25, (17, .none)), (41, (24, .none)), (75, (87, .none)), (79, (87, (.some .none)))] (.t 4) []), .none, [], []⟩, ⟨(.some 6), (.bin .sub .o (.t 5) (.c (.int .i64 1))), .none, [], []⟩, ⟨(.some 3), (.mv (.t 6)), .none, [], []⟩] .false), (.seq 2),
    (.region [⟨(.some 7), (.mv (.t 0)), .none, [], []⟩, ⟨(.some 8), (.mv (.t 3)), .none, [], []⟩, ⟨(.some 9), (.inv [(75, (89, .none)), (79, (89, (.some .none)))] (.t 7) [(.c (.int .i64 0)), (.t 8)]), .none, [], []⟩] .false), (.seq 2),
    (.region [⟨(.some 10), (.mv (.t 0)), .none, [], []⟩, ⟨(.some 11), (.mv (.t 3)), .none, [], []⟩, ⟨(.some 12), (.call 58 [(.t 10), (.c (.int .i64 0)), (.t 11)]), .none, [], []⟩] .false), (.seq 2),
    (.region [⟨(.some 13), (.mv (.t 0)), .none, [], []⟩, ⟨(.some 14), (.inv [(79, (90, .none))] (.t 13) []), .none, [], []⟩, ⟨(.some 2), (.mv (.t 14)), .none, [], []⟩] .false), .ret]
theorem F38_at : F38.at Try.prog 38 Try.f38 := ⟨Try.func38, by kernel_rfl, by kernel_rfl, by kernel_rfl, by kernel_rfl, by kernel_rfl⟩

-- "container/heap.up" res .true
def F57 : AFn where
  np := 2
  nt := 23
  res := []
  tab := [(.block 0), .loop, (.block 1), (.seq 2),
    (.region [⟨(.some 5), (.mv (.t 1)), .none, [], []⟩, ⟨(.some 6), (.bin .sub .o (.t 5) (.c (.int .i64 1))), .none, [], []⟩, ⟨(.some 7), (.bin .quo .o (.t 6) (.c (.int .i64 2))), .none, [], []⟩, ⟨(.some 4), (.mv (.t 7)), .none, [], []⟩] .false), (.seq 6), (.seq 2),
    (.region [⟨(.some 8), (.mv (.t 4)), .none, [], []⟩, ⟨(.some 9), (.mv (.t 1)), .none, [], []⟩, ⟨(.some 10), (.bin .eql .o (.t 8) (.t 9)), .none, [], []⟩, ⟨(.some 11), (.mv (.t 10)), .none, [], []⟩, ⟨(.some 12), (.mv (.t 0)), (.some ((.some 11), .false)), [], []⟩, ⟨(.some 13), (.mv (.t 1)), (.some ((.some 11), .false)), [], []⟩, ⟨(.some 14), (.mv (.t 4)), (.some ((.some 11), .false)), [], []⟩, ⟨(.some 15), (.inv [(75, (88, .none)), (79, (88, (.some .none)))] (.t 12) [(.t 13), (.t 14)]), (.some ((.some 11), .false)), [], []⟩, ⟨(.some 16), (.un .not (.t 15)), (.some ((.some 11), .false)), [], []⟩, ⟨(.some 17), (.pick (.t 11) (.c (.bool .true)) (.t 16)), .none, [], []⟩] .false), (.cond (.t 17) 2), (.exit 0), .skip, (.seq 2),
    (.region [⟨(.some 18), (.mv (.t 0)), .none, [], []⟩, ⟨(.some 19), (.mv (.t 4)), .none, [], []⟩, ⟨(.some 20), (.mv (.t 1)), .none, [], []⟩, ⟨(.some 21), (.inv [(75, (89, .none)), (79, (89, (.some .none)))] (.t 18) [(.t 19), (.t 20)]), .none, [], []⟩] .false),
    (.region [⟨(.some 22), (.mv (.t 4)), .none, [], []⟩, ⟨(.some 1), (.mv (.t 22)), .none, [], []⟩] .false)]
theorem F57_at : F57.at Try.prog 57 Try.f57 := ⟨Try.func57, by kernel_rfl, by kernel_rfl, by kernel_rfl, by kernel_rfl, by kernel_rfl⟩

-- "container/heap.down" res .true
def F58 : AFn where
  np := 3
  nt := 48
  res := [(.t 6)]
  tab := [(.seq 2),
    (.region [⟨(.some 6), (.mv (.c (.bool .false))), .none, [], []⟩] .false), (.seq 2),
    (.region [⟨(.some 11), (.mv (.t 1)), .none, [], []⟩, ⟨(.some 7), (.mv (.t 11)), .none, [], []⟩] .false), (.seq 31), (.block 0), .loop, (.block 1), (.seq 2),
    (.region [⟨(.some 12), (.mv (.t 7)), .none, [], []⟩, ⟨(.some 13), (.bin .mul .o (.c (.int .i64 2)) (.t 12)), .none, [], []⟩, ⟨(.some 14), (.bin .add .o (.t 13) (.c (.int .i64 1))), .none, [], []⟩, ⟨(.some 8), (.mv (.t 14)), .none, [], []⟩] .false), (.seq 6), (.seq 2),
    (.region [⟨(.some 15), (.mv (.t 8)), .none, [], []⟩, ⟨(.some 16), (.mv (.t 2)), .none, [], []⟩, ⟨(.some 17), (.bin .geq .o (.t 15) (.t 16)), .none, [], []⟩, ⟨(.some 18), (.mv (.t 17)), .none, [], []⟩, ⟨(.some 19), (.mv (.t 8)), (.some ((.some 18), .false)), [], []⟩, ⟨(.some 20), (.bin .lss .o (.t 19) (.c (.int .i64 0))), (.some ((.some 18), .false)), [], []⟩, ⟨(.some 21), (.pick (.t 18) (.c (.bool .true)) (.t 20)), .none, [], []⟩] .false), (.cond (.t 21) 2), (.exit 0), .skip, (.seq 2),
    (.region [⟨(.some 22), (.mv (.t 8)), .none, [], []⟩, ⟨(.some 9), (.mv (.t 22)), .none, [], []⟩] .false), (.seq 8), (.seq 2),
    (.region [⟨(.some 23), (.mv (.t 8)), .none, [], []⟩, ⟨(.some 24), (.bin .add .o (.t 23) (.c (.int .i64 1))), .none, [], []⟩, ⟨(.some 10), (.mv (.t 24)), .none, [], []⟩] .false), (.seq 2),
    (.region [⟨(.some 25), (.mv (.t 10)), .none, [], []⟩, ⟨(.some 26), (.mv (.t 2)), .none, [], []⟩, ⟨(.some 27), (.bin .lss .o (.t 25) (.t 26)), .none, [], []⟩, ⟨(.some 28), (.mv (.t 27)), .none, [], []⟩, ⟨(.some 29), (.mv (.t 0)), (.some ((.some 28), .true)), [], []⟩, ⟨(.some 30), (.mv (.t 10)), (.some ((.some 28), .true)), [], []⟩, ⟨(.some 31), (.mv (.t 8)), (.some ((.some 28), .true)), [], []⟩, ⟨(.some 32), (.inv [(75, (88, .none)), (79, (88, (.some .none)))] (.t 29) [(.t 30), (.t 31)]), (.some ((.some 28), .true)), [], []⟩, ⟨(.some 33), (.pick (.t 28) (.t 32) (.c (.bool .false))), .none, [], []⟩] .false), (.cond (.t 33) 2),
    (.region [⟨(.some 34), (.mv (.t 10)), .none, [], []⟩, ⟨(.some 9), (.mv (.t 34)), .none, [], []⟩] .false), .skip, (.seq 6), (.seq 2),
    (.region [⟨(.some 35), (.mv (.t 0)), .none, [], []⟩, ⟨(.some 36), (.mv (.t 9)), .none, [], []⟩, ⟨(.some 37), (.mv (.t 7)), .none, [], []⟩, ⟨(.some 38), (.inv [(75, (88, .none)), (79, (88, (.some .none)))] (.t 35) [(.t 36), (.t 37)]), .none, [], []⟩, ⟨(.some 39), (.un .not (.t 38)), .none, [], []⟩] .false), (.cond (.t 39) 2), (.exit 0), .skip, (.seq 2),
    (.region [⟨(.some 40), (.mv (.t 0)), .none, [], []⟩, ⟨(.some 41), (.mv (.t 7)), .none, [], []⟩, ⟨(.some 42), (.mv (.t 9)), .none, [], []⟩, ⟨(.some 43), (.inv [(75, (89, .none)), (79, (89, (.some .none)))] (.t 40) [(.t 41), (.t 42)]), .none, [], []⟩] .false),
    (.region [⟨(.some 44), (.mv (.t 9)), .none, [], []⟩, ⟨(.some 7), (.mv (.t 44)), .none, [], []⟩] .false), (.seq 2),
    (.region [⟨(.some 45), (.mv (.t 7)), .none, [], []⟩, ⟨(.some 46), (.mv (.t 1)), .none, [], []⟩, ⟨(.some 47), (.bin .gtr .o (.t 45) (.t 46)), .none, [], []⟩, ⟨(.some 6), (.mv (.t 47)), .none, [], []⟩] .false), .ret]
theorem F58_at : F58.at Try.prog 58 Try.f58 := ⟨Try.func58, by kernel_rfl, by kernel_rfl, by kernel_rfl, by kernel_rfl, by kernel_rfl⟩

-- "(signalbox/agenda.entries).Len" res .true
def F87 : AFn where
  np := 1
  nt := 5
  res := [(.t 2)]
  tab := [(.seq 2),
    (.region [⟨(.some 2), (.mv (.c (.int .i64 0))), .none, [], []⟩] .false), (.seq 2),
    (.region [⟨(.some 3), (.mv (.t 0)), .none, [], []⟩, ⟨(.some 4), (.len .false (.t 3)), .none, [], []⟩, ⟨(.some 2), (.mv (.t 4)), .none, [], []⟩] .false), .ret]
theorem F87_at : F87.at Try.prog 87 Try.f87 := ⟨Try.func87, by kernel_rfl, by kernel_rfl, by kernel_rfl, by kernel_rfl, by kernel_rfl⟩

-- "(signalbox/agenda.entries).Less" res .true
def F88 : AFn where
  np := 3
  nt := 36
  res := [(.t 6)]
  tab := [(.seq 2),
    (.region [⟨(.some 6), (.mv (.c (.bool .false))), .none, [], []⟩] .false), (.seq 2),
    (.region [⟨(.some 9), (.mv (.t 0)), .none, [], [0]⟩, ⟨(.some 10), (.mv (.t 1)), .none, [], [1]⟩, ⟨(.some 11), (.idx 81 6 (.t 9) (.t 10)), .none, [0, 1], [9, 10]⟩, ⟨(.some 12), (.ld (.some 6) (.t 11)), .none, [2], [11]⟩, ⟨(.some 13), (.mv (.t 0)), .none, [], [0]⟩, ⟨(.some 14), (.mv (.t 2)), .none, [], [2]⟩, ⟨(.some 15), (.idx 81 6 (.t 13) (.t 14)), .none, [4, 5], [13, 14]⟩, ⟨(.some 16), (.ld (.some 6) (.t 15)), .none, [6], [15]⟩, ⟨(.some 7), (.alloc 81 [(.int .i64 0), (.int .i64 0), (.int .i64 0), (.int .i64 0), (.int .i64 0), (.int .i64 0)]), .none, [], []⟩, ⟨(.some 8), (.alloc 81 [(.int .i64 0), (.int .i64 0), (.int .i64 0), (.int .i64 0), (.int .i64 0), (.int .i64 0)]), .none, [], []⟩, ⟨.none, (.st 6 (.t 7) (.t 12)), .none, [8, 3, 0, 1, 2, 3, 8, 9], [7, 12]⟩, ⟨.none, (.st 6 (.t 8) (.t 16)), .none, [9, 7, 10, 0, 1, 2, 3, 4, 5, 6, 7, 8, 9, 10], [8, 16]⟩] .true), (.seq 8), (.seq 2),
    (.region [⟨(.some 17), (.fad 0 (.t 7)), .none, [], []⟩, ⟨(.some 18), (.fad 0 (.t 17)), .none, [], []⟩, ⟨(.some 19), (.ld .none (.t 18)), .none, [], []⟩, ⟨(.some 20), (.fad 0 (.t 8)), .none, [], []⟩, ⟨(.some 21), (.fad 0 (.t 20)), .none, [], []⟩, ⟨(.some 22), (.ld .none (.t 21)), .none, [], []⟩, ⟨(.some 23), (.bin .neq .o (.t 19) (.t 22)), .none, [], []⟩] .false), (.cond (.t 23) 4), (.seq 2),
    (.region [⟨(.some 24), (.fad 0 (.t 7)), .none, [], []⟩, ⟨(.some 25), (.fad 0 (.t 24)), .none, [], []⟩, ⟨(.some 26), (.ld .none (.t 25)), .none, [], []⟩, ⟨(.some 27), (.fad 0 (.t 8)), .none, [], []⟩, ⟨(.some 28), (.fad 0 (.t 27)), .none, [], []⟩, ⟨(.some 29), (.ld .none (.t 28)), .none, [], []⟩, ⟨(.some 30), (.bin .lss .o (.t 26) (.t 29)), .none, [], []⟩, ⟨(.some 6), (.mv (.t 30)), .none, [], []⟩] .false), .ret, .skip, (.seq 2),
    (.region [⟨(.some 31), (.fad 5 (.t 7)), .none, [], []⟩, ⟨(.some 32), (.ld .none (.t 31)), .none, [], []⟩, ⟨(.some 33), (.fad 5 (.t 8)), .none, [], []⟩, ⟨(.some 34), (.ld .none (.t 33)), .none, [], []⟩, ⟨(.some 35), (.bin .lss .o (.t 32) (.t 34)), .none, [], []⟩, ⟨(.some 6), (.mv (.t 35)), .none, [], []⟩] .false), .ret]
theorem F88_at : F88.at Try.prog 88 Try.f88 := ⟨Try.func88, by kernel_rfl, by kernel_rfl, by kernel_rfl, by kernel_rfl, by kernel_rfl⟩

-- "(signalbox/agenda.entries).Swap" res .true
def F89 : AFn where
  np := 3
  nt := 20
  res := []
  tab := [(.region [⟨(.some 6), (.mv (.t 0)), .none, [], [0]⟩, ⟨(.some 7), (.mv (.t 1)), .none, [], [1]⟩, ⟨(.some 8), (.mv (.t 0)), .none, [], [0]⟩, ⟨(.some 9), (.mv (.t 2)), .none, [], [2]⟩, ⟨(.some 10), (.mv (.t 0)), .none, [], [0]⟩, ⟨(.some 11), (.mv (.t 2)), .none, [], [2]⟩, ⟨(.some 12), (.idx 81 6 (.t 10) (.t 11)), .none, [4, 5], [10, 11]⟩, ⟨(.some 13), (.ld (.some 6) (.t 12)), .none, [6], [12]⟩, ⟨(.some 14), (.mv (.t 0)), .none, [], [0]⟩, ⟨(.some 15), (.mv (.t 1)), .none, [], [1]⟩, ⟨(.some 16), (.idx 81 6 (.t 14) (.t 15)), .none, [8, 9], [14, 15]⟩, ⟨(.some 17), (.ld (.some 6) (.t 16)), .none, [10], [16]⟩, ⟨(.some 18), (.idx 81 6 (.t 6) (.t 7)), .none, [0, 1, 0, 1, 4, 5, 6, 7, 11], [6, 7]⟩, ⟨.none, (.st 6 (.t 18) (.t 13)), .none, [12, 7, 0, 1, 4, 5, 6, 7, 11], [18, 13]⟩, ⟨(.some 19), (.idx 81 6 (.t 8) (.t 9)), .none, [2, 3, 0, 1, 2, 3, 4, 5, 6, 7, 8, 9, 10, 11, 12, 13], [8, 9]⟩, ⟨.none, (.st 6 (.t 19) (.t 17)), .none, [14, 11, 13, 0, 1, 2, 3, 4, 5, 6, 7, 8, 9, 10, 11, 12, 13], [19, 17]⟩] .true)]
theorem F89_at : F89.at Try.prog 89 Try.f89 := ⟨Try.func89, by kernel_rfl, by kernel_rfl, by kernel_rfl, by kernel_rfl, by kernel_rfl⟩

-- "(*signalbox/agenda.entries).Pop" res .true
def F90 : AFn where
  np := 1
  nt := 25
  res := [(.t 2)]
  tab := [(.seq 2),
    (.region [⟨(.some 2), (.mv (.c .nili)), .none, [], []⟩] .false), (.seq 2),
    (.region [⟨(.some 5), (.mv (.t 0)), .none, [], []⟩, ⟨(.some 6), (.nilc (.t 5)), .none, [], []⟩, ⟨(.some 7), (.ld .none (.t 6)), .none, [], []⟩, ⟨(.some 8), (.len .false (.t 7)), .none, [], []⟩, ⟨(.some 9), (.bin .sub .o (.t 8) (.c (.int .i64 1))), .none, [], []⟩, ⟨(.some 3), (.mv (.t 9)), .none, [], []⟩] .false), (.seq 2),
    (.region [⟨(.some 10), (.mv (.t 0)), .none, [], []⟩, ⟨(.some 11), (.nilc (.t 10)), .none, [], []⟩, ⟨(.some 12), (.ld .none (.t 11)), .none, [], []⟩, ⟨(.some 13), (.mv (.t 3)), .none, [], []⟩, ⟨(.some 14), (.idx 81 6 (.t 12) (.t 13)), .none, [], []⟩, ⟨(.some 15), (.ld (.some 6) (.t 14)), .none, [], []⟩, ⟨(.some 4), (.alloc 81 [(.int .i64 0), (.int .i64 0), (.int .i64 0), (.int .i64 0), (.int .i64 0), (.int .i64 0)]), .none, [], []⟩, ⟨.none, (.st 6 (.t 4) (.t 15)), .none, [], []⟩] .false), (.seq 2),
    (.region [⟨(.some 16), (.mv (.t 0)), .none, [], []⟩, ⟨(.some 17), (.mv (.t 0)), .none, [], []⟩, ⟨(.some 18), (.nilc (.t 17)), .none, [], []⟩, ⟨(.some 19), (.ld .none (.t 18)), .none, [], []⟩, ⟨(.some 20), (.mv (.t 3)), .none, [], []⟩, ⟨(.some 21), (.slc (.some 6) (.t 19) .none (.some (.t 20))), .none, [], []⟩, ⟨(.some 22), (.nilc (.t 16)), .none, [], []⟩, ⟨.none, (.st 1 (.t 22) (.t 21)), .none, [], []⟩] .false), (.seq 2),
    (.region [⟨(.some 23), (.ld (.some 6) (.t 4)), .none, [], []⟩, ⟨(.some 24), (.mki 81 (.t 23)), .none, [], []⟩, ⟨(.some 2), (.mv (.t 24)), .none, [], []⟩] .false), .ret]
theorem F90_at : F90.at Try.prog 90 Try.f90 := ⟨Try.func90, by kernel_rfl, by kernel_rfl, by kernel_rfl, by kernel_rfl, by kernel_rfl⟩

-- "(*signalbox/agenda.entries).Push" res .true
def F91 : AFn where
  np := 2
  nt := 17
  res := []
  tab := [(.seq 2),
    (.region [⟨(.some 5), (.mv (.t 1)), .none, [], []⟩] .false), (.block 0), (.seq 2),
    (.region [⟨(.some 6), (.asrt 81 [(.int .i64 0), (.int .i64 0), (.int .i64 0), (.int .i64 0), (.int .i64 0), (.int .i64 0)] .true .true (.t 5)), .none, [], []⟩, ⟨(.some 7), (.ext (.t 6) 1), .none, [], []⟩, ⟨(.some 8), (.ext (.t 6) 0), .none, [], []⟩] .false), (.cond (.t 7) 4), (.seq 2),
    (.region [⟨(.some 4), (.alloc 81 [(.int .i64 0), (.int .i64 0), (.int .i64 0), (.int .i64 0), (.int .i64 0), (.int .i64 0)]), .none, [], []⟩, ⟨.none, (.st 6 (.t 4) (.t 8)), .none, [], []⟩] .false),
    (.region [⟨(.some 9), (.mv (.t 0)), .none, [], [0]⟩, ⟨(.some 10), (.mv (.t 0)), .none, [], [0]⟩, ⟨(.some 11), (.nilc (.t 10)), .none, [1], [10]⟩, ⟨(.some 12), (.ld .none (.t 11)), .none, [2], [11]⟩, ⟨(.some 13), (.ld (.some 6) (.t 4)), .none, [], [4]⟩, ⟨(.some 14), (.lit 81 6 1 [(.int .i64 0), (.int .i64 0), (.int .i64 0), (.int .i64 0), (.int .i64 0), (.int .i64 0)] [(0, (.t 13))]), .none, [4], [13]⟩, ⟨(.some 15), (.app 81 6 48 [(.int .i64 0), (.int .i64 0), (.int .i64 0), (.int .i64 0), (.int .i64 0), (.int .i64 0)] (.t 12) (.t 14)), .none, [3, 5], [12, 14]⟩, ⟨(.some 16), (.nilc (.t 9)), .none, [0, 0, 1, 2, 3, 4, 5, 6], [9]⟩, ⟨.none, (.st 1 (.t 16) (.t 15)), .none, [7, 6, 6, 0, 1, 2, 3, 4, 5, 6], [16, 15]⟩] .true), .skip]
theorem F91_at : F91.at Try.prog 91 Try.f91 := ⟨Try.func91, by kernel_rfl, by kernel_rfl, by kernel_rfl, by kernel_rfl, by kernel_rfl⟩

end Go.Ab
