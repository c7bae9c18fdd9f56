/- PRINTED BY A PROGRAM (wip/tools/fmod.py): the functions of the cut, for the abstract machine. -/
import Derived.Test.YtnbaldclpeoopaaProg
import Derived.Test.YtnbaldclpeoopaaAbX
namespace Go.Ab
open Go Go.Proofs

-- "signalbox/signalboxlaw24.SectionTells" res .true
def F4 : AFn where
  np := 3
  nt := 130
  res := [(.t 6)]
  tab := [(.seq 2),
    (.region [⟨(.some 3), (.box 27 (.t 0)), .none, [], []⟩, ⟨(.some 6), (.mv (.c (.bool .false))), .none, [], []⟩] .false), (.seq 8), (.seq 2),
    (.region [⟨(.some 14), (.call 14 []), .none, [], []⟩, ⟨(.some 15), (.un .not (.t 14)), .none, [], []⟩] .false), (.cond (.t 15) 4), (.seq 2),
    (.region [⟨(.some 6), (.mv (.c (.bool .false))), .none, [], []⟩] .false), .ret, .skip, (.seq 8), (.seq 2),
    (.region [⟨(.some 16), (.ld (.some 10) (.t 3)), .none, [], []⟩, ⟨(.some 17), (.call 15 [(.t 16)]), .none, [], []⟩, ⟨(.some 18), (.un .not (.t 17)), .none, [], []⟩, ⟨(.some 19), (.mv (.t 18)), .none, [], []⟩, ⟨(.some 20), (.ld (.some 10) (.t 3)), (.some ((.some 19), .false)), [], []⟩, ⟨(.some 21), (.call 16 [(.t 20)]), (.some ((.some 19), .false)), [], []⟩, ⟨(.some 22), (.un .not (.t 21)), (.some ((.some 19), .false)), [], []⟩, ⟨(.some 23), (.pick (.t 19) (.c (.bool .true)) (.t 22)), .none, [], []⟩] .false), (.cond (.t 23) 4), (.seq 2),
    (.region [⟨(.some 6), (.mv (.c (.bool .true))), .none, [], []⟩] .false), .ret, .skip, (.seq 2),
    (.region [⟨(.some 24), (.ld (.some 10) (.t 3)), .none, [], []⟩, ⟨(.some 25), (.mv (.t 1)), .none, [], []⟩, ⟨(.some 26), (.call 17 [(.t 24), (.t 25)]), .none, [], []⟩, ⟨(.some 7), (.mv (.t 26)), .none, [], []⟩] .false), (.seq 8), (.seq 2),
    (.region [⟨(.some 27), (.mv (.t 1)), .none, [], []⟩, ⟨(.some 28), (.bin .lss .o (.t 27) (.c (.int .i64 0))), .none, [], []⟩, ⟨(.some 29), (.mv (.t 28)), .none, [], []⟩, ⟨(.some 30), (.mv (.t 1)), (.some ((.some 29), .false)), [], []⟩, ⟨(.some 31), (.fad 8 (.t 3)), (.some ((.some 29), .false)), [], []⟩, ⟨(.some 32), (.ld .none (.t 31)), (.some ((.some 29), .false)), [], []⟩, ⟨(.some 33), (.len .false (.t 32)), (.some ((.some 29), .false)), [], []⟩, ⟨(.some 34), (.bin .geq .o (.t 30) (.t 33)), (.some ((.some 29), .false)), [], []⟩, ⟨(.some 35), (.pick (.t 29) (.c (.bool .true)) (.t 34)), .none, [], []⟩] .false), (.cond (.t 35) 4), (.seq 2),
    (.region [⟨(.some 36), (.mv (.t 7)), .none, [], [7]⟩, ⟨(.some 37), (.len .false (.t 36)), .none, [0], [36]⟩, ⟨(.some 38), (.ld (.some 10) (.t 3)), .none, [], [3]⟩, ⟨(.some 39), (.mv (.t 1)), .none, [], [1]⟩, ⟨(.some 40), (.call 18 [(.t 38), (.t 39)]), .none, [2, 3], [38, 39]⟩, ⟨(.some 41), (.len .false (.t 40)), .none, [4], [40]⟩, ⟨(.some 42), (.bin .add .o (.t 37) (.t 41)), .none, [1, 5], [37, 41]⟩, ⟨(.some 43), (.ld (.some 10) (.t 3)), .none, [], [3]⟩, ⟨(.some 44), (.mv (.t 1)), .none, [], [1]⟩, ⟨(.some 45), (.mv (.t 2)), .none, [], [2]⟩, ⟨(.some 46), (.call 19 [(.t 43), (.t 44), (.t 45)]), .none, [7, 8, 9, 4], [43, 44, 45]⟩, ⟨(.some 47), (.bin .add .o (.t 42) (.t 46)), .none, [6, 10], [42, 46]⟩, ⟨(.some 48), (.bin .eql .o (.t 47) (.c (.int .i64 0))), .none, [11], [47]⟩, ⟨(.some 6), (.mv (.t 48)), .none, [12, 10, 0, 1, 2, 3, 4, 5, 6, 7, 8, 9, 10, 11, 12], [48]⟩] .true), .ret, .skip, (.seq 2),
    (.region [⟨(.some 49), (.fad 8 (.t 3)), .none, [], []⟩, ⟨(.some 50), (.ld .none (.t 49)), .none, [], []⟩, ⟨(.some 51), (.mv (.t 1)), .none, [], []⟩, ⟨(.some 52), (.idx 36 7 (.t 50) (.t 51)), .none, [], []⟩, ⟨(.some 53), (.ld (.some 7) (.t 52)), .none, [], []⟩, ⟨(.some 8), (.alloc 36 [(.int .i64 0), (.int .i64 0), (.int .i64 0), (.int .i64 0), (.int .i64 0), (.int .i64 0), .nils]), .none, [], []⟩, ⟨.none, (.st 7 (.t 8) (.t 53)), .none, [], []⟩] .false), (.seq 8), (.seq 2),
    (.region [⟨(.some 54), (.mv (.t 7)), .none, [], []⟩, ⟨(.some 55), (.len .false (.t 54)), .none, [], []⟩, ⟨(.some 56), (.fad 6 (.t 8)), .none, [], []⟩, ⟨(.some 57), (.ld .none (.t 56)), .none, [], []⟩, ⟨(.some 58), (.len .false (.t 57)), .none, [], []⟩, ⟨(.some 59), (.bin .neq .o (.t 55) (.t 58)), .none, [], []⟩] .false), (.cond (.t 59) 4), (.seq 2),
    (.region [⟨(.some 6), (.mv (.c (.bool .false))), .none, [], []⟩] .false), .ret, .skip, (.seq 23), (.seq 2),
    (.region [⟨(.some 60), (.mv (.t 7)), .none, [], []⟩, ⟨(.some 61), (.len .false (.t 60)), .none, [], []⟩, ⟨(.some 62), (.mv (.c (.int .i64 0))), .none, [], []⟩] .false), (.block 0), .loop, (.seq 2),
    (.region [⟨(.some 63), (.bin .lss .o (.t 62) (.t 61)), .none, [], []⟩] .false), (.seq 4), (.cond (.t 63) 2), .skip, (.exit 0), (.seq 11), (.block 1), (.seq 2),
    (.region [⟨(.some 64), (.mv (.t 62)), .none, [], []⟩, ⟨(.some 65), (.idx 53 2 (.t 60) (.t 62)), .none, [], []⟩, ⟨(.some 66), (.ld (.some 2) (.t 65)), .none, [], []⟩, ⟨(.some 10), (.alloc 53 [(.int .i64 0), (.int .i64 0)]), .none, [], []⟩, ⟨(.some 9), (.mv (.t 64)), .none, [], []⟩, ⟨.none, (.st 2 (.t 10) (.t 66)), .none, [], []⟩] .false), (.seq 2),
    (.region [⟨(.some 67), (.fad 0 (.t 10)), .none, [], [10]⟩, ⟨(.some 68), (.ld .none (.t 67)), .none, [0], [67]⟩, ⟨(.some 69), (.ld (.some 10) (.t 3)), .none, [], [3]⟩, ⟨(.some 70), (.ld (.some 7) (.t 8)), .none, [], [8]⟩, ⟨(.some 71), (.fad 6 (.t 8)), .none, [], [8]⟩, ⟨(.some 72), (.ld .none (.t 71)), .none, [4], [71]⟩, ⟨(.some 73), (.mv (.t 9)), .none, [], [9]⟩, ⟨(.some 74), (.slc (.some 3) (.t 72) .none (.some (.t 73))), .none, [5, 6], [72, 73]⟩, ⟨(.some 75), (.call 20 [(.t 69), (.t 70), (.t 74)]), .none, [2, 3, 7], [69, 70, 74]⟩, ⟨(.some 76), (.bin .neq .o (.t 68) (.t 75)), .none, [1, 8], [68, 75]⟩, ⟨(.some 77), (.mv (.t 76)), .none, [9, 8], [76]⟩, ⟨(.some 78), (.fad 1 (.t 10)), (.some ((.some 77), .false)), [10], [10, 77]⟩, ⟨(.some 79), (.ld .none (.t 78)), (.some ((.some 77), .false)), [11, 10], [78, 77]⟩, ⟨(.some 80), (.ld (.some 10) (.t 3)), (.some ((.some 77), .false)), [10], [3, 77]⟩, ⟨(.some 81), (.ld (.some 7) (.t 8)), (.some ((.some 77), .false)), [10], [8, 77]⟩, ⟨(.some 82), (.fad 6 (.t 8)), (.some ((.some 77), .false)), [10], [8, 77]⟩, ⟨(.some 83), (.ld .none (.t 82)), (.some ((.some 77), .false)), [15, 10], [82, 77]⟩, ⟨(.some 84), (.mv (.t 9)), (.some ((.some 77), .false)), [10], [9, 77]⟩, ⟨(.some 85), (.bin .add .o (.t 84) (.c (.int .i64 1))), (.some ((.some 77), .false)), [17, 10], [84, 77]⟩, ⟨(.some 86), (.slc (.some 3) (.t 83) .none (.some (.t 85))), (.some ((.some 77), .false)), [16, 18, 10], [83, 85, 77]⟩, ⟨(.some 87), (.call 20 [(.t 80), (.t 81), (.t 86)]), (.some ((.some 77), .false)), [13, 14, 19, 10, 10], [80, 81, 86, 77]⟩, ⟨(.some 88), (.bin .neq .o (.t 79) (.t 87)), (.some ((.some 77), .false)), [12, 20, 10], [79, 87, 77]⟩, ⟨(.some 89), (.pick (.t 77) (.c (.bool .true)) (.t 88)), .none, [10, 21], [77, 88]⟩] .true), (.cond (.t 89) 4), (.seq 2),
    (.region [⟨(.some 6), (.mv (.c (.bool .false))), .none, [], []⟩] .false), .ret, .skip,
    (.region [⟨(.some 90), (.bin .add .o (.t 62) (.c (.int .i64 1))), .none, [], []⟩, ⟨(.some 62), (.mv (.t 90)), .none, [], []⟩] .false), (.seq 2),
    (.region [⟨(.some 91), (.ld (.some 10) (.t 3)), .none, [], [3]⟩, ⟨(.some 92), (.mv (.t 1)), .none, [], [1]⟩, ⟨(.some 93), (.call 18 [(.t 91), (.t 92)]), .none, [0, 1], [91, 92]⟩, ⟨(.some 94), (.ld (.some 10) (.t 3)), .none, [], [3]⟩, ⟨(.some 95), (.mv (.t 1)), .none, [], [1]⟩, ⟨(.some 96), (.call 21 [(.t 94), (.t 95)]), .none, [3, 4, 2], [94, 95]⟩, ⟨(.some 11), (.mv (.t 93)), .none, [2, 5, 0, 1, 2], [93]⟩, ⟨(.some 12), (.mv (.t 96)), .none, [5, 6, 0, 1, 2, 3, 4, 5, 6], [96]⟩] .true), (.seq 6), (.seq 2),
    (.region [⟨(.some 97), (.fad 6 (.t 8)), .none, [], []⟩, ⟨(.some 98), (.ld .none (.t 97)), .none, [], []⟩, ⟨(.some 99), (.len .false (.t 98)), .none, [], []⟩, ⟨(.some 100), (.bin .eql .o (.t 99) (.c (.int .i64 0))), .none, [], []⟩] .false), (.cond (.t 100) 2),
    (.region [⟨(.some 12), (.mv (.c .nils)), .none, [], []⟩] .false), .skip, (.seq 8), (.seq 2),
    (.region [⟨(.some 101), (.mv (.t 11)), .none, [], []⟩, ⟨(.some 102), (.len .false (.t 101)), .none, [], []⟩, ⟨(.some 103), (.mv (.t 12)), .none, [], []⟩, ⟨(.some 104), (.len .false (.t 103)), .none, [], []⟩, ⟨(.some 105), (.bin .neq .o (.t 102) (.t 104)), .none, [], []⟩] .false), (.cond (.t 105) 4), (.seq 2),
    (.region [⟨(.some 6), (.mv (.c (.bool .false))), .none, [], []⟩] .false), .ret, .skip, (.seq 23), (.seq 2),
    (.region [⟨(.some 106), (.mv (.t 11)), .none, [], []⟩, ⟨(.some 107), (.len .false (.t 106)), .none, [], []⟩, ⟨(.some 108), (.mv (.c (.int .i64 0))), .none, [], []⟩] .false), (.block 2), .loop, (.seq 2),
    (.region [⟨(.some 109), (.bin .lss .o (.t 108) (.t 107)), .none, [], []⟩] .false), (.seq 4), (.cond (.t 109) 2), .skip, (.exit 2), (.seq 11), (.block 3), (.seq 2),
    (.region [⟨(.some 110), (.mv (.t 108)), .none, [], []⟩, ⟨(.some 13), (.mv (.t 110)), .none, [], []⟩] .false), (.seq 2),
    (.region [⟨(.some 111), (.mv (.t 11)), .none, [], [11]⟩, ⟨(.some 112), (.mv (.t 13)), .none, [], [13]⟩, ⟨(.some 113), (.idx 3 1 (.t 111) (.t 112)), .none, [0, 1], [111, 112]⟩, ⟨(.some 114), (.ld .none (.t 113)), .none, [2], [113]⟩, ⟨(.some 115), (.mv (.t 12)), .none, [], [12]⟩, ⟨(.some 116), (.mv (.t 13)), .none, [], [13]⟩, ⟨(.some 117), (.idx 3 1 (.t 115) (.t 116)), .none, [4, 5], [115, 116]⟩, ⟨(.some 118), (.ld .none (.t 117)), .none, [6], [117]⟩, ⟨(.some 119), (.bin .neq .o (.t 114) (.t 118)), .none, [3, 7], [114, 118]⟩] .true), (.cond (.t 119) 4), (.seq 2),
    (.region [⟨(.some 6), (.mv (.c (.bool .false))), .none, [], []⟩] .false), .ret, .skip,
    (.region [⟨(.some 120), (.bin .add .o (.t 108) (.c (.int .i64 1))), .none, [], []⟩, ⟨(.some 108), (.mv (.t 120)), .none, [], []⟩] .false), (.seq 2),
    (.region [⟨(.some 121), (.ld (.some 10) (.t 3)), .none, [], [3]⟩, ⟨(.some 122), (.mv (.t 1)), .none, [], [1]⟩, ⟨(.some 123), (.mv (.t 2)), .none, [], [2]⟩, ⟨(.some 124), (.call 19 [(.t 121), (.t 122), (.t 123)]), .none, [0, 1, 2], [121, 122, 123]⟩, ⟨(.some 125), (.ld (.some 10) (.t 3)), .none, [], [3]⟩, ⟨(.some 126), (.mv (.t 1)), .none, [], [1]⟩, ⟨(.some 127), (.mv (.t 2)), .none, [], [2]⟩, ⟨(.some 128), (.call 22 [(.t 125), (.t 126), (.t 127)]), .none, [4, 5, 6, 3], [125, 126, 127]⟩, ⟨(.some 129), (.bin .eql .o (.t 124) (.t 128)), .none, [3, 7], [124, 128]⟩, ⟨(.some 6), (.mv (.t 129)), .none, [8, 7, 0, 1, 2, 3, 4, 5, 6, 7, 8], [129]⟩] .true), .ret]
theorem F4_at : F4.at Try.prog 4 Try.f4 := ⟨Try.func4, by kernel_rfl, by kernel_rfl, by kernel_rfl, by kernel_rfl, by kernel_rfl⟩

-- "signalbox/signalboxref07.Few" res .true
def F7 : AFn where
  np := 1
  nt := 45
  res := [(.t 2)]
  tab := [(.seq 2),
    (.region [⟨(.some 1), (.box 27 (.t 0)), .none, [], []⟩, ⟨(.some 2), (.mv (.c (.bool .false))), .none, [], []⟩] .false), (.seq 23), (.seq 2),
    (.region [⟨(.some 5), (.fad 8 (.t 1)), .none, [], []⟩, ⟨(.some 6), (.ld .none (.t 5)), .none, [], []⟩, ⟨(.some 7), (.len .false (.t 6)), .none, [], []⟩, ⟨(.some 8), (.mv (.c (.int .i64 0))), .none, [], []⟩] .false), (.block 0), .loop, (.seq 2),
    (.region [⟨(.some 9), (.bin .lss .o (.t 8) (.t 7)), .none, [], []⟩] .false), (.seq 4), (.cond (.t 9) 2), .skip, (.exit 0), (.seq 11), (.block 1), (.seq 2),
    (.region [⟨(.some 10), (.idx 36 7 (.t 6) (.t 8)), .none, [], []⟩, ⟨(.some 11), (.ld (.some 7) (.t 10)), .none, [], []⟩, ⟨(.some 4), (.alloc 36 [(.int .i64 0), (.int .i64 0), (.int .i64 0), (.int .i64 0), (.int .i64 0), (.int .i64 0), .nils]), .none, [], []⟩, ⟨.none, (.st 7 (.t 4) (.t 11)), .none, [], []⟩] .false), (.seq 2),
    (.region [⟨(.some 12), (.fad 6 (.t 4)), .none, [], []⟩, ⟨(.some 13), (.ld .none (.t 12)), .none, [], []⟩, ⟨(.some 14), (.len .false (.t 13)), .none, [], []⟩, ⟨(.some 15), (.bin .gtr .o (.t 14) (.c (.int .i64 80))), .none, [], []⟩] .false), (.cond (.t 15) 4), (.seq 2),
    (.region [⟨(.some 2), (.mv (.c (.bool .false))), .none, [], []⟩] .false), .ret, .skip,
    (.region [⟨(.some 16), (.bin .add .o (.t 8) (.c (.int .i64 1))), .none, [], []⟩, ⟨(.some 8), (.mv (.t 16)), .none, [], []⟩] .false), (.seq 2),
    (.region [⟨(.some 17), (.fad 4 (.t 1)), .none, [], []⟩, ⟨(.some 18), (.ld .none (.t 17)), .none, [], []⟩, ⟨(.some 19), (.len .false (.t 18)), .none, [], []⟩, ⟨(.some 20), (.bin .leq .o (.t 19) (.c (.int .i64 20))), .none, [], []⟩, ⟨(.some 21), (.mv (.t 20)), .none, [], []⟩, ⟨(.some 22), (.fad 6 (.t 1)), (.some ((.some 21), .true)), [], []⟩, ⟨(.some 23), (.ld .none (.t 22)), (.some ((.some 21), .true)), [], []⟩, ⟨(.some 24), (.len .false (.t 23)), (.some ((.some 21), .true)), [], []⟩, ⟨(.some 25), (.bin .leq .o (.t 24) (.c (.int .i64 20))), (.some ((.some 21), .true)), [], []⟩, ⟨(.some 26), (.pick (.t 21) (.t 25) (.c (.bool .false))), .none, [], []⟩, ⟨(.some 27), (.mv (.t 26)), .none, [], []⟩, ⟨(.some 28), (.fad 7 (.t 1)), (.some ((.some 27), .true)), [], []⟩, ⟨(.some 29), (.ld .none (.t 28)), (.some ((.some 27), .true)), [], []⟩, ⟨(.some 30), (.len .false (.t 29)), (.some ((.some 27), .true)), [], []⟩, ⟨(.some 31), (.bin .leq .o (.t 30) (.c (.int .i64 20))), (.some ((.some 27), .true)), [], []⟩, ⟨(.some 32), (.pick (.t 27) (.t 31) (.c (.bool .false))), .none, [], []⟩, ⟨(.some 33), (.mv (.t 32)), .none, [], []⟩, ⟨(.some 34), (.fad 8 (.t 1)), (.some ((.some 33), .true)), [], []⟩, ⟨(.some 35), (.ld .none (.t 34)), (.some ((.some 33), .true)), [], []⟩, ⟨(.some 36), (.len .false (.t 35)), (.some ((.some 33), .true)), [], []⟩, ⟨(.some 37), (.bin .leq .o (.t 36) (.c (.int .i64 20))), (.some ((.some 33), .true)), [], []⟩, ⟨(.some 38), (.pick (.t 33) (.t 37) (.c (.bool .false))), .none, [], []⟩, ⟨(.some 39), (.mv (.t 38)), .none, [], []⟩, ⟨(.some 40), (.fad 9 (.t 1)), (.some ((.some 39), .true)), [], []⟩, ⟨(.some 41), (.ld .none (.t 40)), (.some ((.some 39), .true)), [], []⟩, ⟨(.some 42), (.len .false (.t 41)), (.some ((.some 39), .true)), [], []⟩, ⟨(.some 43), (.bin .leq .o (.t 42) (.c (.int .i64 20))), (.some ((.some 39), .true)), [], []⟩, ⟨(.some 44), (.pick (.t 39) (.t 43) (.c (.bool .false))), .none, [], []⟩, ⟨(.some 2), (.mv (.t 44)), .none, [], []⟩] .false), .ret]
theorem F7_at : F7.at Try.prog 7 Try.f7 := ⟨Try.func7, by kernel_rfl, by kernel_rfl, by kernel_rfl, by kernel_rfl, by kernel_rfl⟩

-- "signalbox/signalboxlaw24.fixed" res .true
def F14 : AFn where
  np := 0
  nt := 49
  res := [(.t 0)]
  tab := [(.seq 2),
    (.region [⟨(.some 0), (.mv (.c (.bool .false))), .none, [], []⟩] .false), (.seq 2),
    (.region [⟨(.some 3), (.call 34 []), .none, [], []⟩, ⟨(.some 4), (.call 17 [(.t 3), (.c (.int .i64 0))]), .none, [], []⟩, ⟨(.some 1), (.mv (.t 4)), .none, [], []⟩] .false), (.seq 2),
    (.region [⟨(.some 5), (.call 34 []), .none, [], []⟩, ⟨(.some 6), (.call 18 [(.t 5), (.c (.int .i64 0))]), .none, [], []⟩, ⟨(.some 2), (.mv (.t 6)), .none, [], []⟩] .false), (.seq 2),
    (.region [⟨(.some 7), (.mv (.t 1)), .none, [], []⟩, ⟨(.some 8), (.len .false (.t 7)), .none, [], []⟩, ⟨(.some 9), (.bin .eql .o (.t 8) (.c (.int .i64 6))), .none, [], []⟩, ⟨(.some 10), (.mv (.t 9)), .none, [], []⟩, ⟨(.some 11), (.mv (.t 1)), (.some ((.some 10), .true)), [], []⟩, ⟨(.some 12), (.idx 53 2 (.t 11) (.c (.int .i64 1))), (.some ((.some 10), .true)), [], []⟩, ⟨(.some 13), (.ld (.some 2) (.t 12)), (.some ((.some 10), .true)), [], []⟩, ⟨(.some 14), (.build [(.int .i64 0), (.int .i64 0)] [(0, (1, (.c (.int .i64 2)))), (1, (1, (.c (.int .i64 64))))]), (.some ((.some 10), .true)), [], []⟩, ⟨(.some 15), (.bin .eql (.ag [(0, 0), (1, 0)]) (.t 13) (.t 14)), (.some ((.some 10), .true)), [], []⟩, ⟨(.some 16), (.pick (.t 10) (.t 15) (.c (.bool .false))), .none, [], []⟩, ⟨(.some 17), (.mv (.t 16)), .none, [], []⟩, ⟨(.some 18), (.call 34 []), (.some ((.some 17), .true)), [], []⟩, ⟨(.some 19), (.call 19 [(.t 18), (.c (.int .i64 0)), (.c (.int .i64 64))]), (.some ((.some 17), .true)), [], []⟩, ⟨(.some 20), (.bin .eql .o (.t 19) (.c (.int .i64 4))), (.some ((.some 17), .true)), [], []⟩, ⟨(.some 21), (.pick (.t 17) (.t 20) (.c (.bool .false))), .none, [], []⟩, ⟨(.some 22), (.mv (.t 21)), .none, [], []⟩, ⟨(.some 23), (.call 34 []), (.some ((.some 22), .true)), [], []⟩, ⟨(.some 24), (.call 19 [(.t 23), (.c (.int .i64 0)), (.c (.int .i64 7))]), (.some ((.some 22), .true)), [], []⟩, ⟨(.some 25), (.bin .eql .o (.t 24) (.c (.int .i64 6))), (.some ((.some 22), .true)), [], []⟩, ⟨(.some 26), (.pick (.t 22) (.t 25) (.c (.bool .false))), .none, [], []⟩, ⟨(.some 27), (.mv (.t 26)), .none, [], []⟩, ⟨(.some 28), (.call 34 []), (.some ((.some 27), .true)), [], []⟩, ⟨(.some 29), (.call 19 [(.t 28), (.c (.int .i64 0)), (.c (.int .i64 2))]), (.some ((.some 27), .true)), [], []⟩, ⟨(.some 30), (.bin .eql .o (.t 29) (.c (.int .i64 11))), (.some ((.some 27), .true)), [], []⟩, ⟨(.some 31), (.pick (.t 27) (.t 30) (.c (.bool .false))), .none, [], []⟩, ⟨(.some 32), (.mv (.t 31)), .none, [], []⟩, ⟨(.some 33), (.mv (.t 2)), (.some ((.some 32), .true)), [], []⟩, ⟨(.some 34), (.len .false (.t 33)), (.some ((.some 32), .true)), [], []⟩, ⟨(.some 35), (.bin .eql .o (.t 34) (.c (.int .i64 2))), (.some ((.some 32), .true)), [], []⟩, ⟨(.some 36), (.pick (.t 32) (.t 35) (.c (.bool .false))), .none, [], []⟩, ⟨(.some 37), (.mv (.t 36)), .none, [], []⟩, ⟨(.some 38), (.mv (.t 2)), (.some ((.some 37), .true)), [], []⟩, ⟨(.some 39), (.idx 3 1 (.t 38) (.c (.int .i64 0))), (.some ((.some 37), .true)), [], []⟩, ⟨(.some 40), (.ld .none (.t 39)), (.some ((.some 37), .true)), [], []⟩, ⟨(.some 41), (.bin .eql .o (.t 40) (.c (.int .i64 7))), (.some ((.some 37), .true)), [], []⟩, ⟨(.some 42), (.pick (.t 37) (.t 41) (.c (.bool .false))), .none, [], []⟩, ⟨(.some 43), (.mv (.t 42)), .none, [], []⟩, ⟨(.some 44), (.mv (.t 2)), (.some ((.some 43), .true)), [], []⟩, ⟨(.some 45), (.idx 3 1 (.t 44) (.c (.int .i64 1))), (.some ((.some 43), .true)), [], []⟩, ⟨(.some 46), (.ld .none (.t 45)), (.some ((.some 43), .true)), [], []⟩, ⟨(.some 47), (.bin .eql .o (.t 46) (.c (.int .i64 64))), (.some ((.some 43), .true)), [], []⟩, ⟨(.some 48), (.pick (.t 43) (.t 47) (.c (.bool .false))), .none, [], []⟩, ⟨(.some 0), (.mv (.t 48)), .none, [], []⟩] .false), .ret]
theorem F14_at : F14.at Try.prog 14 Try.f14 := ⟨Try.func14, by kernel_rfl, by kernel_rfl, by kernel_rfl, by kernel_rfl, by kernel_rfl⟩

-- "signalbox/signalboxlaw24.few" res .true
def F15 : AFn where
  np := 1
  nt := 45
  res := [(.t 2)]
  tab := [(.seq 2),
    (.region [⟨(.some 1), (.box 27 (.t 0)), .none, [], []⟩, ⟨(.some 2), (.mv (.c (.bool .false))), .none, [], []⟩] .false), (.seq 23), (.seq 2),
    (.region [⟨(.some 7), (.fad 7 (.t 1)), .none, [], []⟩, ⟨(.some 8), (.ld .none (.t 7)), .none, [], []⟩, ⟨(.some 9), (.len .false (.t 8)), .none, [], []⟩, ⟨(.some 10), (.mv (.c (.int .i64 0))), .none, [], []⟩] .false), (.block 0), .loop, (.seq 2),
    (.region [⟨(.some 11), (.bin .lss .o (.t 10) (.t 9)), .none, [], []⟩] .false), (.seq 4), (.cond (.t 11) 2), .skip, (.exit 0), (.seq 11), (.block 1), (.seq 2),
    (.region [⟨(.some 12), (.idx 3 1 (.t 8) (.t 10)), .none, [], []⟩, ⟨(.some 13), (.ld .none (.t 12)), .none, [], []⟩, ⟨(.some 4), (.mv (.t 13)), .none, [], []⟩] .false), (.seq 2),
    (.region [⟨(.some 14), (.mv (.t 4)), .none, [], []⟩, ⟨(.some 15), (.bin .gtr .o (.t 14) (.c (.int .i64 64))), .none, [], []⟩, ⟨(.some 16), (.mv (.t 15)), .none, [], []⟩, ⟨(.some 17), (.mv (.t 4)), (.some ((.some 16), .false)), [], []⟩, ⟨(.some 18), (.bin .lss .o (.t 17) (.c (.int .i64 (-64)))), (.some ((.some 16), .false)), [], []⟩, ⟨(.some 19), (.pick (.t 16) (.c (.bool .true)) (.t 18)), .none, [], []⟩] .false), (.cond (.t 19) 4), (.seq 2),
    (.region [⟨(.some 2), (.mv (.c (.bool .false))), .none, [], []⟩] .false), .ret, .skip,
    (.region [⟨(.some 20), (.bin .add .o (.t 10) (.c (.int .i64 1))), .none, [], []⟩, ⟨(.some 10), (.mv (.t 20)), .none, [], []⟩] .false), (.seq 23), (.seq 2),
    (.region [⟨(.some 21), (.fad 8 (.t 1)), .none, [], []⟩, ⟨(.some 22), (.ld .none (.t 21)), .none, [], []⟩, ⟨(.some 23), (.len .false (.t 22)), .none, [], []⟩, ⟨(.some 24), (.mv (.c (.int .i64 0))), .none, [], []⟩] .false), (.block 2), .loop, (.seq 2),
    (.region [⟨(.some 25), (.bin .lss .o (.t 24) (.t 23)), .none, [], []⟩] .false), (.seq 4), (.cond (.t 25) 2), .skip, (.exit 2), (.seq 11), (.block 3), (.seq 2),
    (.region [⟨(.some 26), (.idx 36 7 (.t 22) (.t 24)), .none, [], []⟩, ⟨(.some 27), (.ld (.some 7) (.t 26)), .none, [], []⟩, ⟨(.some 6), (.alloc 36 [(.int .i64 0), (.int .i64 0), (.int .i64 0), (.int .i64 0), (.int .i64 0), (.int .i64 0), .nils]), .none, [], []⟩, ⟨.none, (.st 7 (.t 6) (.t 27)), .none, [], []⟩] .false), (.seq 2),
    (.region [⟨(.some 28), (.fad 1 (.t 6)), .none, [], []⟩, ⟨(.some 29), (.ld .none (.t 28)), .none, [], []⟩, ⟨(.some 30), (.bin .gtr .o (.t 29) (.c (.int .i64 64))), .none, [], []⟩, ⟨(.some 31), (.mv (.t 30)), .none, [], []⟩, ⟨(.some 32), (.fad 1 (.t 6)), (.some ((.some 31), .false)), [], []⟩, ⟨(.some 33), (.ld .none (.t 32)), (.some ((.some 31), .false)), [], []⟩, ⟨(.some 34), (.bin .lss .o (.t 33) (.c (.int .i64 (-64)))), (.some ((.some 31), .false)), [], []⟩, ⟨(.some 35), (.pick (.t 31) (.c (.bool .true)) (.t 34)), .none, [], []⟩, ⟨(.some 36), (.mv (.t 35)), .none, [], []⟩, ⟨(.some 37), (.fad 6 (.t 6)), (.some ((.some 36), .false)), [], []⟩, ⟨(.some 38), (.ld .none (.t 37)), (.some ((.some 36), .false)), [], []⟩, ⟨(.some 39), (.len .false (.t 38)), (.some ((.some 36), .false)), [], []⟩, ⟨(.some 40), (.bin .gtr .o (.t 39) (.c (.int .i64 40))), (.some ((.some 36), .false)), [], []⟩, ⟨(.some 41), (.pick (.t 36) (.c (.bool .true)) (.t 40)), .none, [], []⟩] .false), (.cond (.t 41) 4), (.seq 2),
    (.region [⟨(.some 2), (.mv (.c (.bool .false))), .none, [], []⟩] .false), .ret, .skip,
    (.region [⟨(.some 42), (.bin .add .o (.t 24) (.c (.int .i64 1))), .none, [], []⟩, ⟨(.some 24), (.mv (.t 42)), .none, [], []⟩] .false), (.seq 2),
    (.region [⟨(.some 43), (.ld (.some 10) (.t 1)), .none, [], []⟩, ⟨(.some 44), (.call 7 [(.t 43)]), .none, [], []⟩, ⟨(.some 2), (.mv (.t 44)), .none, [], []⟩] .false), .ret]
theorem F15_at : F15.at Try.prog 15 Try.f15 := ⟨Try.func15, by kernel_rfl, by kernel_rfl, by kernel_rfl, by kernel_rfl, by kernel_rfl⟩

-- "signalbox/signalboxlaw24.nested" res .true
def F16 : AFn where
  np := 1
  nt := 48
  res := [(.t 2)]
  tab := [(.seq 2),
    (.region [⟨(.some 1), (.box 27 (.t 0)), .none, [], []⟩, ⟨(.some 2), (.mv (.c (.bool .false))), .none, [], []⟩] .false), (.seq 46), (.seq 2),
    (.region [⟨(.some 8), (.fad 8 (.t 1)), .none, [], []⟩, ⟨(.some 9), (.ld .none (.t 8)), .none, [], []⟩, ⟨(.some 10), (.len .false (.t 9)), .none, [], []⟩, ⟨(.some 11), (.mv (.c (.int .i64 0))), .none, [], []⟩] .false), (.block 0), .loop, (.seq 2),
    (.region [⟨(.some 12), (.bin .lss .o (.t 11) (.t 10)), .none, [], []⟩] .false), (.seq 4), (.cond (.t 12) 2), .skip, (.exit 0), (.seq 34), (.block 1), (.seq 2),
    (.region [⟨(.some 13), (.idx 36 7 (.t 9) (.t 11)), .none, [], []⟩, ⟨(.some 14), (.ld (.some 7) (.t 13)), .none, [], []⟩, ⟨(.some 4), (.alloc 36 [(.int .i64 0), (.int .i64 0), (.int .i64 0), (.int .i64 0), (.int .i64 0), (.int .i64 0), .nils]), .none, [], []⟩, ⟨.none, (.st 7 (.t 4) (.t 14)), .none, [], []⟩] .false), (.seq 2),
    (.region [⟨(.some 15), .mkm, .none, [], []⟩, ⟨(.some 5), (.mv (.t 15)), .none, [], []⟩] .false), (.seq 2),
    (.region [⟨(.some 16), (.fad 6 (.t 4)), .none, [], []⟩, ⟨(.some 17), (.ld .none (.t 16)), .none, [], []⟩, ⟨(.some 18), (.len .false (.t 17)), .none, [], []⟩, ⟨(.some 19), (.mv (.c (.int .i64 0))), .none, [], []⟩] .false), (.block 2), .loop, (.seq 2),
    (.region [⟨(.some 20), (.bin .lss .o (.t 19) (.t 18)), .none, [], []⟩] .false), (.seq 4), (.cond (.t 20) 2), .skip, (.exit 2), (.seq 17), (.block 3), (.seq 2),
    (.region [⟨(.some 21), (.idx 39 3 (.t 17) (.t 19)), .none, [], []⟩, ⟨(.some 22), (.ld (.some 3) (.t 21)), .none, [], []⟩, ⟨(.some 7), (.alloc 39 [(.int .i64 0), (.int .i64 0), (.int .i64 0)]), .none, [], []⟩, ⟨.none, (.st 3 (.t 7) (.t 22)), .none, [], []⟩] .false), (.seq 8), (.seq 2),
    (.region [⟨(.some 23), (.fad 0 (.t 7)), .none, [], []⟩, ⟨(.some 24), (.ld .none (.t 23)), .none, [], []⟩, ⟨(.some 25), (.bin .eql .o (.t 24) (.c (.int .i64 5))), .none, [], []⟩, ⟨(.some 26), (.mv (.t 25)), .none, [], []⟩, ⟨(.some 27), (.mv (.t 5)), (.some ((.some 26), .true)), [], []⟩, ⟨(.some 28), (.fad 1 (.t 7)), (.some ((.some 26), .true)), [], []⟩, ⟨(.some 29), (.ld .none (.t 28)), (.some ((.some 26), .true)), [], []⟩, ⟨(.some 30), (.mget (.bool .false) (.t 27) (.t 29)), (.some ((.some 26), .true)), [], []⟩, ⟨(.some 31), (.pick (.t 26) (.t 30) (.c (.bool .false))), .none, [], []⟩] .false), (.cond (.t 31) 4), (.seq 2),
    (.region [⟨(.some 2), (.mv (.c (.bool .false))), .none, [], []⟩] .false), .ret, .skip, (.seq 2),
    (.region [⟨(.some 32), (.fad 0 (.t 7)), .none, [], []⟩, ⟨(.some 33), (.ld .none (.t 32)), .none, [], []⟩, ⟨(.some 34), (.bin .eql .o (.t 33) (.c (.int .i64 5))), .none, [], []⟩, ⟨(.some 35), (.mv (.t 34)), .none, [], []⟩, ⟨(.some 36), (.fad 0 (.t 7)), (.some ((.some 35), .false)), [], []⟩, ⟨(.some 37), (.ld .none (.t 36)), (.some ((.some 35), .false)), [], []⟩, ⟨(.some 38), (.bin .eql .o (.t 37) (.c (.int .i64 6))), (.some ((.some 35), .false)), [], []⟩, ⟨(.some 39), (.pick (.t 35) (.c (.bool .true)) (.t 38)), .none, [], []⟩] .false), (.cond (.t 39) 2),
    (.region [⟨(.some 40), (.mv (.t 5)), .none, [], []⟩, ⟨(.some 41), (.fad 1 (.t 7)), .none, [], []⟩, ⟨(.some 42), (.ld .none (.t 41)), .none, [], []⟩, ⟨(.some 43), (.fad 0 (.t 7)), .none, [], []⟩, ⟨(.some 44), (.ld .none (.t 43)), .none, [], []⟩, ⟨(.some 45), (.bin .eql .o (.t 44) (.c (.int .i64 5))), .none, [], []⟩, ⟨.none, (.mset (.t 40) (.t 42) (.t 45)), .none, [], []⟩] .false), .skip,
    (.region [⟨(.some 46), (.bin .add .o (.t 19) (.c (.int .i64 1))), .none, [], []⟩, ⟨(.some 19), (.mv (.t 46)), .none, [], []⟩] .false),
    (.region [⟨(.some 47), (.bin .add .o (.t 11) (.c (.int .i64 1))), .none, [], []⟩, ⟨(.some 11), (.mv (.t 47)), .none, [], []⟩] .false), (.seq 2),
    (.region [⟨(.some 2), (.mv (.c (.bool .true))), .none, [], []⟩] .false), .ret]
theorem F16_at : F16.at Try.prog 16 Try.f16 := ⟨Try.func16, by kernel_rfl, by kernel_rfl, by kernel_rfl, by kernel_rfl, by kernel_rfl⟩

-- "signalbox/section.Levels" res .true
def F17 : AFn where
  np := 2
  nt := 43
  res := [(.t 4)]
  tab := [(.seq 2),
    (.region [⟨(.some 2), (.box 27 (.t 0)), .none, [], []⟩, ⟨(.some 4), (.mv (.c .nils)), .none, [], []⟩] .false), (.seq 8), (.seq 2),
    (.region [⟨(.some 9), (.ld (.some 10) (.t 2)), .none, [], []⟩, ⟨(.some 10), (.mv (.t 1)), .none, [], []⟩, ⟨(.some 11), (.call 35 [(.t 9), (.t 10)]), .none, [], []⟩, ⟨(.some 12), (.un .not (.t 11)), .none, [], []⟩] .false), (.cond (.t 12) 4), (.seq 2),
    (.region [⟨(.some 4), (.mv (.c .nils)), .none, [], []⟩] .false), .ret, .skip, (.seq 2),
    (.region [⟨(.some 13), (.fad 8 (.t 2)), .none, [], [2]⟩, ⟨(.some 14), (.ld .none (.t 13)), .none, [0], [13]⟩, ⟨(.some 15), (.mv (.t 1)), .none, [], [1]⟩, ⟨(.some 16), (.idx 36 7 (.t 14) (.t 15)), .none, [1, 2], [14, 15]⟩, ⟨(.some 17), (.fad 1 (.t 16)), .none, [3], [16]⟩, ⟨(.some 18), (.ld .none (.t 17)), .none, [4], [17]⟩, ⟨(.some 19), (.fad 7 (.t 2)), .none, [], [2]⟩, ⟨(.some 20), (.ld .none (.t 19)), .none, [6], [19]⟩, ⟨(.some 21), (.call 36 [(.t 20)]), .none, [7], [20]⟩, ⟨(.some 22), (.build [(.int .i64 0), (.int .i64 0), .nilp] [(0, (1, (.t 18))), (2, (1, (.t 21)))]), .none, [5, 8], [18, 21]⟩, ⟨(.some 23), (.box 72 (.t 22)), .none, [9], [22]⟩, ⟨(.some 5), (.mv (.t 23)), .none, [10, 8, 0, 1, 2, 3, 4, 5, 6, 7, 8, 9, 10], [23]⟩] .true), (.seq 2),
    (.region [⟨(.some 6), (.mv (.c .nils)), .none, [], []⟩] .false), (.seq 17), (.seq 2),
    (.region [⟨(.some 24), (.fad 8 (.t 2)), .none, [], []⟩, ⟨(.some 25), (.ld .none (.t 24)), .none, [], []⟩, ⟨(.some 26), (.mv (.t 1)), .none, [], []⟩, ⟨(.some 27), (.idx 36 7 (.t 25) (.t 26)), .none, [], []⟩, ⟨(.some 28), (.fad 6 (.t 27)), .none, [], []⟩, ⟨(.some 29), (.ld .none (.t 28)), .none, [], []⟩, ⟨(.some 30), (.len .false (.t 29)), .none, [], []⟩, ⟨(.some 31), (.mv (.c (.int .i64 0))), .none, [], []⟩] .false), (.block 0), .loop, (.seq 2),
    (.region [⟨(.some 32), (.bin .lss .o (.t 31) (.t 30)), .none, [], []⟩] .false), (.seq 4), (.cond (.t 32) 2), .skip, (.exit 0), (.seq 5), (.block 1), (.seq 2),
    (.region [⟨(.some 33), (.idx 39 3 (.t 29) (.t 31)), .none, [], []⟩, ⟨(.some 34), (.ld (.some 3) (.t 33)), .none, [], []⟩, ⟨(.some 8), (.alloc 39 [(.int .i64 0), (.int .i64 0), (.int .i64 0)]), .none, [], []⟩, ⟨.none, (.st 3 (.t 8) (.t 34)), .none, [], []⟩] .false),
    (.region [⟨(.some 35), (.mv (.t 6)), .none, [], []⟩, ⟨(.some 36), (.mv (.t 5)), .none, [], []⟩, ⟨(.some 37), (.ld (.some 3) (.t 8)), .none, [], []⟩, ⟨(.some 38), (.call 37 [(.t 36), (.t 37)]), .none, [], []⟩, ⟨(.some 39), (.lit 53 2 1 [(.int .i64 0), (.int .i64 0)] [(0, (.t 38))]), .none, [], []⟩, ⟨(.some 40), (.app 53 2 16 [(.int .i64 0), (.int .i64 0)] (.t 35) (.t 39)), .none, [], []⟩, ⟨(.some 6), (.mv (.t 40)), .none, [], []⟩] .false),
    (.region [⟨(.some 41), (.bin .add .o (.t 31) (.c (.int .i64 1))), .none, [], []⟩, ⟨(.some 31), (.mv (.t 41)), .none, [], []⟩] .false), (.seq 2),
    (.region [⟨(.some 42), (.mv (.t 6)), .none, [], []⟩, ⟨(.some 4), (.mv (.t 42)), .none, [], []⟩] .false), .ret]
theorem F17_at : F17.at Try.prog 17 Try.f17 := ⟨Try.func17, by kernel_rfl, by kernel_rfl, by kernel_rfl, by kernel_rfl, by kernel_rfl⟩

-- "signalbox/section.Reach" res .true
def F18 : AFn where
  np := 2
  nt := 46
  res := [(.t 4)]
  tab := [(.seq 2),
    (.region [⟨(.some 2), (.box 27 (.t 0)), .none, [], []⟩, ⟨(.some 4), (.mv (.c .nils)), .none, [], []⟩] .false), (.seq 2),
    (.region [⟨(.some 5), (.mv (.c .nils)), .none, [], []⟩] .false), (.seq 36), (.seq 2),
    (.region [⟨(.some 10), (.ld (.some 10) (.t 2)), .none, [], []⟩, ⟨(.some 11), (.mv (.t 1)), .none, [], []⟩, ⟨(.some 12), (.call 17 [(.t 10), (.t 11)]), .none, [], []⟩, ⟨(.some 13), (.len .false (.t 12)), .none, [], []⟩, ⟨(.some 14), (.mv (.c (.int .i64 0))), .none, [], []⟩] .false), (.block 0), .loop, (.seq 2),
    (.region [⟨(.some 15), (.bin .lss .o (.t 14) (.t 13)), .none, [], []⟩] .false), (.seq 4), (.cond (.t 15) 2), .skip, (.exit 0), (.seq 24), (.block 1), (.seq 2),
    (.region [⟨(.some 16), (.idx 53 2 (.t 12) (.t 14)), .none, [], []⟩, ⟨(.some 17), (.ld (.some 2) (.t 16)), .none, [], []⟩, ⟨(.some 7), (.alloc 53 [(.int .i64 0), (.int .i64 0)]), .none, [], []⟩, ⟨.none, (.st 2 (.t 7) (.t 17)), .none, [], []⟩] .false), (.seq 2),
    (.region [⟨(.some 18), (.fad 0 (.t 7)), .none, [], []⟩, ⟨(.some 19), (.ld .none (.t 18)), .none, [], []⟩, ⟨(.some 20), (.fad 1 (.t 7)), .none, [], []⟩, ⟨(.some 21), (.ld .none (.t 20)), .none, [], []⟩, ⟨(.some 22), (.lit 3 1 2 [(.int .i64 0)] [(0, (.t 19)), (1, (.t 21))]), .none, [], []⟩, ⟨(.some 23), (.len .false (.t 22)), .none, [], []⟩, ⟨(.some 24), (.mv (.c (.int .i64 0))), .none, [], []⟩] .false), (.block 2), .loop, (.seq 2),
    (.region [⟨(.some 25), (.bin .lss .o (.t 24) (.t 23)), .none, [], []⟩] .false), (.seq 4), (.cond (.t 25) 2), .skip, (.exit 2), (.seq 9), (.block 3), (.seq 2),
    (.region [⟨(.some 26), (.idx 3 1 (.t 22) (.t 24)), .none, [], []⟩, ⟨(.some 27), (.ld .none (.t 26)), .none, [], []⟩, ⟨(.some 9), (.mv (.t 27)), .none, [], []⟩] .false), (.seq 2),
    (.region [⟨(.some 28), (.mv (.t 9)), .none, [], []⟩, ⟨(.some 29), (.fad 8 (.t 2)), .none, [], []⟩, ⟨(.some 30), (.ld .none (.t 29)), .none, [], []⟩, ⟨(.some 31), (.mv (.t 1)), .none, [], []⟩, ⟨(.some 32), (.idx 36 7 (.t 30) (.t 31)), .none, [], []⟩, ⟨(.some 33), (.fad 1 (.t 32)), .none, [], []⟩, ⟨(.some 34), (.ld .none (.t 33)), .none, [], []⟩, ⟨(.some 35), (.bin .gtr .o (.t 28) (.t 34)), .none, [], []⟩] .false), (.cond (.t 35) 2),
    (.region [⟨(.some 36), (.mv (.t 5)), .none, [], []⟩, ⟨(.some 37), (.mv (.t 9)), .none, [], []⟩, ⟨(.some 38), (.lit 3 1 1 [(.int .i64 0)] [(0, (.t 37))]), .none, [], []⟩, ⟨(.some 39), (.app 3 1 8 [(.int .i64 0)] (.t 36) (.t 38)), .none, [], []⟩, ⟨(.some 5), (.mv (.t 39)), .none, [], []⟩] .false), .skip,
    (.region [⟨(.some 40), (.bin .add .o (.t 24) (.c (.int .i64 1))), .none, [], []⟩, ⟨(.some 24), (.mv (.t 40)), .none, [], []⟩] .false),
    (.region [⟨(.some 41), (.bin .add .o (.t 14) (.c (.int .i64 1))), .none, [], []⟩, ⟨(.some 14), (.mv (.t 41)), .none, [], []⟩] .false), (.seq 2),
    (.region [⟨(.some 42), (.mv (.t 5)), .none, [], []⟩, ⟨(.some 43), (.call 38 [(.t 42)]), .none, [], []⟩] .false), (.seq 2),
    (.region [⟨(.some 44), (.mv (.t 5)), .none, [], []⟩, ⟨(.some 45), (.call 39 [(.t 44)]), .none, [], []⟩, ⟨(.some 4), (.mv (.t 45)), .none, [], []⟩] .false), .ret]
theorem F18_at : F18.at Try.prog 18 Try.f18 := ⟨Try.func18, by kernel_rfl, by kernel_rfl, by kernel_rfl, by kernel_rfl, by kernel_rfl⟩

-- "signalbox/section.Longest" res .true
def F19 : AFn where
  np := 3
  nt := 46
  res := [(.t 6)]
  tab := [(.seq 2),
    (.region [⟨(.some 3), (.box 27 (.t 0)), .none, [], []⟩, ⟨(.some 6), (.mv (.c (.int .i64 0))), .none, [], []⟩] .false), (.seq 2),
    (.region [⟨(.some 7), (.mv (.c (.int .i64 0))), .none, [], []⟩, ⟨(.some 8), (.mv (.c (.int .i64 0))), .none, [], []⟩] .false), (.seq 27), (.seq 2),
    (.region [⟨(.some 11), (.ld (.some 10) (.t 3)), .none, [], []⟩, ⟨(.some 12), (.mv (.t 1)), .none, [], []⟩, ⟨(.some 13), (.call 17 [(.t 11), (.t 12)]), .none, [], []⟩, ⟨(.some 14), (.len .false (.t 13)), .none, [], []⟩, ⟨(.some 15), (.mv (.c (.int .i64 0))), .none, [], []⟩] .false), (.block 0), .loop, (.seq 2),
    (.region [⟨(.some 16), (.bin .lss .o (.t 15) (.t 14)), .none, [], []⟩] .false), (.seq 4), (.cond (.t 16) 2), .skip, (.exit 0), (.seq 15), (.block 1), (.seq 2),
    (.region [⟨(.some 17), (.mv (.t 15)), .none, [], []⟩, ⟨(.some 18), (.idx 53 2 (.t 13) (.t 15)), .none, [], []⟩, ⟨(.some 19), (.ld (.some 2) (.t 18)), .none, [], []⟩, ⟨(.some 10), (.alloc 53 [(.int .i64 0), (.int .i64 0)]), .none, [], []⟩, ⟨(.some 9), (.mv (.t 17)), .none, [], []⟩, ⟨.none, (.st 2 (.t 10) (.t 19)), .none, [], []⟩] .false), (.seq 8), (.seq 2),
    (.region [⟨(.some 20), (.fad 0 (.t 10)), .none, [], []⟩, ⟨(.some 21), (.ld .none (.t 20)), .none, [], []⟩, ⟨(.some 22), (.fad 1 (.t 10)), .none, [], []⟩, ⟨(.some 23), (.ld .none (.t 22)), .none, [], []⟩, ⟨(.some 24), (.mnmx .true (.t 21) (.t 23)), .none, [], []⟩, ⟨(.some 25), (.mv (.t 2)), .none, [], []⟩, ⟨(.some 26), (.bin .lss .o (.t 24) (.t 25)), .none, [], []⟩] .false), (.cond (.t 26) 4), (.seq 2),
    (.region [⟨(.some 8), (.mv (.c (.int .i64 0))), .none, [], []⟩] .false), (.exit 1), .skip, (.seq 2),
    (.region [⟨(.some 27), (.mv (.t 8)), .none, [], [8]⟩, ⟨(.some 28), (.fad 8 (.t 3)), .none, [], [3]⟩, ⟨(.some 29), (.ld .none (.t 28)), .none, [1], [28]⟩, ⟨(.some 30), (.mv (.t 1)), .none, [], [1]⟩, ⟨(.some 31), (.idx 36 7 (.t 29) (.t 30)), .none, [2, 3], [29, 30]⟩, ⟨(.some 32), (.fad 6 (.t 31)), .none, [4], [31]⟩, ⟨(.some 33), (.ld .none (.t 32)), .none, [5], [32]⟩, ⟨(.some 34), (.mv (.t 9)), .none, [], [9]⟩, ⟨(.some 35), (.idx 39 3 (.t 33) (.t 34)), .none, [6, 7], [33, 34]⟩, ⟨(.some 36), (.ld (.some 3) (.t 35)), .none, [8], [35]⟩, ⟨(.some 37), (.fad 0 (.t 3)), .none, [], [3]⟩, ⟨(.some 38), (.ld (.some 4) (.t 37)), .none, [10], [37]⟩, ⟨(.some 39), (.call 40 [(.t 36), (.t 38), (.c (.bool .false))]), .none, [9, 11], [36, 38]⟩, ⟨(.some 40), (.bin .add .o (.t 27) (.t 39)), .none, [0, 12], [27, 39]⟩, ⟨(.some 8), (.mv (.t 40)), .none, [13, 12, 0, 1, 2, 3, 4, 5, 6, 7, 8, 9, 10, 11, 12, 13], [40]⟩] .true),
    (.region [⟨(.some 41), (.mv (.t 7)), .none, [], []⟩, ⟨(.some 42), (.mv (.t 8)), .none, [], []⟩, ⟨(.some 43), (.mnmx .true (.t 41) (.t 42)), .none, [], []⟩, ⟨(.some 7), (.mv (.t 43)), .none, [], []⟩] .false),
    (.region [⟨(.some 44), (.bin .add .o (.t 15) (.c (.int .i64 1))), .none, [], []⟩, ⟨(.some 15), (.mv (.t 44)), .none, [], []⟩] .false), (.seq 2),
    (.region [⟨(.some 45), (.mv (.t 7)), .none, [], []⟩, ⟨(.some 6), (.mv (.t 45)), .none, [], []⟩] .false), .ret]
theorem F19_at : F19.at Try.prog 19 Try.f19 := ⟨Try.func19, by kernel_rfl, by kernel_rfl, by kernel_rfl, by kernel_rfl, by kernel_rfl⟩

-- "signalbox/signalboxref24.Level" res .true
def F20 : AFn where
  np := 3
  nt := 89
  res := [(.t 6)]
  tab := [(.seq 2),
    (.region [⟨(.some 3), (.box 27 (.t 0)), .none, [], []⟩, ⟨(.some 4), (.box 36 (.t 1)), .none, [], []⟩, ⟨(.some 6), (.mv (.c (.int .i64 0))), .none, [], []⟩] .false), (.seq 2),
    (.region [⟨(.some 7), (.mv (.c (.int .i64 0))), .none, [], []⟩] .false), (.seq 2),
    (.region [⟨(.some 14), (.fad 1 (.t 4)), .none, [], []⟩, ⟨(.some 15), (.ld .none (.t 14)), .none, [], []⟩, ⟨(.some 8), (.mv (.t 15)), .none, [], []⟩] .false), (.seq 2),
    (.region [⟨(.some 16), (.fad 7 (.t 3)), .none, [], []⟩, ⟨(.some 17), (.ld .none (.t 16)), .none, [], []⟩, ⟨(.some 18), (.len .false (.t 17)), .none, [], []⟩, ⟨(.some 19), (.mks 3 1 8 [(.int .i64 0)] (.t 18) (.t 18)), .none, [], []⟩, ⟨(.some 9), (.mv (.t 19)), .none, [], []⟩] .false), (.seq 46), (.seq 2),
    (.region [⟨(.some 20), (.mv (.t 2)), .none, [], []⟩, ⟨(.some 21), (.len .false (.t 20)), .none, [], []⟩, ⟨(.some 22), (.mv (.c (.int .i64 0))), .none, [], []⟩] .false), (.block 0), .loop, (.seq 2),
    (.region [⟨(.some 23), (.bin .lss .o (.t 22) (.t 21)), .none, [], []⟩] .false), (.seq 4), (.cond (.t 23) 2), .skip, (.exit 0), (.seq 34), (.block 1), (.seq 2),
    (.region [⟨(.some 24), (.idx 39 3 (.t 20) (.t 22)), .none, [], []⟩, ⟨(.some 25), (.ld (.some 3) (.t 24)), .none, [], []⟩, ⟨(.some 11), (.alloc 39 [(.int .i64 0), (.int .i64 0), (.int .i64 0)]), .none, [], []⟩, ⟨.none, (.st 3 (.t 11) (.t 25)), .none, [], []⟩] .false), (.seq 2),
    (.region [⟨(.some 26), (.fad 0 (.t 11)), .none, [], []⟩, ⟨(.some 27), (.ld .none (.t 26)), .none, [], []⟩] .false), (.block 2), (.seq 2),
    (.region [⟨(.some 29), (.bin .eql .o (.t 27) (.c (.int .i64 3))), .none, [], []⟩, ⟨(.some 28), (.mv (.t 29)), .none, [], []⟩] .false), (.cond (.t 28) 2),
    (.region [⟨(.some 30), (.mv (.t 7)), .none, [], []⟩, ⟨(.some 31), (.bin .add .o (.t 30) (.c (.int .i64 1))), .none, [], []⟩, ⟨(.some 7), (.mv (.t 31)), .none, [], []⟩] .false), (.seq 2),
    (.region [⟨(.some 33), (.bin .eql .o (.t 27) (.c (.int .i64 4))), .none, [], []⟩, ⟨(.some 32), (.mv (.t 33)), .none, [], []⟩] .false), (.cond (.t 32) 2),
    (.region [⟨(.some 34), (.mv (.t 7)), .none, [], []⟩, ⟨(.some 35), (.bin .sub .o (.t 34) (.c (.int .i64 1))), .none, [], []⟩, ⟨(.some 36), (.mnmx .true (.t 35) (.c (.int .i64 0))), .none, [], []⟩, ⟨(.some 7), (.mv (.t 36)), .none, [], []⟩] .false), (.seq 6), (.seq 2),
    (.region [⟨(.some 38), (.bin .eql .o (.t 27) (.c (.int .i64 5))), .none, [], []⟩, ⟨(.some 37), (.mv (.t 38)), .none, [], []⟩] .false), (.cond (.t 37) 2), .skip,
    (.region [⟨(.some 39), (.bin .eql .o (.t 27) (.c (.int .i64 6))), .none, [], []⟩, ⟨(.some 37), (.mv (.t 39)), .none, [], []⟩] .false), (.cond (.t 37) 12), (.seq 6), (.seq 2),
    (.region [⟨(.some 40), (.fad 1 (.t 11)), .none, [], []⟩, ⟨(.some 41), (.ld .none (.t 40)), .none, [], []⟩, ⟨(.some 42), (.bin .lss .o (.t 41) (.c (.int .i64 0))), .none, [], []⟩, ⟨(.some 43), (.mv (.t 42)), .none, [], []⟩, ⟨(.some 44), (.fad 1 (.t 11)), (.some ((.some 43), .false)), [], []⟩, ⟨(.some 45), (.ld .none (.t 44)), (.some ((.some 43), .false)), [], []⟩, ⟨(.some 46), (.mv (.t 9)), (.some ((.some 43), .false)), [], []⟩, ⟨(.some 47), (.len .false (.t 46)), (.some ((.some 43), .false)), [], []⟩, ⟨(.some 48), (.bin .geq .o (.t 45) (.t 47)), (.some ((.some 43), .false)), [], []⟩, ⟨(.some 49), (.pick (.t 43) (.c (.bool .true)) (.t 48)), .none, [], []⟩] .false), (.cond (.t 49) 2), (.exit 1), .skip, (.seq 2),
    (.region [⟨(.some 50), (.fad 0 (.t 11)), .none, [], []⟩, ⟨(.some 51), (.ld .none (.t 50)), .none, [], []⟩, ⟨(.some 52), (.bin .eql .o (.t 51) (.c (.int .i64 5))), .none, [], []⟩] .false), (.cond (.t 52) 2),
    (.region [⟨(.some 53), (.mv (.t 9)), .none, [], []⟩, ⟨(.some 54), (.fad 1 (.t 11)), .none, [], []⟩, ⟨(.some 55), (.ld .none (.t 54)), .none, [], []⟩, ⟨(.some 56), (.idx 3 1 (.t 53) (.t 55)), .none, [], []⟩, ⟨.none, (.st 1 (.t 56) (.c (.int .i64 1))), .none, [], []⟩] .false),
    (.region [⟨(.some 57), (.mv (.t 9)), .none, [], []⟩, ⟨(.some 58), (.fad 1 (.t 11)), .none, [], []⟩, ⟨(.some 59), (.ld .none (.t 58)), .none, [], []⟩, ⟨(.some 60), (.idx 3 1 (.t 57) (.t 59)), .none, [], []⟩, ⟨.none, (.st 1 (.t 60) (.c (.int .i64 0))), .none, [], []⟩] .false), .skip,
    (.region [⟨(.some 61), (.bin .add .o (.t 22) (.c (.int .i64 1))), .none, [], []⟩, ⟨(.some 22), (.mv (.t 61)), .none, [], []⟩] .false), (.seq 21), (.seq 2),
    (.region [⟨(.some 62), (.mv (.t 9)), .none, [], []⟩, ⟨(.some 63), (.len .false (.t 62)), .none, [], []⟩, ⟨(.some 64), (.mv (.c (.int .i64 0))), .none, [], []⟩] .false), (.block 3), .loop, (.seq 2),
    (.region [⟨(.some 65), (.bin .lss .o (.t 64) (.t 63)), .none, [], []⟩] .false), (.seq 4), (.cond (.t 65) 2), .skip, (.exit 3), (.seq 9), (.block 4), (.seq 2),
    (.region [⟨(.some 66), (.mv (.t 64)), .none, [], []⟩, ⟨(.some 67), (.idx 3 1 (.t 62) (.t 64)), .none, [], []⟩, ⟨(.some 68), (.ld .none (.t 67)), .none, [], []⟩, ⟨(.some 12), (.mv (.t 66)), .none, [], []⟩, ⟨(.some 13), (.mv (.t 68)), .none, [], []⟩] .false), (.seq 2),
    (.region [⟨(.some 69), (.mv (.t 13)), .none, [], []⟩, ⟨(.some 70), (.bin .gtr .o (.t 69) (.c (.int .i64 0))), .none, [], []⟩, ⟨(.some 71), (.mv (.t 70)), .none, [], []⟩, ⟨(.some 72), (.fad 7 (.t 3)), (.some ((.some 71), .true)), [], []⟩, ⟨(.some 73), (.ld .none (.t 72)), (.some ((.some 71), .true)), [], []⟩, ⟨(.some 74), (.mv (.t 12)), (.some ((.some 71), .true)), [], []⟩, ⟨(.some 75), (.idx 3 1 (.t 73) (.t 74)), (.some ((.some 71), .true)), [], []⟩, ⟨(.some 76), (.ld .none (.t 75)), (.some ((.some 71), .true)), [], []⟩, ⟨(.some 77), (.mv (.t 8)), (.some ((.some 71), .true)), [], []⟩, ⟨(.some 78), (.bin .gtr .o (.t 76) (.t 77)), (.some ((.some 71), .true)), [], []⟩, ⟨(.some 79), (.pick (.t 71) (.t 78) (.c (.bool .false))), .none, [], []⟩] .false), (.cond (.t 79) 2),
    (.region [⟨(.some 80), (.fad 7 (.t 3)), .none, [], []⟩, ⟨(.some 81), (.ld .none (.t 80)), .none, [], []⟩, ⟨(.some 82), (.mv (.t 12)), .none, [], []⟩, ⟨(.some 83), (.idx 3 1 (.t 81) (.t 82)), .none, [], []⟩, ⟨(.some 84), (.ld .none (.t 83)), .none, [], []⟩, ⟨(.some 8), (.mv (.t 84)), .none, [], []⟩] .false), .skip,
    (.region [⟨(.some 85), (.bin .add .o (.t 64) (.c (.int .i64 1))), .none, [], []⟩, ⟨(.some 64), (.mv (.t 85)), .none, [], []⟩] .false), (.seq 8), (.seq 2),
    (.region [⟨(.some 86), (.mv (.t 7)), .none, [], []⟩, ⟨(.some 87), (.bin .gtr .o (.t 86) (.c (.int .i64 0))), .none, [], []⟩] .false), (.cond (.t 87) 4), (.seq 2),
    (.region [⟨(.some 6), (.mv (.c (.int .i64 64))), .none, [], []⟩] .false), .ret, .skip, (.seq 2),
    (.region [⟨(.some 88), (.mv (.t 8)), .none, [], []⟩, ⟨(.some 6), (.mv (.t 88)), .none, [], []⟩] .false), .ret]
theorem F20_at : F20.at Try.prog 20 Try.f20 := ⟨Try.func20, by kernel_rfl, by kernel_rfl, by kernel_rfl, by kernel_rfl, by kernel_rfl⟩

-- "signalbox/signalboxref24.Reach" res .true
def F21 : AFn where
  np := 2
  nt := 43
  res := [(.t 4)]
  tab := [(.seq 2),
    (.region [⟨(.some 2), (.box 27 (.t 0)), .none, [], []⟩, ⟨(.some 4), (.mv (.c .nils)), .none, [], []⟩] .false), (.seq 2),
    (.region [⟨(.some 9), (.fad 8 (.t 2)), .none, [], []⟩, ⟨(.some 10), (.ld .none (.t 9)), .none, [], []⟩, ⟨(.some 11), (.mv (.t 1)), .none, [], []⟩, ⟨(.some 12), (.idx 36 7 (.t 10) (.t 11)), .none, [], []⟩, ⟨(.some 13), (.ld (.some 7) (.t 12)), .none, [], []⟩, ⟨(.some 5), (.alloc 36 [(.int .i64 0), (.int .i64 0), (.int .i64 0), (.int .i64 0), (.int .i64 0), (.int .i64 0), .nils]), .none, [], []⟩, ⟨.none, (.st 7 (.t 5) (.t 13)), .none, [], []⟩] .false), (.seq 2),
    (.region [⟨(.some 6), (.mv (.c .nils)), .none, [], []⟩] .false), (.seq 36), (.seq 2),
    (.region [⟨(.some 14), (.fad 1 (.t 5)), .none, [], []⟩, ⟨(.some 15), (.ld .none (.t 14)), .none, [], []⟩, ⟨(.some 16), (.bin .add .o (.t 15) (.c (.int .i64 1))), .none, [], []⟩, ⟨(.some 7), (.mv (.t 16)), .none, [], []⟩] .false), (.block 0), .loop, (.seq 6), (.seq 2),
    (.region [⟨(.some 17), (.mv (.t 7)), .none, [], []⟩, ⟨(.some 18), (.bin .leq .o (.t 17) (.c (.int .i64 64))), .none, [], []⟩] .false), (.cond (.t 18) 2), .skip, (.exit 0), (.seq 24), (.block 1), (.seq 2),
    (.region [⟨(.some 21), (.fad 6 (.t 5)), .none, [], []⟩, ⟨(.some 22), (.ld .none (.t 21)), .none, [], []⟩, ⟨(.some 23), (.len .false (.t 22)), .none, [], []⟩, ⟨(.some 24), (.bin .add .o (.t 23) (.c (.int .i64 1))), .none, [], []⟩, ⟨(.some 25), (.mv (.c (.int .i64 0))), .none, [], []⟩] .false), (.block 2), .loop, (.seq 2),
    (.region [⟨(.some 26), (.bin .lss .o (.t 25) (.t 24)), .none, [], []⟩] .false), (.seq 4), (.cond (.t 26) 2), .skip, (.exit 2), (.seq 11), (.block 3), (.seq 2),
    (.region [⟨(.some 27), (.mv (.t 25)), .none, [], []⟩, ⟨(.some 8), (.mv (.t 27)), .none, [], []⟩] .false), (.seq 2),
    (.region [⟨(.some 28), (.ld (.some 10) (.t 2)), .none, [], [2]⟩, ⟨(.some 29), (.ld (.some 7) (.t 5)), .none, [], [5]⟩, ⟨(.some 30), (.fad 6 (.t 5)), .none, [], [5]⟩, ⟨(.some 31), (.ld .none (.t 30)), .none, [2], [30]⟩, ⟨(.some 32), (.mv (.t 8)), .none, [], [8]⟩, ⟨(.some 33), (.slc (.some 3) (.t 31) .none (.some (.t 32))), .none, [3, 4], [31, 32]⟩, ⟨(.some 34), (.call 20 [(.t 28), (.t 29), (.t 33)]), .none, [0, 1, 5], [28, 29, 33]⟩, ⟨(.some 35), (.mv (.t 7)), .none, [], [7]⟩, ⟨(.some 36), (.bin .eql .o (.t 34) (.t 35)), .none, [6, 7], [34, 35]⟩] .true), (.cond (.t 36) 4), (.seq 2),
    (.region [⟨(.some 37), (.mv (.t 6)), .none, [], []⟩, ⟨(.some 38), (.mv (.t 7)), .none, [], []⟩, ⟨(.some 39), (.lit 3 1 1 [(.int .i64 0)] [(0, (.t 38))]), .none, [], []⟩, ⟨(.some 40), (.app 3 1 8 [(.int .i64 0)] (.t 37) (.t 39)), .none, [], []⟩, ⟨(.some 6), (.mv (.t 40)), .none, [], []⟩] .false), (.exit 2), .skip,
    (.region [⟨(.some 41), (.bin .add .o (.t 25) (.c (.int .i64 1))), .none, [], []⟩, ⟨(.some 25), (.mv (.t 41)), .none, [], []⟩] .false),
    (.region [⟨(.some 19), (.mv (.t 7)), .none, [], []⟩, ⟨(.some 20), (.bin .add .o (.t 19) (.c (.int .i64 1))), .none, [], []⟩, ⟨(.some 7), (.mv (.t 20)), .none, [], []⟩] .false), (.seq 2),
    (.region [⟨(.some 42), (.mv (.t 6)), .none, [], []⟩, ⟨(.some 4), (.mv (.t 42)), .none, [], []⟩] .false), .ret]
theorem F21_at : F21.at Try.prog 21 Try.f21 := ⟨Try.func21, by kernel_rfl, by kernel_rfl, by kernel_rfl, by kernel_rfl, by kernel_rfl⟩

-- "signalbox/signalboxref24.Longest" res .true
def F22 : AFn where
  np := 3
  nt := 67
  res := [(.t 6)]
  tab := [(.seq 2),
    (.region [⟨(.some 3), (.box 27 (.t 0)), .none, [], []⟩, ⟨(.some 6), (.mv (.c (.int .i64 0))), .none, [], []⟩] .false), (.seq 2),
    (.region [⟨(.some 12), (.fad 8 (.t 3)), .none, [], []⟩, ⟨(.some 13), (.ld .none (.t 12)), .none, [], []⟩, ⟨(.some 14), (.mv (.t 1)), .none, [], []⟩, ⟨(.some 15), (.idx 36 7 (.t 13) (.t 14)), .none, [], []⟩, ⟨(.some 16), (.ld (.some 7) (.t 15)), .none, [], []⟩, ⟨(.some 7), (.alloc 36 [(.int .i64 0), (.int .i64 0), (.int .i64 0), (.int .i64 0), (.int .i64 0), (.int .i64 0), .nils]), .none, [], []⟩, ⟨.none, (.st 7 (.t 7) (.t 16)), .none, [], []⟩] .false), (.seq 2),
    (.region [⟨(.some 8), (.mv (.c (.int .i64 0))), .none, [], []⟩] .false), (.seq 40), (.seq 2),
    (.region [⟨(.some 17), (.fad 6 (.t 7)), .none, [], []⟩, ⟨(.some 18), (.ld .none (.t 17)), .none, [], []⟩, ⟨(.some 19), (.len .false (.t 18)), .none, [], []⟩, ⟨(.some 20), (.mv (.c (.int .i64 0))), .none, [], []⟩] .false), (.block 0), .loop, (.seq 2),
    (.region [⟨(.some 21), (.bin .lss .o (.t 20) (.t 19)), .none, [], []⟩] .false), (.seq 4), (.cond (.t 21) 2), .skip, (.exit 0), (.seq 28), (.block 1), (.seq 2),
    (.region [⟨(.some 22), (.mv (.t 20)), .none, [], []⟩, ⟨(.some 9), (.mv (.t 22)), .none, [], []⟩] .false), (.seq 2),
    (.region [⟨(.some 10), (.mv (.c (.int .i64 0))), .none, [], []⟩] .false), (.seq 2),
    (.region [⟨(.some 23), (.mv (.t 9)), .none, [], []⟩, ⟨(.some 11), (.mv (.t 23)), .none, [], []⟩] .false), (.block 2), .loop, (.seq 6), (.seq 2),
    (.region [⟨(.some 24), (.mv (.t 11)), .none, [], []⟩, ⟨(.some 25), (.fad 6 (.t 7)), .none, [], []⟩, ⟨(.some 26), (.ld .none (.t 25)), .none, [], []⟩, ⟨(.some 27), (.len .false (.t 26)), .none, [], []⟩, ⟨(.some 28), (.bin .lss .o (.t 24) (.t 27)), .none, [], []⟩] .false), (.cond (.t 28) 2), .skip, (.exit 2), (.seq 11), (.block 3), (.seq 6), (.seq 2),
    (.region [⟨(.some 31), (.ld (.some 10) (.t 3)), .none, [], [3]⟩, ⟨(.some 32), (.ld (.some 7) (.t 7)), .none, [], [7]⟩, ⟨(.some 33), (.fad 6 (.t 7)), .none, [], [7]⟩, ⟨(.some 34), (.ld .none (.t 33)), .none, [2], [33]⟩, ⟨(.some 35), (.mv (.t 11)), .none, [], [11]⟩, ⟨(.some 36), (.slc (.some 3) (.t 34) .none (.some (.t 35))), .none, [3, 4], [34, 35]⟩, ⟨(.some 37), (.call 20 [(.t 31), (.t 32), (.t 36)]), .none, [0, 1, 5], [31, 32, 36]⟩, ⟨(.some 38), (.mv (.t 2)), .none, [], [2]⟩, ⟨(.some 39), (.bin .lss .o (.t 37) (.t 38)), .none, [6, 7], [37, 38]⟩, ⟨(.some 40), (.mv (.t 39)), .none, [8, 6], [39]⟩, ⟨(.some 41), (.ld (.some 10) (.t 3)), (.some ((.some 40), .true)), [9], [3, 40]⟩, ⟨(.some 42), (.ld (.some 7) (.t 7)), (.some ((.some 40), .true)), [9], [7, 40]⟩, ⟨(.some 43), (.fad 6 (.t 7)), (.some ((.some 40), .true)), [9], [7, 40]⟩, ⟨(.some 44), (.ld .none (.t 43)), (.some ((.some 40), .true)), [12, 9], [43, 40]⟩, ⟨(.some 45), (.mv (.t 11)), (.some ((.some 40), .true)), [9], [11, 40]⟩, ⟨(.some 46), (.bin .add .o (.t 45) (.c (.int .i64 1))), (.some ((.some 40), .true)), [14, 9], [45, 40]⟩, ⟨(.some 47), (.slc (.some 3) (.t 44) .none (.some (.t 46))), (.some ((.some 40), .true)), [13, 15, 9], [44, 46, 40]⟩, ⟨(.some 48), (.call 20 [(.t 41), (.t 42), (.t 47)]), (.some ((.some 40), .true)), [10, 11, 16, 9, 9], [41, 42, 47, 40]⟩, ⟨(.some 49), (.mv (.t 2)), (.some ((.some 40), .true)), [9], [2, 40]⟩, ⟨(.some 50), (.bin .lss .o (.t 48) (.t 49)), (.some ((.some 40), .true)), [17, 18, 9], [48, 49, 40]⟩, ⟨(.some 51), (.pick (.t 40) (.t 50) (.c (.bool .false))), .none, [9, 19], [40, 50]⟩] .true), (.cond (.t 51) 2), (.exit 2), .skip, (.seq 2),
    (.region [⟨(.some 52), (.mv (.t 10)), .none, [], [10]⟩, ⟨(.some 53), (.fad 6 (.t 7)), .none, [], [7]⟩, ⟨(.some 54), (.ld .none (.t 53)), .none, [1], [53]⟩, ⟨(.some 55), (.mv (.t 11)), .none, [], [11]⟩, ⟨(.some 56), (.idx 39 3 (.t 54) (.t 55)), .none, [2, 3], [54, 55]⟩, ⟨(.some 57), (.ld (.some 3) (.t 56)), .none, [4], [56]⟩, ⟨(.some 58), (.fad 0 (.t 3)), .none, [], [3]⟩, ⟨(.some 59), (.ld (.some 4) (.t 58)), .none, [6], [58]⟩, ⟨(.some 60), (.call 41 [(.t 57), (.t 59), (.c (.bool .false))]), .none, [5, 7], [57, 59]⟩, ⟨(.some 61), (.bin .add .o (.t 52) (.t 60)), .none, [0, 8], [52, 60]⟩, ⟨(.some 10), (.mv (.t 61)), .none, [9, 8, 0, 1, 2, 3, 4, 5, 6, 7, 8, 9], [61]⟩] .true),
    (.region [⟨(.some 62), (.mv (.t 8)), .none, [], []⟩, ⟨(.some 63), (.mv (.t 10)), .none, [], []⟩, ⟨(.some 64), (.mnmx .true (.t 62) (.t 63)), .none, [], []⟩, ⟨(.some 8), (.mv (.t 64)), .none, [], []⟩] .false),
    (.region [⟨(.some 29), (.mv (.t 11)), .none, [], []⟩, ⟨(.some 30), (.bin .add .o (.t 29) (.c (.int .i64 1))), .none, [], []⟩, ⟨(.some 11), (.mv (.t 30)), .none, [], []⟩] .false),
    (.region [⟨(.some 65), (.bin .add .o (.t 20) (.c (.int .i64 1))), .none, [], []⟩, ⟨(.some 20), (.mv (.t 65)), .none, [], []⟩] .false), (.seq 2),
    (.region [⟨(.some 66), (.mv (.t 8)), .none, [], []⟩, ⟨(.some 6), (.mv (.t 66)), .none, [], []⟩] .false), .ret]
theorem F22_at : F22.at Try.prog 22 Try.f22 := ⟨Try.func22, by kernel_rfl, by kernel_rfl, by kernel_rfl, by kernel_rfl, by kernel_rfl⟩

-- "signalbox/signalboxlaw24.one" res .true
def F34 : AFn where
  np := 0
  nt := 13
  res := [(.cell 0 (.some 10))]
  tab := [(.seq 2),
    (.region [⟨(.some 0), (.alloc 27 [(.int .i64 0), (.int .i64 0), (.int .i64 0), (.int .i64 0), .nils, (.int .i64 0), .nils, .nils, .nils, .nils]), .none, [], []⟩] .false), (.seq 2),
    (.region [⟨(.some 1), (.build [(.int .i64 0), (.int .i64 0), (.int .i64 0), (.int .i64 0)] [(0, (1, (.c (.int .i64 1)))), (1, (1, (.c (.int .i64 1)))), (2, (1, (.c (.int .i64 1)))), (3, (1, (.c (.int .i64 5))))]), .none, [], []⟩, ⟨(.some 2), (.lit 3 1 1 [(.int .i64 0)] [(0, (.c (.int .i64 7)))]), .none, [], []⟩, ⟨(.some 3), (.build [(.int .i64 0), (.int .i64 0), (.int .i64 0)] [(0, (1, (.c (.int .i64 1)))), (1, (1, (.c (.int .i64 5))))]), .none, [], []⟩, ⟨(.some 4), (.build [(.int .i64 0), (.int .i64 0), (.int .i64 0)] [(0, (1, (.c (.int .i64 3))))]), .none, [], []⟩, ⟨(.some 5), (.build [(.int .i64 0), (.int .i64 0), (.int .i64 0)] [(0, (1, (.c (.int .i64 1)))), (1, (1, (.c (.int .i64 2))))]), .none, [], []⟩, ⟨(.some 6), (.build [(.int .i64 0), (.int .i64 0), (.int .i64 0)] [(0, (1, (.c (.int .i64 4))))]), .none, [], []⟩, ⟨(.some 7), (.build [(.int .i64 0), (.int .i64 0), (.int .i64 0)] [(0, (1, (.c (.int .i64 5))))]), .none, [], []⟩, ⟨(.some 8), (.build [(.int .i64 0), (.int .i64 0), (.int .i64 0)] [(0, (1, (.c (.int .i64 6))))]), .none, [], []⟩, ⟨(.some 9), (.lit 39 3 6 [(.int .i64 0), (.int .i64 0), (.int .i64 0)] [(0, (.t 3)), (1, (.t 4)), (2, (.t 5)), (3, (.t 6)), (4, (.t 7)), (5, (.t 8))]), .none, [], []⟩, ⟨(.some 10), (.build [(.int .i64 0), (.int .i64 0), (.int .i64 0), (.int .i64 0), (.int .i64 0), (.int .i64 0), .nils] [(0, (1, (.c (.int .i64 1)))), (1, (1, (.c (.int .i64 2)))), (6, (1, (.t 9)))]), .none, [], []⟩, ⟨(.some 11), (.lit 36 7 1 [(.int .i64 0), (.int .i64 0), (.int .i64 0), (.int .i64 0), (.int .i64 0), (.int .i64 0), .nils] [(0, (.t 10))]), .none, [], []⟩, ⟨(.some 12), (.build [(.int .i64 0), (.int .i64 0), (.int .i64 0), (.int .i64 0), .nils, (.int .i64 0), .nils, .nils, .nils, .nils] [(0, (4, (.t 1))), (7, (1, (.t 2))), (8, (1, (.t 11)))]), .none, [], []⟩, ⟨.none, (.st 10 (.t 0) (.t 12)), .none, [], []⟩] .false), .ret]
theorem F34_at : F34.at Try.prog 34 Try.f34 := ⟨Try.func34, by kernel_rfl, by kernel_rfl, by kernel_rfl, by kernel_rfl, by kernel_rfl⟩

-- "signalbox/section.is" res .true
def F35 : AFn where
  np := 2
  nt := 14
  res := [(.t 4)]
  tab := [(.seq 2),
    (.region [⟨(.some 2), (.box 27 (.t 0)), .none, [], []⟩, ⟨(.some 4), (.mv (.c (.bool .false))), .none, [], []⟩] .false), (.seq 2),
    (.region [⟨(.some 5), (.mv (.t 1)), .none, [], []⟩, ⟨(.some 6), (.bin .geq .o (.t 5) (.c (.int .i64 0))), .none, [], []⟩, ⟨(.some 7), (.mv (.t 6)), .none, [], []⟩, ⟨(.some 8), (.mv (.t 1)), (.some ((.some 7), .true)), [], []⟩, ⟨(.some 9), (.fad 8 (.t 2)), (.some ((.some 7), .true)), [], []⟩, ⟨(.some 10), (.ld .none (.t 9)), (.some ((.some 7), .true)), [], []⟩, ⟨(.some 11), (.len .false (.t 10)), (.some ((.some 7), .true)), [], []⟩, ⟨(.some 12), (.bin .lss .o (.t 8) (.t 11)), (.some ((.some 7), .true)), [], []⟩, ⟨(.some 13), (.pick (.t 7) (.t 12) (.c (.bool .false))), .none, [], []⟩, ⟨(.some 4), (.mv (.t 13)), .none, [], []⟩] .false), .ret]
theorem F35_at : F35.at Try.prog 35 Try.f35 := ⟨Try.func35, by kernel_rfl, by kernel_rfl, by kernel_rfl, by kernel_rfl, by kernel_rfl⟩

-- "signalbox/ceiling.New" res .true
def F36 : AFn where
  np := 1
  nt := 27
  res := [(.t 2)]
  tab := [(.seq 2),
    (.region [⟨(.some 2), (.mv (.c .nilp)), .none, [], []⟩] .false), (.seq 2),
    (.region [⟨(.some 6), (.build [.nils] []), .none, [], []⟩, ⟨(.some 7), (.box 82 (.t 6)), .none, [], []⟩, ⟨(.some 3), (.mv (.t 7)), .none, [], []⟩] .false), (.seq 17), (.seq 2),
    (.region [⟨(.some 8), (.mv (.t 0)), .none, [], []⟩, ⟨(.some 9), (.len .false (.t 8)), .none, [], []⟩, ⟨(.some 10), (.mv (.c (.int .i64 0))), .none, [], []⟩] .false), (.block 0), .loop, (.seq 2),
    (.region [⟨(.some 11), (.bin .lss .o (.t 10) (.t 9)), .none, [], []⟩] .false), (.seq 4), (.cond (.t 11) 2), .skip, (.exit 0), (.seq 5), (.block 1), (.seq 2),
    (.region [⟨(.some 12), (.idx 3 1 (.t 8) (.t 10)), .none, [], []⟩, ⟨(.some 13), (.ld .none (.t 12)), .none, [], []⟩, ⟨(.some 5), (.mv (.t 13)), .none, [], []⟩] .false),
    (.region [⟨(.some 14), (.mv (.t 3)), .none, [], []⟩, ⟨(.some 15), (.mv (.t 3)), .none, [], []⟩, ⟨(.some 16), (.nilc (.t 15)), .none, [], []⟩, ⟨(.some 17), (.fad 0 (.t 16)), .none, [], []⟩, ⟨(.some 18), (.ld .none (.t 17)), .none, [], []⟩, ⟨(.some 19), (.mv (.t 5)), .none, [], []⟩, ⟨(.some 20), (.build [(.int .i64 0), (.int .i64 0), (.bool .false)] [(0, (1, (.t 19)))]), .none, [], []⟩, ⟨(.some 21), (.lit 84 3 1 [(.int .i64 0), (.int .i64 0), (.bool .false)] [(0, (.t 20))]), .none, [], []⟩, ⟨(.some 22), (.app 84 3 24 [(.int .i64 0), (.int .i64 0), (.bool .false)] (.t 18) (.t 21)), .none, [], []⟩, ⟨(.some 23), (.nilc (.t 14)), .none, [], []⟩, ⟨(.some 24), (.fad 0 (.t 23)), .none, [], []⟩, ⟨.none, (.st 1 (.t 24) (.t 22)), .none, [], []⟩] .false),
    (.region [⟨(.some 25), (.bin .add .o (.t 10) (.c (.int .i64 1))), .none, [], []⟩, ⟨(.some 10), (.mv (.t 25)), .none, [], []⟩] .false), (.seq 2),
    (.region [⟨(.some 26), (.mv (.t 3)), .none, [], []⟩, ⟨(.some 2), (.mv (.t 26)), .none, [], []⟩] .false), .ret]
theorem F36_at : F36.at Try.prog 36 Try.f36 := ⟨Try.func36, by kernel_rfl, by kernel_rfl, by kernel_rfl, by kernel_rfl, by kernel_rfl⟩

-- "(*signalbox/section.walker).step" res .true
def F37 : AFn where
  np := 2
  nt := 53
  res := [(.cell 4 (.some 2))]
  tab := [(.seq 2),
    (.region [⟨(.some 3), (.box 39 (.t 1)), .none, [], []⟩, ⟨(.some 4), (.alloc 53 [(.int .i64 0), (.int .i64 0)]), .none, [], []⟩] .false), (.seq 2),
    (.region [⟨(.some 6), (.mv (.t 0)), .none, [], []⟩, ⟨(.some 7), (.call 46 [(.t 6)]), .none, [], []⟩, ⟨(.some 8), (.build [(.int .i64 0), (.int .i64 0)] [(0, (1, (.t 7)))]), .none, [], []⟩, ⟨(.some 5), (.alloc 53 [(.int .i64 0), (.int .i64 0)]), .none, [], []⟩, ⟨.none, (.st 2 (.t 5) (.t 8)), .none, [], []⟩] .false), (.seq 21), (.seq 2),
    (.region [⟨(.some 9), (.fad 0 (.t 3)), .none, [], []⟩, ⟨(.some 10), (.ld .none (.t 9)), .none, [], []⟩] .false), (.block 0), (.seq 2),
    (.region [⟨(.some 12), (.bin .eql .o (.t 10) (.c (.int .i64 3))), .none, [], []⟩, ⟨(.some 11), (.mv (.t 12)), .none, [], []⟩] .false), (.cond (.t 11) 2),
    (.region [⟨(.some 13), (.mv (.t 0)), .none, [], []⟩, ⟨(.some 14), (.nilc (.t 13)), .none, [], []⟩, ⟨(.some 15), (.fad 1 (.t 14)), .none, [], []⟩, ⟨(.some 16), (.ld .none (.t 15)), .none, [], []⟩, ⟨(.some 17), (.bin .add .o (.t 16) (.c (.int .i64 1))), .none, [], []⟩, ⟨(.some 18), (.nilc (.t 13)), .none, [], []⟩, ⟨(.some 19), (.fad 1 (.t 18)), .none, [], []⟩, ⟨.none, (.st 1 (.t 19) (.t 17)), .none, [], []⟩] .false), (.seq 2),
    (.region [⟨(.some 21), (.bin .eql .o (.t 10) (.c (.int .i64 4))), .none, [], []⟩, ⟨(.some 20), (.mv (.t 21)), .none, [], []⟩] .false), (.cond (.t 20) 2),
    (.region [⟨(.some 22), (.mv (.t 0)), .none, [], []⟩, ⟨(.some 23), (.mv (.t 0)), .none, [], []⟩, ⟨(.some 24), (.nilc (.t 23)), .none, [], []⟩, ⟨(.some 25), (.fad 1 (.t 24)), .none, [], []⟩, ⟨(.some 26), (.ld .none (.t 25)), .none, [], []⟩, ⟨(.some 27), (.bin .sub .o (.t 26) (.c (.int .i64 1))), .none, [], []⟩, ⟨(.some 28), (.mnmx .true (.t 27) (.c (.int .i64 0))), .none, [], []⟩, ⟨(.some 29), (.nilc (.t 22)), .none, [], []⟩, ⟨(.some 30), (.fad 1 (.t 29)), .none, [], []⟩, ⟨.none, (.st 1 (.t 30) (.t 28)), .none, [], []⟩] .false), (.seq 2),
    (.region [⟨(.some 32), (.bin .eql .o (.t 10) (.c (.int .i64 5))), .none, [], []⟩, ⟨(.some 31), (.mv (.t 32)), .none, [], []⟩] .false), (.cond (.t 31) 2),
    (.region [⟨(.some 33), (.mv (.t 0)), .none, [], [0]⟩, ⟨(.some 34), (.nilc (.t 33)), .none, [0], [33]⟩, ⟨(.some 35), (.fad 2 (.t 34)), .none, [1], [34]⟩, ⟨(.some 36), (.ld .none (.t 35)), .none, [2], [35]⟩, ⟨(.some 37), (.fad 1 (.t 3)), .none, [], [3]⟩, ⟨(.some 38), (.ld .none (.t 37)), .none, [4], [37]⟩, ⟨(.some 39), (.call 47 [(.t 36), (.t 38), (.c (.int .i64 0))]), .none, [3, 5], [36, 38]⟩] .true), (.seq 2),
    (.region [⟨(.some 41), (.bin .eql .o (.t 10) (.c (.int .i64 6))), .none, [], []⟩, ⟨(.some 40), (.mv (.t 41)), .none, [], []⟩] .false), (.cond (.t 40) 2),
    (.region [⟨(.some 42), (.mv (.t 0)), .none, [], [0]⟩, ⟨(.some 43), (.nilc (.t 42)), .none, [0], [42]⟩, ⟨(.some 44), (.fad 2 (.t 43)), .none, [1], [43]⟩, ⟨(.some 45), (.ld .none (.t 44)), .none, [2], [44]⟩, ⟨(.some 46), (.fad 1 (.t 3)), .none, [], [3]⟩, ⟨(.some 47), (.ld .none (.t 46)), .none, [4], [46]⟩, ⟨(.some 48), (.call 48 [(.t 45), (.t 47), (.c (.int .i64 0))]), .none, [3, 5], [45, 47]⟩] .true), .skip, (.seq 2),
    (.region [⟨(.some 49), (.mv (.t 0)), .none, [], []⟩, ⟨(.some 50), (.call 46 [(.t 49)]), .none, [], []⟩, ⟨(.some 51), (.fad 1 (.t 5)), .none, [], []⟩, ⟨.none, (.st 1 (.t 51) (.t 50)), .none, [], []⟩] .false), (.seq 2),
    (.region [⟨(.some 52), (.ld (.some 2) (.t 5)), .none, [], []⟩, ⟨.none, (.st 2 (.t 4) (.t 52)), .none, [], []⟩] .false), .ret]
theorem F37_at : F37.at Try.prog 37 Try.f37 := ⟨Try.func37, by kernel_rfl, by kernel_rfl, by kernel_rfl, by kernel_rfl, by kernel_rfl⟩

-- "slices.Sort[[]int,int]" res .true
def F38 : AFn where
  np := 1
  nt := 11
  res := []
  tab := [(.seq 2),
    (.region [⟨(.some 3), (.mv (.t 0)), .none, [], []⟩, ⟨(.some 4), (.len .false (.t 3)), .none, [], []⟩, ⟨(.some 2), (.mv (.t 4)), .none, [], []⟩] .false),
    (.region [⟨(.some 5), (.mv (.t 0)), .none, [], []⟩, ⟨(.some 6), (.mv (.t 2)), .none, [], []⟩, ⟨(.some 7), (.mv (.t 2)), .none, [], []⟩, ⟨(.some 8), (.cvt .u64 (.t 7)), .none, [], []⟩, ⟨(.some 9), (.call 50 [(.t 8)]), .none, [], []⟩, ⟨(.some 10), (.call 49 [(.t 5), (.c (.int .i64 0)), (.t 6), (.t 9)]), .none, [], []⟩] .false)]
theorem F38_at : F38.at Try.prog 38 Try.f38 := ⟨Try.func38, by kernel_rfl, by kernel_rfl, by kernel_rfl, by kernel_rfl, by kernel_rfl⟩

-- "slices.Compact[[]int,int]" res .true
def F39 : AFn where
  np := 1
  nt := 61
  res := [(.t 2)]
  tab := [(.seq 2),
    (.region [⟨(.some 2), (.mv (.c .nils)), .none, [], []⟩] .false), (.seq 8), (.seq 2),
    (.region [⟨(.some 6), (.mv (.t 0)), .none, [], []⟩, ⟨(.some 7), (.len .false (.t 6)), .none, [], []⟩, ⟨(.some 8), (.bin .lss .o (.t 7) (.c (.int .i64 2))), .none, [], []⟩] .false), (.cond (.t 8) 4), (.seq 2),
    (.region [⟨(.some 9), (.mv (.t 0)), .none, [], []⟩, ⟨(.some 2), (.mv (.t 9)), .none, [], []⟩] .false), .ret, .skip, (.seq 46), (.seq 2),
    (.region [⟨(.some 3), (.mv (.c (.int .i64 1))), .none, [], []⟩] .false), (.block 0), .loop, (.seq 6), (.seq 2),
    (.region [⟨(.some 10), (.mv (.t 3)), .none, [], []⟩, ⟨(.some 11), (.mv (.t 0)), .none, [], []⟩, ⟨(.some 12), (.len .false (.t 11)), .none, [], []⟩, ⟨(.some 13), (.bin .lss .o (.t 10) (.t 12)), .none, [], []⟩] .false), (.cond (.t 13) 2), .skip, (.exit 0), (.seq 34), (.block 1), (.seq 2),
    (.region [⟨(.some 16), (.mv (.t 0)), .none, [], [0]⟩, ⟨(.some 17), (.mv (.t 3)), .none, [], [3]⟩, ⟨(.some 18), (.idx 3 1 (.t 16) (.t 17)), .none, [0, 1], [16, 17]⟩, ⟨(.some 19), (.ld .none (.t 18)), .none, [2], [18]⟩, ⟨(.some 20), (.mv (.t 0)), .none, [], [0]⟩, ⟨(.some 21), (.mv (.t 3)), .none, [], [3]⟩, ⟨(.some 22), (.bin .sub .o (.t 21) (.c (.int .i64 1))), .none, [5], [21]⟩, ⟨(.some 23), (.idx 3 1 (.t 20) (.t 22)), .none, [4, 6], [20, 22]⟩, ⟨(.some 24), (.ld .none (.t 23)), .none, [7], [23]⟩, ⟨(.some 25), (.bin .eql .o (.t 19) (.t 24)), .none, [3, 8], [19, 24]⟩] .true), (.cond (.t 25) 29), (.seq 2),
    (.region [⟨(.some 26), (.mv (.t 0)), .none, [], []⟩, ⟨(.some 27), (.mv (.t 3)), .none, [], []⟩, ⟨(.some 28), (.slc (.some 1) (.t 26) (.some (.t 27)) .none), .none, [], []⟩, ⟨(.some 4), (.mv (.t 28)), .none, [], []⟩] .false), (.seq 21), (.seq 2),
    (.region [⟨(.some 5), (.mv (.c (.int .i64 1))), .none, [], []⟩] .false), (.block 2), .loop, (.seq 6), (.seq 2),
    (.region [⟨(.some 29), (.mv (.t 5)), .none, [], []⟩, ⟨(.some 30), (.mv (.t 4)), .none, [], []⟩, ⟨(.some 31), (.len .false (.t 30)), .none, [], []⟩, ⟨(.some 32), (.bin .lss .o (.t 29) (.t 31)), .none, [], []⟩] .false), (.cond (.t 32) 2), .skip, (.exit 2), (.seq 9), (.block 3), (.seq 2),
    (.region [⟨(.some 35), (.mv (.t 4)), .none, [], [4]⟩, ⟨(.some 36), (.mv (.t 5)), .none, [], [5]⟩, ⟨(.some 37), (.idx 3 1 (.t 35) (.t 36)), .none, [0, 1], [35, 36]⟩, ⟨(.some 38), (.ld .none (.t 37)), .none, [2], [37]⟩, ⟨(.some 39), (.mv (.t 4)), .none, [], [4]⟩, ⟨(.some 40), (.mv (.t 5)), .none, [], [5]⟩, ⟨(.some 41), (.bin .sub .o (.t 40) (.c (.int .i64 1))), .none, [5], [40]⟩, ⟨(.some 42), (.idx 3 1 (.t 39) (.t 41)), .none, [4, 6], [39, 41]⟩, ⟨(.some 43), (.ld .none (.t 42)), .none, [7], [42]⟩, ⟨(.some 44), (.bin .neq .o (.t 38) (.t 43)), .none, [3, 8], [38, 43]⟩] .true), (.cond (.t 44) 4), (.seq 2),
    (.region [⟨(.some 45), (.mv (.t 0)), .none, [], []⟩, ⟨(.some 46), (.mv (.t 3)), .none, [], []⟩, ⟨(.some 47), (.mv (.t 4)), .none, [], []⟩, ⟨(.some 48), (.mv (.t 5)), .none, [], []⟩, ⟨(.some 49), (.idx 3 1 (.t 47) (.t 48)), .none, [], []⟩, ⟨(.some 50), (.ld .none (.t 49)), .none, [], []⟩, ⟨(.some 51), (.idx 3 1 (.t 45) (.t 46)), .none, [], []⟩, ⟨.none, (.st 1 (.t 51) (.t 50)), .none, [], []⟩] .false),
    (.region [⟨(.some 52), (.mv (.t 3)), .none, [], []⟩, ⟨(.some 53), (.bin .add .o (.t 52) (.c (.int .i64 1))), .none, [], []⟩, ⟨(.some 3), (.mv (.t 53)), .none, [], []⟩] .false), .skip,
    (.region [⟨(.some 33), (.mv (.t 5)), .none, [], []⟩, ⟨(.some 34), (.bin .add .o (.t 33) (.c (.int .i64 1))), .none, [], []⟩, ⟨(.some 5), (.mv (.t 34)), .none, [], []⟩] .false), (.seq 2),
    (.region [⟨(.some 54), (.mv (.t 0)), .none, [], []⟩, ⟨(.some 55), (.mv (.t 3)), .none, [], []⟩, ⟨(.some 56), (.slc (.some 1) (.t 54) (.some (.t 55)) .none), .none, [], []⟩, ⟨.none, (.clr 1 [(.int .i64 0)] (.t 56)), .none, [], []⟩] .false), (.seq 2),
    (.region [⟨(.some 57), (.mv (.t 0)), .none, [], []⟩, ⟨(.some 58), (.mv (.t 3)), .none, [], []⟩, ⟨(.some 59), (.slc (.some 1) (.t 57) .none (.some (.t 58))), .none, [], []⟩, ⟨(.some 2), (.mv (.t 59)), .none, [], []⟩] .false), .ret, .skip,
    (.region [⟨(.some 14), (.mv (.t 3)), .none, [], []⟩, ⟨(.some 15), (.bin .add .o (.t 14) (.c (.int .i64 1))), .none, [], []⟩, ⟨(.some 3), (.mv (.t 15)), .none, [], []⟩] .false), (.seq 2),
    (.region [⟨(.some 60), (.mv (.t 0)), .none, [], []⟩, ⟨(.some 2), (.mv (.t 60)), .none, [], []⟩] .false), .ret]
theorem F39_at : F39.at Try.prog 39 Try.f39 := ⟨Try.func39, by kernel_rfl, by kernel_rfl, by kernel_rfl, by kernel_rfl, by kernel_rfl⟩

-- "signalbox/cost.Of" res .true
def F40 : AFn where
  np := 3
  nt := 26
  res := [(.t 6)]
  tab := [(.seq 2),
    (.region [⟨(.some 3), (.box 39 (.t 0)), .none, [], []⟩, ⟨(.some 4), (.box 23 (.t 1)), .none, [], []⟩, ⟨(.some 6), (.mv (.c (.int .i64 0))), .none, [], []⟩] .false), (.seq 21), (.block 0), (.seq 2),
    (.region [⟨(.some 8), (.fad 0 (.t 3)), .none, [], []⟩, ⟨(.some 9), (.ld .none (.t 8)), .none, [], []⟩, ⟨(.some 10), (.bin .eql .o (.t 9) (.c (.int .i64 1))), .none, [], []⟩, ⟨(.some 7), (.mv (.t 10)), .none, [], []⟩] .false), (.cond (.t 7) 4), (.seq 2),
    (.region [⟨(.some 11), (.fad 1 (.t 3)), .none, [], []⟩, ⟨(.some 12), (.ld .none (.t 11)), .none, [], []⟩, ⟨(.some 13), (.call 51 [(.t 12)]), .none, [], []⟩, ⟨(.some 6), (.mv (.t 13)), .none, [], []⟩] .false), .ret, (.seq 2),
    (.region [⟨(.some 15), (.fad 0 (.t 3)), .none, [], []⟩, ⟨(.some 16), (.ld .none (.t 15)), .none, [], []⟩, ⟨(.some 17), (.bin .neq .o (.t 16) (.c (.int .i64 2))), .none, [], []⟩, ⟨(.some 14), (.mv (.t 17)), .none, [], []⟩] .false), (.cond (.t 14) 4), (.seq 2),
    (.region [⟨(.some 6), (.mv (.c (.int .i64 1))), .none, [], []⟩] .false), .ret, (.seq 2),
    (.region [⟨(.some 19), (.mv (.t 2)), .none, [], []⟩, ⟨(.some 18), (.mv (.t 19)), .none, [], []⟩] .false), (.cond (.t 18) 4), (.seq 2),
    (.region [⟨(.some 20), (.fad 2 (.t 4)), .none, [], []⟩, ⟨(.some 21), (.ld .none (.t 20)), .none, [], []⟩, ⟨(.some 22), (.call 51 [(.t 21)]), .none, [], []⟩, ⟨(.some 6), (.mv (.t 22)), .none, [], []⟩] .false), .ret, .skip, (.seq 2),
    (.region [⟨(.some 23), (.fad 3 (.t 4)), .none, [], []⟩, ⟨(.some 24), (.ld .none (.t 23)), .none, [], []⟩, ⟨(.some 25), (.call 51 [(.t 24)]), .none, [], []⟩, ⟨(.some 6), (.mv (.t 25)), .none, [], []⟩] .false), .ret]
theorem F40_at : F40.at Try.prog 40 Try.f40 := ⟨Try.func40, by kernel_rfl, by kernel_rfl, by kernel_rfl, by kernel_rfl, by kernel_rfl⟩

-- "signalbox/signalboxref09.Of" res .true
def F41 : AFn where
  np := 3
  nt := 28
  res := [(.t 6)]
  tab := [(.seq 2),
    (.region [⟨(.some 3), (.box 39 (.t 0)), .none, [], []⟩, ⟨(.some 4), (.box 23 (.t 1)), .none, [], []⟩, ⟨(.some 6), (.mv (.c (.int .i64 0))), .none, [], []⟩] .false), (.seq 8), (.seq 2),
    (.region [⟨(.some 7), (.fad 0 (.t 3)), .none, [], []⟩, ⟨(.some 8), (.ld .none (.t 7)), .none, [], []⟩, ⟨(.some 9), (.bin .eql .o (.t 8) (.c (.int .i64 1))), .none, [], []⟩] .false), (.cond (.t 9) 4), (.seq 2),
    (.region [⟨(.some 10), (.fad 1 (.t 3)), .none, [], []⟩, ⟨(.some 11), (.ld .none (.t 10)), .none, [], []⟩, ⟨(.some 12), (.call 52 [(.t 11)]), .none, [], []⟩, ⟨(.some 6), (.mv (.t 12)), .none, [], []⟩] .false), .ret, .skip, (.seq 8), (.seq 2),
    (.region [⟨(.some 13), (.fad 0 (.t 3)), .none, [], []⟩, ⟨(.some 14), (.ld .none (.t 13)), .none, [], []⟩, ⟨(.some 15), (.bin .eql .o (.t 14) (.c (.int .i64 2))), .none, [], []⟩, ⟨(.some 16), (.mv (.t 15)), .none, [], []⟩, ⟨(.some 17), (.mv (.t 2)), (.some ((.some 16), .true)), [], []⟩, ⟨(.some 18), (.pick (.t 16) (.t 17) (.c (.bool .false))), .none, [], []⟩] .false), (.cond (.t 18) 4), (.seq 2),
    (.region [⟨(.some 19), (.fad 2 (.t 4)), .none, [], []⟩, ⟨(.some 20), (.ld .none (.t 19)), .none, [], []⟩, ⟨(.some 21), (.call 52 [(.t 20)]), .none, [], []⟩, ⟨(.some 6), (.mv (.t 21)), .none, [], []⟩] .false), .ret, .skip, (.seq 8), (.seq 2),
    (.region [⟨(.some 22), (.fad 0 (.t 3)), .none, [], []⟩, ⟨(.some 23), (.ld .none (.t 22)), .none, [], []⟩, ⟨(.some 24), (.bin .eql .o (.t 23) (.c (.int .i64 2))), .none, [], []⟩] .false), (.cond (.t 24) 4), (.seq 2),
    (.region [⟨(.some 25), (.fad 3 (.t 4)), .none, [], []⟩, ⟨(.some 26), (.ld .none (.t 25)), .none, [], []⟩, ⟨(.some 27), (.call 52 [(.t 26)]), .none, [], []⟩, ⟨(.some 6), (.mv (.t 27)), .none, [], []⟩] .false), .ret, .skip, (.seq 2),
    (.region [⟨(.some 6), (.mv (.c (.int .i64 1))), .none, [], []⟩] .false), .ret]
theorem F41_at : F41.at Try.prog 41 Try.f41 := ⟨Try.func41, by kernel_rfl, by kernel_rfl, by kernel_rfl, by kernel_rfl, by kernel_rfl⟩

-- "(*signalbox/section.walker).level" res .true
def F46 : AFn where
  np := 1
  nt := 17
  res := [(.t 2)]
  tab := [(.seq 2),
    (.region [⟨(.some 2), (.mv (.c (.int .i64 0))), .none, [], []⟩] .false), (.seq 8), (.seq 2),
    (.region [⟨(.some 3), (.mv (.t 0)), .none, [], []⟩, ⟨(.some 4), (.nilc (.t 3)), .none, [], []⟩, ⟨(.some 5), (.fad 1 (.t 4)), .none, [], []⟩, ⟨(.some 6), (.ld .none (.t 5)), .none, [], []⟩, ⟨(.some 7), (.bin .gtr .o (.t 6) (.c (.int .i64 0))), .none, [], []⟩] .false), (.cond (.t 7) 4), (.seq 2),
    (.region [⟨(.some 2), (.mv (.c (.int .i64 64))), .none, [], []⟩] .false), .ret, .skip, (.seq 2),
    (.region [⟨(.some 8), (.mv (.t 0)), .none, [], [0]⟩, ⟨(.some 9), (.nilc (.t 8)), .none, [0], [8]⟩, ⟨(.some 10), (.fad 2 (.t 9)), .none, [1], [9]⟩, ⟨(.some 11), (.ld .none (.t 10)), .none, [2], [10]⟩, ⟨(.some 12), (.mv (.t 0)), .none, [], [0]⟩, ⟨(.some 13), (.nilc (.t 12)), .none, [4], [12]⟩, ⟨(.some 14), (.fad 0 (.t 13)), .none, [5], [13]⟩, ⟨(.some 15), (.ld .none (.t 14)), .none, [6], [14]⟩, ⟨(.some 16), (.call 56 [(.t 11), (.c (.int .i64 0)), (.t 15)]), .none, [3, 7], [11, 15]⟩, ⟨(.some 2), (.mv (.t 16)), .none, [8, 8, 0, 1, 2, 3, 4, 5, 6, 7, 8], [16]⟩] .true), .ret]
theorem F46_at : F46.at Try.prog 46 Try.f46 := ⟨Try.func46, by kernel_rfl, by kernel_rfl, by kernel_rfl, by kernel_rfl, by kernel_rfl⟩

-- "(*signalbox/ceiling.Locks).Lock" res .true
def F47 : AFn where
  np := 3
  nt := 26
  res := [(.t 6)]
  tab := [(.seq 2),
    (.region [⟨(.some 6), (.mv (.c (.int .i64 0))), .none, [], []⟩] .false), (.seq 2),
    (.region [⟨(.some 8), (.mv (.t 0)), .none, [], []⟩, ⟨(.some 9), (.mv (.t 1)), .none, [], []⟩, ⟨(.some 10), (.call 57 [(.t 8), (.t 9)]), .none, [], []⟩, ⟨(.some 7), (.mv (.t 10)), .none, [], []⟩] .false), (.seq 15), (.block 0), (.seq 2),
    (.region [⟨(.some 12), (.mv (.t 7)), .none, [], []⟩, ⟨(.some 13), (.bin .eql .p (.t 12) (.c .nilp)), .none, [], []⟩, ⟨(.some 11), (.mv (.t 13)), .none, [], []⟩] .false), (.cond (.t 11) 4), (.seq 2),
    (.region [⟨(.some 6), (.mv (.c (.int .i64 6))), .none, [], []⟩] .false), .ret, (.seq 2),
    (.region [⟨(.some 15), (.mv (.t 7)), .none, [], []⟩, ⟨(.some 16), (.nilc (.t 15)), .none, [], []⟩, ⟨(.some 17), (.fad 2 (.t 16)), .none, [], []⟩, ⟨(.some 18), (.ld .none (.t 17)), .none, [], []⟩, ⟨(.some 14), (.mv (.t 18)), .none, [], []⟩] .false), (.cond (.t 14) 4), (.seq 2),
    (.region [⟨(.some 6), (.mv (.c (.int .i64 10))), .none, [], []⟩] .false), .ret, .skip, (.seq 2),
    (.region [⟨(.some 19), (.mv (.t 7)), .none, [], []⟩, ⟨(.some 20), (.mv (.t 7)), .none, [], []⟩, ⟨(.some 21), (.mv (.t 2)), .none, [], []⟩, ⟨(.some 22), (.nilc (.t 19)), .none, [], []⟩, ⟨(.some 23), (.fad 1 (.t 22)), .none, [], []⟩, ⟨.none, (.st 1 (.t 23) (.t 21)), .none, [], []⟩, ⟨(.some 24), (.nilc (.t 20)), .none, [], []⟩, ⟨(.some 25), (.fad 2 (.t 24)), .none, [], []⟩, ⟨.none, (.st 1 (.t 25) (.c (.bool .true))), .none, [], []⟩] .false), (.seq 2),
    (.region [⟨(.some 6), (.mv (.c (.int .i64 0))), .none, [], []⟩] .false), .ret]
theorem F47_at : F47.at Try.prog 47 Try.f47 := ⟨Try.func47, by kernel_rfl, by kernel_rfl, by kernel_rfl, by kernel_rfl, by kernel_rfl⟩

-- "(*signalbox/ceiling.Locks).Unlock" res .true
def F48 : AFn where
  np := 3
  nt := 34
  res := [(.t 6)]
  tab := [(.seq 2),
    (.region [⟨(.some 6), (.mv (.c (.int .i64 0))), .none, [], []⟩] .false), (.seq 2),
    (.region [⟨(.some 8), (.mv (.t 0)), .none, [], []⟩, ⟨(.some 9), (.mv (.t 1)), .none, [], []⟩, ⟨(.some 10), (.call 57 [(.t 8), (.t 9)]), .none, [], []⟩, ⟨(.some 7), (.mv (.t 10)), .none, [], []⟩] .false), (.seq 15), (.block 0), (.seq 2),
    (.region [⟨(.some 12), (.mv (.t 7)), .none, [], []⟩, ⟨(.some 13), (.bin .eql .p (.t 12) (.c .nilp)), .none, [], []⟩, ⟨(.some 11), (.mv (.t 13)), .none, [], []⟩] .false), (.cond (.t 11) 4), (.seq 2),
    (.region [⟨(.some 6), (.mv (.c (.int .i64 6))), .none, [], []⟩] .false), .ret, (.seq 2),
    (.region [⟨(.some 15), (.mv (.t 7)), .none, [], []⟩, ⟨(.some 16), (.nilc (.t 15)), .none, [], []⟩, ⟨(.some 17), (.fad 2 (.t 16)), .none, [], []⟩, ⟨(.some 18), (.ld .none (.t 17)), .none, [], []⟩, ⟨(.some 19), (.un .not (.t 18)), .none, [], []⟩, ⟨(.some 20), (.mv (.t 19)), .none, [], []⟩, ⟨(.some 21), (.mv (.t 7)), (.some ((.some 20), .false)), [], []⟩, ⟨(.some 22), (.nilc (.t 21)), (.some ((.some 20), .false)), [], []⟩, ⟨(.some 23), (.fad 1 (.t 22)), (.some ((.some 20), .false)), [], []⟩, ⟨(.some 24), (.ld .none (.t 23)), (.some ((.some 20), .false)), [], []⟩, ⟨(.some 25), (.mv (.t 2)), (.some ((.some 20), .false)), [], []⟩, ⟨(.some 26), (.bin .neq .o (.t 24) (.t 25)), (.some ((.some 20), .false)), [], []⟩, ⟨(.some 27), (.pick (.t 20) (.c (.bool .true)) (.t 26)), .none, [], []⟩, ⟨(.some 14), (.mv (.t 27)), .none, [], []⟩] .false), (.cond (.t 14) 4), (.seq 2),
    (.region [⟨(.some 6), (.mv (.c (.int .i64 8))), .none, [], []⟩] .false), .ret, .skip, (.seq 2),
    (.region [⟨(.some 28), (.mv (.t 7)), .none, [], []⟩, ⟨(.some 29), (.mv (.t 7)), .none, [], []⟩, ⟨(.some 30), (.nilc (.t 28)), .none, [], []⟩, ⟨(.some 31), (.fad 1 (.t 30)), .none, [], []⟩, ⟨.none, (.st 1 (.t 31) (.c (.int .i64 0))), .none, [], []⟩, ⟨(.some 32), (.nilc (.t 29)), .none, [], []⟩, ⟨(.some 33), (.fad 2 (.t 32)), .none, [], []⟩, ⟨.none, (.st 1 (.t 33) (.c (.bool .false))), .none, [], []⟩] .false), (.seq 2),
    (.region [⟨(.some 6), (.mv (.c (.int .i64 0))), .none, [], []⟩] .false), .ret]
theorem F48_at : F48.at Try.prog 48 Try.f48 := ⟨Try.func48, by kernel_rfl, by kernel_rfl, by kernel_rfl, by kernel_rfl, by kernel_rfl⟩

-- "slices.pdqsortOrdered[int]" res .true
def F49 : AFn where
  np := 4
  nt := 134
  res := []
  tab := [(.seq 2),
    (.region [⟨(.some 8), (.mv (.c (.bool .true))), .none, [], []⟩] .false), (.seq 2),
    (.region [⟨(.some 9), (.mv (.c (.bool .true))), .none, [], []⟩] .false), (.block 0), .loop, (.block 1), (.seq 2),
    (.region [⟨(.some 19), (.mv (.t 2)), .none, [], []⟩, ⟨(.some 20), (.mv (.t 1)), .none, [], []⟩, ⟨(.some 21), (.bin .sub .o (.t 19) (.t 20)), .none, [], []⟩, ⟨(.some 10), (.mv (.t 21)), .none, [], []⟩] .false), (.seq 8), (.seq 2),
    (.region [⟨(.some 22), (.mv (.t 10)), .none, [], []⟩, ⟨(.some 23), (.bin .leq .o (.t 22) (.c (.int .i64 12))), .none, [], []⟩] .false), (.cond (.t 23) 4), (.seq 2),
    (.region [⟨(.some 24), (.mv (.t 0)), .none, [], []⟩, ⟨(.some 25), (.mv (.t 1)), .none, [], []⟩, ⟨(.some 26), (.mv (.t 2)), .none, [], []⟩, ⟨(.some 27), (.call 58 [(.t 24), (.t 25), (.t 26)]), .none, [], []⟩] .false), .ret, .skip, (.seq 8), (.seq 2),
    (.region [⟨(.some 28), (.mv (.t 3)), .none, [], []⟩, ⟨(.some 29), (.bin .eql .o (.t 28) (.c (.int .i64 0))), .none, [], []⟩] .false), (.cond (.t 29) 4), (.seq 2),
    (.region [⟨(.some 30), (.mv (.t 0)), .none, [], []⟩, ⟨(.some 31), (.mv (.t 1)), .none, [], []⟩, ⟨(.some 32), (.mv (.t 2)), .none, [], []⟩, ⟨(.some 33), (.call 59 [(.t 30), (.t 31), (.t 32)]), .none, [], []⟩] .false), .ret, .skip, (.seq 8), (.seq 2),
    (.region [⟨(.some 34), (.mv (.t 8)), .none, [], []⟩, ⟨(.some 35), (.un .not (.t 34)), .none, [], []⟩] .false), (.cond (.t 35) 4), (.seq 2),
    (.region [⟨(.some 36), (.mv (.t 0)), .none, [], []⟩, ⟨(.some 37), (.mv (.t 1)), .none, [], []⟩, ⟨(.some 38), (.mv (.t 2)), .none, [], []⟩, ⟨(.some 39), (.call 60 [(.t 36), (.t 37), (.t 38)]), .none, [], []⟩] .false),
    (.region [⟨(.some 40), (.mv (.t 3)), .none, [], []⟩, ⟨(.some 41), (.bin .sub .o (.t 40) (.c (.int .i64 1))), .none, [], []⟩, ⟨(.some 3), (.mv (.t 41)), .none, [], []⟩] .false), .skip, (.seq 2),
    (.region [⟨(.some 43), (.mv (.t 0)), .none, [], []⟩, ⟨(.some 44), (.mv (.t 1)), .none, [], []⟩, ⟨(.some 45), (.mv (.t 2)), .none, [], []⟩, ⟨(.some 46), (.call 61 [(.t 43), (.t 44), (.t 45)]), .none, [], []⟩, ⟨(.some 42), (.mv (.t 46)), .none, [], []⟩, ⟨(.some 47), (.ext (.t 42) 0), .none, [], []⟩, ⟨(.some 48), (.ext (.t 42) 1), .none, [], []⟩, ⟨(.some 11), (.mv (.t 47)), .none, [], []⟩, ⟨(.some 12), (.mv (.t 48)), .none, [], []⟩] .false), (.seq 10), (.seq 2),
    (.region [⟨(.some 49), (.mv (.t 12)), .none, [], []⟩, ⟨(.some 50), (.bin .eql .o (.t 49) (.c (.int .i64 2))), .none, [], []⟩] .false), (.cond (.t 50) 6), (.seq 2),
    (.region [⟨(.some 51), (.mv (.t 0)), .none, [], []⟩, ⟨(.some 52), (.mv (.t 1)), .none, [], []⟩, ⟨(.some 53), (.mv (.t 2)), .none, [], []⟩, ⟨(.some 54), (.call 62 [(.t 51), (.t 52), (.t 53)]), .none, [], []⟩] .false), (.seq 2),
    (.region [⟨(.some 55), (.mv (.t 2)), .none, [], []⟩, ⟨(.some 56), (.bin .sub .o (.t 55) (.c (.int .i64 1))), .none, [], []⟩, ⟨(.some 57), (.mv (.t 11)), .none, [], []⟩, ⟨(.some 58), (.mv (.t 1)), .none, [], []⟩, ⟨(.some 59), (.bin .sub .o (.t 57) (.t 58)), .none, [], []⟩, ⟨(.some 60), (.bin .sub .o (.t 56) (.t 59)), .none, [], []⟩, ⟨(.some 11), (.mv (.t 60)), .none, [], []⟩] .false),
    (.region [⟨(.some 12), (.mv (.c (.int .i64 1))), .none, [], []⟩] .false), .skip, (.seq 10), (.seq 2),
    (.region [⟨(.some 61), (.mv (.t 8)), .none, [], []⟩, ⟨(.some 62), (.mv (.t 61)), .none, [], []⟩, ⟨(.some 63), (.mv (.t 9)), (.some ((.some 62), .true)), [], []⟩, ⟨(.some 64), (.pick (.t 62) (.t 63) (.c (.bool .false))), .none, [], []⟩, ⟨(.some 65), (.mv (.t 64)), .none, [], []⟩, ⟨(.some 66), (.mv (.t 12)), (.some ((.some 65), .true)), [], []⟩, ⟨(.some 67), (.bin .eql .o (.t 66) (.c (.int .i64 1))), (.some ((.some 65), .true)), [], []⟩, ⟨(.some 68), (.pick (.t 65) (.t 67) (.c (.bool .false))), .none, [], []⟩] .false), (.cond (.t 68) 6), (.seq 2),
    (.region [⟨(.some 69), (.mv (.t 0)), .none, [], []⟩, ⟨(.some 70), (.mv (.t 1)), .none, [], []⟩, ⟨(.some 71), (.mv (.t 2)), .none, [], []⟩, ⟨(.some 72), (.call 63 [(.t 69), (.t 70), (.t 71)]), .none, [], []⟩] .false), (.cond (.t 72) 2), .ret, .skip, .skip, (.seq 10), (.seq 2),
    (.region [⟨(.some 73), (.mv (.t 1)), .none, [], [1]⟩, ⟨(.some 74), (.bin .gtr .o (.t 73) (.c (.int .i64 0))), .none, [0], [73]⟩, ⟨(.some 75), (.mv (.t 74)), .none, [1], [74]⟩, ⟨(.some 76), (.mv (.t 0)), (.some ((.some 75), .true)), [2], [0, 75]⟩, ⟨(.some 77), (.mv (.t 1)), (.some ((.some 75), .true)), [2], [1, 75]⟩, ⟨(.some 78), (.bin .sub .o (.t 77) (.c (.int .i64 1))), (.some ((.some 75), .true)), [4, 2], [77, 75]⟩, ⟨(.some 79), (.idx 3 1 (.t 76) (.t 78)), (.some ((.some 75), .true)), [3, 5, 2], [76, 78, 75]⟩, ⟨(.some 80), (.ld .none (.t 79)), (.some ((.some 75), .true)), [6, 2], [79, 75]⟩, ⟨(.some 81), (.mv (.t 0)), (.some ((.some 75), .true)), [2], [0, 75]⟩, ⟨(.some 82), (.mv (.t 11)), (.some ((.some 75), .true)), [2], [11, 75]⟩, ⟨(.some 83), (.idx 3 1 (.t 81) (.t 82)), (.some ((.some 75), .true)), [8, 9, 2], [81, 82, 75]⟩, ⟨(.some 84), (.ld .none (.t 83)), (.some ((.some 75), .true)), [10, 2], [83, 75]⟩, ⟨(.some 85), (.call 64 [(.t 80), (.t 84)]), (.some ((.some 75), .true)), [7, 11, 2, 2], [80, 84, 75]⟩, ⟨(.some 86), (.un .not (.t 85)), (.some ((.some 75), .true)), [12, 2], [85, 75]⟩, ⟨(.some 87), (.pick (.t 75) (.t 86) (.c (.bool .false))), .none, [2, 13], [75, 86]⟩] .true), (.cond (.t 87) 6), (.seq 2),
    (.region [⟨(.some 88), (.mv (.t 0)), .none, [], []⟩, ⟨(.some 89), (.mv (.t 1)), .none, [], []⟩, ⟨(.some 90), (.mv (.t 2)), .none, [], []⟩, ⟨(.some 91), (.mv (.t 11)), .none, [], []⟩, ⟨(.some 92), (.call 65 [(.t 88), (.t 89), (.t 90), (.t 91)]), .none, [], []⟩, ⟨(.some 13), (.mv (.t 92)), .none, [], []⟩] .false), (.seq 2),
    (.region [⟨(.some 93), (.mv (.t 13)), .none, [], []⟩, ⟨(.some 1), (.mv (.t 93)), .none, [], []⟩] .false), (.exit 1), .skip, (.seq 2),
    (.region [⟨(.some 95), (.mv (.t 0)), .none, [], []⟩, ⟨(.some 96), (.mv (.t 1)), .none, [], []⟩, ⟨(.some 97), (.mv (.t 2)), .none, [], []⟩, ⟨(.some 98), (.mv (.t 11)), .none, [], []⟩, ⟨(.some 99), (.call 66 [(.t 95), (.t 96), (.t 97), (.t 98)]), .none, [], []⟩, ⟨(.some 94), (.mv (.t 99)), .none, [], []⟩, ⟨(.some 100), (.ext (.t 94) 0), .none, [], []⟩, ⟨(.some 101), (.ext (.t 94) 1), .none, [], []⟩, ⟨(.some 14), (.mv (.t 100)), .none, [], []⟩, ⟨(.some 15), (.mv (.t 101)), .none, [], []⟩] .false), (.seq 2),
    (.region [⟨(.some 102), (.mv (.t 15)), .none, [], []⟩, ⟨(.some 9), (.mv (.t 102)), .none, [], []⟩] .false), (.seq 2),
    (.region [⟨(.some 103), (.mv (.t 14)), .none, [], []⟩, ⟨(.some 104), (.mv (.t 1)), .none, [], []⟩, ⟨(.some 105), (.bin .sub .o (.t 103) (.t 104)), .none, [], []⟩, ⟨(.some 106), (.mv (.t 2)), .none, [], []⟩, ⟨(.some 107), (.mv (.t 14)), .none, [], []⟩, ⟨(.some 108), (.bin .sub .o (.t 106) (.t 107)), .none, [], []⟩, ⟨(.some 16), (.mv (.t 105)), .none, [], []⟩, ⟨(.some 17), (.mv (.t 108)), .none, [], []⟩] .false), (.seq 2),
    (.region [⟨(.some 109), (.mv (.t 10)), .none, [], []⟩, ⟨(.some 110), (.bin .quo .o (.t 109) (.c (.int .i64 8))), .none, [], []⟩, ⟨(.some 18), (.mv (.t 110)), .none, [], []⟩] .false), (.seq 2),
    (.region [⟨(.some 111), (.mv (.t 16)), .none, [], []⟩, ⟨(.some 112), (.mv (.t 17)), .none, [], []⟩, ⟨(.some 113), (.bin .lss .o (.t 111) (.t 112)), .none, [], []⟩] .false), (.cond (.t 113) 6), (.seq 2),
    (.region [⟨(.some 114), (.mv (.t 16)), .none, [], []⟩, ⟨(.some 115), (.mv (.t 18)), .none, [], []⟩, ⟨(.some 116), (.bin .geq .o (.t 114) (.t 115)), .none, [], []⟩, ⟨(.some 8), (.mv (.t 116)), .none, [], []⟩] .false), (.seq 2),
    (.region [⟨(.some 117), (.mv (.t 0)), .none, [], []⟩, ⟨(.some 118), (.mv (.t 1)), .none, [], []⟩, ⟨(.some 119), (.mv (.t 14)), .none, [], []⟩, ⟨(.some 120), (.mv (.t 3)), .none, [], []⟩, ⟨(.some 121), (.call 49 [(.t 117), (.t 118), (.t 119), (.t 120)]), .none, [], []⟩] .false),
    (.region [⟨(.some 122), (.mv (.t 14)), .none, [], []⟩, ⟨(.some 123), (.bin .add .o (.t 122) (.c (.int .i64 1))), .none, [], []⟩, ⟨(.some 1), (.mv (.t 123)), .none, [], []⟩] .false), (.seq 2),
    (.region [⟨(.some 124), (.mv (.t 17)), .none, [], []⟩, ⟨(.some 125), (.mv (.t 18)), .none, [], []⟩, ⟨(.some 126), (.bin .geq .o (.t 124) (.t 125)), .none, [], []⟩, ⟨(.some 8), (.mv (.t 126)), .none, [], []⟩] .false), (.seq 2),
    (.region [⟨(.some 127), (.mv (.t 0)), .none, [], []⟩, ⟨(.some 128), (.mv (.t 14)), .none, [], []⟩, ⟨(.some 129), (.bin .add .o (.t 128) (.c (.int .i64 1))), .none, [], []⟩, ⟨(.some 130), (.mv (.t 2)), .none, [], []⟩, ⟨(.some 131), (.mv (.t 3)), .none, [], []⟩, ⟨(.some 132), (.call 49 [(.t 127), (.t 129), (.t 130), (.t 131)]), .none, [], []⟩] .false),
    (.region [⟨(.some 133), (.mv (.t 14)), .none, [], []⟩, ⟨(.some 2), (.mv (.t 133)), .none, [], []⟩] .false)]
theorem F49_at : F49.at Try.prog 49 Try.f49 := ⟨Try.func49, by kernel_rfl, by kernel_rfl, by kernel_rfl, by kernel_rfl, by kernel_rfl⟩

-- "math/bits.Len" res .true
def F50 : AFn where
  np := 1
  nt := 8
  res := [(.t 2)]
  tab := [(.seq 2),
    (.region [⟨(.some 2), (.mv (.c (.int .i64 0))), .none, [], []⟩] .false), (.seq 6), (.cond (.c (.bool .false)) 4), (.seq 2),
    (.region [⟨(.some 3), (.mv (.t 0)), .none, [], []⟩, ⟨(.some 4), (.cvt .u32 (.t 3)), .none, [], []⟩, ⟨(.some 5), (.call 67 [(.t 4)]), .none, [], []⟩, ⟨(.some 2), (.mv (.t 5)), .none, [], []⟩] .false), .ret, .skip, (.seq 2),
    (.region [⟨(.some 6), (.mv (.t 0)), .none, [], []⟩, ⟨(.some 7), (.call 68 [(.t 6)]), .none, [], []⟩, ⟨(.some 2), (.mv (.t 7)), .none, [], []⟩] .false), .ret]
theorem F50_at : F50.at Try.prog 50 Try.f50 := ⟨Try.func50, by kernel_rfl, by kernel_rfl, by kernel_rfl, by kernel_rfl, by kernel_rfl⟩

-- "signalbox/cost.clamp" res .true
def F51 : AFn where
  np := 1
  nt := 6
  res := [(.t 2)]
  tab := [(.seq 2),
    (.region [⟨(.some 2), (.mv (.c (.int .i64 0))), .none, [], []⟩] .false), (.seq 2),
    (.region [⟨(.some 3), (.mv (.t 0)), .none, [], []⟩, ⟨(.some 4), (.mnmx .true (.t 3) (.c (.int .i64 0))), .none, [], []⟩, ⟨(.some 5), (.mnmx .false (.t 4) (.c (.int .i64 1073741824))), .none, [], []⟩, ⟨(.some 2), (.mv (.t 5)), .none, [], []⟩] .false), .ret]
theorem F51_at : F51.at Try.prog 51 Try.f51 := ⟨Try.func51, by kernel_rfl, by kernel_rfl, by kernel_rfl, by kernel_rfl, by kernel_rfl⟩

-- "signalbox/signalboxref09.clamp" res .true
def F52 : AFn where
  np := 1
  nt := 8
  res := [(.t 2)]
  tab := [(.seq 2),
    (.region [⟨(.some 2), (.mv (.c (.int .i64 0))), .none, [], []⟩] .false), (.seq 8), (.seq 2),
    (.region [⟨(.some 3), (.mv (.t 0)), .none, [], []⟩, ⟨(.some 4), (.bin .lss .o (.t 3) (.c (.int .i64 0))), .none, [], []⟩] .false), (.cond (.t 4) 4), (.seq 2),
    (.region [⟨(.some 2), (.mv (.c (.int .i64 0))), .none, [], []⟩] .false), .ret, .skip, (.seq 8), (.seq 2),
    (.region [⟨(.some 5), (.mv (.t 0)), .none, [], []⟩, ⟨(.some 6), (.bin .gtr .o (.t 5) (.c (.int .i64 1073741824))), .none, [], []⟩] .false), (.cond (.t 6) 4), (.seq 2),
    (.region [⟨(.some 2), (.mv (.c (.int .i64 1073741824))), .none, [], []⟩] .false), .ret, .skip, (.seq 2),
    (.region [⟨(.some 7), (.mv (.t 0)), .none, [], []⟩, ⟨(.some 2), (.mv (.t 7)), .none, [], []⟩] .false), .ret]
theorem F52_at : F52.at Try.prog 52 Try.f52 := ⟨Try.func52, by kernel_rfl, by kernel_rfl, by kernel_rfl, by kernel_rfl, by kernel_rfl⟩

-- "(*signalbox/ceiling.Locks).Level" res .true
def F56 : AFn where
  np := 3
  nt := 27
  res := [(.t 6)]
  tab := [(.seq 2),
    (.region [⟨(.some 6), (.mv (.c (.int .i64 0))), .none, [], []⟩] .false), (.seq 17), (.seq 2),
    (.region [⟨(.some 9), (.mv (.t 0)), .none, [], []⟩, ⟨(.some 10), (.mv (.t 1)), .none, [], []⟩, ⟨(.some 11), (.call 71 [(.t 9), (.t 10)]), .none, [], []⟩, ⟨(.some 12), (.len .false (.t 11)), .none, [], []⟩, ⟨(.some 13), (.mv (.c (.int .i64 0))), .none, [], []⟩] .false), (.block 0), .loop, (.seq 2),
    (.region [⟨(.some 14), (.bin .lss .o (.t 13) (.t 12)), .none, [], []⟩] .false), (.seq 4), (.cond (.t 14) 2), .skip, (.exit 0), (.seq 5), (.block 1), (.seq 2),
    (.region [⟨(.some 15), (.idx 3 1 (.t 11) (.t 13)), .none, [], []⟩, ⟨(.some 16), (.ld .none (.t 15)), .none, [], []⟩, ⟨(.some 8), (.mv (.t 16)), .none, [], []⟩] .false),
    (.region [⟨(.some 17), (.mv (.t 2)), .none, [], []⟩, ⟨(.some 18), (.mv (.t 0)), .none, [], []⟩, ⟨(.some 19), (.mv (.t 8)), .none, [], []⟩, ⟨(.some 20), (.call 57 [(.t 18), (.t 19)]), .none, [], []⟩, ⟨(.some 21), (.nilc (.t 20)), .none, [], []⟩, ⟨(.some 22), (.fad 0 (.t 21)), .none, [], []⟩, ⟨(.some 23), (.ld .none (.t 22)), .none, [], []⟩, ⟨(.some 24), (.mnmx .true (.t 17) (.t 23)), .none, [], []⟩, ⟨(.some 2), (.mv (.t 24)), .none, [], []⟩] .false),
    (.region [⟨(.some 25), (.bin .add .o (.t 13) (.c (.int .i64 1))), .none, [], []⟩, ⟨(.some 13), (.mv (.t 25)), .none, [], []⟩] .false), (.seq 2),
    (.region [⟨(.some 26), (.mv (.t 2)), .none, [], []⟩, ⟨(.some 6), (.mv (.t 26)), .none, [], []⟩] .false), .ret]
theorem F56_at : F56.at Try.prog 56 Try.f56 := ⟨Try.func56, by kernel_rfl, by kernel_rfl, by kernel_rfl, by kernel_rfl, by kernel_rfl⟩

-- "(*signalbox/ceiling.Locks).at" res .true
def F57 : AFn where
  np := 2
  nt := 19
  res := [(.t 4)]
  tab := [(.seq 2),
    (.region [⟨(.some 4), (.mv (.c .nilp)), .none, [], []⟩] .false), (.seq 8), (.seq 2),
    (.region [⟨(.some 5), (.mv (.t 1)), .none, [], []⟩, ⟨(.some 6), (.bin .lss .o (.t 5) (.c (.int .i64 0))), .none, [], []⟩, ⟨(.some 7), (.mv (.t 6)), .none, [], []⟩, ⟨(.some 8), (.mv (.t 1)), (.some ((.some 7), .false)), [], []⟩, ⟨(.some 9), (.mv (.t 0)), (.some ((.some 7), .false)), [], []⟩, ⟨(.some 10), (.call 72 [(.t 9)]), (.some ((.some 7), .false)), [], []⟩, ⟨(.some 11), (.bin .geq .o (.t 8) (.t 10)), (.some ((.some 7), .false)), [], []⟩, ⟨(.some 12), (.pick (.t 7) (.c (.bool .true)) (.t 11)), .none, [], []⟩] .false), (.cond (.t 12) 4), (.seq 2),
    (.region [⟨(.some 4), (.mv (.c .nilp)), .none, [], []⟩] .false), .ret, .skip, (.seq 2),
    (.region [⟨(.some 13), (.mv (.t 0)), .none, [], []⟩, ⟨(.some 14), (.nilc (.t 13)), .none, [], []⟩, ⟨(.some 15), (.fad 0 (.t 14)), .none, [], []⟩, ⟨(.some 16), (.ld .none (.t 15)), .none, [], []⟩, ⟨(.some 17), (.mv (.t 1)), .none, [], []⟩, ⟨(.some 18), (.idx 84 3 (.t 16) (.t 17)), .none, [], []⟩, ⟨(.some 4), (.mv (.t 18)), .none, [], []⟩] .false), .ret]
theorem F57_at : F57.at Try.prog 57 Try.f57 := ⟨Try.func57, by kernel_rfl, by kernel_rfl, by kernel_rfl, by kernel_rfl, by kernel_rfl⟩

-- "slices.insertionSortOrdered[int]" res .true
def F58 : AFn where
  np := 3
  nt := 49
  res := []
  tab := [(.seq 2),
    (.region [⟨(.some 8), (.mv (.t 1)), .none, [], []⟩, ⟨(.some 9), (.bin .add .o (.t 8) (.c (.int .i64 1))), .none, [], []⟩, ⟨(.some 6), (.mv (.t 9)), .none, [], []⟩] .false), (.block 0), .loop, (.seq 6), (.seq 2),
    (.region [⟨(.some 10), (.mv (.t 6)), .none, [], []⟩, ⟨(.some 11), (.mv (.t 2)), .none, [], []⟩, ⟨(.some 12), (.bin .lss .o (.t 10) (.t 11)), .none, [], []⟩] .false), (.cond (.t 12) 2), .skip, (.exit 0), (.seq 16), (.block 1), (.seq 2),
    (.region [⟨(.some 15), (.mv (.t 6)), .none, [], []⟩, ⟨(.some 7), (.mv (.t 15)), .none, [], []⟩] .false), (.block 2), .loop, (.seq 6), (.seq 2),
    (.region [⟨(.some 16), (.mv (.t 7)), .none, [], [7]⟩, ⟨(.some 17), (.mv (.t 1)), .none, [], [1]⟩, ⟨(.some 18), (.bin .gtr .o (.t 16) (.t 17)), .none, [0, 1], [16, 17]⟩, ⟨(.some 19), (.mv (.t 18)), .none, [2], [18]⟩, ⟨(.some 20), (.mv (.t 0)), (.some ((.some 19), .true)), [3], [0, 19]⟩, ⟨(.some 21), (.mv (.t 7)), (.some ((.some 19), .true)), [3], [7, 19]⟩, ⟨(.some 22), (.idx 3 1 (.t 20) (.t 21)), (.some ((.some 19), .true)), [4, 5, 3], [20, 21, 19]⟩, ⟨(.some 23), (.ld .none (.t 22)), (.some ((.some 19), .true)), [6, 3], [22, 19]⟩, ⟨(.some 24), (.mv (.t 0)), (.some ((.some 19), .true)), [3], [0, 19]⟩, ⟨(.some 25), (.mv (.t 7)), (.some ((.some 19), .true)), [3], [7, 19]⟩, ⟨(.some 26), (.bin .sub .o (.t 25) (.c (.int .i64 1))), (.some ((.some 19), .true)), [9, 3], [25, 19]⟩, ⟨(.some 27), (.idx 3 1 (.t 24) (.t 26)), (.some ((.some 19), .true)), [8, 10, 3], [24, 26, 19]⟩, ⟨(.some 28), (.ld .none (.t 27)), (.some ((.some 19), .true)), [11, 3], [27, 19]⟩, ⟨(.some 29), (.call 64 [(.t 23), (.t 28)]), (.some ((.some 19), .true)), [7, 12, 3, 3], [23, 28, 19]⟩, ⟨(.some 30), (.pick (.t 19) (.t 29) (.c (.bool .false))), .none, [3, 13], [19, 29]⟩] .true), (.cond (.t 30) 2), .skip, (.exit 2), (.seq 3), (.block 3),
    (.region [⟨(.some 33), (.mv (.t 0)), .none, [], [0]⟩, ⟨(.some 34), (.mv (.t 7)), .none, [], [7]⟩, ⟨(.some 35), (.mv (.t 0)), .none, [], [0]⟩, ⟨(.some 36), (.mv (.t 7)), .none, [], [7]⟩, ⟨(.some 37), (.bin .sub .o (.t 36) (.c (.int .i64 1))), .none, [3], [36]⟩, ⟨(.some 38), (.mv (.t 0)), .none, [], [0]⟩, ⟨(.some 39), (.mv (.t 7)), .none, [], [7]⟩, ⟨(.some 40), (.bin .sub .o (.t 39) (.c (.int .i64 1))), .none, [6], [39]⟩, ⟨(.some 41), (.idx 3 1 (.t 38) (.t 40)), .none, [5, 7], [38, 40]⟩, ⟨(.some 42), (.ld .none (.t 41)), .none, [8], [41]⟩, ⟨(.some 43), (.mv (.t 0)), .none, [], [0]⟩, ⟨(.some 44), (.mv (.t 7)), .none, [], [7]⟩, ⟨(.some 45), (.idx 3 1 (.t 43) (.t 44)), .none, [10, 11], [43, 44]⟩, ⟨(.some 46), (.ld .none (.t 45)), .none, [12], [45]⟩, ⟨(.some 47), (.idx 3 1 (.t 33) (.t 34)), .none, [0, 1, 0, 1, 5, 6, 7, 8, 9, 13], [33, 34]⟩, ⟨.none, (.st 1 (.t 47) (.t 42)), .none, [14, 9, 0, 1, 5, 6, 7, 8, 9, 13], [47, 42]⟩, ⟨(.some 48), (.idx 3 1 (.t 35) (.t 37)), .none, [2, 4, 0, 1, 2, 3, 4, 5, 6, 7, 8, 9, 10, 11, 12, 13, 14, 15], [35, 37]⟩, ⟨.none, (.st 1 (.t 48) (.t 46)), .none, [16, 13, 15, 0, 1, 2, 3, 4, 5, 6, 7, 8, 9, 10, 11, 12, 13, 14, 15], [48, 46]⟩] .true),
    (.region [⟨(.some 31), (.mv (.t 7)), .none, [], []⟩, ⟨(.some 32), (.bin .sub .o (.t 31) (.c (.int .i64 1))), .none, [], []⟩, ⟨(.some 7), (.mv (.t 32)), .none, [], []⟩] .false),
    (.region [⟨(.some 13), (.mv (.t 6)), .none, [], []⟩, ⟨(.some 14), (.bin .add .o (.t 13) (.c (.int .i64 1))), .none, [], []⟩, ⟨(.some 6), (.mv (.t 14)), .none, [], []⟩] .false)]
theorem F58_at : F58.at Try.prog 58 Try.f58 := ⟨Try.func58, by kernel_rfl, by kernel_rfl, by kernel_rfl, by kernel_rfl, by kernel_rfl⟩

-- "slices.heapSortOrdered[int]" res .true
def F59 : AFn where
  np := 3
  nt := 56
  res := []
  tab := [(.seq 2),
    (.region [⟨(.some 11), (.mv (.t 1)), .none, [], []⟩, ⟨(.some 6), (.mv (.t 11)), .none, [], []⟩] .false), (.seq 2),
    (.region [⟨(.some 7), (.mv (.c (.int .i64 0))), .none, [], []⟩] .false), (.seq 2),
    (.region [⟨(.some 12), (.mv (.t 2)), .none, [], []⟩, ⟨(.some 13), (.mv (.t 1)), .none, [], []⟩, ⟨(.some 14), (.bin .sub .o (.t 12) (.t 13)), .none, [], []⟩, ⟨(.some 8), (.mv (.t 14)), .none, [], []⟩] .false), (.seq 15), (.seq 2),
    (.region [⟨(.some 15), (.mv (.t 8)), .none, [], []⟩, ⟨(.some 16), (.bin .sub .o (.t 15) (.c (.int .i64 1))), .none, [], []⟩, ⟨(.some 17), (.bin .quo .o (.t 16) (.c (.int .i64 2))), .none, [], []⟩, ⟨(.some 9), (.mv (.t 17)), .none, [], []⟩] .false), (.block 0), .loop, (.seq 6), (.seq 2),
    (.region [⟨(.some 18), (.mv (.t 9)), .none, [], []⟩, ⟨(.some 19), (.bin .geq .o (.t 18) (.c (.int .i64 0))), .none, [], []⟩] .false), (.cond (.t 19) 2), .skip, (.exit 0), (.seq 3), (.block 1),
    (.region [⟨(.some 22), (.mv (.t 0)), .none, [], []⟩, ⟨(.some 23), (.mv (.t 9)), .none, [], []⟩, ⟨(.some 24), (.mv (.t 8)), .none, [], []⟩, ⟨(.some 25), (.mv (.t 6)), .none, [], []⟩, ⟨(.some 26), (.call 73 [(.t 22), (.t 23), (.t 24), (.t 25)]), .none, [], []⟩] .false),
    (.region [⟨(.some 20), (.mv (.t 9)), .none, [], []⟩, ⟨(.some 21), (.bin .sub .o (.t 20) (.c (.int .i64 1))), .none, [], []⟩, ⟨(.some 9), (.mv (.t 21)), .none, [], []⟩] .false), (.seq 2),
    (.region [⟨(.some 27), (.mv (.t 8)), .none, [], []⟩, ⟨(.some 28), (.bin .sub .o (.t 27) (.c (.int .i64 1))), .none, [], []⟩, ⟨(.some 10), (.mv (.t 28)), .none, [], []⟩] .false), (.block 2), .loop, (.seq 6), (.seq 2),
    (.region [⟨(.some 29), (.mv (.t 10)), .none, [], []⟩, ⟨(.some 30), (.bin .geq .o (.t 29) (.c (.int .i64 0))), .none, [], []⟩] .false), (.cond (.t 30) 2), .skip, (.exit 2), (.seq 5), (.block 3), (.seq 2),
    (.region [⟨(.some 33), (.mv (.t 0)), .none, [], [0]⟩, ⟨(.some 34), (.mv (.t 6)), .none, [], [6]⟩, ⟨(.some 35), (.mv (.t 0)), .none, [], [0]⟩, ⟨(.some 36), (.mv (.t 6)), .none, [], [6]⟩, ⟨(.some 37), (.mv (.t 10)), .none, [], [10]⟩, ⟨(.some 38), (.bin .add .o (.t 36) (.t 37)), .none, [3, 4], [36, 37]⟩, ⟨(.some 39), (.mv (.t 0)), .none, [], [0]⟩, ⟨(.some 40), (.mv (.t 6)), .none, [], [6]⟩, ⟨(.some 41), (.mv (.t 10)), .none, [], [10]⟩, ⟨(.some 42), (.bin .add .o (.t 40) (.t 41)), .none, [7, 8], [40, 41]⟩, ⟨(.some 43), (.idx 3 1 (.t 39) (.t 42)), .none, [6, 9], [39, 42]⟩, ⟨(.some 44), (.ld .none (.t 43)), .none, [10], [43]⟩, ⟨(.some 45), (.mv (.t 0)), .none, [], [0]⟩, ⟨(.some 46), (.mv (.t 6)), .none, [], [6]⟩, ⟨(.some 47), (.idx 3 1 (.t 45) (.t 46)), .none, [12, 13], [45, 46]⟩, ⟨(.some 48), (.ld .none (.t 47)), .none, [14], [47]⟩, ⟨(.some 49), (.idx 3 1 (.t 33) (.t 34)), .none, [0, 1, 0, 1, 6, 7, 8, 9, 10, 11, 15], [33, 34]⟩, ⟨.none, (.st 1 (.t 49) (.t 44)), .none, [16, 11, 0, 1, 6, 7, 8, 9, 10, 11, 15], [49, 44]⟩, ⟨(.some 50), (.idx 3 1 (.t 35) (.t 38)), .none, [2, 5, 0, 1, 2, 3, 4, 5, 6, 7, 8, 9, 10, 11, 12, 13, 14, 15, 16, 17], [35, 38]⟩, ⟨.none, (.st 1 (.t 50) (.t 48)), .none, [18, 15, 17, 0, 1, 2, 3, 4, 5, 6, 7, 8, 9, 10, 11, 12, 13, 14, 15, 16, 17], [50, 48]⟩] .true),
    (.region [⟨(.some 51), (.mv (.t 0)), .none, [], []⟩, ⟨(.some 52), (.mv (.t 7)), .none, [], []⟩, ⟨(.some 53), (.mv (.t 10)), .none, [], []⟩, ⟨(.some 54), (.mv (.t 6)), .none, [], []⟩, ⟨(.some 55), (.call 73 [(.t 51), (.t 52), (.t 53), (.t 54)]), .none, [], []⟩] .false),
    (.region [⟨(.some 31), (.mv (.t 10)), .none, [], []⟩, ⟨(.some 32), (.bin .sub .o (.t 31) (.c (.int .i64 1))), .none, [], []⟩, ⟨(.some 10), (.mv (.t 32)), .none, [], []⟩] .false)]
theorem F59_at : F59.at Try.prog 59 Try.f59 := ⟨Try.func59, by kernel_rfl, by kernel_rfl, by kernel_rfl, by kernel_rfl, by kernel_rfl⟩

-- "slices.breakPatternsOrdered[int]" res .true
def F60 : AFn where
  np := 3
  nt := 65
  res := []
  tab := [(.seq 2),
    (.region [⟨(.some 11), (.mv (.t 2)), .none, [], []⟩, ⟨(.some 12), (.mv (.t 1)), .none, [], []⟩, ⟨(.some 13), (.bin .sub .o (.t 11) (.t 12)), .none, [], []⟩, ⟨(.some 6), (.mv (.t 13)), .none, [], []⟩] .false), (.seq 2),
    (.region [⟨(.some 14), (.mv (.t 6)), .none, [], []⟩, ⟨(.some 15), (.bin .geq .o (.t 14) (.c (.int .i64 8))), .none, [], []⟩] .false), (.cond (.t 15) 27), (.seq 2),
    (.region [⟨(.some 16), (.mv (.t 6)), .none, [], []⟩, ⟨(.some 17), (.cvt .u64 (.t 16)), .none, [], []⟩, ⟨(.some 7), (.alloc 107 [(.int .u64 0)]), .none, [], []⟩, ⟨.none, (.st 1 (.t 7) (.t 17)), .none, [], []⟩] .false), (.seq 2),
    (.region [⟨(.some 18), (.mv (.t 6)), .none, [], []⟩, ⟨(.some 19), (.call 74 [(.t 18)]), .none, [], []⟩, ⟨(.some 8), (.mv (.t 19)), .none, [], []⟩] .false), (.seq 2),
    (.region [⟨(.some 20), (.mv (.t 1)), .none, [], []⟩, ⟨(.some 21), (.mv (.t 6)), .none, [], []⟩, ⟨(.some 22), (.bin .quo .o (.t 21) (.c (.int .i64 4))), .none, [], []⟩, ⟨(.some 23), (.bin .mul .o (.t 22) (.c (.int .i64 2))), .none, [], []⟩, ⟨(.some 24), (.bin .add .o (.t 20) (.t 23)), .none, [], []⟩, ⟨(.some 25), (.bin .sub .o (.t 24) (.c (.int .i64 1))), .none, [], []⟩, ⟨(.some 9), (.mv (.t 25)), .none, [], []⟩] .false), (.block 0), .loop, (.seq 6), (.seq 2),
    (.region [⟨(.some 26), (.mv (.t 9)), .none, [], []⟩, ⟨(.some 27), (.mv (.t 1)), .none, [], []⟩, ⟨(.some 28), (.mv (.t 6)), .none, [], []⟩, ⟨(.some 29), (.bin .quo .o (.t 28) (.c (.int .i64 4))), .none, [], []⟩, ⟨(.some 30), (.bin .mul .o (.t 29) (.c (.int .i64 2))), .none, [], []⟩, ⟨(.some 31), (.bin .add .o (.t 27) (.t 30)), .none, [], []⟩, ⟨(.some 32), (.bin .add .o (.t 31) (.c (.int .i64 1))), .none, [], []⟩, ⟨(.some 33), (.bin .leq .o (.t 26) (.t 32)), .none, [], []⟩] .false), (.cond (.t 33) 2), .skip, (.exit 0), (.seq 11), (.block 1), (.seq 2),
    (.region [⟨(.some 36), (.call 75 [(.t 7)]), .none, [], []⟩, ⟨(.some 37), (.mv (.t 8)), .none, [], []⟩, ⟨(.some 38), (.bin .sub .o (.t 37) (.c (.int .u64 1))), .none, [], []⟩, ⟨(.some 39), (.bin .and .o (.t 36) (.t 38)), .none, [], []⟩, ⟨(.some 40), (.cvt .i64 (.t 39)), .none, [], []⟩, ⟨(.some 10), (.mv (.t 40)), .none, [], []⟩] .false), (.seq 6), (.seq 2),
    (.region [⟨(.some 41), (.mv (.t 10)), .none, [], []⟩, ⟨(.some 42), (.mv (.t 6)), .none, [], []⟩, ⟨(.some 43), (.bin .geq .o (.t 41) (.t 42)), .none, [], []⟩] .false), (.cond (.t 43) 2),
    (.region [⟨(.some 44), (.mv (.t 10)), .none, [], []⟩, ⟨(.some 45), (.mv (.t 6)), .none, [], []⟩, ⟨(.some 46), (.bin .sub .o (.t 44) (.t 45)), .none, [], []⟩, ⟨(.some 10), (.mv (.t 46)), .none, [], []⟩] .false), .skip,
    (.region [⟨(.some 47), (.mv (.t 0)), .none, [], [0]⟩, ⟨(.some 48), (.mv (.t 9)), .none, [], [9]⟩, ⟨(.some 49), (.mv (.t 0)), .none, [], [0]⟩, ⟨(.some 50), (.mv (.t 1)), .none, [], [1]⟩, ⟨(.some 51), (.mv (.t 10)), .none, [], [10]⟩, ⟨(.some 52), (.bin .add .o (.t 50) (.t 51)), .none, [3, 4], [50, 51]⟩, ⟨(.some 53), (.mv (.t 0)), .none, [], [0]⟩, ⟨(.some 54), (.mv (.t 1)), .none, [], [1]⟩, ⟨(.some 55), (.mv (.t 10)), .none, [], [10]⟩, ⟨(.some 56), (.bin .add .o (.t 54) (.t 55)), .none, [7, 8], [54, 55]⟩, ⟨(.some 57), (.idx 3 1 (.t 53) (.t 56)), .none, [6, 9], [53, 56]⟩, ⟨(.some 58), (.ld .none (.t 57)), .none, [10], [57]⟩, ⟨(.some 59), (.mv (.t 0)), .none, [], [0]⟩, ⟨(.some 60), (.mv (.t 9)), .none, [], [9]⟩, ⟨(.some 61), (.idx 3 1 (.t 59) (.t 60)), .none, [12, 13], [59, 60]⟩, ⟨(.some 62), (.ld .none (.t 61)), .none, [14], [61]⟩, ⟨(.some 63), (.idx 3 1 (.t 47) (.t 48)), .none, [0, 1, 0, 1, 6, 7, 8, 9, 10, 11, 15], [47, 48]⟩, ⟨.none, (.st 1 (.t 63) (.t 58)), .none, [16, 11, 0, 1, 6, 7, 8, 9, 10, 11, 15], [63, 58]⟩, ⟨(.some 64), (.idx 3 1 (.t 49) (.t 52)), .none, [2, 5, 0, 1, 2, 3, 4, 5, 6, 7, 8, 9, 10, 11, 12, 13, 14, 15, 16, 17], [49, 52]⟩, ⟨.none, (.st 1 (.t 64) (.t 62)), .none, [18, 15, 17, 0, 1, 2, 3, 4, 5, 6, 7, 8, 9, 10, 11, 12, 13, 14, 15, 16, 17], [64, 62]⟩] .true),
    (.region [⟨(.some 34), (.mv (.t 9)), .none, [], []⟩, ⟨(.some 35), (.bin .add .o (.t 34) (.c (.int .i64 1))), .none, [], []⟩, ⟨(.some 9), (.mv (.t 35)), .none, [], []⟩] .false), .skip]
theorem F60_at : F60.at Try.prog 60 Try.f60 := ⟨Try.func60, by kernel_rfl, by kernel_rfl, by kernel_rfl, by kernel_rfl, by kernel_rfl⟩

-- "slices.choosePivotOrdered[int]" res .true
def F61 : AFn where
  np := 3
  nt := 57
  res := [(.t 6), (.t 7)]
  tab := [(.seq 2),
    (.region [⟨(.some 6), (.mv (.c (.int .i64 0))), .none, [], []⟩, ⟨(.some 7), (.mv (.c (.int .i64 0))), .none, [], []⟩] .false), (.seq 2),
    (.region [⟨(.some 13), (.mv (.t 2)), .none, [], []⟩, ⟨(.some 14), (.mv (.t 1)), .none, [], []⟩, ⟨(.some 15), (.bin .sub .o (.t 13) (.t 14)), .none, [], []⟩, ⟨(.some 8), (.mv (.t 15)), .none, [], []⟩] .false), (.seq 2),
    (.region [⟨(.some 9), (.alloc 3 [(.int .i64 0)]), .none, [], []⟩] .false), (.seq 2),
    (.region [⟨(.some 16), (.mv (.t 1)), .none, [], []⟩, ⟨(.some 17), (.mv (.t 8)), .none, [], []⟩, ⟨(.some 18), (.bin .quo .o (.t 17) (.c (.int .i64 4))), .none, [], []⟩, ⟨(.some 19), (.bin .mul .o (.t 18) (.c (.int .i64 1))), .none, [], []⟩, ⟨(.some 20), (.bin .add .o (.t 16) (.t 19)), .none, [], []⟩, ⟨(.some 10), (.mv (.t 20)), .none, [], []⟩] .false), (.seq 2),
    (.region [⟨(.some 21), (.mv (.t 1)), .none, [], []⟩, ⟨(.some 22), (.mv (.t 8)), .none, [], []⟩, ⟨(.some 23), (.bin .quo .o (.t 22) (.c (.int .i64 4))), .none, [], []⟩, ⟨(.some 24), (.bin .mul .o (.t 23) (.c (.int .i64 2))), .none, [], []⟩, ⟨(.some 25), (.bin .add .o (.t 21) (.t 24)), .none, [], []⟩, ⟨(.some 11), (.mv (.t 25)), .none, [], []⟩] .false), (.seq 2),
    (.region [⟨(.some 26), (.mv (.t 1)), .none, [], []⟩, ⟨(.some 27), (.mv (.t 8)), .none, [], []⟩, ⟨(.some 28), (.bin .quo .o (.t 27) (.c (.int .i64 4))), .none, [], []⟩, ⟨(.some 29), (.bin .mul .o (.t 28) (.c (.int .i64 3))), .none, [], []⟩, ⟨(.some 30), (.bin .add .o (.t 26) (.t 29)), .none, [], []⟩, ⟨(.some 12), (.mv (.t 30)), .none, [], []⟩] .false), (.seq 16), (.seq 2),
    (.region [⟨(.some 31), (.mv (.t 8)), .none, [], []⟩, ⟨(.some 32), (.bin .geq .o (.t 31) (.c (.int .i64 8))), .none, [], []⟩] .false), (.cond (.t 32) 12), (.seq 10), (.seq 2),
    (.region [⟨(.some 33), (.mv (.t 8)), .none, [], []⟩, ⟨(.some 34), (.bin .geq .o (.t 33) (.c (.int .i64 50))), .none, [], []⟩] .false), (.cond (.t 34) 6), (.seq 2),
    (.region [⟨(.some 35), (.mv (.t 0)), .none, [], []⟩, ⟨(.some 36), (.mv (.t 10)), .none, [], []⟩, ⟨(.some 37), (.call 76 [(.t 35), (.t 36), (.t 9)]), .none, [], []⟩, ⟨(.some 10), (.mv (.t 37)), .none, [], []⟩] .false), (.seq 2),
    (.region [⟨(.some 38), (.mv (.t 0)), .none, [], []⟩, ⟨(.some 39), (.mv (.t 11)), .none, [], []⟩, ⟨(.some 40), (.call 76 [(.t 38), (.t 39), (.t 9)]), .none, [], []⟩, ⟨(.some 11), (.mv (.t 40)), .none, [], []⟩] .false),
    (.region [⟨(.some 41), (.mv (.t 0)), .none, [], []⟩, ⟨(.some 42), (.mv (.t 12)), .none, [], []⟩, ⟨(.some 43), (.call 76 [(.t 41), (.t 42), (.t 9)]), .none, [], []⟩, ⟨(.some 12), (.mv (.t 43)), .none, [], []⟩] .false), .skip,
    (.region [⟨(.some 44), (.mv (.t 0)), .none, [], []⟩, ⟨(.some 45), (.mv (.t 10)), .none, [], []⟩, ⟨(.some 46), (.mv (.t 11)), .none, [], []⟩, ⟨(.some 47), (.mv (.t 12)), .none, [], []⟩, ⟨(.some 48), (.call 77 [(.t 44), (.t 45), (.t 46), (.t 47), (.t 9)]), .none, [], []⟩, ⟨(.some 11), (.mv (.t 48)), .none, [], []⟩] .false), .skip, (.seq 2),
    (.region [⟨(.some 49), (.ld .none (.t 9)), .none, [], []⟩] .false), (.block 0), (.seq 2),
    (.region [⟨(.some 52), (.bin .eql .o (.t 49) (.c (.int .i64 0))), .none, [], []⟩, ⟨(.some 51), (.mv (.t 52)), .none, [], []⟩] .false), (.cond (.t 51) 4), (.seq 2),
    (.region [⟨(.some 53), (.mv (.t 11)), .none, [], []⟩, ⟨(.some 6), (.mv (.t 53)), .none, [], []⟩, ⟨(.some 7), (.mv (.c (.int .i64 1))), .none, [], []⟩] .false), .ret, (.seq 2),
    (.region [⟨(.some 55), (.bin .eql .o (.t 49) (.c (.int .i64 12))), .none, [], []⟩, ⟨(.some 54), (.mv (.t 55)), .none, [], []⟩] .false), (.cond (.t 54) 4), (.seq 2),
    (.region [⟨(.some 56), (.mv (.t 11)), .none, [], []⟩, ⟨(.some 6), (.mv (.t 56)), .none, [], []⟩, ⟨(.some 7), (.mv (.c (.int .i64 2))), .none, [], []⟩] .false), .ret, (.seq 2),
    (.region [⟨(.some 50), (.mv (.t 11)), .none, [], []⟩, ⟨(.some 6), (.mv (.t 50)), .none, [], []⟩, ⟨(.some 7), (.mv (.c (.int .i64 0))), .none, [], []⟩] .false), .ret]
theorem F61_at : F61.at Try.prog 61 Try.f61 := ⟨Try.func61, by kernel_rfl, by kernel_rfl, by kernel_rfl, by kernel_rfl, by kernel_rfl⟩

-- "slices.reverseRangeOrdered[int]" res .true
def F62 : AFn where
  np := 3
  nt := 32
  res := []
  tab := [(.seq 2),
    (.region [⟨(.some 8), (.mv (.t 1)), .none, [], []⟩, ⟨(.some 6), (.mv (.t 8)), .none, [], []⟩] .false), (.seq 2),
    (.region [⟨(.some 9), (.mv (.t 2)), .none, [], []⟩, ⟨(.some 10), (.bin .sub .o (.t 9) (.c (.int .i64 1))), .none, [], []⟩, ⟨(.some 7), (.mv (.t 10)), .none, [], []⟩] .false), (.block 0), .loop, (.seq 6), (.seq 2),
    (.region [⟨(.some 11), (.mv (.t 6)), .none, [], []⟩, ⟨(.some 12), (.mv (.t 7)), .none, [], []⟩, ⟨(.some 13), (.bin .lss .o (.t 11) (.t 12)), .none, [], []⟩] .false), (.cond (.t 13) 2), .skip, (.exit 0), (.block 1), (.seq 2),
    (.region [⟨(.some 14), (.mv (.t 0)), .none, [], [0]⟩, ⟨(.some 15), (.mv (.t 6)), .none, [], [6]⟩, ⟨(.some 16), (.mv (.t 0)), .none, [], [0]⟩, ⟨(.some 17), (.mv (.t 7)), .none, [], [7]⟩, ⟨(.some 18), (.mv (.t 0)), .none, [], [0]⟩, ⟨(.some 19), (.mv (.t 7)), .none, [], [7]⟩, ⟨(.some 20), (.idx 3 1 (.t 18) (.t 19)), .none, [4, 5], [18, 19]⟩, ⟨(.some 21), (.ld .none (.t 20)), .none, [6], [20]⟩, ⟨(.some 22), (.mv (.t 0)), .none, [], [0]⟩, ⟨(.some 23), (.mv (.t 6)), .none, [], [6]⟩, ⟨(.some 24), (.idx 3 1 (.t 22) (.t 23)), .none, [8, 9], [22, 23]⟩, ⟨(.some 25), (.ld .none (.t 24)), .none, [10], [24]⟩, ⟨(.some 26), (.idx 3 1 (.t 14) (.t 15)), .none, [0, 1, 0, 1, 4, 5, 6, 7, 11], [14, 15]⟩, ⟨.none, (.st 1 (.t 26) (.t 21)), .none, [12, 7, 0, 1, 4, 5, 6, 7, 11], [26, 21]⟩, ⟨(.some 27), (.idx 3 1 (.t 16) (.t 17)), .none, [2, 3, 0, 1, 2, 3, 4, 5, 6, 7, 8, 9, 10, 11, 12, 13], [16, 17]⟩, ⟨.none, (.st 1 (.t 27) (.t 25)), .none, [14, 11, 13, 0, 1, 2, 3, 4, 5, 6, 7, 8, 9, 10, 11, 12, 13], [27, 25]⟩] .true), (.seq 2),
    (.region [⟨(.some 28), (.mv (.t 6)), .none, [], []⟩, ⟨(.some 29), (.bin .add .o (.t 28) (.c (.int .i64 1))), .none, [], []⟩, ⟨(.some 6), (.mv (.t 29)), .none, [], []⟩] .false),
    (.region [⟨(.some 30), (.mv (.t 7)), .none, [], []⟩, ⟨(.some 31), (.bin .sub .o (.t 30) (.c (.int .i64 1))), .none, [], []⟩, ⟨(.some 7), (.mv (.t 31)), .none, [], []⟩] .false)]
theorem F62_at : F62.at Try.prog 62 Try.f62 := ⟨Try.func62, by kernel_rfl, by kernel_rfl, by kernel_rfl, by kernel_rfl, by kernel_rfl⟩

-- "slices.partialInsertionSortOrdered[int]" res .true
def F63 : AFn where
  np := 3
  nt := 133
  res := [(.t 6)]
  tab := [(.seq 2),
    (.region [⟨(.some 6), (.mv (.c (.bool .false))), .none, [], []⟩] .false), (.seq 2),
    (.region [⟨(.some 11), (.mv (.t 1)), .none, [], []⟩, ⟨(.some 12), (.bin .add .o (.t 11) (.c (.int .i64 1))), .none, [], []⟩, ⟨(.some 7), (.mv (.t 12)), .none, [], []⟩] .false), (.seq 92), (.seq 2),
    (.region [⟨(.some 8), (.mv (.c (.int .i64 0))), .none, [], []⟩] .false), (.block 0), .loop, (.seq 6), (.seq 2),
    (.region [⟨(.some 13), (.mv (.t 8)), .none, [], []⟩, ⟨(.some 14), (.bin .lss .o (.t 13) (.c (.int .i64 5))), .none, [], []⟩] .false), (.cond (.t 14) 2), .skip, (.exit 0), (.seq 80), (.block 1), (.seq 11), (.block 2), .loop, (.seq 6), (.seq 2),
    (.region [⟨(.some 17), (.mv (.t 7)), .none, [], [7]⟩, ⟨(.some 18), (.mv (.t 2)), .none, [], [2]⟩, ⟨(.some 19), (.bin .lss .o (.t 17) (.t 18)), .none, [0, 1], [17, 18]⟩, ⟨(.some 20), (.mv (.t 19)), .none, [2], [19]⟩, ⟨(.some 21), (.mv (.t 0)), (.some ((.some 20), .true)), [3], [0, 20]⟩, ⟨(.some 22), (.mv (.t 7)), (.some ((.some 20), .true)), [3], [7, 20]⟩, ⟨(.some 23), (.idx 3 1 (.t 21) (.t 22)), (.some ((.some 20), .true)), [4, 5, 3], [21, 22, 20]⟩, ⟨(.some 24), (.ld .none (.t 23)), (.some ((.some 20), .true)), [6, 3], [23, 20]⟩, ⟨(.some 25), (.mv (.t 0)), (.some ((.some 20), .true)), [3], [0, 20]⟩, ⟨(.some 26), (.mv (.t 7)), (.some ((.some 20), .true)), [3], [7, 20]⟩, ⟨(.some 27), (.bin .sub .o (.t 26) (.c (.int .i64 1))), (.some ((.some 20), .true)), [9, 3], [26, 20]⟩, ⟨(.some 28), (.idx 3 1 (.t 25) (.t 27)), (.some ((.some 20), .true)), [8, 10, 3], [25, 27, 20]⟩, ⟨(.some 29), (.ld .none (.t 28)), (.some ((.some 20), .true)), [11, 3], [28, 20]⟩, ⟨(.some 30), (.call 64 [(.t 24), (.t 29)]), (.some ((.some 20), .true)), [7, 12, 3, 3], [24, 29, 20]⟩, ⟨(.some 31), (.un .not (.t 30)), (.some ((.some 20), .true)), [13, 3], [30, 20]⟩, ⟨(.some 32), (.pick (.t 20) (.t 31) (.c (.bool .false))), .none, [3, 14], [20, 31]⟩] .true), (.cond (.t 32) 2), .skip, (.exit 2), (.block 3),
    (.region [⟨(.some 33), (.mv (.t 7)), .none, [], []⟩, ⟨(.some 34), (.bin .add .o (.t 33) (.c (.int .i64 1))), .none, [], []⟩, ⟨(.some 7), (.mv (.t 34)), .none, [], []⟩] .false), (.seq 8), (.seq 2),
    (.region [⟨(.some 35), (.mv (.t 7)), .none, [], []⟩, ⟨(.some 36), (.mv (.t 2)), .none, [], []⟩, ⟨(.some 37), (.bin .eql .o (.t 35) (.t 36)), .none, [], []⟩] .false), (.cond (.t 37) 4), (.seq 2),
    (.region [⟨(.some 6), (.mv (.c (.bool .true))), .none, [], []⟩] .false), .ret, .skip, (.seq 8), (.seq 2),
    (.region [⟨(.some 38), (.mv (.t 2)), .none, [], []⟩, ⟨(.some 39), (.mv (.t 1)), .none, [], []⟩, ⟨(.some 40), (.bin .sub .o (.t 38) (.t 39)), .none, [], []⟩, ⟨(.some 41), (.bin .lss .o (.t 40) (.c (.int .i64 50))), .none, [], []⟩] .false), (.cond (.t 41) 4), (.seq 2),
    (.region [⟨(.some 6), (.mv (.c (.bool .false))), .none, [], []⟩] .false), .ret, .skip, (.seq 2),
    (.region [⟨(.some 42), (.mv (.t 0)), .none, [], [0]⟩, ⟨(.some 43), (.mv (.t 7)), .none, [], [7]⟩, ⟨(.some 44), (.mv (.t 0)), .none, [], [0]⟩, ⟨(.some 45), (.mv (.t 7)), .none, [], [7]⟩, ⟨(.some 46), (.bin .sub .o (.t 45) (.c (.int .i64 1))), .none, [3], [45]⟩, ⟨(.some 47), (.mv (.t 0)), .none, [], [0]⟩, ⟨(.some 48), (.mv (.t 7)), .none, [], [7]⟩, ⟨(.some 49), (.bin .sub .o (.t 48) (.c (.int .i64 1))), .none, [6], [48]⟩, ⟨(.some 50), (.idx 3 1 (.t 47) (.t 49)), .none, [5, 7], [47, 49]⟩, ⟨(.some 51), (.ld .none (.t 50)), .none, [8], [50]⟩, ⟨(.some 52), (.mv (.t 0)), .none, [], [0]⟩, ⟨(.some 53), (.mv (.t 7)), .none, [], [7]⟩, ⟨(.some 54), (.idx 3 1 (.t 52) (.t 53)), .none, [10, 11], [52, 53]⟩, ⟨(.some 55), (.ld .none (.t 54)), .none, [12], [54]⟩, ⟨(.some 56), (.idx 3 1 (.t 42) (.t 43)), .none, [0, 1, 0, 1, 5, 6, 7, 8, 9, 13], [42, 43]⟩, ⟨.none, (.st 1 (.t 56) (.t 51)), .none, [14, 9, 0, 1, 5, 6, 7, 8, 9, 13], [56, 51]⟩, ⟨(.some 57), (.idx 3 1 (.t 44) (.t 46)), .none, [2, 4, 0, 1, 2, 3, 4, 5, 6, 7, 8, 9, 10, 11, 12, 13, 14, 15], [44, 46]⟩, ⟨.none, (.st 1 (.t 57) (.t 55)), .none, [16, 13, 15, 0, 1, 2, 3, 4, 5, 6, 7, 8, 9, 10, 11, 12, 13, 14, 15], [57, 55]⟩] .true), (.seq 25), (.seq 2),
    (.region [⟨(.some 58), (.mv (.t 7)), .none, [], []⟩, ⟨(.some 59), (.mv (.t 1)), .none, [], []⟩, ⟨(.some 60), (.bin .sub .o (.t 58) (.t 59)), .none, [], []⟩, ⟨(.some 61), (.bin .geq .o (.t 60) (.c (.int .i64 2))), .none, [], []⟩] .false), (.cond (.t 61) 21), (.seq 2),
    (.region [⟨(.some 62), (.mv (.t 7)), .none, [], []⟩, ⟨(.some 63), (.bin .sub .o (.t 62) (.c (.int .i64 1))), .none, [], []⟩, ⟨(.some 9), (.mv (.t 63)), .none, [], []⟩] .false), (.block 4), .loop, (.seq 6), (.seq 2),
    (.region [⟨(.some 64), (.mv (.t 9)), .none, [], []⟩, ⟨(.some 65), (.bin .geq .o (.t 64) (.c (.int .i64 1))), .none, [], []⟩] .false), (.cond (.t 65) 2), .skip, (.exit 4), (.seq 9), (.block 5), (.seq 6), (.seq 2),
    (.region [⟨(.some 68), (.mv (.t 0)), .none, [], [0]⟩, ⟨(.some 69), (.mv (.t 9)), .none, [], [9]⟩, ⟨(.some 70), (.idx 3 1 (.t 68) (.t 69)), .none, [0, 1], [68, 69]⟩, ⟨(.some 71), (.ld .none (.t 70)), .none, [2], [70]⟩, ⟨(.some 72), (.mv (.t 0)), .none, [], [0]⟩, ⟨(.some 73), (.mv (.t 9)), .none, [], [9]⟩, ⟨(.some 74), (.bin .sub .o (.t 73) (.c (.int .i64 1))), .none, [5], [73]⟩, ⟨(.some 75), (.idx 3 1 (.t 72) (.t 74)), .none, [4, 6], [72, 74]⟩, ⟨(.some 76), (.ld .none (.t 75)), .none, [7], [75]⟩, ⟨(.some 77), (.call 64 [(.t 71), (.t 76)]), .none, [3, 8], [71, 76]⟩, ⟨(.some 78), (.un .not (.t 77)), .none, [9], [77]⟩] .true), (.cond (.t 78) 2), (.exit 4), .skip,
    (.region [⟨(.some 79), (.mv (.t 0)), .none, [], [0]⟩, ⟨(.some 80), (.mv (.t 9)), .none, [], [9]⟩, ⟨(.some 81), (.mv (.t 0)), .none, [], [0]⟩, ⟨(.some 82), (.mv (.t 9)), .none, [], [9]⟩, ⟨(.some 83), (.bin .sub .o (.t 82) (.c (.int .i64 1))), .none, [3], [82]⟩, ⟨(.some 84), (.mv (.t 0)), .none, [], [0]⟩, ⟨(.some 85), (.mv (.t 9)), .none, [], [9]⟩, ⟨(.some 86), (.bin .sub .o (.t 85) (.c (.int .i64 1))), .none, [6], [85]⟩, ⟨(.some 87), (.idx 3 1 (.t 84) (.t 86)), .none, [5, 7], [84, 86]⟩, ⟨(.some 88), (.ld .none (.t 87)), .none, [8], [87]⟩, ⟨(.some 89), (.mv (.t 0)), .none, [], [0]⟩, ⟨(.some 90), (.mv (.t 9)), .none, [], [9]⟩, ⟨(.some 91), (.idx 3 1 (.t 89) (.t 90)), .none, [10, 11], [89, 90]⟩, ⟨(.some 92), (.ld .none (.t 91)), .none, [12], [91]⟩, ⟨(.some 93), (.idx 3 1 (.t 79) (.t 80)), .none, [0, 1, 0, 1, 5, 6, 7, 8, 9, 13], [79, 80]⟩, ⟨.none, (.st 1 (.t 93) (.t 88)), .none, [14, 9, 0, 1, 5, 6, 7, 8, 9, 13], [93, 88]⟩, ⟨(.some 94), (.idx 3 1 (.t 81) (.t 83)), .none, [2, 4, 0, 1, 2, 3, 4, 5, 6, 7, 8, 9, 10, 11, 12, 13, 14, 15], [81, 83]⟩, ⟨.none, (.st 1 (.t 94) (.t 92)), .none, [16, 13, 15, 0, 1, 2, 3, 4, 5, 6, 7, 8, 9, 10, 11, 12, 13, 14, 15], [94, 92]⟩] .true),
    (.region [⟨(.some 66), (.mv (.t 9)), .none, [], []⟩, ⟨(.some 67), (.bin .sub .o (.t 66) (.c (.int .i64 1))), .none, [], []⟩, ⟨(.some 9), (.mv (.t 67)), .none, [], []⟩] .false), .skip, (.seq 2),
    (.region [⟨(.some 95), (.mv (.t 2)), .none, [], []⟩, ⟨(.some 96), (.mv (.t 7)), .none, [], []⟩, ⟨(.some 97), (.bin .sub .o (.t 95) (.t 96)), .none, [], []⟩, ⟨(.some 98), (.bin .geq .o (.t 97) (.c (.int .i64 2))), .none, [], []⟩] .false), (.cond (.t 98) 21), (.seq 2),
    (.region [⟨(.some 99), (.mv (.t 7)), .none, [], []⟩, ⟨(.some 100), (.bin .add .o (.t 99) (.c (.int .i64 1))), .none, [], []⟩, ⟨(.some 10), (.mv (.t 100)), .none, [], []⟩] .false), (.block 6), .loop, (.seq 6), (.seq 2),
    (.region [⟨(.some 101), (.mv (.t 10)), .none, [], []⟩, ⟨(.some 102), (.mv (.t 2)), .none, [], []⟩, ⟨(.some 103), (.bin .lss .o (.t 101) (.t 102)), .none, [], []⟩] .false), (.cond (.t 103) 2), .skip, (.exit 6), (.seq 9), (.block 7), (.seq 6), (.seq 2),
    (.region [⟨(.some 106), (.mv (.t 0)), .none, [], [0]⟩, ⟨(.some 107), (.mv (.t 10)), .none, [], [10]⟩, ⟨(.some 108), (.idx 3 1 (.t 106) (.t 107)), .none, [0, 1], [106, 107]⟩, ⟨(.some 109), (.ld .none (.t 108)), .none, [2], [108]⟩, ⟨(.some 110), (.mv (.t 0)), .none, [], [0]⟩, ⟨(.some 111), (.mv (.t 10)), .none, [], [10]⟩, ⟨(.some 112), (.bin .sub .o (.t 111) (.c (.int .i64 1))), .none, [5], [111]⟩, ⟨(.some 113), (.idx 3 1 (.t 110) (.t 112)), .none, [4, 6], [110, 112]⟩, ⟨(.some 114), (.ld .none (.t 113)), .none, [7], [113]⟩, ⟨(.some 115), (.call 64 [(.t 109), (.t 114)]), .none, [3, 8], [109, 114]⟩, ⟨(.some 116), (.un .not (.t 115)), .none, [9], [115]⟩] .true), (.cond (.t 116) 2), (.exit 6), .skip,
    (.region [⟨(.some 117), (.mv (.t 0)), .none, [], [0]⟩, ⟨(.some 118), (.mv (.t 10)), .none, [], [10]⟩, ⟨(.some 119), (.mv (.t 0)), .none, [], [0]⟩, ⟨(.some 120), (.mv (.t 10)), .none, [], [10]⟩, ⟨(.some 121), (.bin .sub .o (.t 120) (.c (.int .i64 1))), .none, [3], [120]⟩, ⟨(.some 122), (.mv (.t 0)), .none, [], [0]⟩, ⟨(.some 123), (.mv (.t 10)), .none, [], [10]⟩, ⟨(.some 124), (.bin .sub .o (.t 123) (.c (.int .i64 1))), .none, [6], [123]⟩, ⟨(.some 125), (.idx 3 1 (.t 122) (.t 124)), .none, [5, 7], [122, 124]⟩, ⟨(.some 126), (.ld .none (.t 125)), .none, [8], [125]⟩, ⟨(.some 127), (.mv (.t 0)), .none, [], [0]⟩, ⟨(.some 128), (.mv (.t 10)), .none, [], [10]⟩, ⟨(.some 129), (.idx 3 1 (.t 127) (.t 128)), .none, [10, 11], [127, 128]⟩, ⟨(.some 130), (.ld .none (.t 129)), .none, [12], [129]⟩, ⟨(.some 131), (.idx 3 1 (.t 117) (.t 118)), .none, [0, 1, 0, 1, 5, 6, 7, 8, 9, 13], [117, 118]⟩, ⟨.none, (.st 1 (.t 131) (.t 126)), .none, [14, 9, 0, 1, 5, 6, 7, 8, 9, 13], [131, 126]⟩, ⟨(.some 132), (.idx 3 1 (.t 119) (.t 121)), .none, [2, 4, 0, 1, 2, 3, 4, 5, 6, 7, 8, 9, 10, 11, 12, 13, 14, 15], [119, 121]⟩, ⟨.none, (.st 1 (.t 132) (.t 130)), .none, [16, 13, 15, 0, 1, 2, 3, 4, 5, 6, 7, 8, 9, 10, 11, 12, 13, 14, 15], [132, 130]⟩] .true),
    (.region [⟨(.some 104), (.mv (.t 10)), .none, [], []⟩, ⟨(.some 105), (.bin .add .o (.t 104) (.c (.int .i64 1))), .none, [], []⟩, ⟨(.some 10), (.mv (.t 105)), .none, [], []⟩] .false), .skip,
    (.region [⟨(.some 15), (.mv (.t 8)), .none, [], []⟩, ⟨(.some 16), (.bin .add .o (.t 15) (.c (.int .i64 1))), .none, [], []⟩, ⟨(.some 8), (.mv (.t 16)), .none, [], []⟩] .false), (.seq 2),
    (.region [⟨(.some 6), (.mv (.c (.bool .false))), .none, [], []⟩] .false), .ret]
theorem F63_at : F63.at Try.prog 63 Try.f63 := ⟨Try.func63, by kernel_rfl, by kernel_rfl, by kernel_rfl, by kernel_rfl, by kernel_rfl⟩

-- "cmp.Less[int]" res .true
def F64 : AFn where
  np := 2
  nt := 17
  res := [(.t 4)]
  tab := [(.seq 2),
    (.region [⟨(.some 4), (.mv (.c (.bool .false))), .none, [], []⟩] .false), (.seq 2),
    (.region [⟨(.some 5), (.mv (.t 0)), .none, [], []⟩, ⟨(.some 6), (.call 78 [(.t 5)]), .none, [], []⟩, ⟨(.some 7), (.mv (.t 6)), .none, [], []⟩, ⟨(.some 8), (.mv (.t 1)), (.some ((.some 7), .true)), [], []⟩, ⟨(.some 9), (.call 78 [(.t 8)]), (.some ((.some 7), .true)), [], []⟩, ⟨(.some 10), (.un .not (.t 9)), (.some ((.some 7), .true)), [], []⟩, ⟨(.some 11), (.pick (.t 7) (.t 10) (.c (.bool .false))), .none, [], []⟩, ⟨(.some 12), (.mv (.t 11)), .none, [], []⟩, ⟨(.some 13), (.mv (.t 0)), (.some ((.some 12), .false)), [], []⟩, ⟨(.some 14), (.mv (.t 1)), (.some ((.some 12), .false)), [], []⟩, ⟨(.some 15), (.bin .lss .o (.t 13) (.t 14)), (.some ((.some 12), .false)), [], []⟩, ⟨(.some 16), (.pick (.t 12) (.c (.bool .true)) (.t 15)), .none, [], []⟩, ⟨(.some 4), (.mv (.t 16)), .none, [], []⟩] .false), .ret]
theorem F64_at : F64.at Try.prog 64 Try.f64 := ⟨Try.func64, by kernel_rfl, by kernel_rfl, by kernel_rfl, by kernel_rfl, by kernel_rfl⟩

-- "slices.partitionEqualOrdered[int]" res .true
def F65 : AFn where
  np := 4
  nt := 84
  res := [(.t 8)]
  tab := [(.seq 2),
    (.region [⟨(.some 8), (.mv (.c (.int .i64 0))), .none, [], []⟩] .false), (.seq 2),
    (.region [⟨(.some 11), (.mv (.t 0)), .none, [], [0]⟩, ⟨(.some 12), (.mv (.t 1)), .none, [], [1]⟩, ⟨(.some 13), (.mv (.t 0)), .none, [], [0]⟩, ⟨(.some 14), (.mv (.t 3)), .none, [], [3]⟩, ⟨(.some 15), (.mv (.t 0)), .none, [], [0]⟩, ⟨(.some 16), (.mv (.t 3)), .none, [], [3]⟩, ⟨(.some 17), (.idx 3 1 (.t 15) (.t 16)), .none, [4, 5], [15, 16]⟩, ⟨(.some 18), (.ld .none (.t 17)), .none, [6], [17]⟩, ⟨(.some 19), (.mv (.t 0)), .none, [], [0]⟩, ⟨(.some 20), (.mv (.t 1)), .none, [], [1]⟩, ⟨(.some 21), (.idx 3 1 (.t 19) (.t 20)), .none, [8, 9], [19, 20]⟩, ⟨(.some 22), (.ld .none (.t 21)), .none, [10], [21]⟩, ⟨(.some 23), (.idx 3 1 (.t 11) (.t 12)), .none, [0, 1, 0, 1, 4, 5, 6, 7, 11], [11, 12]⟩, ⟨.none, (.st 1 (.t 23) (.t 18)), .none, [12, 7, 0, 1, 4, 5, 6, 7, 11], [23, 18]⟩, ⟨(.some 24), (.idx 3 1 (.t 13) (.t 14)), .none, [2, 3, 0, 1, 2, 3, 4, 5, 6, 7, 8, 9, 10, 11, 12, 13], [13, 14]⟩, ⟨.none, (.st 1 (.t 24) (.t 22)), .none, [14, 11, 13, 0, 1, 2, 3, 4, 5, 6, 7, 8, 9, 10, 11, 12, 13], [24, 22]⟩] .true), (.seq 2),
    (.region [⟨(.some 25), (.mv (.t 1)), .none, [], []⟩, ⟨(.some 26), (.bin .add .o (.t 25) (.c (.int .i64 1))), .none, [], []⟩, ⟨(.some 27), (.mv (.t 2)), .none, [], []⟩, ⟨(.some 28), (.bin .sub .o (.t 27) (.c (.int .i64 1))), .none, [], []⟩, ⟨(.some 9), (.mv (.t 26)), .none, [], []⟩, ⟨(.some 10), (.mv (.t 28)), .none, [], []⟩] .false), (.seq 37), (.block 0), .loop, (.block 1), (.seq 11), (.block 2), .loop, (.seq 6), (.seq 2),
    (.region [⟨(.some 29), (.mv (.t 9)), .none, [], [9]⟩, ⟨(.some 30), (.mv (.t 10)), .none, [], [10]⟩, ⟨(.some 31), (.bin .leq .o (.t 29) (.t 30)), .none, [0, 1], [29, 30]⟩, ⟨(.some 32), (.mv (.t 31)), .none, [2], [31]⟩, ⟨(.some 33), (.mv (.t 0)), (.some ((.some 32), .true)), [3], [0, 32]⟩, ⟨(.some 34), (.mv (.t 1)), (.some ((.some 32), .true)), [3], [1, 32]⟩, ⟨(.some 35), (.idx 3 1 (.t 33) (.t 34)), (.some ((.some 32), .true)), [4, 5, 3], [33, 34, 32]⟩, ⟨(.some 36), (.ld .none (.t 35)), (.some ((.some 32), .true)), [6, 3], [35, 32]⟩, ⟨(.some 37), (.mv (.t 0)), (.some ((.some 32), .true)), [3], [0, 32]⟩, ⟨(.some 38), (.mv (.t 9)), (.some ((.some 32), .true)), [3], [9, 32]⟩, ⟨(.some 39), (.idx 3 1 (.t 37) (.t 38)), (.some ((.some 32), .true)), [8, 9, 3], [37, 38, 32]⟩, ⟨(.some 40), (.ld .none (.t 39)), (.some ((.some 32), .true)), [10, 3], [39, 32]⟩, ⟨(.some 41), (.call 64 [(.t 36), (.t 40)]), (.some ((.some 32), .true)), [7, 11, 3, 3], [36, 40, 32]⟩, ⟨(.some 42), (.un .not (.t 41)), (.some ((.some 32), .true)), [12, 3], [41, 32]⟩, ⟨(.some 43), (.pick (.t 32) (.t 42) (.c (.bool .false))), .none, [3, 13], [32, 42]⟩] .true), (.cond (.t 43) 2), .skip, (.exit 2), (.block 3),
    (.region [⟨(.some 44), (.mv (.t 9)), .none, [], []⟩, ⟨(.some 45), (.bin .add .o (.t 44) (.c (.int .i64 1))), .none, [], []⟩, ⟨(.some 9), (.mv (.t 45)), .none, [], []⟩] .false), (.seq 11), (.block 4), .loop, (.seq 6), (.seq 2),
    (.region [⟨(.some 46), (.mv (.t 9)), .none, [], [9]⟩, ⟨(.some 47), (.mv (.t 10)), .none, [], [10]⟩, ⟨(.some 48), (.bin .leq .o (.t 46) (.t 47)), .none, [0, 1], [46, 47]⟩, ⟨(.some 49), (.mv (.t 48)), .none, [2], [48]⟩, ⟨(.some 50), (.mv (.t 0)), (.some ((.some 49), .true)), [3], [0, 49]⟩, ⟨(.some 51), (.mv (.t 1)), (.some ((.some 49), .true)), [3], [1, 49]⟩, ⟨(.some 52), (.idx 3 1 (.t 50) (.t 51)), (.some ((.some 49), .true)), [4, 5, 3], [50, 51, 49]⟩, ⟨(.some 53), (.ld .none (.t 52)), (.some ((.some 49), .true)), [6, 3], [52, 49]⟩, ⟨(.some 54), (.mv (.t 0)), (.some ((.some 49), .true)), [3], [0, 49]⟩, ⟨(.some 55), (.mv (.t 10)), (.some ((.some 49), .true)), [3], [10, 49]⟩, ⟨(.some 56), (.idx 3 1 (.t 54) (.t 55)), (.some ((.some 49), .true)), [8, 9, 3], [54, 55, 49]⟩, ⟨(.some 57), (.ld .none (.t 56)), (.some ((.some 49), .true)), [10, 3], [56, 49]⟩, ⟨(.some 58), (.call 64 [(.t 53), (.t 57)]), (.some ((.some 49), .true)), [7, 11, 3, 3], [53, 57, 49]⟩, ⟨(.some 59), (.pick (.t 49) (.t 58) (.c (.bool .false))), .none, [3, 12], [49, 58]⟩] .true), (.cond (.t 59) 2), .skip, (.exit 4), (.block 5),
    (.region [⟨(.some 60), (.mv (.t 10)), .none, [], []⟩, ⟨(.some 61), (.bin .sub .o (.t 60) (.c (.int .i64 1))), .none, [], []⟩, ⟨(.some 10), (.mv (.t 61)), .none, [], []⟩] .false), (.seq 6), (.seq 2),
    (.region [⟨(.some 62), (.mv (.t 9)), .none, [], []⟩, ⟨(.some 63), (.mv (.t 10)), .none, [], []⟩, ⟨(.some 64), (.bin .gtr .o (.t 62) (.t 63)), .none, [], []⟩] .false), (.cond (.t 64) 2), (.exit 0), .skip, (.seq 2),
    (.region [⟨(.some 65), (.mv (.t 0)), .none, [], [0]⟩, ⟨(.some 66), (.mv (.t 9)), .none, [], [9]⟩, ⟨(.some 67), (.mv (.t 0)), .none, [], [0]⟩, ⟨(.some 68), (.mv (.t 10)), .none, [], [10]⟩, ⟨(.some 69), (.mv (.t 0)), .none, [], [0]⟩, ⟨(.some 70), (.mv (.t 10)), .none, [], [10]⟩, ⟨(.some 71), (.idx 3 1 (.t 69) (.t 70)), .none, [4, 5], [69, 70]⟩, ⟨(.some 72), (.ld .none (.t 71)), .none, [6], [71]⟩, ⟨(.some 73), (.mv (.t 0)), .none, [], [0]⟩, ⟨(.some 74), (.mv (.t 9)), .none, [], [9]⟩, ⟨(.some 75), (.idx 3 1 (.t 73) (.t 74)), .none, [8, 9], [73, 74]⟩, ⟨(.some 76), (.ld .none (.t 75)), .none, [10], [75]⟩, ⟨(.some 77), (.idx 3 1 (.t 65) (.t 66)), .none, [0, 1, 0, 1, 4, 5, 6, 7, 11], [65, 66]⟩, ⟨.none, (.st 1 (.t 77) (.t 72)), .none, [12, 7, 0, 1, 4, 5, 6, 7, 11], [77, 72]⟩, ⟨(.some 78), (.idx 3 1 (.t 67) (.t 68)), .none, [2, 3, 0, 1, 2, 3, 4, 5, 6, 7, 8, 9, 10, 11, 12, 13], [67, 68]⟩, ⟨.none, (.st 1 (.t 78) (.t 76)), .none, [14, 11, 13, 0, 1, 2, 3, 4, 5, 6, 7, 8, 9, 10, 11, 12, 13], [78, 76]⟩] .true), (.seq 2),
    (.region [⟨(.some 79), (.mv (.t 9)), .none, [], []⟩, ⟨(.some 80), (.bin .add .o (.t 79) (.c (.int .i64 1))), .none, [], []⟩, ⟨(.some 9), (.mv (.t 80)), .none, [], []⟩] .false),
    (.region [⟨(.some 81), (.mv (.t 10)), .none, [], []⟩, ⟨(.some 82), (.bin .sub .o (.t 81) (.c (.int .i64 1))), .none, [], []⟩, ⟨(.some 10), (.mv (.t 82)), .none, [], []⟩] .false), (.seq 2),
    (.region [⟨(.some 83), (.mv (.t 9)), .none, [], []⟩, ⟨(.some 8), (.mv (.t 83)), .none, [], []⟩] .false), .ret]
theorem F65_at : F65.at Try.prog 65 Try.f65 := ⟨Try.func65, by kernel_rfl, by kernel_rfl, by kernel_rfl, by kernel_rfl, by kernel_rfl⟩

-- "slices.partitionOrdered[int]" res .true
def F66 : AFn where
  np := 4
  nt := 168
  res := [(.t 8), (.t 9)]
  tab := [(.seq 2),
    (.region [⟨(.some 8), (.mv (.c (.int .i64 0))), .none, [], []⟩, ⟨(.some 9), (.mv (.c (.bool .false))), .none, [], []⟩] .false), (.seq 2),
    (.region [⟨(.some 12), (.mv (.t 0)), .none, [], [0]⟩, ⟨(.some 13), (.mv (.t 1)), .none, [], [1]⟩, ⟨(.some 14), (.mv (.t 0)), .none, [], [0]⟩, ⟨(.some 15), (.mv (.t 3)), .none, [], [3]⟩, ⟨(.some 16), (.mv (.t 0)), .none, [], [0]⟩, ⟨(.some 17), (.mv (.t 3)), .none, [], [3]⟩, ⟨(.some 18), (.idx 3 1 (.t 16) (.t 17)), .none, [4, 5], [16, 17]⟩, ⟨(.some 19), (.ld .none (.t 18)), .none, [6], [18]⟩, ⟨(.some 20), (.mv (.t 0)), .none, [], [0]⟩, ⟨(.some 21), (.mv (.t 1)), .none, [], [1]⟩, ⟨(.some 22), (.idx 3 1 (.t 20) (.t 21)), .none, [8, 9], [20, 21]⟩, ⟨(.some 23), (.ld .none (.t 22)), .none, [10], [22]⟩, ⟨(.some 24), (.idx 3 1 (.t 12) (.t 13)), .none, [0, 1, 0, 1, 4, 5, 6, 7, 11], [12, 13]⟩, ⟨.none, (.st 1 (.t 24) (.t 19)), .none, [12, 7, 0, 1, 4, 5, 6, 7, 11], [24, 19]⟩, ⟨(.some 25), (.idx 3 1 (.t 14) (.t 15)), .none, [2, 3, 0, 1, 2, 3, 4, 5, 6, 7, 8, 9, 10, 11, 12, 13], [14, 15]⟩, ⟨.none, (.st 1 (.t 25) (.t 23)), .none, [14, 11, 13, 0, 1, 2, 3, 4, 5, 6, 7, 8, 9, 10, 11, 12, 13], [25, 23]⟩] .true), (.seq 2),
    (.region [⟨(.some 26), (.mv (.t 1)), .none, [], []⟩, ⟨(.some 27), (.bin .add .o (.t 26) (.c (.int .i64 1))), .none, [], []⟩, ⟨(.some 28), (.mv (.t 2)), .none, [], []⟩, ⟨(.some 29), (.bin .sub .o (.t 28) (.c (.int .i64 1))), .none, [], []⟩, ⟨(.some 10), (.mv (.t 27)), .none, [], []⟩, ⟨(.some 11), (.mv (.t 29)), .none, [], []⟩] .false), (.seq 11), (.block 0), .loop, (.seq 6), (.seq 2),
    (.region [⟨(.some 30), (.mv (.t 10)), .none, [], [10]⟩, ⟨(.some 31), (.mv (.t 11)), .none, [], [11]⟩, ⟨(.some 32), (.bin .leq .o (.t 30) (.t 31)), .none, [0, 1], [30, 31]⟩, ⟨(.some 33), (.mv (.t 32)), .none, [2], [32]⟩, ⟨(.some 34), (.mv (.t 0)), (.some ((.some 33), .true)), [3], [0, 33]⟩, ⟨(.some 35), (.mv (.t 10)), (.some ((.some 33), .true)), [3], [10, 33]⟩, ⟨(.some 36), (.idx 3 1 (.t 34) (.t 35)), (.some ((.some 33), .true)), [4, 5, 3], [34, 35, 33]⟩, ⟨(.some 37), (.ld .none (.t 36)), (.some ((.some 33), .true)), [6, 3], [36, 33]⟩, ⟨(.some 38), (.mv (.t 0)), (.some ((.some 33), .true)), [3], [0, 33]⟩, ⟨(.some 39), (.mv (.t 1)), (.some ((.some 33), .true)), [3], [1, 33]⟩, ⟨(.some 40), (.idx 3 1 (.t 38) (.t 39)), (.some ((.some 33), .true)), [8, 9, 3], [38, 39, 33]⟩, ⟨(.some 41), (.ld .none (.t 40)), (.some ((.some 33), .true)), [10, 3], [40, 33]⟩, ⟨(.some 42), (.call 64 [(.t 37), (.t 41)]), (.some ((.some 33), .true)), [7, 11, 3, 3], [37, 41, 33]⟩, ⟨(.some 43), (.pick (.t 33) (.t 42) (.c (.bool .false))), .none, [3, 12], [33, 42]⟩] .true), (.cond (.t 43) 2), .skip, (.exit 0), (.block 1),
    (.region [⟨(.some 44), (.mv (.t 10)), .none, [], []⟩, ⟨(.some 45), (.bin .add .o (.t 44) (.c (.int .i64 1))), .none, [], []⟩, ⟨(.some 10), (.mv (.t 45)), .none, [], []⟩] .false), (.seq 11), (.block 2), .loop, (.seq 6), (.seq 2),
    (.region [⟨(.some 46), (.mv (.t 10)), .none, [], [10]⟩, ⟨(.some 47), (.mv (.t 11)), .none, [], [11]⟩, ⟨(.some 48), (.bin .leq .o (.t 46) (.t 47)), .none, [0, 1], [46, 47]⟩, ⟨(.some 49), (.mv (.t 48)), .none, [2], [48]⟩, ⟨(.some 50), (.mv (.t 0)), (.some ((.some 49), .true)), [3], [0, 49]⟩, ⟨(.some 51), (.mv (.t 11)), (.some ((.some 49), .true)), [3], [11, 49]⟩, ⟨(.some 52), (.idx 3 1 (.t 50) (.t 51)), (.some ((.some 49), .true)), [4, 5, 3], [50, 51, 49]⟩, ⟨(.some 53), (.ld .none (.t 52)), (.some ((.some 49), .true)), [6, 3], [52, 49]⟩, ⟨(.some 54), (.mv (.t 0)), (.some ((.some 49), .true)), [3], [0, 49]⟩, ⟨(.some 55), (.mv (.t 1)), (.some ((.some 49), .true)), [3], [1, 49]⟩, ⟨(.some 56), (.idx 3 1 (.t 54) (.t 55)), (.some ((.some 49), .true)), [8, 9, 3], [54, 55, 49]⟩, ⟨(.some 57), (.ld .none (.t 56)), (.some ((.some 49), .true)), [10, 3], [56, 49]⟩, ⟨(.some 58), (.call 64 [(.t 53), (.t 57)]), (.some ((.some 49), .true)), [7, 11, 3, 3], [53, 57, 49]⟩, ⟨(.some 59), (.un .not (.t 58)), (.some ((.some 49), .true)), [12, 3], [58, 49]⟩, ⟨(.some 60), (.pick (.t 49) (.t 59) (.c (.bool .false))), .none, [3, 13], [49, 59]⟩] .true), (.cond (.t 60) 2), .skip, (.exit 2), (.block 3),
    (.region [⟨(.some 61), (.mv (.t 11)), .none, [], []⟩, ⟨(.some 62), (.bin .sub .o (.t 61) (.c (.int .i64 1))), .none, [], []⟩, ⟨(.some 11), (.mv (.t 62)), .none, [], []⟩] .false), (.seq 10), (.seq 2),
    (.region [⟨(.some 63), (.mv (.t 10)), .none, [], []⟩, ⟨(.some 64), (.mv (.t 11)), .none, [], []⟩, ⟨(.some 65), (.bin .gtr .o (.t 63) (.t 64)), .none, [], []⟩] .false), (.cond (.t 65) 6), (.seq 2),
    (.region [⟨(.some 66), (.mv (.t 0)), .none, [], [0]⟩, ⟨(.some 67), (.mv (.t 11)), .none, [], [11]⟩, ⟨(.some 68), (.mv (.t 0)), .none, [], [0]⟩, ⟨(.some 69), (.mv (.t 1)), .none, [], [1]⟩, ⟨(.some 70), (.mv (.t 0)), .none, [], [0]⟩, ⟨(.some 71), (.mv (.t 1)), .none, [], [1]⟩, ⟨(.some 72), (.idx 3 1 (.t 70) (.t 71)), .none, [4, 5], [70, 71]⟩, ⟨(.some 73), (.ld .none (.t 72)), .none, [6], [72]⟩, ⟨(.some 74), (.mv (.t 0)), .none, [], [0]⟩, ⟨(.some 75), (.mv (.t 11)), .none, [], [11]⟩, ⟨(.some 76), (.idx 3 1 (.t 74) (.t 75)), .none, [8, 9], [74, 75]⟩, ⟨(.some 77), (.ld .none (.t 76)), .none, [10], [76]⟩, ⟨(.some 78), (.idx 3 1 (.t 66) (.t 67)), .none, [0, 1, 0, 1, 4, 5, 6, 7, 11], [66, 67]⟩, ⟨.none, (.st 1 (.t 78) (.t 73)), .none, [12, 7, 0, 1, 4, 5, 6, 7, 11], [78, 73]⟩, ⟨(.some 79), (.idx 3 1 (.t 68) (.t 69)), .none, [2, 3, 0, 1, 2, 3, 4, 5, 6, 7, 8, 9, 10, 11, 12, 13], [68, 69]⟩, ⟨.none, (.st 1 (.t 79) (.t 77)), .none, [14, 11, 13, 0, 1, 2, 3, 4, 5, 6, 7, 8, 9, 10, 11, 12, 13], [79, 77]⟩] .true), (.seq 2),
    (.region [⟨(.some 80), (.mv (.t 11)), .none, [], []⟩, ⟨(.some 8), (.mv (.t 80)), .none, [], []⟩, ⟨(.some 9), (.mv (.c (.bool .true))), .none, [], []⟩] .false), .ret, .skip, (.seq 2),
    (.region [⟨(.some 81), (.mv (.t 0)), .none, [], [0]⟩, ⟨(.some 82), (.mv (.t 10)), .none, [], [10]⟩, ⟨(.some 83), (.mv (.t 0)), .none, [], [0]⟩, ⟨(.some 84), (.mv (.t 11)), .none, [], [11]⟩, ⟨(.some 85), (.mv (.t 0)), .none, [], [0]⟩, ⟨(.some 86), (.mv (.t 11)), .none, [], [11]⟩, ⟨(.some 87), (.idx 3 1 (.t 85) (.t 86)), .none, [4, 5], [85, 86]⟩, ⟨(.some 88), (.ld .none (.t 87)), .none, [6], [87]⟩, ⟨(.some 89), (.mv (.t 0)), .none, [], [0]⟩, ⟨(.some 90), (.mv (.t 10)), .none, [], [10]⟩, ⟨(.some 91), (.idx 3 1 (.t 89) (.t 90)), .none, [8, 9], [89, 90]⟩, ⟨(.some 92), (.ld .none (.t 91)), .none, [10], [91]⟩, ⟨(.some 93), (.idx 3 1 (.t 81) (.t 82)), .none, [0, 1, 0, 1, 4, 5, 6, 7, 11], [81, 82]⟩, ⟨.none, (.st 1 (.t 93) (.t 88)), .none, [12, 7, 0, 1, 4, 5, 6, 7, 11], [93, 88]⟩, ⟨(.some 94), (.idx 3 1 (.t 83) (.t 84)), .none, [2, 3, 0, 1, 2, 3, 4, 5, 6, 7, 8, 9, 10, 11, 12, 13], [83, 84]⟩, ⟨.none, (.st 1 (.t 94) (.t 92)), .none, [14, 11, 13, 0, 1, 2, 3, 4, 5, 6, 7, 8, 9, 10, 11, 12, 13], [94, 92]⟩] .true), (.seq 2),
    (.region [⟨(.some 95), (.mv (.t 10)), .none, [], []⟩, ⟨(.some 96), (.bin .add .o (.t 95) (.c (.int .i64 1))), .none, [], []⟩, ⟨(.some 10), (.mv (.t 96)), .none, [], []⟩] .false), (.seq 2),
    (.region [⟨(.some 97), (.mv (.t 11)), .none, [], []⟩, ⟨(.some 98), (.bin .sub .o (.t 97) (.c (.int .i64 1))), .none, [], []⟩, ⟨(.some 11), (.mv (.t 98)), .none, [], []⟩] .false), (.seq 37), (.block 4), .loop, (.block 5), (.seq 11), (.block 6), .loop, (.seq 6), (.seq 2),
    (.region [⟨(.some 99), (.mv (.t 10)), .none, [], [10]⟩, ⟨(.some 100), (.mv (.t 11)), .none, [], [11]⟩, ⟨(.some 101), (.bin .leq .o (.t 99) (.t 100)), .none, [0, 1], [99, 100]⟩, ⟨(.some 102), (.mv (.t 101)), .none, [2], [101]⟩, ⟨(.some 103), (.mv (.t 0)), (.some ((.some 102), .true)), [3], [0, 102]⟩, ⟨(.some 104), (.mv (.t 10)), (.some ((.some 102), .true)), [3], [10, 102]⟩, ⟨(.some 105), (.idx 3 1 (.t 103) (.t 104)), (.some ((.some 102), .true)), [4, 5, 3], [103, 104, 102]⟩, ⟨(.some 106), (.ld .none (.t 105)), (.some ((.some 102), .true)), [6, 3], [105, 102]⟩, ⟨(.some 107), (.mv (.t 0)), (.some ((.some 102), .true)), [3], [0, 102]⟩, ⟨(.some 108), (.mv (.t 1)), (.some ((.some 102), .true)), [3], [1, 102]⟩, ⟨(.some 109), (.idx 3 1 (.t 107) (.t 108)), (.some ((.some 102), .true)), [8, 9, 3], [107, 108, 102]⟩, ⟨(.some 110), (.ld .none (.t 109)), (.some ((.some 102), .true)), [10, 3], [109, 102]⟩, ⟨(.some 111), (.call 64 [(.t 106), (.t 110)]), (.some ((.some 102), .true)), [7, 11, 3, 3], [106, 110, 102]⟩, ⟨(.some 112), (.pick (.t 102) (.t 111) (.c (.bool .false))), .none, [3, 12], [102, 111]⟩] .true), (.cond (.t 112) 2), .skip, (.exit 6), (.block 7),
    (.region [⟨(.some 113), (.mv (.t 10)), .none, [], []⟩, ⟨(.some 114), (.bin .add .o (.t 113) (.c (.int .i64 1))), .none, [], []⟩, ⟨(.some 10), (.mv (.t 114)), .none, [], []⟩] .false), (.seq 11), (.block 8), .loop, (.seq 6), (.seq 2),
    (.region [⟨(.some 115), (.mv (.t 10)), .none, [], [10]⟩, ⟨(.some 116), (.mv (.t 11)), .none, [], [11]⟩, ⟨(.some 117), (.bin .leq .o (.t 115) (.t 116)), .none, [0, 1], [115, 116]⟩, ⟨(.some 118), (.mv (.t 117)), .none, [2], [117]⟩, ⟨(.some 119), (.mv (.t 0)), (.some ((.some 118), .true)), [3], [0, 118]⟩, ⟨(.some 120), (.mv (.t 11)), (.some ((.some 118), .true)), [3], [11, 118]⟩, ⟨(.some 121), (.idx 3 1 (.t 119) (.t 120)), (.some ((.some 118), .true)), [4, 5, 3], [119, 120, 118]⟩, ⟨(.some 122), (.ld .none (.t 121)), (.some ((.some 118), .true)), [6, 3], [121, 118]⟩, ⟨(.some 123), (.mv (.t 0)), (.some ((.some 118), .true)), [3], [0, 118]⟩, ⟨(.some 124), (.mv (.t 1)), (.some ((.some 118), .true)), [3], [1, 118]⟩, ⟨(.some 125), (.idx 3 1 (.t 123) (.t 124)), (.some ((.some 118), .true)), [8, 9, 3], [123, 124, 118]⟩, ⟨(.some 126), (.ld .none (.t 125)), (.some ((.some 118), .true)), [10, 3], [125, 118]⟩, ⟨(.some 127), (.call 64 [(.t 122), (.t 126)]), (.some ((.some 118), .true)), [7, 11, 3, 3], [122, 126, 118]⟩, ⟨(.some 128), (.un .not (.t 127)), (.some ((.some 118), .true)), [12, 3], [127, 118]⟩, ⟨(.some 129), (.pick (.t 118) (.t 128) (.c (.bool .false))), .none, [3, 13], [118, 128]⟩] .true), (.cond (.t 129) 2), .skip, (.exit 8), (.block 9),
    (.region [⟨(.some 130), (.mv (.t 11)), .none, [], []⟩, ⟨(.some 131), (.bin .sub .o (.t 130) (.c (.int .i64 1))), .none, [], []⟩, ⟨(.some 11), (.mv (.t 131)), .none, [], []⟩] .false), (.seq 6), (.seq 2),
    (.region [⟨(.some 132), (.mv (.t 10)), .none, [], []⟩, ⟨(.some 133), (.mv (.t 11)), .none, [], []⟩, ⟨(.some 134), (.bin .gtr .o (.t 132) (.t 133)), .none, [], []⟩] .false), (.cond (.t 134) 2), (.exit 4), .skip, (.seq 2),
    (.region [⟨(.some 135), (.mv (.t 0)), .none, [], [0]⟩, ⟨(.some 136), (.mv (.t 10)), .none, [], [10]⟩, ⟨(.some 137), (.mv (.t 0)), .none, [], [0]⟩, ⟨(.some 138), (.mv (.t 11)), .none, [], [11]⟩, ⟨(.some 139), (.mv (.t 0)), .none, [], [0]⟩, ⟨(.some 140), (.mv (.t 11)), .none, [], [11]⟩, ⟨(.some 141), (.idx 3 1 (.t 139) (.t 140)), .none, [4, 5], [139, 140]⟩, ⟨(.some 142), (.ld .none (.t 141)), .none, [6], [141]⟩, ⟨(.some 143), (.mv (.t 0)), .none, [], [0]⟩, ⟨(.some 144), (.mv (.t 10)), .none, [], [10]⟩, ⟨(.some 145), (.idx 3 1 (.t 143) (.t 144)), .none, [8, 9], [143, 144]⟩, ⟨(.some 146), (.ld .none (.t 145)), .none, [10], [145]⟩, ⟨(.some 147), (.idx 3 1 (.t 135) (.t 136)), .none, [0, 1, 0, 1, 4, 5, 6, 7, 11], [135, 136]⟩, ⟨.none, (.st 1 (.t 147) (.t 142)), .none, [12, 7, 0, 1, 4, 5, 6, 7, 11], [147, 142]⟩, ⟨(.some 148), (.idx 3 1 (.t 137) (.t 138)), .none, [2, 3, 0, 1, 2, 3, 4, 5, 6, 7, 8, 9, 10, 11, 12, 13], [137, 138]⟩, ⟨.none, (.st 1 (.t 148) (.t 146)), .none, [14, 11, 13, 0, 1, 2, 3, 4, 5, 6, 7, 8, 9, 10, 11, 12, 13], [148, 146]⟩] .true), (.seq 2),
    (.region [⟨(.some 149), (.mv (.t 10)), .none, [], []⟩, ⟨(.some 150), (.bin .add .o (.t 149) (.c (.int .i64 1))), .none, [], []⟩, ⟨(.some 10), (.mv (.t 150)), .none, [], []⟩] .false),
    (.region [⟨(.some 151), (.mv (.t 11)), .none, [], []⟩, ⟨(.some 152), (.bin .sub .o (.t 151) (.c (.int .i64 1))), .none, [], []⟩, ⟨(.some 11), (.mv (.t 152)), .none, [], []⟩] .false), (.seq 2),
    (.region [⟨(.some 153), (.mv (.t 0)), .none, [], [0]⟩, ⟨(.some 154), (.mv (.t 11)), .none, [], [11]⟩, ⟨(.some 155), (.mv (.t 0)), .none, [], [0]⟩, ⟨(.some 156), (.mv (.t 1)), .none, [], [1]⟩, ⟨(.some 157), (.mv (.t 0)), .none, [], [0]⟩, ⟨(.some 158), (.mv (.t 1)), .none, [], [1]⟩, ⟨(.some 159), (.idx 3 1 (.t 157) (.t 158)), .none, [4, 5], [157, 158]⟩, ⟨(.some 160), (.ld .none (.t 159)), .none, [6], [159]⟩, ⟨(.some 161), (.mv (.t 0)), .none, [], [0]⟩, ⟨(.some 162), (.mv (.t 11)), .none, [], [11]⟩, ⟨(.some 163), (.idx 3 1 (.t 161) (.t 162)), .none, [8, 9], [161, 162]⟩, ⟨(.some 164), (.ld .none (.t 163)), .none, [10], [163]⟩, ⟨(.some 165), (.idx 3 1 (.t 153) (.t 154)), .none, [0, 1, 0, 1, 4, 5, 6, 7, 11], [153, 154]⟩, ⟨.none, (.st 1 (.t 165) (.t 160)), .none, [12, 7, 0, 1, 4, 5, 6, 7, 11], [165, 160]⟩, ⟨(.some 166), (.idx 3 1 (.t 155) (.t 156)), .none, [2, 3, 0, 1, 2, 3, 4, 5, 6, 7, 8, 9, 10, 11, 12, 13], [155, 156]⟩, ⟨.none, (.st 1 (.t 166) (.t 164)), .none, [14, 11, 13, 0, 1, 2, 3, 4, 5, 6, 7, 8, 9, 10, 11, 12, 13], [166, 164]⟩] .true), (.seq 2),
    (.region [⟨(.some 167), (.mv (.t 11)), .none, [], []⟩, ⟨(.some 8), (.mv (.t 167)), .none, [], []⟩, ⟨(.some 9), (.mv (.c (.bool .false))), .none, [], []⟩] .false), .ret]
theorem F66_at : F66.at Try.prog 66 Try.f66 := ⟨Try.func66, by kernel_rfl, by kernel_rfl, by kernel_rfl, by kernel_rfl, by kernel_rfl⟩

-- "math/bits.Len32" res .true
def F67 : AFn where
  np := 1
  nt := 19
  res := [(.t 2)]
  tab := [(.seq 2),
    (.region [⟨(.some 2), (.mv (.c (.int .i64 0))), .none, [], []⟩] .false), (.seq 8), (.seq 2),
    (.region [⟨(.some 3), (.mv (.t 0)), .none, [], []⟩, ⟨(.some 4), (.bin .geq .o (.t 3) (.c (.int .u32 65536))), .none, [], []⟩] .false), (.cond (.t 4) 4), (.seq 2),
    (.region [⟨(.some 5), (.mv (.t 0)), .none, [], []⟩, ⟨(.some 6), (.bin .shr .o (.t 5) (.c (.int .u64 16))), .none, [], []⟩, ⟨(.some 0), (.mv (.t 6)), .none, [], []⟩] .false),
    (.region [⟨(.some 2), (.mv (.c (.int .i64 16))), .none, [], []⟩] .false), .skip, (.seq 8), (.seq 2),
    (.region [⟨(.some 7), (.mv (.t 0)), .none, [], []⟩, ⟨(.some 8), (.bin .geq .o (.t 7) (.c (.int .u32 256))), .none, [], []⟩] .false), (.cond (.t 8) 4), (.seq 2),
    (.region [⟨(.some 9), (.mv (.t 0)), .none, [], []⟩, ⟨(.some 10), (.bin .shr .o (.t 9) (.c (.int .u64 8))), .none, [], []⟩, ⟨(.some 0), (.mv (.t 10)), .none, [], []⟩] .false),
    (.region [⟨(.some 11), (.mv (.t 2)), .none, [], []⟩, ⟨(.some 12), (.bin .add .o (.t 11) (.c (.int .i64 8))), .none, [], []⟩, ⟨(.some 2), (.mv (.t 12)), .none, [], []⟩] .false), .skip, (.seq 2),
    (.region [⟨(.some 13), (.mv (.t 2)), .none, [], []⟩, ⟨(.some 14), (.mv (.t 0)), .none, [], []⟩, ⟨(.some 15), (.cvt .u8 (.t 14)), .none, [], []⟩, ⟨(.some 16), (.idxs (.c (.str ⟨#[0, 1, 2, 2, 3, 3, 3, 3, 4, 4, 4, 4, 4, 4, 4, 4, 5, 5, 5, 5, 5, 5, 5, 5, 5, 5, 5, 5, 5, 5, 5, 5, 6, 6, 6, 6, 6, 6, 6, 6, 6, 6, 6, 6, 6, 6, 6, 6, 6, 6, 6, 6, 6, 6, 6, 6, 6, 6, 6, 6, 6, 6, 6, 6, 7, 7, 7, 7, 7, 7, 7, 7, 7, 7, 7, 7, 7, 7, 7, 7, 7, 7, 7, 7, 7, 7, 7, 7, 7, 7, 7, 7, 7, 7, 7, 7, 7, 7, 7, 7, 7, 7, 7, 7, 7, 7, 7, 7, 7, 7, 7, 7, 7, 7, 7, 7, 7, 7, 7, 7, 7, 7, 7, 7, 7, 7, 7, 7, 8, 8, 8, 8, 8, 8, 8, 8, 8, 8, 8, 8, 8, 8, 8, 8, 8, 8, 8, 8, 8, 8, 8, 8, 8, 8, 8, 8, 8, 8, 8, 8, 8, 8, 8, 8, 8, 8, 8, 8, 8, 8, 8, 8, 8, 8, 8, 8, 8, 8, 8, 8, 8, 8, 8, 8, 8, 8, 8, 8, 8, 8, 8, 8, 8, 8, 8, 8, 8, 8, 8, 8, 8, 8, 8, 8, 8, 8, 8, 8, 8, 8, 8, 8, 8, 8, 8, 8, 8, 8, 8, 8, 8, 8, 8, 8, 8, 8, 8, 8, 8, 8, 8, 8, 8, 8, 8, 8, 8, 8, 8, 8, 8, 8, 8, 8, 8, 8, 8, 8, 8, 8, 8, 8, 8, 8, 8, 8]⟩)) (.t 15)), .none, [], []⟩, ⟨(.some 17), (.cvt .i64 (.t 16)), .none, [], []⟩, ⟨(.some 18), (.bin .add .o (.t 13) (.t 17)), .none, [], []⟩, ⟨(.some 2), (.mv (.t 18)), .none, [], []⟩] .false), .ret]
theorem F67_at : F67.at Try.prog 67 Try.f67 := ⟨Try.func67, by kernel_rfl, by kernel_rfl, by kernel_rfl, by kernel_rfl, by kernel_rfl⟩

-- "math/bits.Len64" res .true
def F68 : AFn where
  np := 1
  nt := 25
  res := [(.t 2)]
  tab := [(.seq 2),
    (.region [⟨(.some 2), (.mv (.c (.int .i64 0))), .none, [], []⟩] .false), (.seq 8), (.seq 2),
    (.region [⟨(.some 3), (.mv (.t 0)), .none, [], []⟩, ⟨(.some 4), (.bin .geq .o (.t 3) (.c (.int .u64 4294967296))), .none, [], []⟩] .false), (.cond (.t 4) 4), (.seq 2),
    (.region [⟨(.some 5), (.mv (.t 0)), .none, [], []⟩, ⟨(.some 6), (.bin .shr .o (.t 5) (.c (.int .u64 32))), .none, [], []⟩, ⟨(.some 0), (.mv (.t 6)), .none, [], []⟩] .false),
    (.region [⟨(.some 2), (.mv (.c (.int .i64 32))), .none, [], []⟩] .false), .skip, (.seq 8), (.seq 2),
    (.region [⟨(.some 7), (.mv (.t 0)), .none, [], []⟩, ⟨(.some 8), (.bin .geq .o (.t 7) (.c (.int .u64 65536))), .none, [], []⟩] .false), (.cond (.t 8) 4), (.seq 2),
    (.region [⟨(.some 9), (.mv (.t 0)), .none, [], []⟩, ⟨(.some 10), (.bin .shr .o (.t 9) (.c (.int .u64 16))), .none, [], []⟩, ⟨(.some 0), (.mv (.t 10)), .none, [], []⟩] .false),
    (.region [⟨(.some 11), (.mv (.t 2)), .none, [], []⟩, ⟨(.some 12), (.bin .add .o (.t 11) (.c (.int .i64 16))), .none, [], []⟩, ⟨(.some 2), (.mv (.t 12)), .none, [], []⟩] .false), .skip, (.seq 8), (.seq 2),
    (.region [⟨(.some 13), (.mv (.t 0)), .none, [], []⟩, ⟨(.some 14), (.bin .geq .o (.t 13) (.c (.int .u64 256))), .none, [], []⟩] .false), (.cond (.t 14) 4), (.seq 2),
    (.region [⟨(.some 15), (.mv (.t 0)), .none, [], []⟩, ⟨(.some 16), (.bin .shr .o (.t 15) (.c (.int .u64 8))), .none, [], []⟩, ⟨(.some 0), (.mv (.t 16)), .none, [], []⟩] .false),
    (.region [⟨(.some 17), (.mv (.t 2)), .none, [], []⟩, ⟨(.some 18), (.bin .add .o (.t 17) (.c (.int .i64 8))), .none, [], []⟩, ⟨(.some 2), (.mv (.t 18)), .none, [], []⟩] .false), .skip, (.seq 2),
    (.region [⟨(.some 19), (.mv (.t 2)), .none, [], []⟩, ⟨(.some 20), (.mv (.t 0)), .none, [], []⟩, ⟨(.some 21), (.cvt .u8 (.t 20)), .none, [], []⟩, ⟨(.some 22), (.idxs (.c (.str ⟨#[0, 1, 2, 2, 3, 3, 3, 3, 4, 4, 4, 4, 4, 4, 4, 4, 5, 5, 5, 5, 5, 5, 5, 5, 5, 5, 5, 5, 5, 5, 5, 5, 6, 6, 6, 6, 6, 6, 6, 6, 6, 6, 6, 6, 6, 6, 6, 6, 6, 6, 6, 6, 6, 6, 6, 6, 6, 6, 6, 6, 6, 6, 6, 6, 7, 7, 7, 7, 7, 7, 7, 7, 7, 7, 7, 7, 7, 7, 7, 7, 7, 7, 7, 7, 7, 7, 7, 7, 7, 7, 7, 7, 7, 7, 7, 7, 7, 7, 7, 7, 7, 7, 7, 7, 7, 7, 7, 7, 7, 7, 7, 7, 7, 7, 7, 7, 7, 7, 7, 7, 7, 7, 7, 7, 7, 7, 7, 7, 8, 8, 8, 8, 8, 8, 8, 8, 8, 8, 8, 8, 8, 8, 8, 8, 8, 8, 8, 8, 8, 8, 8, 8, 8, 8, 8, 8, 8, 8, 8, 8, 8, 8, 8, 8, 8, 8, 8, 8, 8, 8, 8, 8, 8, 8, 8, 8, 8, 8, 8, 8, 8, 8, 8, 8, 8, 8, 8, 8, 8, 8, 8, 8, 8, 8, 8, 8, 8, 8, 8, 8, 8, 8, 8, 8, 8, 8, 8, 8, 8, 8, 8, 8, 8, 8, 8, 8, 8, 8, 8, 8, 8, 8, 8, 8, 8, 8, 8, 8, 8, 8, 8, 8, 8, 8, 8, 8, 8, 8, 8, 8, 8, 8, 8, 8, 8, 8, 8, 8, 8, 8, 8, 8, 8, 8, 8, 8]⟩)) (.t 21)), .none, [], []⟩, ⟨(.some 23), (.cvt .i64 (.t 22)), .none, [], []⟩, ⟨(.some 24), (.bin .add .o (.t 19) (.t 23)), .none, [], []⟩, ⟨(.some 2), (.mv (.t 24)), .none, [], []⟩] .false), .ret]
theorem F68_at : F68.at Try.prog 68 Try.f68 := ⟨Try.func68, by kernel_rfl, by kernel_rfl, by kernel_rfl, by kernel_rfl, by kernel_rfl⟩

-- "(*signalbox/ceiling.Locks).Held" res .true
def F71 : AFn where
  np := 2
  nt := 34
  res := [(.t 4)]
  tab := [(.seq 2),
    (.region [⟨(.some 4), (.mv (.c .nils)), .none, [], []⟩] .false), (.seq 2),
    (.region [⟨(.some 5), (.mv (.c .nils)), .none, [], []⟩] .false), (.seq 23), (.seq 2),
    (.region [⟨(.some 8), (.mv (.t 0)), .none, [], []⟩, ⟨(.some 9), (.call 72 [(.t 8)]), .none, [], []⟩, ⟨(.some 10), (.mv (.c (.int .i64 0))), .none, [], []⟩] .false), (.block 0), .loop, (.seq 2),
    (.region [⟨(.some 11), (.bin .lss .o (.t 10) (.t 9)), .none, [], []⟩] .false), (.seq 4), (.cond (.t 11) 2), .skip, (.exit 0), (.seq 11), (.block 1), (.seq 2),
    (.region [⟨(.some 12), (.mv (.t 10)), .none, [], []⟩, ⟨(.some 6), (.mv (.t 12)), .none, [], []⟩] .false), (.seq 2),
    (.region [⟨(.some 13), (.mv (.t 0)), .none, [], []⟩, ⟨(.some 14), (.mv (.t 6)), .none, [], []⟩, ⟨(.some 15), (.call 57 [(.t 13), (.t 14)]), .none, [], []⟩, ⟨(.some 7), (.mv (.t 15)), .none, [], []⟩] .false), (.seq 2),
    (.region [⟨(.some 16), (.mv (.t 7)), .none, [], []⟩, ⟨(.some 17), (.nilc (.t 16)), .none, [], []⟩, ⟨(.some 18), (.fad 2 (.t 17)), .none, [], []⟩, ⟨(.some 19), (.ld .none (.t 18)), .none, [], []⟩, ⟨(.some 20), (.mv (.t 19)), .none, [], []⟩, ⟨(.some 21), (.mv (.t 7)), (.some ((.some 20), .true)), [], []⟩, ⟨(.some 22), (.nilc (.t 21)), (.some ((.some 20), .true)), [], []⟩, ⟨(.some 23), (.fad 1 (.t 22)), (.some ((.some 20), .true)), [], []⟩, ⟨(.some 24), (.ld .none (.t 23)), (.some ((.some 20), .true)), [], []⟩, ⟨(.some 25), (.mv (.t 1)), (.some ((.some 20), .true)), [], []⟩, ⟨(.some 26), (.bin .eql .o (.t 24) (.t 25)), (.some ((.some 20), .true)), [], []⟩, ⟨(.some 27), (.pick (.t 20) (.t 26) (.c (.bool .false))), .none, [], []⟩] .false), (.cond (.t 27) 2),
    (.region [⟨(.some 28), (.mv (.t 5)), .none, [], []⟩, ⟨(.some 29), (.mv (.t 6)), .none, [], []⟩, ⟨(.some 30), (.lit 3 1 1 [(.int .i64 0)] [(0, (.t 29))]), .none, [], []⟩, ⟨(.some 31), (.app 3 1 8 [(.int .i64 0)] (.t 28) (.t 30)), .none, [], []⟩, ⟨(.some 5), (.mv (.t 31)), .none, [], []⟩] .false), .skip,
    (.region [⟨(.some 32), (.bin .add .o (.t 10) (.c (.int .i64 1))), .none, [], []⟩, ⟨(.some 10), (.mv (.t 32)), .none, [], []⟩] .false), (.seq 2),
    (.region [⟨(.some 33), (.mv (.t 5)), .none, [], []⟩, ⟨(.some 4), (.mv (.t 33)), .none, [], []⟩] .false), .ret]
theorem F71_at : F71.at Try.prog 71 Try.f71 := ⟨Try.func71, by kernel_rfl, by kernel_rfl, by kernel_rfl, by kernel_rfl, by kernel_rfl⟩

-- "(*signalbox/ceiling.Locks).Len" res .true
def F72 : AFn where
  np := 1
  nt := 10
  res := [(.t 2)]
  tab := [(.seq 2),
    (.region [⟨(.some 2), (.mv (.c (.int .i64 0))), .none, [], []⟩] .false), (.seq 8), (.seq 2),
    (.region [⟨(.some 3), (.mv (.t 0)), .none, [], []⟩, ⟨(.some 4), (.bin .eql .p (.t 3) (.c .nilp)), .none, [], []⟩] .false), (.cond (.t 4) 4), (.seq 2),
    (.region [⟨(.some 2), (.mv (.c (.int .i64 0))), .none, [], []⟩] .false), .ret, .skip, (.seq 2),
    (.region [⟨(.some 5), (.mv (.t 0)), .none, [], []⟩, ⟨(.some 6), (.nilc (.t 5)), .none, [], []⟩, ⟨(.some 7), (.fad 0 (.t 6)), .none, [], []⟩, ⟨(.some 8), (.ld .none (.t 7)), .none, [], []⟩, ⟨(.some 9), (.len .false (.t 8)), .none, [], []⟩, ⟨(.some 2), (.mv (.t 9)), .none, [], []⟩] .false), .ret]
theorem F72_at : F72.at Try.prog 72 Try.f72 := ⟨Try.func72, by kernel_rfl, by kernel_rfl, by kernel_rfl, by kernel_rfl, by kernel_rfl⟩

-- "slices.siftDownOrdered[int]" res .true
def F73 : AFn where
  np := 4
  nt := 76
  res := []
  tab := [(.seq 2),
    (.region [⟨(.some 10), (.mv (.t 1)), .none, [], []⟩, ⟨(.some 8), (.mv (.t 10)), .none, [], []⟩] .false), (.block 0), .loop, (.block 1), (.seq 2),
    (.region [⟨(.some 11), (.mv (.t 8)), .none, [], []⟩, ⟨(.some 12), (.bin .mul .o (.c (.int .i64 2)) (.t 11)), .none, [], []⟩, ⟨(.some 13), (.bin .add .o (.t 12) (.c (.int .i64 1))), .none, [], []⟩, ⟨(.some 9), (.mv (.t 13)), .none, [], []⟩] .false), (.seq 6), (.seq 2),
    (.region [⟨(.some 14), (.mv (.t 9)), .none, [], []⟩, ⟨(.some 15), (.mv (.t 2)), .none, [], []⟩, ⟨(.some 16), (.bin .geq .o (.t 14) (.t 15)), .none, [], []⟩] .false), (.cond (.t 16) 2), (.exit 0), .skip, (.seq 6), (.seq 2),
    (.region [⟨(.some 17), (.mv (.t 9)), .none, [], [9]⟩, ⟨(.some 18), (.bin .add .o (.t 17) (.c (.int .i64 1))), .none, [0], [17]⟩, ⟨(.some 19), (.mv (.t 2)), .none, [], [2]⟩, ⟨(.some 20), (.bin .lss .o (.t 18) (.t 19)), .none, [1, 2], [18, 19]⟩, ⟨(.some 21), (.mv (.t 20)), .none, [3], [20]⟩, ⟨(.some 22), (.mv (.t 0)), (.some ((.some 21), .true)), [4], [0, 21]⟩, ⟨(.some 23), (.mv (.t 3)), (.some ((.some 21), .true)), [4], [3, 21]⟩, ⟨(.some 24), (.mv (.t 9)), (.some ((.some 21), .true)), [4], [9, 21]⟩, ⟨(.some 25), (.bin .add .o (.t 23) (.t 24)), (.some ((.some 21), .true)), [6, 7, 4], [23, 24, 21]⟩, ⟨(.some 26), (.idx 3 1 (.t 22) (.t 25)), (.some ((.some 21), .true)), [5, 8, 4], [22, 25, 21]⟩, ⟨(.some 27), (.ld .none (.t 26)), (.some ((.some 21), .true)), [9, 4], [26, 21]⟩, ⟨(.some 28), (.mv (.t 0)), (.some ((.some 21), .true)), [4], [0, 21]⟩, ⟨(.some 29), (.mv (.t 3)), (.some ((.some 21), .true)), [4], [3, 21]⟩, ⟨(.some 30), (.mv (.t 9)), (.some ((.some 21), .true)), [4], [9, 21]⟩, ⟨(.some 31), (.bin .add .o (.t 29) (.t 30)), (.some ((.some 21), .true)), [12, 13, 4], [29, 30, 21]⟩, ⟨(.some 32), (.bin .add .o (.t 31) (.c (.int .i64 1))), (.some ((.some 21), .true)), [14, 4], [31, 21]⟩, ⟨(.some 33), (.idx 3 1 (.t 28) (.t 32)), (.some ((.some 21), .true)), [11, 15, 4], [28, 32, 21]⟩, ⟨(.some 34), (.ld .none (.t 33)), (.some ((.some 21), .true)), [16, 4], [33, 21]⟩, ⟨(.some 35), (.call 64 [(.t 27), (.t 34)]), (.some ((.some 21), .true)), [10, 17, 4, 4], [27, 34, 21]⟩, ⟨(.some 36), (.pick (.t 21) (.t 35) (.c (.bool .false))), .none, [4, 18], [21, 35]⟩] .true), (.cond (.t 36) 2),
    (.region [⟨(.some 37), (.mv (.t 9)), .none, [], []⟩, ⟨(.some 38), (.bin .add .o (.t 37) (.c (.int .i64 1))), .none, [], []⟩, ⟨(.some 9), (.mv (.t 38)), .none, [], []⟩] .false), .skip, (.seq 6), (.seq 2),
    (.region [⟨(.some 39), (.mv (.t 0)), .none, [], [0]⟩, ⟨(.some 40), (.mv (.t 3)), .none, [], [3]⟩, ⟨(.some 41), (.mv (.t 8)), .none, [], [8]⟩, ⟨(.some 42), (.bin .add .o (.t 40) (.t 41)), .none, [1, 2], [40, 41]⟩, ⟨(.some 43), (.idx 3 1 (.t 39) (.t 42)), .none, [0, 3], [39, 42]⟩, ⟨(.some 44), (.ld .none (.t 43)), .none, [4], [43]⟩, ⟨(.some 45), (.mv (.t 0)), .none, [], [0]⟩, ⟨(.some 46), (.mv (.t 3)), .none, [], [3]⟩, ⟨(.some 47), (.mv (.t 9)), .none, [], [9]⟩, ⟨(.some 48), (.bin .add .o (.t 46) (.t 47)), .none, [7, 8], [46, 47]⟩, ⟨(.some 49), (.idx 3 1 (.t 45) (.t 48)), .none, [6, 9], [45, 48]⟩, ⟨(.some 50), (.ld .none (.t 49)), .none, [10], [49]⟩, ⟨(.some 51), (.call 64 [(.t 44), (.t 50)]), .none, [5, 11], [44, 50]⟩, ⟨(.some 52), (.un .not (.t 51)), .none, [12], [51]⟩] .true), (.cond (.t 52) 2), .ret, .skip, (.seq 2),
    (.region [⟨(.some 53), (.mv (.t 0)), .none, [], [0]⟩, ⟨(.some 54), (.mv (.t 3)), .none, [], [3]⟩, ⟨(.some 55), (.mv (.t 8)), .none, [], [8]⟩, ⟨(.some 56), (.bin .add .o (.t 54) (.t 55)), .none, [1, 2], [54, 55]⟩, ⟨(.some 57), (.mv (.t 0)), .none, [], [0]⟩, ⟨(.some 58), (.mv (.t 3)), .none, [], [3]⟩, ⟨(.some 59), (.mv (.t 9)), .none, [], [9]⟩, ⟨(.some 60), (.bin .add .o (.t 58) (.t 59)), .none, [5, 6], [58, 59]⟩, ⟨(.some 61), (.mv (.t 0)), .none, [], [0]⟩, ⟨(.some 62), (.mv (.t 3)), .none, [], [3]⟩, ⟨(.some 63), (.mv (.t 9)), .none, [], [9]⟩, ⟨(.some 64), (.bin .add .o (.t 62) (.t 63)), .none, [9, 10], [62, 63]⟩, ⟨(.some 65), (.idx 3 1 (.t 61) (.t 64)), .none, [8, 11], [61, 64]⟩, ⟨(.some 66), (.ld .none (.t 65)), .none, [12], [65]⟩, ⟨(.some 67), (.mv (.t 0)), .none, [], [0]⟩, ⟨(.some 68), (.mv (.t 3)), .none, [], [3]⟩, ⟨(.some 69), (.mv (.t 8)), .none, [], [8]⟩, ⟨(.some 70), (.bin .add .o (.t 68) (.t 69)), .none, [15, 16], [68, 69]⟩, ⟨(.some 71), (.idx 3 1 (.t 67) (.t 70)), .none, [14, 17], [67, 70]⟩, ⟨(.some 72), (.ld .none (.t 71)), .none, [18], [71]⟩, ⟨(.some 73), (.idx 3 1 (.t 53) (.t 56)), .none, [0, 3, 0, 1, 2, 3, 8, 9, 10, 11, 12, 13, 19], [53, 56]⟩, ⟨.none, (.st 1 (.t 73) (.t 66)), .none, [20, 13, 0, 1, 2, 3, 8, 9, 10, 11, 12, 13, 19], [73, 66]⟩, ⟨(.some 74), (.idx 3 1 (.t 57) (.t 60)), .none, [4, 7, 0, 1, 2, 3, 4, 5, 6, 7, 8, 9, 10, 11, 12, 13, 14, 15, 16, 17, 18, 19, 20, 21], [57, 60]⟩, ⟨.none, (.st 1 (.t 74) (.t 72)), .none, [22, 19, 21, 0, 1, 2, 3, 4, 5, 6, 7, 8, 9, 10, 11, 12, 13, 14, 15, 16, 17, 18, 19, 20, 21], [74, 72]⟩] .true),
    (.region [⟨(.some 75), (.mv (.t 9)), .none, [], []⟩, ⟨(.some 8), (.mv (.t 75)), .none, [], []⟩] .false)]
theorem F73_at : F73.at Try.prog 73 Try.f73 := ⟨Try.func73, by kernel_rfl, by kernel_rfl, by kernel_rfl, by kernel_rfl, by kernel_rfl⟩

-- "slices.nextPowerOfTwo" res .true
def F74 : AFn where
  np := 1
  nt := 7
  res := [(.t 2)]
  tab := [(.seq 2),
    (.region [⟨(.some 2), (.mv (.c (.int .u64 0))), .none, [], []⟩] .false), (.seq 2),
    (.region [⟨(.some 3), (.mv (.t 0)), .none, [], []⟩, ⟨(.some 4), (.cvt .u64 (.t 3)), .none, [], []⟩, ⟨(.some 5), (.call 50 [(.t 4)]), .none, [], []⟩, ⟨(.some 6), (.bin .shl .o (.c (.int .u64 1)) (.t 5)), .none, [], []⟩, ⟨(.some 2), (.mv (.t 6)), .none, [], []⟩] .false), .ret]
theorem F74_at : F74.at Try.prog 74 Try.f74 := ⟨Try.func74, by kernel_rfl, by kernel_rfl, by kernel_rfl, by kernel_rfl, by kernel_rfl⟩

-- "(*slices.xorshift).Next" res .true
def F75 : AFn where
  np := 1
  nt := 33
  res := [(.t 2)]
  tab := [(.seq 2),
    (.region [⟨(.some 2), (.mv (.c (.int .u64 0))), .none, [], []⟩] .false), (.seq 2),
    (.region [⟨(.some 3), (.mv (.t 0)), .none, [], [0]⟩, ⟨(.some 4), (.nilc (.t 3)), .none, [0], [3]⟩, ⟨(.some 5), (.ld .none (.t 4)), .none, [1], [4]⟩, ⟨(.some 6), (.mv (.t 0)), .none, [], [0]⟩, ⟨(.some 7), (.nilc (.t 6)), .none, [3], [6]⟩, ⟨(.some 8), (.ld .none (.t 7)), .none, [4], [7]⟩, ⟨(.some 9), (.bin .shl .o (.t 8) (.c (.int .u64 13))), .none, [5], [8]⟩, ⟨(.some 10), (.bin .xor .o (.t 5) (.t 9)), .none, [2, 6], [5, 9]⟩, ⟨(.some 11), (.nilc (.t 3)), .none, [0, 0, 1, 2, 3, 4, 5, 6, 7], [3]⟩, ⟨.none, (.st 1 (.t 11) (.t 10)), .none, [8, 7, 0, 1, 2, 3, 4, 5, 6, 7], [11, 10]⟩] .true), (.seq 2),
    (.region [⟨(.some 12), (.mv (.t 0)), .none, [], [0]⟩, ⟨(.some 13), (.nilc (.t 12)), .none, [0], [12]⟩, ⟨(.some 14), (.ld .none (.t 13)), .none, [1], [13]⟩, ⟨(.some 15), (.mv (.t 0)), .none, [], [0]⟩, ⟨(.some 16), (.nilc (.t 15)), .none, [3], [15]⟩, ⟨(.some 17), (.ld .none (.t 16)), .none, [4], [16]⟩, ⟨(.some 18), (.bin .shr .o (.t 17) (.c (.int .u64 7))), .none, [5], [17]⟩, ⟨(.some 19), (.bin .xor .o (.t 14) (.t 18)), .none, [2, 6], [14, 18]⟩, ⟨(.some 20), (.nilc (.t 12)), .none, [0, 0, 1, 2, 3, 4, 5, 6, 7], [12]⟩, ⟨.none, (.st 1 (.t 20) (.t 19)), .none, [8, 7, 0, 1, 2, 3, 4, 5, 6, 7], [20, 19]⟩] .true), (.seq 2),
    (.region [⟨(.some 21), (.mv (.t 0)), .none, [], [0]⟩, ⟨(.some 22), (.nilc (.t 21)), .none, [0], [21]⟩, ⟨(.some 23), (.ld .none (.t 22)), .none, [1], [22]⟩, ⟨(.some 24), (.mv (.t 0)), .none, [], [0]⟩, ⟨(.some 25), (.nilc (.t 24)), .none, [3], [24]⟩, ⟨(.some 26), (.ld .none (.t 25)), .none, [4], [25]⟩, ⟨(.some 27), (.bin .shl .o (.t 26) (.c (.int .u64 17))), .none, [5], [26]⟩, ⟨(.some 28), (.bin .xor .o (.t 23) (.t 27)), .none, [2, 6], [23, 27]⟩, ⟨(.some 29), (.nilc (.t 21)), .none, [0, 0, 1, 2, 3, 4, 5, 6, 7], [21]⟩, ⟨.none, (.st 1 (.t 29) (.t 28)), .none, [8, 7, 0, 1, 2, 3, 4, 5, 6, 7], [29, 28]⟩] .true), (.seq 2),
    (.region [⟨(.some 30), (.mv (.t 0)), .none, [], []⟩, ⟨(.some 31), (.nilc (.t 30)), .none, [], []⟩, ⟨(.some 32), (.ld .none (.t 31)), .none, [], []⟩, ⟨(.some 2), (.mv (.t 32)), .none, [], []⟩] .false), .ret]
theorem F75_at : F75.at Try.prog 75 Try.f75 := ⟨Try.func75, by kernel_rfl, by kernel_rfl, by kernel_rfl, by kernel_rfl, by kernel_rfl⟩

-- "slices.medianAdjacentOrdered[int]" res .true
def F76 : AFn where
  np := 3
  nt := 15
  res := [(.t 6)]
  tab := [(.seq 2),
    (.region [⟨(.some 6), (.mv (.c (.int .i64 0))), .none, [], []⟩] .false), (.seq 2),
    (.region [⟨(.some 7), (.mv (.t 0)), .none, [], []⟩, ⟨(.some 8), (.mv (.t 1)), .none, [], []⟩, ⟨(.some 9), (.bin .sub .o (.t 8) (.c (.int .i64 1))), .none, [], []⟩, ⟨(.some 10), (.mv (.t 1)), .none, [], []⟩, ⟨(.some 11), (.mv (.t 1)), .none, [], []⟩, ⟨(.some 12), (.bin .add .o (.t 11) (.c (.int .i64 1))), .none, [], []⟩, ⟨(.some 13), (.mv (.t 2)), .none, [], []⟩, ⟨(.some 14), (.call 77 [(.t 7), (.t 9), (.t 10), (.t 12), (.t 13)]), .none, [], []⟩, ⟨(.some 6), (.mv (.t 14)), .none, [], []⟩] .false), .ret]
theorem F76_at : F76.at Try.prog 76 Try.f76 := ⟨Try.func76, by kernel_rfl, by kernel_rfl, by kernel_rfl, by kernel_rfl, by kernel_rfl⟩

-- "slices.medianOrdered[int]" res .true
def F77 : AFn where
  np := 5
  nt := 36
  res := [(.t 10)]
  tab := [(.seq 2),
    (.region [⟨(.some 10), (.mv (.c (.int .i64 0))), .none, [], []⟩] .false), (.seq 2),
    (.region [⟨(.some 12), (.mv (.t 0)), .none, [], []⟩, ⟨(.some 13), (.mv (.t 1)), .none, [], []⟩, ⟨(.some 14), (.mv (.t 2)), .none, [], []⟩, ⟨(.some 15), (.mv (.t 4)), .none, [], []⟩, ⟨(.some 16), (.call 79 [(.t 12), (.t 13), (.t 14), (.t 15)]), .none, [], []⟩, ⟨(.some 11), (.mv (.t 16)), .none, [], []⟩, ⟨(.some 17), (.ext (.t 11) 0), .none, [], []⟩, ⟨(.some 18), (.ext (.t 11) 1), .none, [], []⟩, ⟨(.some 1), (.mv (.t 17)), .none, [], []⟩, ⟨(.some 2), (.mv (.t 18)), .none, [], []⟩] .false), (.seq 2),
    (.region [⟨(.some 20), (.mv (.t 0)), .none, [], []⟩, ⟨(.some 21), (.mv (.t 2)), .none, [], []⟩, ⟨(.some 22), (.mv (.t 3)), .none, [], []⟩, ⟨(.some 23), (.mv (.t 4)), .none, [], []⟩, ⟨(.some 24), (.call 79 [(.t 20), (.t 21), (.t 22), (.t 23)]), .none, [], []⟩, ⟨(.some 19), (.mv (.t 24)), .none, [], []⟩, ⟨(.some 25), (.ext (.t 19) 0), .none, [], []⟩, ⟨(.some 26), (.ext (.t 19) 1), .none, [], []⟩, ⟨(.some 2), (.mv (.t 25)), .none, [], []⟩, ⟨(.some 3), (.mv (.t 26)), .none, [], []⟩] .false), (.seq 2),
    (.region [⟨(.some 28), (.mv (.t 0)), .none, [], []⟩, ⟨(.some 29), (.mv (.t 1)), .none, [], []⟩, ⟨(.some 30), (.mv (.t 2)), .none, [], []⟩, ⟨(.some 31), (.mv (.t 4)), .none, [], []⟩, ⟨(.some 32), (.call 79 [(.t 28), (.t 29), (.t 30), (.t 31)]), .none, [], []⟩, ⟨(.some 27), (.mv (.t 32)), .none, [], []⟩, ⟨(.some 33), (.ext (.t 27) 0), .none, [], []⟩, ⟨(.some 34), (.ext (.t 27) 1), .none, [], []⟩, ⟨(.some 1), (.mv (.t 33)), .none, [], []⟩, ⟨(.some 2), (.mv (.t 34)), .none, [], []⟩] .false), (.seq 2),
    (.region [⟨(.some 35), (.mv (.t 2)), .none, [], []⟩, ⟨(.some 10), (.mv (.t 35)), .none, [], []⟩] .false), .ret]
theorem F77_at : F77.at Try.prog 77 Try.f77 := ⟨Try.func77, by kernel_rfl, by kernel_rfl, by kernel_rfl, by kernel_rfl, by kernel_rfl⟩

-- "cmp.isNaN[int]" res .true
def F78 : AFn where
  np := 1
  nt := 6
  res := [(.t 2)]
  tab := [(.seq 2),
    (.region [⟨(.some 2), (.mv (.c (.bool .false))), .none, [], []⟩] .false), (.seq 2),
    (.region [⟨(.some 3), (.mv (.t 0)), .none, [], []⟩, ⟨(.some 4), (.mv (.t 0)), .none, [], []⟩, ⟨(.some 5), (.bin .neq .o (.t 3) (.t 4)), .none, [], []⟩, ⟨(.some 2), (.mv (.t 5)), .none, [], []⟩] .false), .ret]
theorem F78_at : F78.at Try.prog 78 Try.f78 := ⟨Try.func78, by kernel_rfl, by kernel_rfl, by kernel_rfl, by kernel_rfl, by kernel_rfl⟩

-- "slices.order2Ordered[int]" res .true
def F79 : AFn where
  np := 4
  nt := 28
  res := [(.t 8), (.t 9)]
  tab := [(.seq 2),
    (.region [⟨(.some 8), (.mv (.c (.int .i64 0))), .none, [], []⟩, ⟨(.some 9), (.mv (.c (.int .i64 0))), .none, [], []⟩] .false), (.seq 10), (.seq 2),
    (.region [⟨(.some 10), (.mv (.t 0)), .none, [], [0]⟩, ⟨(.some 11), (.mv (.t 2)), .none, [], [2]⟩, ⟨(.some 12), (.idx 3 1 (.t 10) (.t 11)), .none, [0, 1], [10, 11]⟩, ⟨(.some 13), (.ld .none (.t 12)), .none, [2], [12]⟩, ⟨(.some 14), (.mv (.t 0)), .none, [], [0]⟩, ⟨(.some 15), (.mv (.t 1)), .none, [], [1]⟩, ⟨(.some 16), (.idx 3 1 (.t 14) (.t 15)), .none, [4, 5], [14, 15]⟩, ⟨(.some 17), (.ld .none (.t 16)), .none, [6], [16]⟩, ⟨(.some 18), (.call 64 [(.t 13), (.t 17)]), .none, [3, 7], [13, 17]⟩] .true), (.cond (.t 18) 6), (.seq 2),
    (.region [⟨(.some 19), (.mv (.t 3)), .none, [], []⟩, ⟨(.some 20), (.nilc (.t 19)), .none, [], []⟩, ⟨(.some 21), (.ld .none (.t 20)), .none, [], []⟩, ⟨(.some 22), (.bin .add .o (.t 21) (.c (.int .i64 1))), .none, [], []⟩, ⟨(.some 23), (.nilc (.t 19)), .none, [], []⟩, ⟨.none, (.st 1 (.t 23) (.t 22)), .none, [], []⟩] .false), (.seq 2),
    (.region [⟨(.some 24), (.mv (.t 2)), .none, [], []⟩, ⟨(.some 25), (.mv (.t 1)), .none, [], []⟩, ⟨(.some 8), (.mv (.t 24)), .none, [], []⟩, ⟨(.some 9), (.mv (.t 25)), .none, [], []⟩] .false), .ret, .skip, (.seq 2),
    (.region [⟨(.some 26), (.mv (.t 1)), .none, [], []⟩, ⟨(.some 27), (.mv (.t 2)), .none, [], []⟩, ⟨(.some 8), (.mv (.t 26)), .none, [], []⟩, ⟨(.some 9), (.mv (.t 27)), .none, [], []⟩] .false), .ret]
theorem F79_at : F79.at Try.prog 79 Try.f79 := ⟨Try.func79, by kernel_rfl, by kernel_rfl, by kernel_rfl, by kernel_rfl, by kernel_rfl⟩

end Go.Ab
