/- PRINTED BY A PROGRAM (wip/tools/fmod.py): the functions of the cut, for the abstract machine. -/
import Derived.Test.YtjkjcfpphhionaaProg
import Derived.Test.YtjkjcfpphhionaaAbX
namespace Go.Ab
open Go Go.Proofs

-- "signalbox/signalboxlaw50.SpansSets" res .true
def F8 : AFn where
  np := 4
  nt := 48
  res := [(.t 8)]
  tab := [(.seq 2),
    (.region [⟨(.some 8), (.mv (.c (.bool .false))), .none, [], []⟩] .false), (.seq 8), (.seq 2),
    (.region [⟨(.some 9), (.call 24 []), .none, [], []⟩, ⟨(.some 10), (.un .not (.t 9)), .none, [], []⟩] .false), (.cond (.t 10) 4), (.seq 2),
    (.region [⟨(.some 8), (.mv (.c (.bool .false))), .none, [], []⟩] .false), .ret, .skip, (.seq 8), (.seq 2),
    (.region [⟨(.some 11), (.mv (.t 0)), .none, [], []⟩, ⟨(.some 12), (.len .false (.t 11)), .none, [], []⟩, ⟨(.some 13), (.bin .gtr .o (.t 12) (.c (.int .i64 20))), .none, [], []⟩, ⟨(.some 14), (.mv (.t 13)), .none, [], []⟩, ⟨(.some 15), (.mv (.t 1)), (.some ((.some 14), .false)), [], []⟩, ⟨(.some 16), (.len .false (.t 15)), (.some ((.some 14), .false)), [], []⟩, ⟨(.some 17), (.bin .gtr .o (.t 16) (.c (.int .i64 20))), (.some ((.some 14), .false)), [], []⟩, ⟨(.some 18), (.pick (.t 14) (.c (.bool .true)) (.t 17)), .none, [], []⟩] .false), (.cond (.t 18) 4), (.seq 2),
    (.region [⟨(.some 8), (.mv (.c (.bool .true))), .none, [], []⟩] .false), .ret, .skip, (.seq 2),
    (.region [⟨(.some 19), (.mv (.t 0)), .none, [], []⟩, ⟨(.some 20), (.call 26 [(.t 19)]), .none, [], []⟩, ⟨(.some 21), (.mv (.t 0)), .none, [], []⟩, ⟨(.some 22), (.call 28 [(.t 21)]), .none, [], []⟩, ⟨(.some 23), (.call 27 [(.t 22)]), .none, [], []⟩, ⟨(.some 24), (.call 25 [(.t 20), (.t 23)]), .none, [], []⟩, ⟨(.some 25), (.mv (.t 24)), .none, [], []⟩, ⟨(.some 26), (.mv (.t 0)), (.some ((.some 25), .true)), [], []⟩, ⟨(.some 27), (.mv (.t 2)), (.some ((.some 25), .true)), [], []⟩, ⟨(.some 28), (.mv (.t 3)), (.some ((.some 25), .true)), [], []⟩, ⟨(.some 29), (.call 29 [(.t 26), (.t 27), (.t 28)]), (.some ((.some 25), .true)), [], []⟩, ⟨(.some 30), (.mv (.t 0)), (.some ((.some 25), .true)), [], []⟩, ⟨(.some 31), (.call 28 [(.t 30)]), (.some ((.some 25), .true)), [], []⟩, ⟨(.some 32), (.mv (.t 2)), (.some ((.some 25), .true)), [], []⟩, ⟨(.some 33), (.mv (.t 3)), (.some ((.some 25), .true)), [], []⟩, ⟨(.some 34), (.call 30 [(.t 31), (.t 32), (.t 33)]), (.some ((.some 25), .true)), [], []⟩, ⟨(.some 35), (.call 25 [(.t 29), (.t 34)]), (.some ((.some 25), .true)), [], []⟩, ⟨(.some 36), (.pick (.t 25) (.t 35) (.c (.bool .false))), .none, [], []⟩, ⟨(.some 37), (.mv (.t 36)), .none, [], []⟩, ⟨(.some 38), (.mv (.t 0)), (.some ((.some 37), .true)), [], []⟩, ⟨(.some 39), (.mv (.t 1)), (.some ((.some 37), .true)), [], []⟩, ⟨(.some 40), (.call 31 [(.t 38), (.t 39)]), (.some ((.some 37), .true)), [], []⟩, ⟨(.some 41), (.mv (.t 0)), (.some ((.some 37), .true)), [], []⟩, ⟨(.some 42), (.call 28 [(.t 41)]), (.some ((.some 37), .true)), [], []⟩, ⟨(.some 43), (.mv (.t 1)), (.some ((.some 37), .true)), [], []⟩, ⟨(.some 44), (.call 28 [(.t 43)]), (.some ((.some 37), .true)), [], []⟩, ⟨(.some 45), (.call 32 [(.t 42), (.t 44)]), (.some ((.some 37), .true)), [], []⟩, ⟨(.some 46), (.call 25 [(.t 40), (.t 45)]), (.some ((.some 37), .true)), [], []⟩, ⟨(.some 47), (.pick (.t 37) (.t 46) (.c (.bool .false))), .none, [], []⟩, ⟨(.some 8), (.mv (.t 47)), .none, [], []⟩] .false), .ret]
theorem F8_at : F8.at Try.prog 8 Try.f8 := ⟨Try.func8, by kernel_rfl, by kernel_rfl, by kernel_rfl, by kernel_rfl, by kernel_rfl⟩

-- "signalbox/signalboxlaw50.SpansNumbers" res .true
def F9 : AFn where
  np := 1
  nt := 116
  res := [(.t 2)]
  tab := [(.seq 2),
    (.region [⟨(.some 2), (.mv (.c (.bool .false))), .none, [], []⟩] .false), (.seq 8), (.seq 2),
    (.region [⟨(.some 17), (.call 24 []), .none, [], []⟩, ⟨(.some 18), (.un .not (.t 17)), .none, [], []⟩] .false), (.cond (.t 18) 4), (.seq 2),
    (.region [⟨(.some 2), (.mv (.c (.bool .false))), .none, [], []⟩] .false), .ret, .skip, (.seq 8), (.seq 2),
    (.region [⟨(.some 19), (.mv (.t 0)), .none, [], []⟩, ⟨(.some 20), (.len .false (.t 19)), .none, [], []⟩, ⟨(.some 21), (.bin .gtr .o (.t 20) (.c (.int .i64 20))), .none, [], []⟩] .false), (.cond (.t 21) 4), (.seq 2),
    (.region [⟨(.some 2), (.mv (.c (.bool .true))), .none, [], []⟩] .false), .ret, .skip, (.seq 2),
    (.region [⟨(.some 3), (.mv (.c (.int .i64 0))), .none, [], []⟩, ⟨(.some 4), (.mv (.c (.int .i64 0))), .none, [], []⟩, ⟨(.some 5), (.mv (.c (.int .i64 0))), .none, [], []⟩] .false), (.seq 2),
    (.region [⟨(.some 22), (.build [(.int .i64 0), (.int .i64 0)] []), .none, [], []⟩, ⟨(.some 6), (.alloc 60 [(.int .i64 0), (.int .i64 0)]), .none, [], []⟩, ⟨.none, (.st 2 (.t 6) (.t 22)), .none, [], []⟩, ⟨(.some 7), (.mv (.c (.bool .false))), .none, [], []⟩] .false), (.seq 23), (.seq 2),
    (.region [⟨(.some 23), (.mv (.t 0)), .none, [], []⟩, ⟨(.some 24), (.call 28 [(.t 23)]), .none, [], []⟩, ⟨(.some 25), (.call 27 [(.t 24)]), .none, [], []⟩, ⟨(.some 26), (.len .false (.t 25)), .none, [], []⟩, ⟨(.some 27), (.mv (.c (.int .i64 0))), .none, [], []⟩] .false), (.block 0), .loop, (.seq 2),
    (.region [⟨(.some 28), (.bin .lss .o (.t 27) (.t 26)), .none, [], []⟩] .false), (.seq 4), (.cond (.t 28) 2), .skip, (.exit 0), (.seq 11), (.block 1), (.seq 2),
    (.region [⟨(.some 29), (.idx 60 2 (.t 25) (.t 27)), .none, [], []⟩, ⟨(.some 30), (.ld (.some 2) (.t 29)), .none, [], []⟩, ⟨(.some 9), (.alloc 60 [(.int .i64 0), (.int .i64 0)]), .none, [], []⟩, ⟨.none, (.st 2 (.t 9) (.t 30)), .none, [], []⟩] .false), (.seq 2),
    (.region [⟨(.some 31), (.mv (.t 3)), .none, [], []⟩, ⟨(.some 32), (.fad 1 (.t 9)), .none, [], []⟩, ⟨(.some 33), (.ld .none (.t 32)), .none, [], []⟩, ⟨(.some 34), (.fad 0 (.t 9)), .none, [], []⟩, ⟨(.some 35), (.ld .none (.t 34)), .none, [], []⟩, ⟨(.some 36), (.bin .sub .o (.t 33) (.t 35)), .none, [], []⟩, ⟨(.some 37), (.bin .add .o (.t 31) (.t 36)), .none, [], []⟩, ⟨(.some 3), (.mv (.t 37)), .none, [], []⟩] .false), (.seq 2),
    (.region [⟨(.some 38), (.mv (.t 7)), .none, [], []⟩, ⟨(.some 39), (.un .not (.t 38)), .none, [], []⟩, ⟨(.some 40), (.mv (.t 39)), .none, [], []⟩, ⟨(.some 41), (.fad 1 (.t 9)), (.some ((.some 40), .false)), [], []⟩, ⟨(.some 42), (.ld .none (.t 41)), (.some ((.some 40), .false)), [], []⟩, ⟨(.some 43), (.fad 0 (.t 9)), (.some ((.some 40), .false)), [], []⟩, ⟨(.some 44), (.ld .none (.t 43)), (.some ((.some 40), .false)), [], []⟩, ⟨(.some 45), (.bin .sub .o (.t 42) (.t 44)), (.some ((.some 40), .false)), [], []⟩, ⟨(.some 46), (.fad 1 (.t 6)), (.some ((.some 40), .false)), [], []⟩, ⟨(.some 47), (.ld .none (.t 46)), (.some ((.some 40), .false)), [], []⟩, ⟨(.some 48), (.fad 0 (.t 6)), (.some ((.some 40), .false)), [], []⟩, ⟨(.some 49), (.ld .none (.t 48)), (.some ((.some 40), .false)), [], []⟩, ⟨(.some 50), (.bin .sub .o (.t 47) (.t 49)), (.some ((.some 40), .false)), [], []⟩, ⟨(.some 51), (.bin .gtr .o (.t 45) (.t 50)), (.some ((.some 40), .false)), [], []⟩, ⟨(.some 52), (.pick (.t 40) (.c (.bool .true)) (.t 51)), .none, [], []⟩] .false), (.cond (.t 52) 2),
    (.region [⟨(.some 53), (.ld (.some 2) (.t 9)), .none, [], []⟩, ⟨.none, (.st 2 (.t 6) (.t 53)), .none, [], []⟩, ⟨(.some 7), (.mv (.c (.bool .true))), .none, [], []⟩] .false), .skip,
    (.region [⟨(.some 54), (.bin .add .o (.t 27) (.c (.int .i64 1))), .none, [], []⟩, ⟨(.some 27), (.mv (.t 54)), .none, [], []⟩] .false), (.seq 23), (.seq 2),
    (.region [⟨(.some 55), (.mv (.t 0)), .none, [], []⟩, ⟨(.some 56), (.call 28 [(.t 55)]), .none, [], []⟩, ⟨(.some 57), (.call 33 [(.t 56)]), .none, [], []⟩, ⟨(.some 58), (.len .false (.t 57)), .none, [], []⟩, ⟨(.some 59), (.mv (.c (.int .i64 0))), .none, [], []⟩] .false), (.block 2), .loop, (.seq 2),
    (.region [⟨(.some 60), (.bin .lss .o (.t 59) (.t 58)), .none, [], []⟩] .false), (.seq 4), (.cond (.t 60) 2), .skip, (.exit 2), (.seq 11), (.block 3), (.seq 2),
    (.region [⟨(.some 61), (.idx 3 1 (.t 57) (.t 59)), .none, [], []⟩, ⟨(.some 62), (.ld .none (.t 61)), .none, [], []⟩, ⟨(.some 11), (.mv (.t 62)), .none, [], []⟩] .false), (.seq 2),
    (.region [⟨(.some 63), (.mv (.t 0)), .none, [], []⟩, ⟨(.some 64), (.call 28 [(.t 63)]), .none, [], []⟩, ⟨(.some 65), (.mv (.t 11)), .none, [], []⟩, ⟨(.some 66), (.call 34 [(.t 64), (.t 65)]), .none, [], []⟩, ⟨(.some 12), (.mv (.t 66)), .none, [], []⟩] .false), (.seq 2),
    (.region [⟨(.some 67), (.mv (.t 12)), .none, [], []⟩, ⟨(.some 68), (.mv (.t 4)), .none, [], []⟩, ⟨(.some 69), (.bin .gtr .o (.t 67) (.t 68)), .none, [], []⟩] .false), (.cond (.t 69) 2),
    (.region [⟨(.some 70), (.mv (.t 12)), .none, [], []⟩, ⟨(.some 71), (.mv (.t 11)), .none, [], []⟩, ⟨(.some 4), (.mv (.t 70)), .none, [], []⟩, ⟨(.some 5), (.mv (.t 71)), .none, [], []⟩] .false), .skip,
    (.region [⟨(.some 72), (.bin .add .o (.t 59) (.c (.int .i64 1))), .none, [], []⟩, ⟨(.some 59), (.mv (.t 72)), .none, [], []⟩] .false), (.seq 2),
    (.region [⟨(.some 74), (.mv (.t 0)), .none, [], []⟩, ⟨(.some 75), (.call 35 [(.t 74)]), .none, [], []⟩, ⟨(.some 73), (.mv (.t 75)), .none, [], []⟩, ⟨(.some 76), (.ext (.t 73) 0), .none, [], []⟩, ⟨(.some 77), (.ext (.t 73) 1), .none, [], []⟩, ⟨(.some 13), (.alloc 63 [(.int .i64 0), (.int .i64 0)]), .none, [], []⟩, ⟨.none, (.st 2 (.t 13) (.t 76)), .none, [], []⟩, ⟨(.some 14), (.mv (.t 77)), .none, [], []⟩] .false), (.seq 2),
    (.region [⟨(.some 79), (.mv (.t 0)), .none, [], []⟩, ⟨(.some 80), (.call 36 [(.t 79)]), .none, [], []⟩, ⟨(.some 78), (.mv (.t 80)), .none, [], []⟩, ⟨(.some 81), (.ext (.t 78) 0), .none, [], []⟩, ⟨(.some 82), (.ext (.t 78) 1), .none, [], []⟩, ⟨(.some 15), (.mv (.t 81)), .none, [], []⟩, ⟨(.some 16), (.mv (.t 82)), .none, [], []⟩] .false), (.seq 2),
    (.region [⟨(.some 83), (.mv (.t 0)), .none, [], []⟩, ⟨(.some 84), (.call 37 [(.t 83)]), .none, [], []⟩, ⟨(.some 85), (.mv (.t 3)), .none, [], []⟩, ⟨(.some 86), (.bin .eql .o (.t 84) (.t 85)), .none, [], []⟩, ⟨(.some 87), (.mv (.t 86)), .none, [], []⟩, ⟨(.some 88), (.mv (.t 14)), (.some ((.some 87), .true)), [], []⟩, ⟨(.some 89), (.mv (.t 7)), (.some ((.some 87), .true)), [], []⟩, ⟨(.some 90), (.bin .eql .b (.t 88) (.t 89)), (.some ((.some 87), .true)), [], []⟩, ⟨(.some 91), (.pick (.t 87) (.t 90) (.c (.bool .false))), .none, [], []⟩, ⟨(.some 92), (.mv (.t 91)), .none, [], []⟩, ⟨(.some 93), (.fad 0 (.t 13)), (.some ((.some 92), .true)), [], []⟩, ⟨(.some 94), (.ld .none (.t 93)), (.some ((.some 92), .true)), [], []⟩, ⟨(.some 95), (.fad 0 (.t 6)), (.some ((.some 92), .true)), [], []⟩, ⟨(.some 96), (.ld .none (.t 95)), (.some ((.some 92), .true)), [], []⟩, ⟨(.some 97), (.bin .eql .o (.t 94) (.t 96)), (.some ((.some 92), .true)), [], []⟩, ⟨(.some 98), (.pick (.t 92) (.t 97) (.c (.bool .false))), .none, [], []⟩, ⟨(.some 99), (.mv (.t 98)), .none, [], []⟩, ⟨(.some 100), (.fad 1 (.t 13)), (.some ((.some 99), .true)), [], []⟩, ⟨(.some 101), (.ld .none (.t 100)), (.some ((.some 99), .true)), [], []⟩, ⟨(.some 102), (.fad 1 (.t 6)), (.some ((.some 99), .true)), [], []⟩, ⟨(.some 103), (.ld .none (.t 102)), (.some ((.some 99), .true)), [], []⟩, ⟨(.some 104), (.bin .eql .o (.t 101) (.t 103)), (.some ((.some 99), .true)), [], []⟩, ⟨(.some 105), (.pick (.t 99) (.t 104) (.c (.bool .false))), .none, [], []⟩, ⟨(.some 106), (.mv (.t 105)), .none, [], []⟩, ⟨(.some 107), (.mv (.t 15)), (.some ((.some 106), .true)), [], []⟩, ⟨(.some 108), (.mv (.t 4)), (.some ((.some 106), .true)), [], []⟩, ⟨(.some 109), (.bin .eql .o (.t 107) (.t 108)), (.some ((.some 106), .true)), [], []⟩, ⟨(.some 110), (.pick (.t 106) (.t 109) (.c (.bool .false))), .none, [], []⟩, ⟨(.some 111), (.mv (.t 110)), .none, [], []⟩, ⟨(.some 112), (.mv (.t 16)), (.some ((.some 111), .true)), [], []⟩, ⟨(.some 113), (.mv (.t 5)), (.some ((.some 111), .true)), [], []⟩, ⟨(.some 114), (.bin .eql .o (.t 112) (.t 113)), (.some ((.some 111), .true)), [], []⟩, ⟨(.some 115), (.pick (.t 111) (.t 114) (.c (.bool .false))), .none, [], []⟩, ⟨(.some 2), (.mv (.t 115)), .none, [], []⟩] .false), .ret]
theorem F9_at : F9.at Try.prog 9 Try.f9 := ⟨Try.func9, by kernel_rfl, by kernel_rfl, by kernel_rfl, by kernel_rfl, by kernel_rfl⟩

-- "signalbox/signalboxlaw50.SpansLaws" res .true
def F10 : AFn where
  np := 4
  nt := 98
  res := [(.t 8)]
  tab := [(.seq 2),
    (.region [⟨(.some 8), (.mv (.c (.bool .false))), .none, [], []⟩] .false), (.seq 8), (.seq 2),
    (.region [⟨(.some 16), (.call 24 []), .none, [], []⟩, ⟨(.some 17), (.un .not (.t 16)), .none, [], []⟩] .false), (.cond (.t 17) 4), (.seq 2),
    (.region [⟨(.some 8), (.mv (.c (.bool .false))), .none, [], []⟩] .false), .ret, .skip, (.seq 8), (.seq 2),
    (.region [⟨(.some 18), (.mv (.t 0)), .none, [], []⟩, ⟨(.some 19), (.len .false (.t 18)), .none, [], []⟩, ⟨(.some 20), (.bin .gtr .o (.t 19) (.c (.int .i64 30))), .none, [], []⟩, ⟨(.some 21), (.mv (.t 20)), .none, [], []⟩, ⟨(.some 22), (.mv (.t 1)), (.some ((.some 21), .false)), [], []⟩, ⟨(.some 23), (.len .false (.t 22)), (.some ((.some 21), .false)), [], []⟩, ⟨(.some 24), (.bin .gtr .o (.t 23) (.c (.int .i64 30))), (.some ((.some 21), .false)), [], []⟩, ⟨(.some 25), (.pick (.t 21) (.c (.bool .true)) (.t 24)), .none, [], []⟩] .false), (.cond (.t 25) 4), (.seq 2),
    (.region [⟨(.some 8), (.mv (.c (.bool .true))), .none, [], []⟩] .false), .ret, .skip, (.seq 2),
    (.region [⟨(.some 26), (.mv (.t 2)), .none, [], []⟩, ⟨(.some 27), (.mv (.t 3)), .none, [], []⟩, ⟨(.some 28), (.mnmx .false (.t 26) (.t 27)), .none, [], []⟩, ⟨(.some 29), (.cvt .i64 (.t 28)), .none, [], []⟩, ⟨(.some 30), (.mv (.t 2)), .none, [], []⟩, ⟨(.some 31), (.mv (.t 3)), .none, [], []⟩, ⟨(.some 32), (.mnmx .true (.t 30) (.t 31)), .none, [], []⟩, ⟨(.some 33), (.cvt .i64 (.t 32)), .none, [], []⟩, ⟨(.some 9), (.mv (.t 29)), .none, [], []⟩, ⟨(.some 10), (.mv (.t 33)), .none, [], []⟩] .false), (.seq 2),
    (.region [⟨(.some 34), (.mv (.t 9)), .none, [], []⟩, ⟨(.some 35), (.mv (.t 10)), .none, [], []⟩, ⟨(.some 36), (.build [(.int .i64 0), (.int .i64 0)] [(0, (1, (.t 34))), (1, (1, (.t 35)))]), .none, [], []⟩, ⟨(.some 37), (.lit 63 2 1 [(.int .i64 0), (.int .i64 0)] [(0, (.t 36))]), .none, [], []⟩, ⟨(.some 11), (.mv (.t 37)), .none, [], []⟩] .false), (.seq 2),
    (.region [⟨(.some 38), (.mv (.t 0)), .none, [], []⟩, ⟨(.some 39), (.mv (.t 11)), .none, [], []⟩, ⟨(.some 40), (.call 31 [(.t 38), (.t 39)]), .none, [], []⟩, ⟨(.some 41), (.mv (.t 0)), .none, [], []⟩, ⟨(.some 42), (.mv (.t 9)), .none, [], []⟩, ⟨(.some 43), (.mv (.t 10)), .none, [], []⟩, ⟨(.some 44), (.call 29 [(.t 41), (.t 42), (.t 43)]), .none, [], []⟩, ⟨(.some 12), (.mv (.t 40)), .none, [], []⟩, ⟨(.some 13), (.mv (.t 44)), .none, [], []⟩] .false), (.seq 2),
    (.region [⟨(.some 45), (.mv (.t 0)), .none, [], []⟩, ⟨(.some 46), (.mv (.t 1)), .none, [], []⟩, ⟨(.some 47), (.call 31 [(.t 45), (.t 46)]), .none, [], []⟩, ⟨(.some 14), (.mv (.t 47)), .none, [], []⟩] .false), (.seq 2),
    (.region [⟨(.some 48), (.mv (.t 0)), .none, [], []⟩, ⟨(.some 49), (.call 26 [(.t 48)]), .none, [], []⟩, ⟨(.some 15), (.mv (.t 49)), .none, [], []⟩] .false), (.seq 2),
    (.region [⟨(.some 50), (.mv (.t 12)), .none, [], []⟩, ⟨(.some 51), (.call 37 [(.t 50)]), .none, [], []⟩, ⟨(.some 52), (.mv (.t 13)), .none, [], []⟩, ⟨(.some 53), (.call 37 [(.t 52)]), .none, [], []⟩, ⟨(.some 54), (.bin .add .o (.t 51) (.t 53)), .none, [], []⟩, ⟨(.some 55), (.mv (.t 10)), .none, [], []⟩, ⟨(.some 56), (.mv (.t 9)), .none, [], []⟩, ⟨(.some 57), (.bin .sub .o (.t 55) (.t 56)), .none, [], []⟩, ⟨(.some 58), (.bin .eql .o (.t 54) (.t 57)), .none, [], []⟩, ⟨(.some 59), (.mv (.t 58)), .none, [], []⟩, ⟨(.some 60), (.mv (.t 12)), (.some ((.some 59), .true)), [], []⟩, ⟨(.some 61), (.mv (.t 13)), (.some ((.some 59), .true)), [], []⟩, ⟨(.some 62), (.call 31 [(.t 60), (.t 61)]), (.some ((.some 59), .true)), [], []⟩, ⟨(.some 63), (.len .false (.t 62)), (.some ((.some 59), .true)), [], []⟩, ⟨(.some 64), (.bin .eql .o (.t 63) (.c (.int .i64 0))), (.some ((.some 59), .true)), [], []⟩, ⟨(.some 65), (.pick (.t 59) (.t 64) (.c (.bool .false))), .none, [], []⟩, ⟨(.some 66), (.mv (.t 65)), .none, [], []⟩, ⟨(.some 67), (.mv (.t 1)), (.some ((.some 66), .true)), [], []⟩, ⟨(.some 68), (.mv (.t 0)), (.some ((.some 66), .true)), [], []⟩, ⟨(.some 69), (.call 31 [(.t 67), (.t 68)]), (.some ((.some 66), .true)), [], []⟩, ⟨(.some 70), (.mv (.t 14)), (.some ((.some 66), .true)), [], []⟩, ⟨(.some 71), (.call 28 [(.t 70)]), (.some ((.some 66), .true)), [], []⟩, ⟨(.some 72), (.call 25 [(.t 69), (.t 71)]), (.some ((.some 66), .true)), [], []⟩, ⟨(.some 73), (.pick (.t 66) (.t 72) (.c (.bool .false))), .none, [], []⟩, ⟨(.some 74), (.mv (.t 73)), .none, [], []⟩, ⟨(.some 75), (.mv (.t 15)), (.some ((.some 74), .true)), [], []⟩, ⟨(.some 76), (.call 26 [(.t 75)]), (.some ((.some 74), .true)), [], []⟩, ⟨(.some 77), (.mv (.t 15)), (.some ((.some 74), .true)), [], []⟩, ⟨(.some 78), (.call 28 [(.t 77)]), (.some ((.some 74), .true)), [], []⟩, ⟨(.some 79), (.call 25 [(.t 76), (.t 78)]), (.some ((.some 74), .true)), [], []⟩, ⟨(.some 80), (.pick (.t 74) (.t 79) (.c (.bool .false))), .none, [], []⟩, ⟨(.some 81), (.mv (.t 80)), .none, [], []⟩, ⟨(.some 82), (.mv (.t 0)), (.some ((.some 81), .true)), [], []⟩, ⟨(.some 83), (.call 37 [(.t 82)]), (.some ((.some 81), .true)), [], []⟩, ⟨(.some 84), (.mv (.t 1)), (.some ((.some 81), .true)), [], []⟩, ⟨(.some 85), (.call 37 [(.t 84)]), (.some ((.some 81), .true)), [], []⟩, ⟨(.some 86), (.bin .add .o (.t 83) (.t 85)), (.some ((.some 81), .true)), [], []⟩, ⟨(.some 87), (.lit 63 2 0 [(.int .i64 0), (.int .i64 0)] []), (.some ((.some 81), .true)), [], []⟩, ⟨(.some 88), (.mv (.t 0)), (.some ((.some 81), .true)), [], []⟩, ⟨(.some 89), (.app 63 2 16 [(.int .i64 0), (.int .i64 0)] (.t 87) (.t 88)), (.some ((.some 81), .true)), [], []⟩, ⟨(.some 90), (.mv (.t 1)), (.some ((.some 81), .true)), [], []⟩, ⟨(.some 91), (.app 63 2 16 [(.int .i64 0), (.int .i64 0)] (.t 89) (.t 90)), (.some ((.some 81), .true)), [], []⟩, ⟨(.some 92), (.call 37 [(.t 91)]), (.some ((.some 81), .true)), [], []⟩, ⟨(.some 93), (.mv (.t 14)), (.some ((.some 81), .true)), [], []⟩, ⟨(.some 94), (.call 37 [(.t 93)]), (.some ((.some 81), .true)), [], []⟩, ⟨(.some 95), (.bin .add .o (.t 92) (.t 94)), (.some ((.some 81), .true)), [], []⟩, ⟨(.some 96), (.bin .eql .o (.t 86) (.t 95)), (.some ((.some 81), .true)), [], []⟩, ⟨(.some 97), (.pick (.t 81) (.t 96) (.c (.bool .false))), .none, [], []⟩, ⟨(.some 8), (.mv (.t 97)), .none, [], []⟩] .false), .ret]
theorem F10_at : F10.at Try.prog 10 Try.f10 := ⟨Try.func10, by kernel_rfl, by kernel_rfl, by kernel_rfl, by kernel_rfl, by kernel_rfl⟩

-- "signalbox/signalboxlaw50.fixed" res .true
def F24 : AFn where
  np := 0
  nt := 79
  res := [(.t 0)]
  tab := [(.seq 2),
    (.region [⟨(.some 0), (.mv (.c (.bool .false))), .none, [], []⟩] .false), (.seq 2),
    (.region [⟨(.some 8), (.build [(.int .i64 0), (.int .i64 0)] [(0, (1, (.c (.int .i64 4)))), (1, (1, (.c (.int .i64 9))))]), .none, [], []⟩, ⟨(.some 9), (.build [(.int .i64 0), (.int .i64 0)] [(0, (1, (.c (.int .i64 3)))), (1, (1, (.c (.int .i64 5))))]), .none, [], []⟩, ⟨(.some 10), (.build [(.int .i64 0), (.int .i64 0)] [(0, (1, (.c (.int .i64 9)))), (1, (1, (.c (.int .i64 2))))]), .none, [], []⟩, ⟨(.some 11), (.lit 63 2 3 [(.int .i64 0), (.int .i64 0)] [(0, (.t 8)), (1, (.t 9)), (2, (.t 10))]), .none, [], []⟩, ⟨(.some 1), (.mv (.t 11)), .none, [], []⟩] .false), (.seq 2),
    (.region [⟨(.some 12), (.mv (.t 1)), .none, [], []⟩, ⟨(.some 13), (.call 26 [(.t 12)]), .none, [], []⟩, ⟨(.some 2), (.mv (.t 13)), .none, [], []⟩] .false), (.seq 2),
    (.region [⟨(.some 15), (.mv (.t 1)), .none, [], []⟩, ⟨(.some 16), (.call 36 [(.t 15)]), .none, [], []⟩, ⟨(.some 14), (.mv (.t 16)), .none, [], []⟩, ⟨(.some 17), (.ext (.t 14) 0), .none, [], []⟩, ⟨(.some 18), (.ext (.t 14) 1), .none, [], []⟩, ⟨(.some 3), (.mv (.t 17)), .none, [], []⟩, ⟨(.some 4), (.mv (.t 18)), .none, [], []⟩] .false), (.seq 2),
    (.region [⟨(.some 19), (.mv (.t 1)), .none, [], []⟩, ⟨(.some 20), (.call 29 [(.t 19), (.c (.int .i64 0)), (.c (.int .i64 12))]), .none, [], []⟩, ⟨(.some 5), (.mv (.t 20)), .none, [], []⟩] .false), (.seq 2),
    (.region [⟨(.some 22), (.mv (.t 1)), .none, [], []⟩, ⟨(.some 23), (.call 35 [(.t 22)]), .none, [], []⟩, ⟨(.some 21), (.mv (.t 23)), .none, [], []⟩, ⟨(.some 24), (.ext (.t 21) 0), .none, [], []⟩, ⟨(.some 25), (.ext (.t 21) 1), .none, [], []⟩, ⟨(.some 6), (.alloc 63 [(.int .i64 0), (.int .i64 0)]), .none, [], []⟩, ⟨.none, (.st 2 (.t 6) (.t 24)), .none, [], []⟩, ⟨(.some 7), (.mv (.t 25)), .none, [], []⟩] .false), (.seq 2),
    (.region [⟨(.some 26), (.mv (.t 2)), .none, [], [2]⟩, ⟨(.some 27), (.len .false (.t 26)), .none, [0], [26]⟩, ⟨(.some 28), (.bin .eql .o (.t 27) (.c (.int .i64 1))), .none, [1], [27]⟩, ⟨(.some 29), (.mv (.t 28)), .none, [2], [28]⟩, ⟨(.some 30), (.mv (.t 2)), (.some ((.some 29), .true)), [3], [2, 29]⟩, ⟨(.some 31), (.idx 63 2 (.t 30) (.c (.int .i64 0))), (.some ((.some 29), .true)), [4, 3], [30, 29]⟩, ⟨(.some 32), (.ld (.some 2) (.t 31)), (.some ((.some 29), .true)), [5, 3], [31, 29]⟩, ⟨(.some 33), (.build [(.int .i64 0), (.int .i64 0)] [(0, (1, (.c (.int .i64 3)))), (1, (1, (.c (.int .i64 9))))]), (.some ((.some 29), .true)), [3], [29]⟩, ⟨(.some 34), (.bin .eql (.ag [(0, 0), (1, 0)]) (.t 32) (.t 33)), (.some ((.some 29), .true)), [6, 7, 3], [32, 33, 29]⟩, ⟨(.some 35), (.pick (.t 29) (.t 34) (.c (.bool .false))), .none, [3, 8], [29, 34]⟩, ⟨(.some 36), (.mv (.t 35)), .none, [9, 3], [35]⟩, ⟨(.some 37), (.mv (.t 3)), (.some ((.some 36), .true)), [10], [3, 36]⟩, ⟨(.some 38), (.bin .eql .o (.t 37) (.c (.int .i64 2))), (.some ((.some 36), .true)), [11, 10], [37, 36]⟩, ⟨(.some 39), (.pick (.t 36) (.t 38) (.c (.bool .false))), .none, [10, 12], [36, 38]⟩, ⟨(.some 40), (.mv (.t 39)), .none, [13, 10], [39]⟩, ⟨(.some 41), (.mv (.t 4)), (.some ((.some 40), .true)), [14], [4, 40]⟩, ⟨(.some 42), (.bin .eql .o (.t 41) (.c (.int .i64 4))), (.some ((.some 40), .true)), [15, 14], [41, 40]⟩, ⟨(.some 43), (.pick (.t 40) (.t 42) (.c (.bool .false))), .none, [14, 16], [40, 42]⟩, ⟨(.some 44), (.mv (.t 43)), .none, [17, 14], [43]⟩, ⟨(.some 45), (.mv (.t 5)), (.some ((.some 44), .true)), [18], [5, 44]⟩, ⟨(.some 46), (.len .false (.t 45)), (.some ((.some 44), .true)), [19, 18], [45, 44]⟩, ⟨(.some 47), (.bin .eql .o (.t 46) (.c (.int .i64 2))), (.some ((.some 44), .true)), [20, 18], [46, 44]⟩, ⟨(.some 48), (.pick (.t 44) (.t 47) (.c (.bool .false))), .none, [18, 21], [44, 47]⟩, ⟨(.some 49), (.mv (.t 48)), .none, [22, 18], [48]⟩, ⟨(.some 50), (.mv (.t 5)), (.some ((.some 49), .true)), [23], [5, 49]⟩, ⟨(.some 51), (.idx 63 2 (.t 50) (.c (.int .i64 0))), (.some ((.some 49), .true)), [24, 23], [50, 49]⟩, ⟨(.some 52), (.fad 1 (.t 51)), (.some ((.some 49), .true)), [25, 23], [51, 49]⟩, ⟨(.some 53), (.ld .none (.t 52)), (.some ((.some 49), .true)), [26, 23], [52, 49]⟩, ⟨(.some 54), (.bin .eql .o (.t 53) (.c (.int .i64 3))), (.some ((.some 49), .true)), [27, 23], [53, 49]⟩, ⟨(.some 55), (.pick (.t 49) (.t 54) (.c (.bool .false))), .none, [23, 28], [49, 54]⟩, ⟨(.some 56), (.mv (.t 55)), .none, [29, 23], [55]⟩, ⟨(.some 57), (.mv (.t 7)), (.some ((.some 56), .true)), [30], [7, 56]⟩, ⟨(.some 58), (.pick (.t 56) (.t 57) (.c (.bool .false))), .none, [30, 31], [56, 57]⟩, ⟨(.some 59), (.mv (.t 58)), .none, [32, 30], [58]⟩, ⟨(.some 60), (.ld (.some 2) (.t 6)), (.some ((.some 59), .true)), [33], [6, 59]⟩, ⟨(.some 61), (.mv (.t 2)), (.some ((.some 59), .true)), [33], [2, 59]⟩, ⟨(.some 62), (.idx 63 2 (.t 61) (.c (.int .i64 0))), (.some ((.some 59), .true)), [35, 33], [61, 59]⟩, ⟨(.some 63), (.ld (.some 2) (.t 62)), (.some ((.some 59), .true)), [36, 33], [62, 59]⟩, ⟨(.some 64), (.bin .eql (.ag [(0, 0), (1, 0)]) (.t 60) (.t 63)), (.some ((.some 59), .true)), [34, 37, 33], [60, 63, 59]⟩, ⟨(.some 65), (.pick (.t 59) (.t 64) (.c (.bool .false))), .none, [33, 38], [59, 64]⟩, ⟨(.some 66), (.mv (.t 65)), .none, [39, 33], [65]⟩, ⟨(.some 67), (.mv (.t 1)), (.some ((.some 66), .true)), [40], [1, 66]⟩, ⟨(.some 68), (.call 37 [(.t 67)]), (.some ((.some 66), .true)), [41, 40, 40], [67, 66]⟩, ⟨(.some 69), (.bin .eql .o (.t 68) (.c (.int .i64 6))), (.some ((.some 66), .true)), [42, 40], [68, 66]⟩, ⟨(.some 70), (.pick (.t 66) (.t 69) (.c (.bool .false))), .none, [40, 43], [66, 69]⟩, ⟨(.some 71), (.mv (.t 70)), .none, [44, 42], [70]⟩, ⟨(.some 72), (.mv (.t 1)), (.some ((.some 71), .true)), [45], [1, 71]⟩, ⟨(.some 73), (.build [(.int .i64 0), (.int .i64 0)] [(0, (1, (.c (.int .i64 8)))), (1, (1, (.c (.int .i64 20))))]), (.some ((.some 71), .true)), [45], [71]⟩, ⟨(.some 74), (.lit 63 2 1 [(.int .i64 0), (.int .i64 0)] [(0, (.t 73))]), (.some ((.some 71), .true)), [47, 45], [73, 71]⟩, ⟨(.some 75), (.call 31 [(.t 72), (.t 74)]), (.some ((.some 71), .true)), [46, 48, 45, 45], [72, 74, 71]⟩, ⟨(.some 76), (.len .false (.t 75)), (.some ((.some 71), .true)), [49, 45], [75, 71]⟩, ⟨(.some 77), (.bin .eql .o (.t 76) (.c (.int .i64 1))), (.some ((.some 71), .true)), [50, 45], [76, 71]⟩, ⟨(.some 78), (.pick (.t 71) (.t 77) (.c (.bool .false))), .none, [45, 51], [71, 77]⟩, ⟨(.some 0), (.mv (.t 78)), .none, [52, 49, 0, 1, 2, 3, 4, 5, 6, 7, 8, 9, 10, 11, 12, 13, 14, 15, 16, 17, 18, 19, 20, 21, 22, 23, 24, 25, 26, 27, 28, 29, 30, 31, 32, 33, 34, 35, 36, 37, 38, 39, 40, 41, 42, 43, 44, 45, 46, 47, 48, 49, 50, 51, 52], [78]⟩] .true), .ret]
theorem F24_at : F24.at Try.prog 24 Try.f24 := ⟨Try.func24, by kernel_rfl, by kernel_rfl, by kernel_rfl, by kernel_rfl, by kernel_rfl⟩

-- "signalbox/signalboxlaw50.same" res .true
def F25 : AFn where
  np := 2
  nt := 29
  res := [(.t 4)]
  tab := [(.seq 2),
    (.region [⟨(.some 4), (.mv (.c (.bool .false))), .none, [], []⟩] .false), (.seq 2),
    (.region [⟨(.some 7), (.mv (.t 0)), .none, [], []⟩, ⟨(.some 8), (.call 28 [(.t 7)]), .none, [], []⟩, ⟨(.some 5), (.mv (.t 8)), .none, [], []⟩] .false), (.seq 8), (.seq 2),
    (.region [⟨(.some 9), (.mv (.t 5)), .none, [], []⟩, ⟨(.some 10), (.len .false (.t 9)), .none, [], []⟩, ⟨(.some 11), (.mv (.t 1)), .none, [], []⟩, ⟨(.some 12), (.len .false (.t 11)), .none, [], []⟩, ⟨(.some 13), (.bin .neq .o (.t 10) (.t 12)), .none, [], []⟩] .false), (.cond (.t 13) 4), (.seq 2),
    (.region [⟨(.some 4), (.mv (.c (.bool .false))), .none, [], []⟩] .false), .ret, .skip, (.seq 23), (.seq 2),
    (.region [⟨(.some 14), (.mv (.t 5)), .none, [], []⟩, ⟨(.some 15), (.len .false (.t 14)), .none, [], []⟩, ⟨(.some 16), (.mv (.c (.int .i64 0))), .none, [], []⟩] .false), (.block 0), .loop, (.seq 2),
    (.region [⟨(.some 17), (.bin .lss .o (.t 16) (.t 15)), .none, [], []⟩] .false), (.seq 4), (.cond (.t 17) 2), .skip, (.exit 0), (.seq 11), (.block 1), (.seq 2),
    (.region [⟨(.some 18), (.mv (.t 16)), .none, [], []⟩, ⟨(.some 6), (.mv (.t 18)), .none, [], []⟩] .false), (.seq 2),
    (.region [⟨(.some 19), (.mv (.t 5)), .none, [], [5]⟩, ⟨(.some 20), (.mv (.t 6)), .none, [], [6]⟩, ⟨(.some 21), (.idx 60 2 (.t 19) (.t 20)), .none, [0, 1], [19, 20]⟩, ⟨(.some 22), (.ld (.some 2) (.t 21)), .none, [2], [21]⟩, ⟨(.some 23), (.mv (.t 1)), .none, [], [1]⟩, ⟨(.some 24), (.mv (.t 6)), .none, [], [6]⟩, ⟨(.some 25), (.idx 60 2 (.t 23) (.t 24)), .none, [4, 5], [23, 24]⟩, ⟨(.some 26), (.ld (.some 2) (.t 25)), .none, [6], [25]⟩, ⟨(.some 27), (.bin .neq (.ag [(0, 0), (1, 0)]) (.t 22) (.t 26)), .none, [3, 7], [22, 26]⟩] .true), (.cond (.t 27) 4), (.seq 2),
    (.region [⟨(.some 4), (.mv (.c (.bool .false))), .none, [], []⟩] .false), .ret, .skip,
    (.region [⟨(.some 28), (.bin .add .o (.t 16) (.c (.int .i64 1))), .none, [], []⟩, ⟨(.some 16), (.mv (.t 28)), .none, [], []⟩] .false), (.seq 2),
    (.region [⟨(.some 4), (.mv (.c (.bool .true))), .none, [], []⟩] .false), .ret]
theorem F25_at : F25.at Try.prog 25 Try.f25 := ⟨Try.func25, by kernel_rfl, by kernel_rfl, by kernel_rfl, by kernel_rfl, by kernel_rfl⟩

-- "signalbox/spans.Join" res .true
def F26 : AFn where
  np := 1
  nt := 47
  res := [(.t 2)]
  tab := [(.seq 2),
    (.region [⟨(.some 2), (.mv (.c .nils)), .none, [], []⟩] .false), (.seq 2),
    (.region [⟨(.some 3), (.mv (.c .nils)), .none, [], []⟩] .false), (.seq 23), (.seq 2),
    (.region [⟨(.some 7), (.mv (.t 0)), .none, [], []⟩, ⟨(.some 8), (.call 48 [(.t 7)]), .none, [], []⟩, ⟨(.some 9), (.len .false (.t 8)), .none, [], []⟩, ⟨(.some 10), (.mv (.c (.int .i64 0))), .none, [], []⟩] .false), (.block 0), .loop, (.seq 2),
    (.region [⟨(.some 11), (.bin .lss .o (.t 10) (.t 9)), .none, [], []⟩] .false), (.seq 4), (.cond (.t 11) 2), .skip, (.exit 0), (.seq 11), (.block 1), (.seq 2),
    (.region [⟨(.some 12), (.idx 63 2 (.t 8) (.t 10)), .none, [], []⟩, ⟨(.some 13), (.ld (.some 2) (.t 12)), .none, [], []⟩, ⟨(.some 5), (.alloc 63 [(.int .i64 0), (.int .i64 0)]), .none, [], []⟩, ⟨.none, (.st 2 (.t 5) (.t 13)), .none, [], []⟩] .false), (.seq 2),
    (.region [⟨(.some 14), (.mv (.t 3)), .none, [], []⟩, ⟨(.some 15), (.len .false (.t 14)), .none, [], []⟩, ⟨(.some 16), (.bin .sub .o (.t 15) (.c (.int .i64 1))), .none, [], []⟩, ⟨(.some 6), (.mv (.t 16)), .none, [], []⟩] .false), (.seq 2),
    (.region [⟨(.some 17), (.mv (.t 6)), .none, [], [6]⟩, ⟨(.some 18), (.bin .geq .o (.t 17) (.c (.int .i64 0))), .none, [0], [17]⟩, ⟨(.some 19), (.mv (.t 18)), .none, [1], [18]⟩, ⟨(.some 20), (.fad 0 (.t 5)), (.some ((.some 19), .true)), [2], [5, 19]⟩, ⟨(.some 21), (.ld .none (.t 20)), (.some ((.some 19), .true)), [3, 2], [20, 19]⟩, ⟨(.some 22), (.mv (.t 3)), (.some ((.some 19), .true)), [2], [3, 19]⟩, ⟨(.some 23), (.mv (.t 6)), (.some ((.some 19), .true)), [2], [6, 19]⟩, ⟨(.some 24), (.idx 63 2 (.t 22) (.t 23)), (.some ((.some 19), .true)), [5, 6, 2], [22, 23, 19]⟩, ⟨(.some 25), (.fad 1 (.t 24)), (.some ((.some 19), .true)), [7, 2], [24, 19]⟩, ⟨(.some 26), (.ld .none (.t 25)), (.some ((.some 19), .true)), [8, 2], [25, 19]⟩, ⟨(.some 27), (.bin .leq .o (.t 21) (.t 26)), (.some ((.some 19), .true)), [4, 9, 2], [21, 26, 19]⟩, ⟨(.some 28), (.pick (.t 19) (.t 27) (.c (.bool .false))), .none, [2, 10], [19, 27]⟩] .true), (.cond (.t 28) 2),
    (.region [⟨(.some 29), (.mv (.t 3)), .none, [], [3]⟩, ⟨(.some 30), (.mv (.t 6)), .none, [], [6]⟩, ⟨(.some 31), (.mv (.t 3)), .none, [], [3]⟩, ⟨(.some 32), (.mv (.t 6)), .none, [], [6]⟩, ⟨(.some 33), (.idx 63 2 (.t 31) (.t 32)), .none, [2, 3], [31, 32]⟩, ⟨(.some 34), (.fad 1 (.t 33)), .none, [4], [33]⟩, ⟨(.some 35), (.ld .none (.t 34)), .none, [5], [34]⟩, ⟨(.some 36), (.fad 1 (.t 5)), .none, [], [5]⟩, ⟨(.some 37), (.ld .none (.t 36)), .none, [7], [36]⟩, ⟨(.some 38), (.mnmx .true (.t 35) (.t 37)), .none, [6, 8], [35, 37]⟩, ⟨(.some 39), (.idx 63 2 (.t 29) (.t 30)), .none, [0, 1, 0, 1, 2, 3, 4, 5, 6, 7, 8, 9], [29, 30]⟩, ⟨(.some 40), (.fad 1 (.t 39)), .none, [10, 0, 1, 2, 3, 4, 5, 6, 7, 8, 9], [39]⟩, ⟨.none, (.st 1 (.t 40) (.t 38)), .none, [11, 9, 0, 1, 2, 3, 4, 5, 6, 7, 8, 9], [40, 38]⟩] .true),
    (.region [⟨(.some 41), (.mv (.t 3)), .none, [], []⟩, ⟨(.some 42), (.ld (.some 2) (.t 5)), .none, [], []⟩, ⟨(.some 43), (.lit 63 2 1 [(.int .i64 0), (.int .i64 0)] [(0, (.t 42))]), .none, [], []⟩, ⟨(.some 44), (.app 63 2 16 [(.int .i64 0), (.int .i64 0)] (.t 41) (.t 43)), .none, [], []⟩, ⟨(.some 3), (.mv (.t 44)), .none, [], []⟩] .false),
    (.region [⟨(.some 45), (.bin .add .o (.t 10) (.c (.int .i64 1))), .none, [], []⟩, ⟨(.some 10), (.mv (.t 45)), .none, [], []⟩] .false), (.seq 2),
    (.region [⟨(.some 46), (.mv (.t 3)), .none, [], []⟩, ⟨(.some 2), (.mv (.t 46)), .none, [], []⟩] .false), .ret]
theorem F26_at : F26.at Try.prog 26 Try.f26 := ⟨Try.func26, by kernel_rfl, by kernel_rfl, by kernel_rfl, by kernel_rfl, by kernel_rfl⟩

-- "signalbox/signalboxref50.Join" res .true
def F27 : AFn where
  np := 1
  nt := 35
  res := [(.t 2)]
  tab := [(.seq 2),
    (.region [⟨(.some 2), (.mv (.c .nils)), .none, [], []⟩] .false), (.seq 2),
    (.region [⟨(.some 3), (.mv (.c .nils)), .none, [], []⟩] .false), (.seq 2),
    (.region [⟨(.some 6), (.mv (.t 0)), .none, [], []⟩, ⟨(.some 7), (.call 33 [(.t 6)]), .none, [], []⟩, ⟨(.some 4), (.mv (.t 7)), .none, [], []⟩] .false), (.seq 19), (.seq 2),
    (.region [⟨(.some 5), (.mv (.c (.int .i64 0))), .none, [], []⟩] .false), (.block 0), .loop, (.seq 6), (.seq 2),
    (.region [⟨(.some 8), (.mv (.t 5)), .none, [], []⟩, ⟨(.some 9), (.bin .add .o (.t 8) (.c (.int .i64 1))), .none, [], []⟩, ⟨(.some 10), (.mv (.t 4)), .none, [], []⟩, ⟨(.some 11), (.len .false (.t 10)), .none, [], []⟩, ⟨(.some 12), (.bin .lss .o (.t 9) (.t 11)), .none, [], []⟩] .false), (.cond (.t 12) 2), .skip, (.exit 0), (.seq 7), (.block 1), (.seq 2),
    (.region [⟨(.some 15), (.mv (.t 0)), .none, [], []⟩, ⟨(.some 16), (.mv (.t 4)), .none, [], []⟩, ⟨(.some 17), (.mv (.t 5)), .none, [], []⟩, ⟨(.some 18), (.idx 3 1 (.t 16) (.t 17)), .none, [], []⟩, ⟨(.some 19), (.ld .none (.t 18)), .none, [], []⟩, ⟨(.some 20), (.call 34 [(.t 15), (.t 19)]), .none, [], []⟩, ⟨(.some 21), (.bin .gtr .o (.t 20) (.c (.int .i64 0))), .none, [], []⟩] .false), (.cond (.t 21) 2),
    (.region [⟨(.some 22), (.mv (.t 3)), .none, [], [3]⟩, ⟨(.some 23), (.mv (.t 4)), .none, [], [4]⟩, ⟨(.some 24), (.mv (.t 5)), .none, [], [5]⟩, ⟨(.some 25), (.idx 3 1 (.t 23) (.t 24)), .none, [1, 2], [23, 24]⟩, ⟨(.some 26), (.ld .none (.t 25)), .none, [3], [25]⟩, ⟨(.some 27), (.mv (.t 4)), .none, [], [4]⟩, ⟨(.some 28), (.mv (.t 5)), .none, [], [5]⟩, ⟨(.some 29), (.bin .add .o (.t 28) (.c (.int .i64 1))), .none, [6], [28]⟩, ⟨(.some 30), (.idx 3 1 (.t 27) (.t 29)), .none, [5, 7], [27, 29]⟩, ⟨(.some 31), (.ld .none (.t 30)), .none, [8], [30]⟩, ⟨(.some 32), (.build [(.int .i64 0), (.int .i64 0)] [(0, (1, (.t 26))), (1, (1, (.t 31)))]), .none, [4, 9], [26, 31]⟩, ⟨(.some 33), (.call 49 [(.t 22), (.t 32)]), .none, [0, 10], [22, 32]⟩, ⟨(.some 3), (.mv (.t 33)), .none, [11, 11, 0, 1, 2, 3, 4, 5, 6, 7, 8, 9, 10, 11], [33]⟩] .true), .skip,
    (.region [⟨(.some 13), (.mv (.t 5)), .none, [], []⟩, ⟨(.some 14), (.bin .add .o (.t 13) (.c (.int .i64 1))), .none, [], []⟩, ⟨(.some 5), (.mv (.t 14)), .none, [], []⟩] .false), (.seq 2),
    (.region [⟨(.some 34), (.mv (.t 3)), .none, [], []⟩, ⟨(.some 2), (.mv (.t 34)), .none, [], []⟩] .false), .ret]
theorem F27_at : F27.at Try.prog 27 Try.f27 := ⟨Try.func27, by kernel_rfl, by kernel_rfl, by kernel_rfl, by kernel_rfl, by kernel_rfl⟩

-- "signalbox/signalboxlaw50.rows" res .true
def F28 : AFn where
  np := 1
  nt := 22
  res := [(.t 2)]
  tab := [(.seq 2),
    (.region [⟨(.some 2), (.mv (.c .nils)), .none, [], []⟩] .false), (.seq 2),
    (.region [⟨(.some 3), (.mv (.c .nils)), .none, [], []⟩] .false), (.seq 17), (.seq 2),
    (.region [⟨(.some 6), (.mv (.t 0)), .none, [], []⟩, ⟨(.some 7), (.len .false (.t 6)), .none, [], []⟩, ⟨(.some 8), (.mv (.c (.int .i64 0))), .none, [], []⟩] .false), (.block 0), .loop, (.seq 2),
    (.region [⟨(.some 9), (.bin .lss .o (.t 8) (.t 7)), .none, [], []⟩] .false), (.seq 4), (.cond (.t 9) 2), .skip, (.exit 0), (.seq 5), (.block 1), (.seq 2),
    (.region [⟨(.some 10), (.idx 63 2 (.t 6) (.t 8)), .none, [], []⟩, ⟨(.some 11), (.ld (.some 2) (.t 10)), .none, [], []⟩, ⟨(.some 5), (.alloc 63 [(.int .i64 0), (.int .i64 0)]), .none, [], []⟩, ⟨.none, (.st 2 (.t 5) (.t 11)), .none, [], []⟩] .false),
    (.region [⟨(.some 12), (.mv (.t 3)), .none, [], []⟩, ⟨(.some 13), (.fad 0 (.t 5)), .none, [], []⟩, ⟨(.some 14), (.ld .none (.t 13)), .none, [], []⟩, ⟨(.some 15), (.fad 1 (.t 5)), .none, [], []⟩, ⟨(.some 16), (.ld .none (.t 15)), .none, [], []⟩, ⟨(.some 17), (.build [(.int .i64 0), (.int .i64 0)] [(0, (1, (.t 14))), (1, (1, (.t 16)))]), .none, [], []⟩, ⟨(.some 18), (.lit 60 2 1 [(.int .i64 0), (.int .i64 0)] [(0, (.t 17))]), .none, [], []⟩, ⟨(.some 19), (.app 60 2 16 [(.int .i64 0), (.int .i64 0)] (.t 12) (.t 18)), .none, [], []⟩, ⟨(.some 3), (.mv (.t 19)), .none, [], []⟩] .false),
    (.region [⟨(.some 20), (.bin .add .o (.t 8) (.c (.int .i64 1))), .none, [], []⟩, ⟨(.some 8), (.mv (.t 20)), .none, [], []⟩] .false), (.seq 2),
    (.region [⟨(.some 21), (.mv (.t 3)), .none, [], []⟩, ⟨(.some 2), (.mv (.t 21)), .none, [], []⟩] .false), .ret]
theorem F28_at : F28.at Try.prog 28 Try.f28 := ⟨Try.func28, by kernel_rfl, by kernel_rfl, by kernel_rfl, by kernel_rfl, by kernel_rfl⟩

-- "signalbox/spans.Gaps" res .true
def F29 : AFn where
  np := 3
  nt := 48
  res := [(.t 6)]
  tab := [(.seq 2),
    (.region [⟨(.some 6), (.mv (.c .nils)), .none, [], []⟩] .false), (.seq 2),
    (.region [⟨(.some 7), (.mv (.c .nils)), .none, [], []⟩] .false), (.seq 2),
    (.region [⟨(.some 13), (.mv (.t 1)), .none, [], []⟩, ⟨(.some 14), (.call 50 [(.t 13)]), .none, [], []⟩, ⟨(.some 15), (.mv (.t 2)), .none, [], []⟩, ⟨(.some 16), (.call 50 [(.t 15)]), .none, [], []⟩, ⟨(.some 8), (.mv (.t 14)), .none, [], []⟩, ⟨(.some 9), (.mv (.t 16)), .none, [], []⟩] .false), (.seq 25), (.seq 2),
    (.region [⟨(.some 17), (.mv (.t 0)), .none, [], []⟩, ⟨(.some 18), (.call 26 [(.t 17)]), .none, [], []⟩, ⟨(.some 19), (.mv (.t 9)), .none, [], []⟩, ⟨(.some 20), (.mv (.t 9)), .none, [], []⟩, ⟨(.some 21), (.build [(.int .i64 0), (.int .i64 0)] [(0, (1, (.t 19))), (1, (1, (.t 20)))]), .none, [], []⟩, ⟨(.some 22), (.lit 63 2 1 [(.int .i64 0), (.int .i64 0)] [(0, (.t 21))]), .none, [], []⟩, ⟨(.some 23), (.app 63 2 16 [(.int .i64 0), (.int .i64 0)] (.t 18) (.t 22)), .none, [], []⟩, ⟨(.some 24), (.len .false (.t 23)), .none, [], []⟩, ⟨(.some 25), (.mv (.c (.int .i64 0))), .none, [], []⟩] .false), (.block 0), .loop, (.seq 2),
    (.region [⟨(.some 26), (.bin .lss .o (.t 25) (.t 24)), .none, [], []⟩] .false), (.seq 4), (.cond (.t 26) 2), .skip, (.exit 0), (.seq 13), (.block 1), (.seq 2),
    (.region [⟨(.some 27), (.idx 63 2 (.t 23) (.t 25)), .none, [], []⟩, ⟨(.some 28), (.ld (.some 2) (.t 27)), .none, [], []⟩, ⟨(.some 11), (.alloc 63 [(.int .i64 0), (.int .i64 0)]), .none, [], []⟩, ⟨.none, (.st 2 (.t 11) (.t 28)), .none, [], []⟩] .false), (.seq 8), (.seq 2),
    (.region [⟨(.some 29), (.mv (.t 8)), .none, [], []⟩, ⟨(.some 30), (.fad 0 (.t 11)), .none, [], []⟩, ⟨(.some 31), (.ld .none (.t 30)), .none, [], []⟩, ⟨(.some 32), (.mv (.t 9)), .none, [], []⟩, ⟨(.some 33), (.mnmx .false (.t 31) (.t 32)), .none, [], []⟩, ⟨(.some 34), (.build [(.int .i64 0), (.int .i64 0)] [(0, (1, (.t 29))), (1, (1, (.t 33)))]), .none, [], []⟩, ⟨(.some 12), (.alloc 63 [(.int .i64 0), (.int .i64 0)]), .none, [], []⟩, ⟨.none, (.st 2 (.t 12) (.t 34)), .none, [], []⟩] .false), (.seq 2),
    (.region [⟨(.some 35), (.ld (.some 2) (.t 12)), .none, [], []⟩, ⟨(.some 36), (.call 51 [(.t 35)]), .none, [], []⟩, ⟨(.some 37), (.bin .gtr .o (.t 36) (.c (.int .i64 0))), .none, [], []⟩] .false), (.cond (.t 37) 2),
    (.region [⟨(.some 38), (.mv (.t 7)), .none, [], []⟩, ⟨(.some 39), (.ld (.some 2) (.t 12)), .none, [], []⟩, ⟨(.some 40), (.lit 63 2 1 [(.int .i64 0), (.int .i64 0)] [(0, (.t 39))]), .none, [], []⟩, ⟨(.some 41), (.app 63 2 16 [(.int .i64 0), (.int .i64 0)] (.t 38) (.t 40)), .none, [], []⟩, ⟨(.some 7), (.mv (.t 41)), .none, [], []⟩] .false), .skip,
    (.region [⟨(.some 42), (.mv (.t 8)), .none, [], []⟩, ⟨(.some 43), (.fad 1 (.t 11)), .none, [], []⟩, ⟨(.some 44), (.ld .none (.t 43)), .none, [], []⟩, ⟨(.some 45), (.mnmx .true (.t 42) (.t 44)), .none, [], []⟩, ⟨(.some 8), (.mv (.t 45)), .none, [], []⟩] .false),
    (.region [⟨(.some 46), (.bin .add .o (.t 25) (.c (.int .i64 1))), .none, [], []⟩, ⟨(.some 25), (.mv (.t 46)), .none, [], []⟩] .false), (.seq 2),
    (.region [⟨(.some 47), (.mv (.t 7)), .none, [], []⟩, ⟨(.some 6), (.mv (.t 47)), .none, [], []⟩] .false), .ret]
theorem F29_at : F29.at Try.prog 29 Try.f29 := ⟨Try.func29, by kernel_rfl, by kernel_rfl, by kernel_rfl, by kernel_rfl, by kernel_rfl⟩

-- "signalbox/signalboxref50.Gaps" res .true
def F30 : AFn where
  np := 3
  nt := 68
  res := [(.t 6)]
  tab := [(.seq 2),
    (.region [⟨(.some 6), (.mv (.c .nils)), .none, [], []⟩] .false), (.seq 2),
    (.region [⟨(.some 7), (.mv (.c .nils)), .none, [], []⟩] .false), (.seq 2),
    (.region [⟨(.some 11), (.mv (.t 1)), .none, [], []⟩, ⟨(.some 12), (.call 52 [(.t 11)]), .none, [], []⟩, ⟨(.some 13), (.mv (.t 2)), .none, [], []⟩, ⟨(.some 14), (.call 52 [(.t 13)]), .none, [], []⟩, ⟨(.some 15), (.build [(.int .i64 0), (.int .i64 0)] [(0, (1, (.t 12))), (1, (1, (.t 14)))]), .none, [], []⟩, ⟨(.some 8), (.alloc 60 [(.int .i64 0), (.int .i64 0)]), .none, [], []⟩, ⟨.none, (.st 2 (.t 8) (.t 15)), .none, [], []⟩] .false), (.seq 2),
    (.region [⟨(.some 16), (.lit 60 2 0 [(.int .i64 0), (.int .i64 0)] []), .none, [], []⟩, ⟨(.some 17), (.mv (.t 0)), .none, [], [0]⟩, ⟨(.some 18), (.app 60 2 16 [(.int .i64 0), (.int .i64 0)] (.t 16) (.t 17)), .none, [0, 1], [16, 17]⟩, ⟨(.some 19), (.ld (.some 2) (.t 8)), .none, [], [8]⟩, ⟨(.some 20), (.lit 60 2 1 [(.int .i64 0), (.int .i64 0)] [(0, (.t 19))]), .none, [3], [19]⟩, ⟨(.some 21), (.app 60 2 16 [(.int .i64 0), (.int .i64 0)] (.t 18) (.t 20)), .none, [2, 4, 2], [18, 20]⟩, ⟨(.some 22), (.call 33 [(.t 21)]), .none, [5, 5], [21]⟩, ⟨(.some 9), (.mv (.t 22)), .none, [6, 6, 0, 1, 2, 3, 4, 5, 6], [22]⟩] .true), (.seq 19), (.seq 2),
    (.region [⟨(.some 10), (.mv (.c (.int .i64 0))), .none, [], []⟩] .false), (.block 0), .loop, (.seq 6), (.seq 2),
    (.region [⟨(.some 23), (.mv (.t 10)), .none, [], []⟩, ⟨(.some 24), (.bin .add .o (.t 23) (.c (.int .i64 1))), .none, [], []⟩, ⟨(.some 25), (.mv (.t 9)), .none, [], []⟩, ⟨(.some 26), (.len .false (.t 25)), .none, [], []⟩, ⟨(.some 27), (.bin .lss .o (.t 24) (.t 26)), .none, [], []⟩] .false), (.cond (.t 27) 2), .skip, (.exit 0), (.seq 7), (.block 1), (.seq 2),
    (.region [⟨(.some 30), (.mv (.t 9)), .none, [], [9]⟩, ⟨(.some 31), (.mv (.t 10)), .none, [], [10]⟩, ⟨(.some 32), (.idx 3 1 (.t 30) (.t 31)), .none, [0, 1], [30, 31]⟩, ⟨(.some 33), (.ld .none (.t 32)), .none, [2], [32]⟩, ⟨(.some 34), (.fad 0 (.t 8)), .none, [], [8]⟩, ⟨(.some 35), (.ld .none (.t 34)), .none, [4], [34]⟩, ⟨(.some 36), (.bin .geq .o (.t 33) (.t 35)), .none, [3, 5], [33, 35]⟩, ⟨(.some 37), (.mv (.t 36)), .none, [6], [36]⟩, ⟨(.some 38), (.mv (.t 9)), (.some ((.some 37), .true)), [7], [9, 37]⟩, ⟨(.some 39), (.mv (.t 10)), (.some ((.some 37), .true)), [7], [10, 37]⟩, ⟨(.some 40), (.idx 3 1 (.t 38) (.t 39)), (.some ((.some 37), .true)), [8, 9, 7], [38, 39, 37]⟩, ⟨(.some 41), (.ld .none (.t 40)), (.some ((.some 37), .true)), [10, 7], [40, 37]⟩, ⟨(.some 42), (.fad 1 (.t 8)), (.some ((.some 37), .true)), [7], [8, 37]⟩, ⟨(.some 43), (.ld .none (.t 42)), (.some ((.some 37), .true)), [12, 7], [42, 37]⟩, ⟨(.some 44), (.bin .lss .o (.t 41) (.t 43)), (.some ((.some 37), .true)), [11, 13, 7], [41, 43, 37]⟩, ⟨(.some 45), (.pick (.t 37) (.t 44) (.c (.bool .false))), .none, [7, 14], [37, 44]⟩, ⟨(.some 46), (.mv (.t 45)), .none, [15, 7], [45]⟩, ⟨(.some 47), (.mv (.t 0)), (.some ((.some 46), .true)), [16], [0, 46]⟩, ⟨(.some 48), (.mv (.t 9)), (.some ((.some 46), .true)), [16], [9, 46]⟩, ⟨(.some 49), (.mv (.t 10)), (.some ((.some 46), .true)), [16], [10, 46]⟩, ⟨(.some 50), (.idx 3 1 (.t 48) (.t 49)), (.some ((.some 46), .true)), [18, 19, 16], [48, 49, 46]⟩, ⟨(.some 51), (.ld .none (.t 50)), (.some ((.some 46), .true)), [20, 16], [50, 46]⟩, ⟨(.some 52), (.call 34 [(.t 47), (.t 51)]), (.some ((.some 46), .true)), [17, 21, 16, 16], [47, 51, 46]⟩, ⟨(.some 53), (.bin .eql .o (.t 52) (.c (.int .i64 0))), (.some ((.some 46), .true)), [22, 16], [52, 46]⟩, ⟨(.some 54), (.pick (.t 46) (.t 53) (.c (.bool .false))), .none, [16, 23], [46, 53]⟩] .true), (.cond (.t 54) 2),
    (.region [⟨(.some 55), (.mv (.t 7)), .none, [], [7]⟩, ⟨(.some 56), (.mv (.t 9)), .none, [], [9]⟩, ⟨(.some 57), (.mv (.t 10)), .none, [], [10]⟩, ⟨(.some 58), (.idx 3 1 (.t 56) (.t 57)), .none, [1, 2], [56, 57]⟩, ⟨(.some 59), (.ld .none (.t 58)), .none, [3], [58]⟩, ⟨(.some 60), (.mv (.t 9)), .none, [], [9]⟩, ⟨(.some 61), (.mv (.t 10)), .none, [], [10]⟩, ⟨(.some 62), (.bin .add .o (.t 61) (.c (.int .i64 1))), .none, [6], [61]⟩, ⟨(.some 63), (.idx 3 1 (.t 60) (.t 62)), .none, [5, 7], [60, 62]⟩, ⟨(.some 64), (.ld .none (.t 63)), .none, [8], [63]⟩, ⟨(.some 65), (.build [(.int .i64 0), (.int .i64 0)] [(0, (1, (.t 59))), (1, (1, (.t 64)))]), .none, [4, 9], [59, 64]⟩, ⟨(.some 66), (.call 49 [(.t 55), (.t 65)]), .none, [0, 10], [55, 65]⟩, ⟨(.some 7), (.mv (.t 66)), .none, [11, 11, 0, 1, 2, 3, 4, 5, 6, 7, 8, 9, 10, 11], [66]⟩] .true), .skip,
    (.region [⟨(.some 28), (.mv (.t 10)), .none, [], []⟩, ⟨(.some 29), (.bin .add .o (.t 28) (.c (.int .i64 1))), .none, [], []⟩, ⟨(.some 10), (.mv (.t 29)), .none, [], []⟩] .false), (.seq 2),
    (.region [⟨(.some 67), (.mv (.t 7)), .none, [], []⟩, ⟨(.some 6), (.mv (.t 67)), .none, [], []⟩] .false), .ret]
theorem F30_at : F30.at Try.prog 30 Try.f30 := ⟨Try.func30, by kernel_rfl, by kernel_rfl, by kernel_rfl, by kernel_rfl, by kernel_rfl⟩

-- "signalbox/spans.Meet" res .true
def F31 : AFn where
  np := 2
  nt := 61
  res := [(.t 4)]
  tab := [(.seq 2),
    (.region [⟨(.some 4), (.mv (.c .nils)), .none, [], []⟩] .false), (.seq 2),
    (.region [⟨(.some 9), (.mv (.t 0)), .none, [], []⟩, ⟨(.some 10), (.call 26 [(.t 9)]), .none, [], []⟩, ⟨(.some 11), (.mv (.t 1)), .none, [], []⟩, ⟨(.some 12), (.call 26 [(.t 11)]), .none, [], []⟩, ⟨(.some 5), (.mv (.t 10)), .none, [], []⟩, ⟨(.some 6), (.mv (.t 12)), .none, [], []⟩] .false), (.seq 2),
    (.region [⟨(.some 7), (.mv (.c .nils)), .none, [], []⟩] .false), (.seq 23), (.block 0), .loop, (.seq 6), (.seq 2),
    (.region [⟨(.some 13), (.mv (.t 5)), .none, [], []⟩, ⟨(.some 14), (.len .false (.t 13)), .none, [], []⟩, ⟨(.some 15), (.bin .gtr .o (.t 14) (.c (.int .i64 0))), .none, [], []⟩, ⟨(.some 16), (.mv (.t 15)), .none, [], []⟩, ⟨(.some 17), (.mv (.t 6)), (.some ((.some 16), .true)), [], []⟩, ⟨(.some 18), (.len .false (.t 17)), (.some ((.some 16), .true)), [], []⟩, ⟨(.some 19), (.bin .gtr .o (.t 18) (.c (.int .i64 0))), (.some ((.some 16), .true)), [], []⟩, ⟨(.some 20), (.pick (.t 16) (.t 19) (.c (.bool .false))), .none, [], []⟩] .false), (.cond (.t 20) 2), .skip, (.exit 0), (.block 1), (.seq 8), (.seq 2),
    (.region [⟨(.some 21), (.mv (.t 5)), .none, [], [5]⟩, ⟨(.some 22), (.idx 63 2 (.t 21) (.c (.int .i64 0))), .none, [0], [21]⟩, ⟨(.some 23), (.fad 0 (.t 22)), .none, [1], [22]⟩, ⟨(.some 24), (.ld .none (.t 23)), .none, [2], [23]⟩, ⟨(.some 25), (.mv (.t 6)), .none, [], [6]⟩, ⟨(.some 26), (.idx 63 2 (.t 25) (.c (.int .i64 0))), .none, [4], [25]⟩, ⟨(.some 27), (.fad 0 (.t 26)), .none, [5], [26]⟩, ⟨(.some 28), (.ld .none (.t 27)), .none, [6], [27]⟩, ⟨(.some 29), (.mnmx .true (.t 24) (.t 28)), .none, [3, 7], [24, 28]⟩, ⟨(.some 30), (.mv (.t 5)), .none, [], [5]⟩, ⟨(.some 31), (.idx 63 2 (.t 30) (.c (.int .i64 0))), .none, [9], [30]⟩, ⟨(.some 32), (.fad 1 (.t 31)), .none, [10], [31]⟩, ⟨(.some 33), (.ld .none (.t 32)), .none, [11], [32]⟩, ⟨(.some 34), (.mv (.t 6)), .none, [], [6]⟩, ⟨(.some 35), (.idx 63 2 (.t 34) (.c (.int .i64 0))), .none, [13], [34]⟩, ⟨(.some 36), (.fad 1 (.t 35)), .none, [14], [35]⟩, ⟨(.some 37), (.ld .none (.t 36)), .none, [15], [36]⟩, ⟨(.some 38), (.mnmx .false (.t 33) (.t 37)), .none, [12, 16], [33, 37]⟩, ⟨(.some 39), (.build [(.int .i64 0), (.int .i64 0)] [(0, (1, (.t 29))), (1, (1, (.t 38)))]), .none, [8, 17], [29, 38]⟩, ⟨(.some 8), (.alloc 63 [(.int .i64 0), (.int .i64 0)]), .none, [], []⟩, ⟨.none, (.st 2 (.t 8) (.t 39)), .none, [19, 18, 0, 1, 2, 3, 4, 5, 6, 7, 8, 9, 10, 11, 12, 13, 14, 15, 16, 17, 18, 19], [8, 39]⟩] .true), (.seq 2),
    (.region [⟨(.some 40), (.ld (.some 2) (.t 8)), .none, [], []⟩, ⟨(.some 41), (.call 51 [(.t 40)]), .none, [], []⟩, ⟨(.some 42), (.bin .gtr .o (.t 41) (.c (.int .i64 0))), .none, [], []⟩] .false), (.cond (.t 42) 2),
    (.region [⟨(.some 43), (.mv (.t 7)), .none, [], []⟩, ⟨(.some 44), (.ld (.some 2) (.t 8)), .none, [], []⟩, ⟨(.some 45), (.lit 63 2 1 [(.int .i64 0), (.int .i64 0)] [(0, (.t 44))]), .none, [], []⟩, ⟨(.some 46), (.app 63 2 16 [(.int .i64 0), (.int .i64 0)] (.t 43) (.t 45)), .none, [], []⟩, ⟨(.some 7), (.mv (.t 46)), .none, [], []⟩] .false), .skip, (.seq 2),
    (.region [⟨(.some 47), (.mv (.t 5)), .none, [], [5]⟩, ⟨(.some 48), (.idx 63 2 (.t 47) (.c (.int .i64 0))), .none, [0], [47]⟩, ⟨(.some 49), (.fad 1 (.t 48)), .none, [1], [48]⟩, ⟨(.some 50), (.ld .none (.t 49)), .none, [2], [49]⟩, ⟨(.some 51), (.mv (.t 6)), .none, [], [6]⟩, ⟨(.some 52), (.idx 63 2 (.t 51) (.c (.int .i64 0))), .none, [4], [51]⟩, ⟨(.some 53), (.fad 1 (.t 52)), .none, [5], [52]⟩, ⟨(.some 54), (.ld .none (.t 53)), .none, [6], [53]⟩, ⟨(.some 55), (.bin .lss .o (.t 50) (.t 54)), .none, [3, 7], [50, 54]⟩] .true), (.cond (.t 55) 2),
    (.region [⟨(.some 56), (.mv (.t 5)), .none, [], []⟩, ⟨(.some 57), (.slc (.some 2) (.t 56) (.some (.c (.int .i64 1))) .none), .none, [], []⟩, ⟨(.some 5), (.mv (.t 57)), .none, [], []⟩] .false),
    (.region [⟨(.some 58), (.mv (.t 6)), .none, [], []⟩, ⟨(.some 59), (.slc (.some 2) (.t 58) (.some (.c (.int .i64 1))) .none), .none, [], []⟩, ⟨(.some 6), (.mv (.t 59)), .none, [], []⟩] .false), (.seq 2),
    (.region [⟨(.some 60), (.mv (.t 7)), .none, [], []⟩, ⟨(.some 4), (.mv (.t 60)), .none, [], []⟩] .false), .ret]
theorem F31_at : F31.at Try.prog 31 Try.f31 := ⟨Try.func31, by kernel_rfl, by kernel_rfl, by kernel_rfl, by kernel_rfl, by kernel_rfl⟩

-- "signalbox/signalboxref50.Meet" res .true
def F32 : AFn where
  np := 2
  nt := 50
  res := [(.t 4)]
  tab := [(.seq 2),
    (.region [⟨(.some 4), (.mv (.c .nils)), .none, [], []⟩] .false), (.seq 2),
    (.region [⟨(.some 5), (.mv (.c .nils)), .none, [], []⟩] .false), (.seq 2),
    (.region [⟨(.some 8), (.lit 60 2 0 [(.int .i64 0), (.int .i64 0)] []), .none, [], []⟩, ⟨(.some 9), (.mv (.t 0)), .none, [], []⟩, ⟨(.some 10), (.app 60 2 16 [(.int .i64 0), (.int .i64 0)] (.t 8) (.t 9)), .none, [], []⟩, ⟨(.some 11), (.mv (.t 1)), .none, [], []⟩, ⟨(.some 12), (.app 60 2 16 [(.int .i64 0), (.int .i64 0)] (.t 10) (.t 11)), .none, [], []⟩, ⟨(.some 13), (.call 33 [(.t 12)]), .none, [], []⟩, ⟨(.some 6), (.mv (.t 13)), .none, [], []⟩] .false), (.seq 19), (.seq 2),
    (.region [⟨(.some 7), (.mv (.c (.int .i64 0))), .none, [], []⟩] .false), (.block 0), .loop, (.seq 6), (.seq 2),
    (.region [⟨(.some 14), (.mv (.t 7)), .none, [], []⟩, ⟨(.some 15), (.bin .add .o (.t 14) (.c (.int .i64 1))), .none, [], []⟩, ⟨(.some 16), (.mv (.t 6)), .none, [], []⟩, ⟨(.some 17), (.len .false (.t 16)), .none, [], []⟩, ⟨(.some 18), (.bin .lss .o (.t 15) (.t 17)), .none, [], []⟩] .false), (.cond (.t 18) 2), .skip, (.exit 0), (.seq 7), (.block 1), (.seq 2),
    (.region [⟨(.some 21), (.mv (.t 0)), .none, [], []⟩, ⟨(.some 22), (.mv (.t 6)), .none, [], []⟩, ⟨(.some 23), (.mv (.t 7)), .none, [], []⟩, ⟨(.some 24), (.idx 3 1 (.t 22) (.t 23)), .none, [], []⟩, ⟨(.some 25), (.ld .none (.t 24)), .none, [], []⟩, ⟨(.some 26), (.call 34 [(.t 21), (.t 25)]), .none, [], []⟩, ⟨(.some 27), (.bin .gtr .o (.t 26) (.c (.int .i64 0))), .none, [], []⟩, ⟨(.some 28), (.mv (.t 27)), .none, [], []⟩, ⟨(.some 29), (.mv (.t 1)), (.some ((.some 28), .true)), [], []⟩, ⟨(.some 30), (.mv (.t 6)), (.some ((.some 28), .true)), [], []⟩, ⟨(.some 31), (.mv (.t 7)), (.some ((.some 28), .true)), [], []⟩, ⟨(.some 32), (.idx 3 1 (.t 30) (.t 31)), (.some ((.some 28), .true)), [], []⟩, ⟨(.some 33), (.ld .none (.t 32)), (.some ((.some 28), .true)), [], []⟩, ⟨(.some 34), (.call 34 [(.t 29), (.t 33)]), (.some ((.some 28), .true)), [], []⟩, ⟨(.some 35), (.bin .gtr .o (.t 34) (.c (.int .i64 0))), (.some ((.some 28), .true)), [], []⟩, ⟨(.some 36), (.pick (.t 28) (.t 35) (.c (.bool .false))), .none, [], []⟩] .false), (.cond (.t 36) 2),
    (.region [⟨(.some 37), (.mv (.t 5)), .none, [], [5]⟩, ⟨(.some 38), (.mv (.t 6)), .none, [], [6]⟩, ⟨(.some 39), (.mv (.t 7)), .none, [], [7]⟩, ⟨(.some 40), (.idx 3 1 (.t 38) (.t 39)), .none, [1, 2], [38, 39]⟩, ⟨(.some 41), (.ld .none (.t 40)), .none, [3], [40]⟩, ⟨(.some 42), (.mv (.t 6)), .none, [], [6]⟩, ⟨(.some 43), (.mv (.t 7)), .none, [], [7]⟩, ⟨(.some 44), (.bin .add .o (.t 43) (.c (.int .i64 1))), .none, [6], [43]⟩, ⟨(.some 45), (.idx 3 1 (.t 42) (.t 44)), .none, [5, 7], [42, 44]⟩, ⟨(.some 46), (.ld .none (.t 45)), .none, [8], [45]⟩, ⟨(.some 47), (.build [(.int .i64 0), (.int .i64 0)] [(0, (1, (.t 41))), (1, (1, (.t 46)))]), .none, [4, 9], [41, 46]⟩, ⟨(.some 48), (.call 49 [(.t 37), (.t 47)]), .none, [0, 10], [37, 47]⟩, ⟨(.some 5), (.mv (.t 48)), .none, [11, 11, 0, 1, 2, 3, 4, 5, 6, 7, 8, 9, 10, 11], [48]⟩] .true), .skip,
    (.region [⟨(.some 19), (.mv (.t 7)), .none, [], []⟩, ⟨(.some 20), (.bin .add .o (.t 19) (.c (.int .i64 1))), .none, [], []⟩, ⟨(.some 7), (.mv (.t 20)), .none, [], []⟩] .false), (.seq 2),
    (.region [⟨(.some 49), (.mv (.t 5)), .none, [], []⟩, ⟨(.some 4), (.mv (.t 49)), .none, [], []⟩] .false), .ret]
theorem F32_at : F32.at Try.prog 32 Try.f32 := ⟨Try.func32, by kernel_rfl, by kernel_rfl, by kernel_rfl, by kernel_rfl, by kernel_rfl⟩

-- "signalbox/signalboxref50.Edges" res .true
def F33 : AFn where
  np := 1
  nt := 68
  res := [(.t 2)]
  tab := [(.seq 2),
    (.region [⟨(.some 2), (.mv (.c .nils)), .none, [], []⟩] .false), (.seq 2),
    (.region [⟨(.some 3), (.mv (.c .nils)), .none, [], []⟩] .false), (.seq 49), (.seq 2),
    (.region [⟨(.some 9), (.mv (.t 0)), .none, [], []⟩, ⟨(.some 10), (.len .false (.t 9)), .none, [], []⟩, ⟨(.some 11), (.mv (.c (.int .i64 0))), .none, [], []⟩] .false), (.block 0), .loop, (.seq 2),
    (.region [⟨(.some 12), (.bin .lss .o (.t 11) (.t 10)), .none, [], []⟩] .false), (.seq 4), (.cond (.t 12) 2), .skip, (.exit 0), (.seq 37), (.block 1), (.seq 2),
    (.region [⟨(.some 13), (.idx 60 2 (.t 9) (.t 11)), .none, [], []⟩, ⟨(.some 14), (.ld (.some 2) (.t 13)), .none, [], []⟩, ⟨(.some 5), (.alloc 60 [(.int .i64 0), (.int .i64 0)]), .none, [], []⟩, ⟨.none, (.st 2 (.t 5) (.t 14)), .none, [], []⟩] .false), (.seq 2),
    (.region [⟨(.some 15), (.fad 0 (.t 5)), .none, [], [5]⟩, ⟨(.some 16), (.ld .none (.t 15)), .none, [0], [15]⟩, ⟨(.some 17), (.call 52 [(.t 16)]), .none, [1], [16]⟩, ⟨(.some 18), (.fad 1 (.t 5)), .none, [], [5]⟩, ⟨(.some 19), (.ld .none (.t 18)), .none, [3], [18]⟩, ⟨(.some 20), (.call 52 [(.t 19)]), .none, [4, 2], [19]⟩, ⟨(.some 21), (.lit 3 1 2 [(.int .i64 0)] [(0, (.t 17)), (1, (.t 20))]), .none, [2, 5], [17, 20]⟩, ⟨(.some 22), (.len .false (.t 21)), .none, [6], [21]⟩, ⟨(.some 23), (.mv (.c (.int .i64 0))), .none, [], []⟩] .true), (.block 2), .loop, (.seq 2),
    (.region [⟨(.some 24), (.bin .lss .o (.t 23) (.t 22)), .none, [], []⟩] .false), (.seq 4), (.cond (.t 24) 2), .skip, (.exit 2), (.seq 22), (.block 3), (.seq 2),
    (.region [⟨(.some 25), (.idx 3 1 (.t 21) (.t 23)), .none, [], []⟩, ⟨(.some 26), (.ld .none (.t 25)), .none, [], []⟩, ⟨(.some 7), (.mv (.t 26)), .none, [], []⟩] .false), (.seq 2),
    (.region [⟨(.some 8), (.mv (.c (.int .i64 0))), .none, [], []⟩] .false), (.seq 11), (.block 4), .loop, (.seq 6), (.seq 2),
    (.region [⟨(.some 27), (.mv (.t 8)), .none, [], []⟩, ⟨(.some 28), (.mv (.t 3)), .none, [], []⟩, ⟨(.some 29), (.len .false (.t 28)), .none, [], []⟩, ⟨(.some 30), (.bin .lss .o (.t 27) (.t 29)), .none, [], []⟩, ⟨(.some 31), (.mv (.t 30)), .none, [], []⟩, ⟨(.some 32), (.mv (.t 3)), (.some ((.some 31), .true)), [], []⟩, ⟨(.some 33), (.mv (.t 8)), (.some ((.some 31), .true)), [], []⟩, ⟨(.some 34), (.idx 3 1 (.t 32) (.t 33)), (.some ((.some 31), .true)), [], []⟩, ⟨(.some 35), (.ld .none (.t 34)), (.some ((.some 31), .true)), [], []⟩, ⟨(.some 36), (.mv (.t 7)), (.some ((.some 31), .true)), [], []⟩, ⟨(.some 37), (.bin .lss .o (.t 35) (.t 36)), (.some ((.some 31), .true)), [], []⟩, ⟨(.some 38), (.pick (.t 31) (.t 37) (.c (.bool .false))), .none, [], []⟩] .false), (.cond (.t 38) 2), .skip, (.exit 4), (.block 5),
    (.region [⟨(.some 39), (.mv (.t 8)), .none, [], []⟩, ⟨(.some 40), (.bin .add .o (.t 39) (.c (.int .i64 1))), .none, [], []⟩, ⟨(.some 8), (.mv (.t 40)), .none, [], []⟩] .false), (.seq 2),
    (.region [⟨(.some 41), (.mv (.t 8)), .none, [], []⟩, ⟨(.some 42), (.mv (.t 3)), .none, [], []⟩, ⟨(.some 43), (.len .false (.t 42)), .none, [], []⟩, ⟨(.some 44), (.bin .eql .o (.t 41) (.t 43)), .none, [], []⟩, ⟨(.some 45), (.mv (.t 44)), .none, [], []⟩, ⟨(.some 46), (.mv (.t 3)), (.some ((.some 45), .false)), [], []⟩, ⟨(.some 47), (.mv (.t 8)), (.some ((.some 45), .false)), [], []⟩, ⟨(.some 48), (.idx 3 1 (.t 46) (.t 47)), (.some ((.some 45), .false)), [], []⟩, ⟨(.some 49), (.ld .none (.t 48)), (.some ((.some 45), .false)), [], []⟩, ⟨(.some 50), (.mv (.t 7)), (.some ((.some 45), .false)), [], []⟩, ⟨(.some 51), (.bin .neq .o (.t 49) (.t 50)), (.some ((.some 45), .false)), [], []⟩, ⟨(.some 52), (.pick (.t 45) (.c (.bool .true)) (.t 51)), .none, [], []⟩] .false), (.cond (.t 52) 2),
    (.region [⟨(.some 53), (.lit 3 1 0 [(.int .i64 0)] []), .none, [], []⟩, ⟨(.some 54), (.mv (.t 3)), .none, [], [3]⟩, ⟨(.some 55), (.mv (.t 8)), .none, [], [8]⟩, ⟨(.some 56), (.slc (.some 1) (.t 54) .none (.some (.t 55))), .none, [1, 2], [54, 55]⟩, ⟨(.some 57), (.app 3 1 8 [(.int .i64 0)] (.t 53) (.t 56)), .none, [0, 3], [53, 56]⟩, ⟨(.some 58), (.mv (.t 7)), .none, [], [7]⟩, ⟨(.some 59), (.lit 3 1 1 [(.int .i64 0)] [(0, (.t 58))]), .none, [5], [58]⟩, ⟨(.some 60), (.app 3 1 8 [(.int .i64 0)] (.t 57) (.t 59)), .none, [4, 6, 4], [57, 59]⟩, ⟨(.some 61), (.mv (.t 3)), .none, [], [3]⟩, ⟨(.some 62), (.mv (.t 8)), .none, [], [8]⟩, ⟨(.some 63), (.slc (.some 1) (.t 61) (.some (.t 62)) .none), .none, [8, 9], [61, 62]⟩, ⟨(.some 64), (.app 3 1 8 [(.int .i64 0)] (.t 60) (.t 63)), .none, [7, 10, 7], [60, 63]⟩, ⟨(.some 3), (.mv (.t 64)), .none, [11, 11, 0, 1, 2, 3, 4, 5, 6, 7, 8, 9, 10, 11], [64]⟩] .true), .skip,
    (.region [⟨(.some 65), (.bin .add .o (.t 23) (.c (.int .i64 1))), .none, [], []⟩, ⟨(.some 23), (.mv (.t 65)), .none, [], []⟩] .false),
    (.region [⟨(.some 66), (.bin .add .o (.t 11) (.c (.int .i64 1))), .none, [], []⟩, ⟨(.some 11), (.mv (.t 66)), .none, [], []⟩] .false), (.seq 2),
    (.region [⟨(.some 67), (.mv (.t 3)), .none, [], []⟩, ⟨(.some 2), (.mv (.t 67)), .none, [], []⟩] .false), .ret]
theorem F33_at : F33.at Try.prog 33 Try.f33 := ⟨Try.func33, by kernel_rfl, by kernel_rfl, by kernel_rfl, by kernel_rfl, by kernel_rfl⟩

-- "signalbox/signalboxref50.Depth" res .true
def F34 : AFn where
  np := 2
  nt := 30
  res := [(.t 4)]
  tab := [(.seq 2),
    (.region [⟨(.some 4), (.mv (.c (.int .i64 0))), .none, [], []⟩] .false), (.seq 2),
    (.region [⟨(.some 5), (.mv (.c (.int .i64 0))), .none, [], []⟩] .false), (.seq 21), (.seq 2),
    (.region [⟨(.some 8), (.mv (.t 0)), .none, [], []⟩, ⟨(.some 9), (.len .false (.t 8)), .none, [], []⟩, ⟨(.some 10), (.mv (.c (.int .i64 0))), .none, [], []⟩] .false), (.block 0), .loop, (.seq 2),
    (.region [⟨(.some 11), (.bin .lss .o (.t 10) (.t 9)), .none, [], []⟩] .false), (.seq 4), (.cond (.t 11) 2), .skip, (.exit 0), (.seq 9), (.block 1), (.seq 2),
    (.region [⟨(.some 12), (.idx 60 2 (.t 8) (.t 10)), .none, [], []⟩, ⟨(.some 13), (.ld (.some 2) (.t 12)), .none, [], []⟩, ⟨(.some 7), (.alloc 60 [(.int .i64 0), (.int .i64 0)]), .none, [], []⟩, ⟨.none, (.st 2 (.t 7) (.t 13)), .none, [], []⟩] .false), (.seq 2),
    (.region [⟨(.some 14), (.fad 0 (.t 7)), .none, [], []⟩, ⟨(.some 15), (.ld .none (.t 14)), .none, [], []⟩, ⟨(.some 16), (.call 52 [(.t 15)]), .none, [], []⟩, ⟨(.some 17), (.mv (.t 1)), .none, [], []⟩, ⟨(.some 18), (.bin .leq .o (.t 16) (.t 17)), .none, [], []⟩, ⟨(.some 19), (.mv (.t 18)), .none, [], []⟩, ⟨(.some 20), (.mv (.t 1)), (.some ((.some 19), .true)), [], []⟩, ⟨(.some 21), (.fad 1 (.t 7)), (.some ((.some 19), .true)), [], []⟩, ⟨(.some 22), (.ld .none (.t 21)), (.some ((.some 19), .true)), [], []⟩, ⟨(.some 23), (.call 52 [(.t 22)]), (.some ((.some 19), .true)), [], []⟩, ⟨(.some 24), (.bin .lss .o (.t 20) (.t 23)), (.some ((.some 19), .true)), [], []⟩, ⟨(.some 25), (.pick (.t 19) (.t 24) (.c (.bool .false))), .none, [], []⟩] .false), (.cond (.t 25) 2),
    (.region [⟨(.some 26), (.mv (.t 5)), .none, [], []⟩, ⟨(.some 27), (.bin .add .o (.t 26) (.c (.int .i64 1))), .none, [], []⟩, ⟨(.some 5), (.mv (.t 27)), .none, [], []⟩] .false), .skip,
    (.region [⟨(.some 28), (.bin .add .o (.t 10) (.c (.int .i64 1))), .none, [], []⟩, ⟨(.some 10), (.mv (.t 28)), .none, [], []⟩] .false), (.seq 2),
    (.region [⟨(.some 29), (.mv (.t 5)), .none, [], []⟩, ⟨(.some 4), (.mv (.t 29)), .none, [], []⟩] .false), .ret]
theorem F34_at : F34.at Try.prog 34 Try.f34 := ⟨Try.func34, by kernel_rfl, by kernel_rfl, by kernel_rfl, by kernel_rfl, by kernel_rfl⟩

-- "signalbox/spans.Longest" res .true
def F35 : AFn where
  np := 1
  nt := 32
  res := [(.cell 2 (.some 2)), (.t 3)]
  tab := [(.seq 2),
    (.region [⟨(.some 2), (.alloc 63 [(.int .i64 0), (.int .i64 0)]), .none, [], []⟩, ⟨(.some 3), (.mv (.c (.bool .false))), .none, [], []⟩] .false), (.seq 2),
    (.region [⟨(.some 8), (.mv (.t 0)), .none, [], []⟩, ⟨(.some 9), (.call 26 [(.t 8)]), .none, [], []⟩, ⟨(.some 4), (.mv (.t 9)), .none, [], []⟩] .false), (.seq 8), (.seq 2),
    (.region [⟨(.some 10), (.mv (.t 4)), .none, [], []⟩, ⟨(.some 11), (.len .false (.t 10)), .none, [], []⟩, ⟨(.some 12), (.bin .eql .o (.t 11) (.c (.int .i64 0))), .none, [], []⟩] .false), (.cond (.t 12) 4), (.seq 2),
    (.region [⟨(.some 13), (.build [(.int .i64 0), (.int .i64 0)] []), .none, [], []⟩, ⟨.none, (.st 2 (.t 2) (.t 13)), .none, [], []⟩, ⟨(.some 3), (.mv (.c (.bool .false))), .none, [], []⟩] .false), .ret, .skip, (.seq 2),
    (.region [⟨(.some 14), (.mv (.t 4)), .none, [], []⟩, ⟨(.some 15), (.idx 63 2 (.t 14) (.c (.int .i64 0))), .none, [], []⟩, ⟨(.some 16), (.ld (.some 2) (.t 15)), .none, [], []⟩, ⟨(.some 5), (.alloc 63 [(.int .i64 0), (.int .i64 0)]), .none, [], []⟩, ⟨.none, (.st 2 (.t 5) (.t 16)), .none, [], []⟩] .false), (.seq 21), (.seq 2),
    (.region [⟨(.some 17), (.mv (.t 4)), .none, [], []⟩, ⟨(.some 18), (.slc (.some 2) (.t 17) (.some (.c (.int .i64 1))) .none), .none, [], []⟩, ⟨(.some 19), (.len .false (.t 18)), .none, [], []⟩, ⟨(.some 20), (.mv (.c (.int .i64 0))), .none, [], []⟩] .false), (.block 0), .loop, (.seq 2),
    (.region [⟨(.some 21), (.bin .lss .o (.t 20) (.t 19)), .none, [], []⟩] .false), (.seq 4), (.cond (.t 21) 2), .skip, (.exit 0), (.seq 9), (.block 1), (.seq 2),
    (.region [⟨(.some 22), (.idx 63 2 (.t 18) (.t 20)), .none, [], []⟩, ⟨(.some 23), (.ld (.some 2) (.t 22)), .none, [], []⟩, ⟨(.some 7), (.alloc 63 [(.int .i64 0), (.int .i64 0)]), .none, [], []⟩, ⟨.none, (.st 2 (.t 7) (.t 23)), .none, [], []⟩] .false), (.seq 2),
    (.region [⟨(.some 24), (.ld (.some 2) (.t 7)), .none, [], [7]⟩, ⟨(.some 25), (.call 51 [(.t 24)]), .none, [0], [24]⟩, ⟨(.some 26), (.ld (.some 2) (.t 5)), .none, [], [5]⟩, ⟨(.some 27), (.call 51 [(.t 26)]), .none, [2, 1], [26]⟩, ⟨(.some 28), (.bin .gtr .o (.t 25) (.t 27)), .none, [1, 3], [25, 27]⟩] .true), (.cond (.t 28) 2),
    (.region [⟨(.some 29), (.ld (.some 2) (.t 7)), .none, [], []⟩, ⟨.none, (.st 2 (.t 5) (.t 29)), .none, [], []⟩] .false), .skip,
    (.region [⟨(.some 30), (.bin .add .o (.t 20) (.c (.int .i64 1))), .none, [], []⟩, ⟨(.some 20), (.mv (.t 30)), .none, [], []⟩] .false), (.seq 2),
    (.region [⟨(.some 31), (.ld (.some 2) (.t 5)), .none, [], []⟩, ⟨.none, (.st 2 (.t 2) (.t 31)), .none, [], []⟩, ⟨(.some 3), (.mv (.c (.bool .true))), .none, [], []⟩] .false), .ret]
theorem F35_at : F35.at Try.prog 35 Try.f35 := ⟨Try.func35, by kernel_rfl, by kernel_rfl, by kernel_rfl, by kernel_rfl, by kernel_rfl⟩

-- "signalbox/spans.Deepest" res .true
def F36 : AFn where
  np := 1
  nt := 48
  res := [(.t 2), (.t 3)]
  tab := [(.seq 2),
    (.region [⟨(.some 2), (.mv (.c (.int .i64 0))), .none, [], []⟩, ⟨(.some 3), (.mv (.c (.int .i64 0))), .none, [], []⟩] .false), (.seq 2),
    (.region [⟨(.some 12), (.mv (.t 0)), .none, [], []⟩, ⟨(.some 13), (.call 48 [(.t 12)]), .none, [], []⟩, ⟨(.some 4), (.mv (.t 13)), .none, [], []⟩] .false), (.seq 2),
    (.region [⟨(.some 14), (.mv (.t 4)), .none, [], []⟩, ⟨(.some 15), (.call 53 [(.t 14)]), .none, [], []⟩, ⟨(.some 5), (.mv (.t 15)), .none, [], []⟩] .false), (.seq 2),
    (.region [⟨(.some 16), (.mv (.t 5)), .none, [], []⟩, ⟨(.some 17), (.call 54 [(.t 16), (.c (.fn (.func 55) [] []))]), .none, [], []⟩] .false), (.seq 2),
    (.region [⟨(.some 6), (.mv (.c (.int .i64 0))), .none, [], []⟩, ⟨(.some 7), (.mv (.c (.int .i64 0))), .none, [], []⟩, ⟨(.some 8), (.mv (.c (.int .i64 0))), .none, [], []⟩] .false), (.seq 34), (.seq 2),
    (.region [⟨(.some 18), (.mv (.t 4)), .none, [], []⟩, ⟨(.some 19), (.len .false (.t 18)), .none, [], []⟩, ⟨(.some 20), (.mv (.c (.int .i64 0))), .none, [], []⟩] .false), (.block 0), .loop, (.seq 2),
    (.region [⟨(.some 21), (.bin .lss .o (.t 20) (.t 19)), .none, [], []⟩] .false), (.seq 4), (.cond (.t 21) 2), .skip, (.exit 0), (.seq 22), (.block 1), (.seq 2),
    (.region [⟨(.some 22), (.mv (.t 20)), .none, [], []⟩, ⟨(.some 23), (.idx 63 2 (.t 18) (.t 20)), .none, [], []⟩, ⟨(.some 24), (.ld (.some 2) (.t 23)), .none, [], []⟩, ⟨(.some 10), (.alloc 63 [(.int .i64 0), (.int .i64 0)]), .none, [], []⟩, ⟨(.some 9), (.mv (.t 22)), .none, [], []⟩, ⟨.none, (.st 2 (.t 10) (.t 24)), .none, [], []⟩] .false), (.seq 11), (.block 2), .loop, (.seq 6), (.seq 2),
    (.region [⟨(.some 25), (.mv (.t 5)), .none, [], [5]⟩, ⟨(.some 26), (.mv (.t 8)), .none, [], [8]⟩, ⟨(.some 27), (.idx 63 2 (.t 25) (.t 26)), .none, [0, 1], [25, 26]⟩, ⟨(.some 28), (.fad 1 (.t 27)), .none, [2], [27]⟩, ⟨(.some 29), (.ld .none (.t 28)), .none, [3], [28]⟩, ⟨(.some 30), (.fad 0 (.t 10)), .none, [], [10]⟩, ⟨(.some 31), (.ld .none (.t 30)), .none, [5], [30]⟩, ⟨(.some 32), (.bin .leq .o (.t 29) (.t 31)), .none, [4, 6], [29, 31]⟩] .true), (.cond (.t 32) 2), .skip, (.exit 2), (.block 3),
    (.region [⟨(.some 33), (.mv (.t 8)), .none, [], []⟩, ⟨(.some 34), (.bin .add .o (.t 33) (.c (.int .i64 1))), .none, [], []⟩, ⟨(.some 8), (.mv (.t 34)), .none, [], []⟩] .false), (.seq 2),
    (.region [⟨(.some 35), (.mv (.t 9)), .none, [], []⟩, ⟨(.some 36), (.bin .add .o (.t 35) (.c (.int .i64 1))), .none, [], []⟩, ⟨(.some 37), (.mv (.t 8)), .none, [], []⟩, ⟨(.some 38), (.bin .sub .o (.t 36) (.t 37)), .none, [], []⟩, ⟨(.some 11), (.mv (.t 38)), .none, [], []⟩] .false), (.seq 2),
    (.region [⟨(.some 39), (.mv (.t 11)), .none, [], []⟩, ⟨(.some 40), (.mv (.t 6)), .none, [], []⟩, ⟨(.some 41), (.bin .gtr .o (.t 39) (.t 40)), .none, [], []⟩] .false), (.cond (.t 41) 2),
    (.region [⟨(.some 42), (.mv (.t 11)), .none, [], [11]⟩, ⟨(.some 43), (.fad 0 (.t 10)), .none, [], [10]⟩, ⟨(.some 44), (.ld .none (.t 43)), .none, [1], [43]⟩, ⟨(.some 6), (.mv (.t 42)), .none, [0, 0], [42]⟩, ⟨(.some 7), (.mv (.t 44)), .none, [2, 3, 0, 1, 2, 3], [44]⟩] .true), .skip,
    (.region [⟨(.some 45), (.bin .add .o (.t 20) (.c (.int .i64 1))), .none, [], []⟩, ⟨(.some 20), (.mv (.t 45)), .none, [], []⟩] .false), (.seq 2),
    (.region [⟨(.some 46), (.mv (.t 6)), .none, [], []⟩, ⟨(.some 47), (.mv (.t 7)), .none, [], []⟩, ⟨(.some 2), (.mv (.t 46)), .none, [], []⟩, ⟨(.some 3), (.mv (.t 47)), .none, [], []⟩] .false), .ret]
theorem F36_at : F36.at Try.prog 36 Try.f36 := ⟨Try.func36, by kernel_rfl, by kernel_rfl, by kernel_rfl, by kernel_rfl, by kernel_rfl⟩

-- "signalbox/spans.Total" res .true
def F37 : AFn where
  np := 1
  nt := 19
  res := [(.t 2)]
  tab := [(.seq 2),
    (.region [⟨(.some 2), (.mv (.c (.int .i64 0))), .none, [], []⟩] .false), (.seq 2),
    (.region [⟨(.some 3), (.mv (.c (.int .i64 0))), .none, [], []⟩] .false), (.seq 17), (.seq 2),
    (.region [⟨(.some 6), (.mv (.t 0)), .none, [], []⟩, ⟨(.some 7), (.call 26 [(.t 6)]), .none, [], []⟩, ⟨(.some 8), (.len .false (.t 7)), .none, [], []⟩, ⟨(.some 9), (.mv (.c (.int .i64 0))), .none, [], []⟩] .false), (.block 0), .loop, (.seq 2),
    (.region [⟨(.some 10), (.bin .lss .o (.t 9) (.t 8)), .none, [], []⟩] .false), (.seq 4), (.cond (.t 10) 2), .skip, (.exit 0), (.seq 5), (.block 1), (.seq 2),
    (.region [⟨(.some 11), (.idx 63 2 (.t 7) (.t 9)), .none, [], []⟩, ⟨(.some 12), (.ld (.some 2) (.t 11)), .none, [], []⟩, ⟨(.some 5), (.alloc 63 [(.int .i64 0), (.int .i64 0)]), .none, [], []⟩, ⟨.none, (.st 2 (.t 5) (.t 12)), .none, [], []⟩] .false),
    (.region [⟨(.some 13), (.mv (.t 3)), .none, [], []⟩, ⟨(.some 14), (.ld (.some 2) (.t 5)), .none, [], []⟩, ⟨(.some 15), (.call 51 [(.t 14)]), .none, [], []⟩, ⟨(.some 16), (.bin .add .o (.t 13) (.t 15)), .none, [], []⟩, ⟨(.some 3), (.mv (.t 16)), .none, [], []⟩] .false),
    (.region [⟨(.some 17), (.bin .add .o (.t 9) (.c (.int .i64 1))), .none, [], []⟩, ⟨(.some 9), (.mv (.t 17)), .none, [], []⟩] .false), (.seq 2),
    (.region [⟨(.some 18), (.mv (.t 3)), .none, [], []⟩, ⟨(.some 2), (.mv (.t 18)), .none, [], []⟩] .false), .ret]
theorem F37_at : F37.at Try.prog 37 Try.f37 := ⟨Try.func37, by kernel_rfl, by kernel_rfl, by kernel_rfl, by kernel_rfl, by kernel_rfl⟩

-- "signalbox/spans.proper" res .true
def F48 : AFn where
  np := 1
  nt := 30
  res := [(.t 2)]
  tab := [(.seq 2),
    (.region [⟨(.some 2), (.mv (.c .nils)), .none, [], []⟩] .false), (.seq 2),
    (.region [⟨(.some 3), (.mv (.c .nils)), .none, [], []⟩] .false), (.seq 23), (.seq 2),
    (.region [⟨(.some 6), (.mv (.t 0)), .none, [], []⟩, ⟨(.some 7), (.len .false (.t 6)), .none, [], []⟩, ⟨(.some 8), (.mv (.c (.int .i64 0))), .none, [], []⟩] .false), (.block 0), .loop, (.seq 2),
    (.region [⟨(.some 9), (.bin .lss .o (.t 8) (.t 7)), .none, [], []⟩] .false), (.seq 4), (.cond (.t 9) 2), .skip, (.exit 0), (.seq 11), (.block 1), (.seq 2),
    (.region [⟨(.some 10), (.idx 63 2 (.t 6) (.t 8)), .none, [], []⟩, ⟨(.some 11), (.ld (.some 2) (.t 10)), .none, [], []⟩, ⟨(.some 5), (.alloc 63 [(.int .i64 0), (.int .i64 0)]), .none, [], []⟩, ⟨.none, (.st 2 (.t 5) (.t 11)), .none, [], []⟩] .false), (.seq 2),
    (.region [⟨(.some 12), (.fad 0 (.t 5)), .none, [], [5]⟩, ⟨(.some 13), (.ld .none (.t 12)), .none, [0], [12]⟩, ⟨(.some 14), (.call 50 [(.t 13)]), .none, [1], [13]⟩, ⟨(.some 15), (.fad 1 (.t 5)), .none, [], [5]⟩, ⟨(.some 16), (.ld .none (.t 15)), .none, [3], [15]⟩, ⟨(.some 17), (.call 50 [(.t 16)]), .none, [4, 2], [16]⟩, ⟨(.some 18), (.build [(.int .i64 0), (.int .i64 0)] [(0, (1, (.t 14))), (1, (1, (.t 17)))]), .none, [2, 5], [14, 17]⟩, ⟨.none, (.st 2 (.t 5) (.t 18)), .none, [6, 5, 0, 1, 2, 3, 4, 5, 6], [5, 18]⟩] .true), (.seq 2),
    (.region [⟨(.some 19), (.ld (.some 2) (.t 5)), .none, [], []⟩, ⟨(.some 20), (.call 51 [(.t 19)]), .none, [], []⟩, ⟨(.some 21), (.bin .gtr .o (.t 20) (.c (.int .i64 0))), .none, [], []⟩] .false), (.cond (.t 21) 2),
    (.region [⟨(.some 22), (.mv (.t 3)), .none, [], []⟩, ⟨(.some 23), (.ld (.some 2) (.t 5)), .none, [], []⟩, ⟨(.some 24), (.lit 63 2 1 [(.int .i64 0), (.int .i64 0)] [(0, (.t 23))]), .none, [], []⟩, ⟨(.some 25), (.app 63 2 16 [(.int .i64 0), (.int .i64 0)] (.t 22) (.t 24)), .none, [], []⟩, ⟨(.some 3), (.mv (.t 25)), .none, [], []⟩] .false), .skip,
    (.region [⟨(.some 26), (.bin .add .o (.t 8) (.c (.int .i64 1))), .none, [], []⟩, ⟨(.some 8), (.mv (.t 26)), .none, [], []⟩] .false), (.seq 2),
    (.region [⟨(.some 27), (.mv (.t 3)), .none, [], []⟩, ⟨(.some 28), (.call 54 [(.t 27), (.c (.fn (.func 68) [] []))]), .none, [], []⟩] .false), (.seq 2),
    (.region [⟨(.some 29), (.mv (.t 3)), .none, [], []⟩, ⟨(.some 2), (.mv (.t 29)), .none, [], []⟩] .false), .ret]
theorem F48_at : F48.at Try.prog 48 Try.f48 := ⟨Try.func48, by kernel_rfl, by kernel_rfl, by kernel_rfl, by kernel_rfl, by kernel_rfl⟩

-- "signalbox/signalboxref50.Add" res .true
def F49 : AFn where
  np := 2
  nt := 39
  res := [(.t 4)]
  tab := [(.seq 2),
    (.region [⟨(.some 3), (.box 60 (.t 1)), .none, [], []⟩, ⟨(.some 4), (.mv (.c .nils)), .none, [], []⟩] .false), (.seq 12), (.seq 2),
    (.region [⟨(.some 6), (.mv (.t 0)), .none, [], [0]⟩, ⟨(.some 7), (.len .false (.t 6)), .none, [0], [6]⟩, ⟨(.some 8), (.bin .gtr .o (.t 7) (.c (.int .i64 0))), .none, [1], [7]⟩, ⟨(.some 9), (.mv (.t 8)), .none, [2], [8]⟩, ⟨(.some 10), (.mv (.t 0)), (.some ((.some 9), .true)), [3], [0, 9]⟩, ⟨(.some 11), (.mv (.t 0)), (.some ((.some 9), .true)), [3], [0, 9]⟩, ⟨(.some 12), (.len .false (.t 11)), (.some ((.some 9), .true)), [5, 3], [11, 9]⟩, ⟨(.some 13), (.bin .sub .o (.t 12) (.c (.int .i64 1))), (.some ((.some 9), .true)), [6, 3], [12, 9]⟩, ⟨(.some 14), (.idx 60 2 (.t 10) (.t 13)), (.some ((.some 9), .true)), [4, 7, 3], [10, 13, 9]⟩, ⟨(.some 15), (.fad 1 (.t 14)), (.some ((.some 9), .true)), [8, 3], [14, 9]⟩, ⟨(.some 16), (.ld .none (.t 15)), (.some ((.some 9), .true)), [9, 3], [15, 9]⟩, ⟨(.some 17), (.fad 0 (.t 3)), (.some ((.some 9), .true)), [3], [3, 9]⟩, ⟨(.some 18), (.ld .none (.t 17)), (.some ((.some 9), .true)), [11, 3], [17, 9]⟩, ⟨(.some 19), (.bin .eql .o (.t 16) (.t 18)), (.some ((.some 9), .true)), [10, 12, 3], [16, 18, 9]⟩, ⟨(.some 20), (.pick (.t 9) (.t 19) (.c (.bool .false))), .none, [3, 13], [9, 19]⟩] .true), (.cond (.t 20) 8), (.seq 2),
    (.region [⟨(.some 21), (.lit 60 2 0 [(.int .i64 0), (.int .i64 0)] []), .none, [], []⟩, ⟨(.some 22), (.mv (.t 0)), .none, [], []⟩, ⟨(.some 23), (.app 60 2 16 [(.int .i64 0), (.int .i64 0)] (.t 21) (.t 22)), .none, [], []⟩, ⟨(.some 5), (.mv (.t 23)), .none, [], []⟩] .false), (.seq 2),
    (.region [⟨(.some 24), (.mv (.t 5)), .none, [], []⟩, ⟨(.some 25), (.mv (.t 5)), .none, [], []⟩, ⟨(.some 26), (.len .false (.t 25)), .none, [], []⟩, ⟨(.some 27), (.bin .sub .o (.t 26) (.c (.int .i64 1))), .none, [], []⟩, ⟨(.some 28), (.fad 1 (.t 3)), .none, [], []⟩, ⟨(.some 29), (.ld .none (.t 28)), .none, [], []⟩, ⟨(.some 30), (.idx 60 2 (.t 24) (.t 27)), .none, [], []⟩, ⟨(.some 31), (.fad 1 (.t 30)), .none, [], []⟩, ⟨.none, (.st 1 (.t 31) (.t 29)), .none, [], []⟩] .false), (.seq 2),
    (.region [⟨(.some 32), (.mv (.t 5)), .none, [], []⟩, ⟨(.some 4), (.mv (.t 32)), .none, [], []⟩] .false), .ret, .skip, (.seq 2),
    (.region [⟨(.some 33), (.lit 60 2 0 [(.int .i64 0), (.int .i64 0)] []), .none, [], []⟩, ⟨(.some 34), (.mv (.t 0)), .none, [], [0]⟩, ⟨(.some 35), (.app 60 2 16 [(.int .i64 0), (.int .i64 0)] (.t 33) (.t 34)), .none, [0, 1], [33, 34]⟩, ⟨(.some 36), (.ld (.some 2) (.t 3)), .none, [], [3]⟩, ⟨(.some 37), (.lit 60 2 1 [(.int .i64 0), (.int .i64 0)] [(0, (.t 36))]), .none, [3], [36]⟩, ⟨(.some 38), (.app 60 2 16 [(.int .i64 0), (.int .i64 0)] (.t 35) (.t 37)), .none, [2, 4, 2], [35, 37]⟩, ⟨(.some 4), (.mv (.t 38)), .none, [5, 5, 0, 1, 2, 3, 4, 5], [38]⟩] .true), .ret]
theorem F49_at : F49.at Try.prog 49 Try.f49 := ⟨Try.func49, by kernel_rfl, by kernel_rfl, by kernel_rfl, by kernel_rfl, by kernel_rfl⟩

-- "signalbox/spans.clamp" res .true
def F50 : AFn where
  np := 1
  nt := 6
  res := [(.t 2)]
  tab := [(.seq 2),
    (.region [⟨(.some 2), (.mv (.c (.int .i64 0))), .none, [], []⟩] .false), (.seq 2),
    (.region [⟨(.some 3), (.mv (.t 0)), .none, [], []⟩, ⟨(.some 4), (.mnmx .true (.t 3) (.c (.int .i64 (-1099511627776)))), .none, [], []⟩, ⟨(.some 5), (.mnmx .false (.t 4) (.c (.int .i64 1099511627776))), .none, [], []⟩, ⟨(.some 2), (.mv (.t 5)), .none, [], []⟩] .false), .ret]
theorem F50_at : F50.at Try.prog 50 Try.f50 := ⟨Try.func50, by kernel_rfl, by kernel_rfl, by kernel_rfl, by kernel_rfl, by kernel_rfl⟩

-- "(signalbox/spans.Span).size" res .true
def F51 : AFn where
  np := 1
  nt := 8
  res := [(.t 2)]
  tab := [(.seq 2),
    (.region [⟨(.some 1), (.box 63 (.t 0)), .none, [], []⟩, ⟨(.some 2), (.mv (.c (.int .i64 0))), .none, [], []⟩] .false), (.seq 2),
    (.region [⟨(.some 3), (.fad 1 (.t 1)), .none, [], []⟩, ⟨(.some 4), (.ld .none (.t 3)), .none, [], []⟩, ⟨(.some 5), (.fad 0 (.t 1)), .none, [], []⟩, ⟨(.some 6), (.ld .none (.t 5)), .none, [], []⟩, ⟨(.some 7), (.bin .sub .o (.t 4) (.t 6)), .none, [], []⟩, ⟨(.some 2), (.mv (.t 7)), .none, [], []⟩] .false), .ret]
theorem F51_at : F51.at Try.prog 51 Try.f51 := ⟨Try.func51, by kernel_rfl, by kernel_rfl, by kernel_rfl, by kernel_rfl, by kernel_rfl⟩

-- "signalbox/signalboxref50.Clamp" res .true
def F52 : AFn where
  np := 1
  nt := 8
  res := [(.t 2)]
  tab := [(.seq 2),
    (.region [⟨(.some 2), (.mv (.c (.int .i64 0))), .none, [], []⟩] .false), (.seq 8), (.seq 2),
    (.region [⟨(.some 3), (.mv (.t 0)), .none, [], []⟩, ⟨(.some 4), (.bin .lss .o (.t 3) (.c (.int .i64 (-1099511627776)))), .none, [], []⟩] .false), (.cond (.t 4) 4), (.seq 2),
    (.region [⟨(.some 2), (.mv (.c (.int .i64 (-1099511627776)))), .none, [], []⟩] .false), .ret, .skip, (.seq 8), (.seq 2),
    (.region [⟨(.some 5), (.mv (.t 0)), .none, [], []⟩, ⟨(.some 6), (.bin .gtr .o (.t 5) (.c (.int .i64 1099511627776))), .none, [], []⟩] .false), (.cond (.t 6) 4), (.seq 2),
    (.region [⟨(.some 2), (.mv (.c (.int .i64 1099511627776))), .none, [], []⟩] .false), .ret, .skip, (.seq 2),
    (.region [⟨(.some 7), (.mv (.t 0)), .none, [], []⟩, ⟨(.some 2), (.mv (.t 7)), .none, [], []⟩] .false), .ret]
theorem F52_at : F52.at Try.prog 52 Try.f52 := ⟨Try.func52, by kernel_rfl, by kernel_rfl, by kernel_rfl, by kernel_rfl, by kernel_rfl⟩

-- "slices.Clone[[]signalbox/spans.Span,signalbox/spans.Span]" res .true
def F53 : AFn where
  np := 1
  nt := 8
  res := [(.t 2)]
  tab := [(.seq 2),
    (.region [⟨(.some 2), (.mv (.c .nils)), .none, [], []⟩] .false), (.seq 8), (.seq 2),
    (.region [⟨(.some 3), (.mv (.t 0)), .none, [], []⟩, ⟨(.some 4), (.nilS .false (.t 3)), .none, [], []⟩] .false), (.cond (.t 4) 4), (.seq 2),
    (.region [⟨(.some 2), (.mv (.c .nils)), .none, [], []⟩] .false), .ret, .skip, (.seq 2),
    (.region [⟨(.some 5), (.lit 63 2 0 [(.int .i64 0), (.int .i64 0)] []), .none, [], []⟩, ⟨(.some 6), (.mv (.t 0)), .none, [], []⟩, ⟨(.some 7), (.app 63 2 16 [(.int .i64 0), (.int .i64 0)] (.t 5) (.t 6)), .none, [], []⟩, ⟨(.some 2), (.mv (.t 7)), .none, [], []⟩] .false), .ret]
theorem F53_at : F53.at Try.prog 53 Try.f53 := ⟨Try.func53, by kernel_rfl, by kernel_rfl, by kernel_rfl, by kernel_rfl, by kernel_rfl⟩

-- "slices.SortFunc[[]signalbox/spans.Span,signalbox/spans.Span]" res .true
def F54 : AFn where
  np := 2
  nt := 14
  res := []
  tab := [(.seq 2),
    (.region [⟨(.some 5), (.mv (.t 0)), .none, [], []⟩, ⟨(.some 6), (.len .false (.t 5)), .none, [], []⟩, ⟨(.some 4), (.mv (.t 6)), .none, [], []⟩] .false),
    (.region [⟨(.some 7), (.mv (.t 0)), .none, [], []⟩, ⟨(.some 8), (.mv (.t 4)), .none, [], []⟩, ⟨(.some 9), (.mv (.t 4)), .none, [], []⟩, ⟨(.some 10), (.cvt .u64 (.t 9)), .none, [], []⟩, ⟨(.some 11), (.call 70 [(.t 10)]), .none, [], []⟩, ⟨(.some 12), (.mv (.t 1)), .none, [], []⟩, ⟨(.some 13), (.call 69 [(.t 7), (.c (.int .i64 0)), (.t 8), (.t 11), (.t 12)]), .none, [], []⟩] .false)]
theorem F54_at : F54.at Try.prog 54 Try.f54 := ⟨Try.func54, by kernel_rfl, by kernel_rfl, by kernel_rfl, by kernel_rfl, by kernel_rfl⟩

-- "signalbox/spans.Deepest$1" res .true
def F55 : AFn where
  np := 2
  nt := 10
  res := [(.t 4)]
  tab := [(.seq 2),
    (.region [⟨(.some 2), (.box 63 (.t 0)), .none, [], []⟩, ⟨(.some 3), (.box 63 (.t 1)), .none, [], []⟩, ⟨(.some 4), (.mv (.c (.int .i64 0))), .none, [], []⟩] .false), (.seq 2),
    (.region [⟨(.some 5), (.fad 1 (.t 2)), .none, [], []⟩, ⟨(.some 6), (.ld .none (.t 5)), .none, [], []⟩, ⟨(.some 7), (.fad 1 (.t 3)), .none, [], []⟩, ⟨(.some 8), (.ld .none (.t 7)), .none, [], []⟩, ⟨(.some 9), (.call 56 [(.t 6), (.t 8)]), .none, [], []⟩, ⟨(.some 4), (.mv (.t 9)), .none, [], []⟩] .false), .ret]
theorem F55_at : F55.at Try.prog 55 Try.f55 := ⟨Try.func55, by kernel_rfl, by kernel_rfl, by kernel_rfl, by kernel_rfl, by kernel_rfl⟩

-- "cmp.Compare[int]" res .true
def F56 : AFn where
  np := 2
  nt := 20
  res := [(.t 4)]
  tab := [(.seq 2),
    (.region [⟨(.some 4), (.mv (.c (.int .i64 0))), .none, [], []⟩] .false), (.seq 2),
    (.region [⟨(.some 7), (.mv (.t 0)), .none, [], []⟩, ⟨(.some 8), (.call 71 [(.t 7)]), .none, [], []⟩, ⟨(.some 5), (.mv (.t 8)), .none, [], []⟩] .false), (.seq 2),
    (.region [⟨(.some 9), (.mv (.t 1)), .none, [], []⟩, ⟨(.some 10), (.call 71 [(.t 9)]), .none, [], []⟩, ⟨(.some 6), (.mv (.t 10)), .none, [], []⟩] .false), (.seq 16), (.seq 2),
    (.region [⟨(.some 11), (.mv (.t 5)), .none, [], []⟩] .false), (.cond (.t 11) 12), (.seq 8), (.seq 2),
    (.region [⟨(.some 12), (.mv (.t 6)), .none, [], []⟩] .false), (.cond (.t 12) 4), (.seq 2),
    (.region [⟨(.some 4), (.mv (.c (.int .i64 0))), .none, [], []⟩] .false), .ret, .skip, (.seq 2),
    (.region [⟨(.some 4), (.mv (.c (.int .i64 (-1)))), .none, [], []⟩] .false), .ret, .skip, (.seq 8), (.seq 2),
    (.region [⟨(.some 13), (.mv (.t 6)), .none, [], []⟩] .false), (.cond (.t 13) 4), (.seq 2),
    (.region [⟨(.some 4), (.mv (.c (.int .i64 1))), .none, [], []⟩] .false), .ret, .skip, (.seq 8), (.seq 2),
    (.region [⟨(.some 14), (.mv (.t 0)), .none, [], []⟩, ⟨(.some 15), (.mv (.t 1)), .none, [], []⟩, ⟨(.some 16), (.bin .lss .o (.t 14) (.t 15)), .none, [], []⟩] .false), (.cond (.t 16) 4), (.seq 2),
    (.region [⟨(.some 4), (.mv (.c (.int .i64 (-1)))), .none, [], []⟩] .false), .ret, .skip, (.seq 8), (.seq 2),
    (.region [⟨(.some 17), (.mv (.t 0)), .none, [], []⟩, ⟨(.some 18), (.mv (.t 1)), .none, [], []⟩, ⟨(.some 19), (.bin .gtr .o (.t 17) (.t 18)), .none, [], []⟩] .false), (.cond (.t 19) 4), (.seq 2),
    (.region [⟨(.some 4), (.mv (.c (.int .i64 1))), .none, [], []⟩] .false), .ret, .skip, (.seq 2),
    (.region [⟨(.some 4), (.mv (.c (.int .i64 0))), .none, [], []⟩] .false), .ret]
theorem F56_at : F56.at Try.prog 56 Try.f56 := ⟨Try.func56, by kernel_rfl, by kernel_rfl, by kernel_rfl, by kernel_rfl, by kernel_rfl⟩

-- "signalbox/spans.proper$1" res .true
def F68 : AFn where
  np := 2
  nt := 10
  res := [(.t 4)]
  tab := [(.seq 2),
    (.region [⟨(.some 2), (.box 63 (.t 0)), .none, [], []⟩, ⟨(.some 3), (.box 63 (.t 1)), .none, [], []⟩, ⟨(.some 4), (.mv (.c (.int .i64 0))), .none, [], []⟩] .false), (.seq 2),
    (.region [⟨(.some 5), (.fad 0 (.t 2)), .none, [], []⟩, ⟨(.some 6), (.ld .none (.t 5)), .none, [], []⟩, ⟨(.some 7), (.fad 0 (.t 3)), .none, [], []⟩, ⟨(.some 8), (.ld .none (.t 7)), .none, [], []⟩, ⟨(.some 9), (.call 56 [(.t 6), (.t 8)]), .none, [], []⟩, ⟨(.some 4), (.mv (.t 9)), .none, [], []⟩] .false), .ret]
theorem F68_at : F68.at Try.prog 68 Try.f68 := ⟨Try.func68, by kernel_rfl, by kernel_rfl, by kernel_rfl, by kernel_rfl, by kernel_rfl⟩

-- "slices.pdqsortCmpFunc[signalbox/spans.Span]" res .true
def F69 : AFn where
  np := 5
  nt := 148
  res := []
  tab := [(.seq 2),
    (.region [⟨(.some 10), (.mv (.c (.bool .true))), .none, [], []⟩] .false), (.seq 2),
    (.region [⟨(.some 11), (.mv (.c (.bool .true))), .none, [], []⟩] .false), (.block 0), .loop, (.block 1), (.seq 2),
    (.region [⟨(.some 21), (.mv (.t 2)), .none, [], []⟩, ⟨(.some 22), (.mv (.t 1)), .none, [], []⟩, ⟨(.some 23), (.bin .sub .o (.t 21) (.t 22)), .none, [], []⟩, ⟨(.some 12), (.mv (.t 23)), .none, [], []⟩] .false), (.seq 8), (.seq 2),
    (.region [⟨(.some 24), (.mv (.t 12)), .none, [], []⟩, ⟨(.some 25), (.bin .leq .o (.t 24) (.c (.int .i64 12))), .none, [], []⟩] .false), (.cond (.t 25) 4), (.seq 2),
    (.region [⟨(.some 26), (.mv (.t 0)), .none, [], []⟩, ⟨(.some 27), (.mv (.t 1)), .none, [], []⟩, ⟨(.some 28), (.mv (.t 2)), .none, [], []⟩, ⟨(.some 29), (.mv (.t 4)), .none, [], []⟩, ⟨(.some 30), (.call 76 [(.t 26), (.t 27), (.t 28), (.t 29)]), .none, [], []⟩] .false), .ret, .skip, (.seq 8), (.seq 2),
    (.region [⟨(.some 31), (.mv (.t 3)), .none, [], []⟩, ⟨(.some 32), (.bin .eql .o (.t 31) (.c (.int .i64 0))), .none, [], []⟩] .false), (.cond (.t 32) 4), (.seq 2),
    (.region [⟨(.some 33), (.mv (.t 0)), .none, [], []⟩, ⟨(.some 34), (.mv (.t 1)), .none, [], []⟩, ⟨(.some 35), (.mv (.t 2)), .none, [], []⟩, ⟨(.some 36), (.mv (.t 4)), .none, [], []⟩, ⟨(.some 37), (.call 77 [(.t 33), (.t 34), (.t 35), (.t 36)]), .none, [], []⟩] .false), .ret, .skip, (.seq 8), (.seq 2),
    (.region [⟨(.some 38), (.mv (.t 10)), .none, [], []⟩, ⟨(.some 39), (.un .not (.t 38)), .none, [], []⟩] .false), (.cond (.t 39) 4), (.seq 2),
    (.region [⟨(.some 40), (.mv (.t 0)), .none, [], []⟩, ⟨(.some 41), (.mv (.t 1)), .none, [], []⟩, ⟨(.some 42), (.mv (.t 2)), .none, [], []⟩, ⟨(.some 43), (.mv (.t 4)), .none, [], []⟩, ⟨(.some 44), (.call 78 [(.t 40), (.t 41), (.t 42), (.t 43)]), .none, [], []⟩] .false),
    (.region [⟨(.some 45), (.mv (.t 3)), .none, [], []⟩, ⟨(.some 46), (.bin .sub .o (.t 45) (.c (.int .i64 1))), .none, [], []⟩, ⟨(.some 3), (.mv (.t 46)), .none, [], []⟩] .false), .skip, (.seq 2),
    (.region [⟨(.some 48), (.mv (.t 0)), .none, [], []⟩, ⟨(.some 49), (.mv (.t 1)), .none, [], []⟩, ⟨(.some 50), (.mv (.t 2)), .none, [], []⟩, ⟨(.some 51), (.mv (.t 4)), .none, [], []⟩, ⟨(.some 52), (.call 79 [(.t 48), (.t 49), (.t 50), (.t 51)]), .none, [], []⟩, ⟨(.some 47), (.mv (.t 52)), .none, [], []⟩, ⟨(.some 53), (.ext (.t 47) 0), .none, [], []⟩, ⟨(.some 54), (.ext (.t 47) 1), .none, [], []⟩, ⟨(.some 13), (.mv (.t 53)), .none, [], []⟩, ⟨(.some 14), (.mv (.t 54)), .none, [], []⟩] .false), (.seq 10), (.seq 2),
    (.region [⟨(.some 55), (.mv (.t 14)), .none, [], []⟩, ⟨(.some 56), (.bin .eql .o (.t 55) (.c (.int .i64 2))), .none, [], []⟩] .false), (.cond (.t 56) 6), (.seq 2),
    (.region [⟨(.some 57), (.mv (.t 0)), .none, [], []⟩, ⟨(.some 58), (.mv (.t 1)), .none, [], []⟩, ⟨(.some 59), (.mv (.t 2)), .none, [], []⟩, ⟨(.some 60), (.mv (.t 4)), .none, [], []⟩, ⟨(.some 61), (.call 80 [(.t 57), (.t 58), (.t 59), (.t 60)]), .none, [], []⟩] .false), (.seq 2),
    (.region [⟨(.some 62), (.mv (.t 2)), .none, [], []⟩, ⟨(.some 63), (.bin .sub .o (.t 62) (.c (.int .i64 1))), .none, [], []⟩, ⟨(.some 64), (.mv (.t 13)), .none, [], []⟩, ⟨(.some 65), (.mv (.t 1)), .none, [], []⟩, ⟨(.some 66), (.bin .sub .o (.t 64) (.t 65)), .none, [], []⟩, ⟨(.some 67), (.bin .sub .o (.t 63) (.t 66)), .none, [], []⟩, ⟨(.some 13), (.mv (.t 67)), .none, [], []⟩] .false),
    (.region [⟨(.some 14), (.mv (.c (.int .i64 1))), .none, [], []⟩] .false), .skip, (.seq 10), (.seq 2),
    (.region [⟨(.some 68), (.mv (.t 10)), .none, [], []⟩, ⟨(.some 69), (.mv (.t 68)), .none, [], []⟩, ⟨(.some 70), (.mv (.t 11)), (.some ((.some 69), .true)), [], []⟩, ⟨(.some 71), (.pick (.t 69) (.t 70) (.c (.bool .false))), .none, [], []⟩, ⟨(.some 72), (.mv (.t 71)), .none, [], []⟩, ⟨(.some 73), (.mv (.t 14)), (.some ((.some 72), .true)), [], []⟩, ⟨(.some 74), (.bin .eql .o (.t 73) (.c (.int .i64 1))), (.some ((.some 72), .true)), [], []⟩, ⟨(.some 75), (.pick (.t 72) (.t 74) (.c (.bool .false))), .none, [], []⟩] .false), (.cond (.t 75) 6), (.seq 2),
    (.region [⟨(.some 76), (.mv (.t 0)), .none, [], []⟩, ⟨(.some 77), (.mv (.t 1)), .none, [], []⟩, ⟨(.some 78), (.mv (.t 2)), .none, [], []⟩, ⟨(.some 79), (.mv (.t 4)), .none, [], []⟩, ⟨(.some 80), (.call 81 [(.t 76), (.t 77), (.t 78), (.t 79)]), .none, [], []⟩] .false), (.cond (.t 80) 2), .ret, .skip, .skip, (.seq 10), (.seq 2),
    (.region [⟨(.some 81), (.mv (.t 1)), .none, [], [1]⟩, ⟨(.some 82), (.bin .gtr .o (.t 81) (.c (.int .i64 0))), .none, [0], [81]⟩, ⟨(.some 83), (.mv (.t 82)), .none, [1], [82]⟩, ⟨(.some 84), (.mv (.t 4)), (.some ((.some 83), .true)), [2], [4, 83]⟩, ⟨(.some 85), (.mv (.t 0)), (.some ((.some 83), .true)), [2], [0, 83]⟩, ⟨(.some 86), (.mv (.t 1)), (.some ((.some 83), .true)), [2], [1, 83]⟩, ⟨(.some 87), (.bin .sub .o (.t 86) (.c (.int .i64 1))), (.some ((.some 83), .true)), [5, 2], [86, 83]⟩, ⟨(.some 88), (.idx 63 2 (.t 85) (.t 87)), (.some ((.some 83), .true)), [4, 6, 2], [85, 87, 83]⟩, ⟨(.some 89), (.ld (.some 2) (.t 88)), (.some ((.some 83), .true)), [7, 2], [88, 83]⟩, ⟨(.some 90), (.mv (.t 0)), (.some ((.some 83), .true)), [2], [0, 83]⟩, ⟨(.some 91), (.mv (.t 13)), (.some ((.some 83), .true)), [2], [13, 83]⟩, ⟨(.some 92), (.idx 63 2 (.t 90) (.t 91)), (.some ((.some 83), .true)), [9, 10, 2], [90, 91, 83]⟩, ⟨(.some 93), (.ld (.some 2) (.t 92)), (.some ((.some 83), .true)), [11, 2], [92, 83]⟩, ⟨(.some 94), (.callv (.t 84) [(.t 89), (.t 93)]), (.some ((.some 83), .true)), [3, 8, 12, 2, 2], [84, 89, 93, 83]⟩, ⟨(.some 95), (.bin .lss .o (.t 94) (.c (.int .i64 0))), (.some ((.some 83), .true)), [13, 2], [94, 83]⟩, ⟨(.some 96), (.un .not (.t 95)), (.some ((.some 83), .true)), [14, 2], [95, 83]⟩, ⟨(.some 97), (.pick (.t 83) (.t 96) (.c (.bool .false))), .none, [2, 15], [83, 96]⟩] .true), (.cond (.t 97) 6), (.seq 2),
    (.region [⟨(.some 98), (.mv (.t 0)), .none, [], []⟩, ⟨(.some 99), (.mv (.t 1)), .none, [], []⟩, ⟨(.some 100), (.mv (.t 2)), .none, [], []⟩, ⟨(.some 101), (.mv (.t 13)), .none, [], []⟩, ⟨(.some 102), (.mv (.t 4)), .none, [], []⟩, ⟨(.some 103), (.call 82 [(.t 98), (.t 99), (.t 100), (.t 101), (.t 102)]), .none, [], []⟩, ⟨(.some 15), (.mv (.t 103)), .none, [], []⟩] .false), (.seq 2),
    (.region [⟨(.some 104), (.mv (.t 15)), .none, [], []⟩, ⟨(.some 1), (.mv (.t 104)), .none, [], []⟩] .false), (.exit 1), .skip, (.seq 2),
    (.region [⟨(.some 106), (.mv (.t 0)), .none, [], []⟩, ⟨(.some 107), (.mv (.t 1)), .none, [], []⟩, ⟨(.some 108), (.mv (.t 2)), .none, [], []⟩, ⟨(.some 109), (.mv (.t 13)), .none, [], []⟩, ⟨(.some 110), (.mv (.t 4)), .none, [], []⟩, ⟨(.some 111), (.call 83 [(.t 106), (.t 107), (.t 108), (.t 109), (.t 110)]), .none, [], []⟩, ⟨(.some 105), (.mv (.t 111)), .none, [], []⟩, ⟨(.some 112), (.ext (.t 105) 0), .none, [], []⟩, ⟨(.some 113), (.ext (.t 105) 1), .none, [], []⟩, ⟨(.some 16), (.mv (.t 112)), .none, [], []⟩, ⟨(.some 17), (.mv (.t 113)), .none, [], []⟩] .false), (.seq 2),
    (.region [⟨(.some 114), (.mv (.t 17)), .none, [], []⟩, ⟨(.some 11), (.mv (.t 114)), .none, [], []⟩] .false), (.seq 2),
    (.region [⟨(.some 115), (.mv (.t 16)), .none, [], []⟩, ⟨(.some 116), (.mv (.t 1)), .none, [], []⟩, ⟨(.some 117), (.bin .sub .o (.t 115) (.t 116)), .none, [], []⟩, ⟨(.some 118), (.mv (.t 2)), .none, [], []⟩, ⟨(.some 119), (.mv (.t 16)), .none, [], []⟩, ⟨(.some 120), (.bin .sub .o (.t 118) (.t 119)), .none, [], []⟩, ⟨(.some 18), (.mv (.t 117)), .none, [], []⟩, ⟨(.some 19), (.mv (.t 120)), .none, [], []⟩] .false), (.seq 2),
    (.region [⟨(.some 121), (.mv (.t 12)), .none, [], []⟩, ⟨(.some 122), (.bin .quo .o (.t 121) (.c (.int .i64 8))), .none, [], []⟩, ⟨(.some 20), (.mv (.t 122)), .none, [], []⟩] .false), (.seq 2),
    (.region [⟨(.some 123), (.mv (.t 18)), .none, [], []⟩, ⟨(.some 124), (.mv (.t 19)), .none, [], []⟩, ⟨(.some 125), (.bin .lss .o (.t 123) (.t 124)), .none, [], []⟩] .false), (.cond (.t 125) 6), (.seq 2),
    (.region [⟨(.some 126), (.mv (.t 18)), .none, [], []⟩, ⟨(.some 127), (.mv (.t 20)), .none, [], []⟩, ⟨(.some 128), (.bin .geq .o (.t 126) (.t 127)), .none, [], []⟩, ⟨(.some 10), (.mv (.t 128)), .none, [], []⟩] .false), (.seq 2),
    (.region [⟨(.some 129), (.mv (.t 0)), .none, [], []⟩, ⟨(.some 130), (.mv (.t 1)), .none, [], []⟩, ⟨(.some 131), (.mv (.t 16)), .none, [], []⟩, ⟨(.some 132), (.mv (.t 3)), .none, [], []⟩, ⟨(.some 133), (.mv (.t 4)), .none, [], []⟩, ⟨(.some 134), (.call 69 [(.t 129), (.t 130), (.t 131), (.t 132), (.t 133)]), .none, [], []⟩] .false),
    (.region [⟨(.some 135), (.mv (.t 16)), .none, [], []⟩, ⟨(.some 136), (.bin .add .o (.t 135) (.c (.int .i64 1))), .none, [], []⟩, ⟨(.some 1), (.mv (.t 136)), .none, [], []⟩] .false), (.seq 2),
    (.region [⟨(.some 137), (.mv (.t 19)), .none, [], []⟩, ⟨(.some 138), (.mv (.t 20)), .none, [], []⟩, ⟨(.some 139), (.bin .geq .o (.t 137) (.t 138)), .none, [], []⟩, ⟨(.some 10), (.mv (.t 139)), .none, [], []⟩] .false), (.seq 2),
    (.region [⟨(.some 140), (.mv (.t 0)), .none, [], []⟩, ⟨(.some 141), (.mv (.t 16)), .none, [], []⟩, ⟨(.some 142), (.bin .add .o (.t 141) (.c (.int .i64 1))), .none, [], []⟩, ⟨(.some 143), (.mv (.t 2)), .none, [], []⟩, ⟨(.some 144), (.mv (.t 3)), .none, [], []⟩, ⟨(.some 145), (.mv (.t 4)), .none, [], []⟩, ⟨(.some 146), (.call 69 [(.t 140), (.t 142), (.t 143), (.t 144), (.t 145)]), .none, [], []⟩] .false),
    (.region [⟨(.some 147), (.mv (.t 16)), .none, [], []⟩, ⟨(.some 2), (.mv (.t 147)), .none, [], []⟩] .false)]
theorem F69_at : F69.at Try.prog 69 Try.f69 := ⟨Try.func69, by kernel_rfl, by kernel_rfl, by kernel_rfl, by kernel_rfl, by kernel_rfl⟩

-- "math/bits.Len" res .true
def F70 : AFn where
  np := 1
  nt := 8
  res := [(.t 2)]
  tab := [(.seq 2),
    (.region [⟨(.some 2), (.mv (.c (.int .i64 0))), .none, [], []⟩] .false), (.seq 6), (.cond (.c (.bool .false)) 4), (.seq 2),
    (.region [⟨(.some 3), (.mv (.t 0)), .none, [], []⟩, ⟨(.some 4), (.cvt .u32 (.t 3)), .none, [], []⟩, ⟨(.some 5), (.call 84 [(.t 4)]), .none, [], []⟩, ⟨(.some 2), (.mv (.t 5)), .none, [], []⟩] .false), .ret, .skip, (.seq 2),
    (.region [⟨(.some 6), (.mv (.t 0)), .none, [], []⟩, ⟨(.some 7), (.call 85 [(.t 6)]), .none, [], []⟩, ⟨(.some 2), (.mv (.t 7)), .none, [], []⟩] .false), .ret]
theorem F70_at : F70.at Try.prog 70 Try.f70 := ⟨Try.func70, by kernel_rfl, by kernel_rfl, by kernel_rfl, by kernel_rfl, by kernel_rfl⟩

-- "cmp.isNaN[int]" res .true
def F71 : AFn where
  np := 1
  nt := 6
  res := [(.t 2)]
  tab := [(.seq 2),
    (.region [⟨(.some 2), (.mv (.c (.bool .false))), .none, [], []⟩] .false), (.seq 2),
    (.region [⟨(.some 3), (.mv (.t 0)), .none, [], []⟩, ⟨(.some 4), (.mv (.t 0)), .none, [], []⟩, ⟨(.some 5), (.bin .neq .o (.t 3) (.t 4)), .none, [], []⟩, ⟨(.some 2), (.mv (.t 5)), .none, [], []⟩] .false), .ret]
theorem F71_at : F71.at Try.prog 71 Try.f71 := ⟨Try.func71, by kernel_rfl, by kernel_rfl, by kernel_rfl, by kernel_rfl, by kernel_rfl⟩

-- "slices.insertionSortCmpFunc[signalbox/spans.Span]" res .true
def F76 : AFn where
  np := 4
  nt := 53
  res := []
  tab := [(.seq 2),
    (.region [⟨(.some 10), (.mv (.t 1)), .none, [], []⟩, ⟨(.some 11), (.bin .add .o (.t 10) (.c (.int .i64 1))), .none, [], []⟩, ⟨(.some 8), (.mv (.t 11)), .none, [], []⟩] .false), (.block 0), .loop, (.seq 6), (.seq 2),
    (.region [⟨(.some 12), (.mv (.t 8)), .none, [], []⟩, ⟨(.some 13), (.mv (.t 2)), .none, [], []⟩, ⟨(.some 14), (.bin .lss .o (.t 12) (.t 13)), .none, [], []⟩] .false), (.cond (.t 14) 2), .skip, (.exit 0), (.seq 16), (.block 1), (.seq 2),
    (.region [⟨(.some 17), (.mv (.t 8)), .none, [], []⟩, ⟨(.some 9), (.mv (.t 17)), .none, [], []⟩] .false), (.block 2), .loop, (.seq 6), (.seq 2),
    (.region [⟨(.some 18), (.mv (.t 9)), .none, [], [9]⟩, ⟨(.some 19), (.mv (.t 1)), .none, [], [1]⟩, ⟨(.some 20), (.bin .gtr .o (.t 18) (.t 19)), .none, [0, 1], [18, 19]⟩, ⟨(.some 21), (.mv (.t 20)), .none, [2], [20]⟩, ⟨(.some 22), (.mv (.t 3)), (.some ((.some 21), .true)), [3], [3, 21]⟩, ⟨(.some 23), (.mv (.t 0)), (.some ((.some 21), .true)), [3], [0, 21]⟩, ⟨(.some 24), (.mv (.t 9)), (.some ((.some 21), .true)), [3], [9, 21]⟩, ⟨(.some 25), (.idx 63 2 (.t 23) (.t 24)), (.some ((.some 21), .true)), [5, 6, 3], [23, 24, 21]⟩, ⟨(.some 26), (.ld (.some 2) (.t 25)), (.some ((.some 21), .true)), [7, 3], [25, 21]⟩, ⟨(.some 27), (.mv (.t 0)), (.some ((.some 21), .true)), [3], [0, 21]⟩, ⟨(.some 28), (.mv (.t 9)), (.some ((.some 21), .true)), [3], [9, 21]⟩, ⟨(.some 29), (.bin .sub .o (.t 28) (.c (.int .i64 1))), (.some ((.some 21), .true)), [10, 3], [28, 21]⟩, ⟨(.some 30), (.idx 63 2 (.t 27) (.t 29)), (.some ((.some 21), .true)), [9, 11, 3], [27, 29, 21]⟩, ⟨(.some 31), (.ld (.some 2) (.t 30)), (.some ((.some 21), .true)), [12, 3], [30, 21]⟩, ⟨(.some 32), (.callv (.t 22) [(.t 26), (.t 31)]), (.some ((.some 21), .true)), [4, 8, 13, 3, 3], [22, 26, 31, 21]⟩, ⟨(.some 33), (.bin .lss .o (.t 32) (.c (.int .i64 0))), (.some ((.some 21), .true)), [14, 3], [32, 21]⟩, ⟨(.some 34), (.pick (.t 21) (.t 33) (.c (.bool .false))), .none, [3, 15], [21, 33]⟩] .true), (.cond (.t 34) 2), .skip, (.exit 2), (.seq 3), (.block 3),
    (.region [⟨(.some 37), (.mv (.t 0)), .none, [], [0]⟩, ⟨(.some 38), (.mv (.t 9)), .none, [], [9]⟩, ⟨(.some 39), (.mv (.t 0)), .none, [], [0]⟩, ⟨(.some 40), (.mv (.t 9)), .none, [], [9]⟩, ⟨(.some 41), (.bin .sub .o (.t 40) (.c (.int .i64 1))), .none, [3], [40]⟩, ⟨(.some 42), (.mv (.t 0)), .none, [], [0]⟩, ⟨(.some 43), (.mv (.t 9)), .none, [], [9]⟩, ⟨(.some 44), (.bin .sub .o (.t 43) (.c (.int .i64 1))), .none, [6], [43]⟩, ⟨(.some 45), (.idx 63 2 (.t 42) (.t 44)), .none, [5, 7], [42, 44]⟩, ⟨(.some 46), (.ld (.some 2) (.t 45)), .none, [8], [45]⟩, ⟨(.some 47), (.mv (.t 0)), .none, [], [0]⟩, ⟨(.some 48), (.mv (.t 9)), .none, [], [9]⟩, ⟨(.some 49), (.idx 63 2 (.t 47) (.t 48)), .none, [10, 11], [47, 48]⟩, ⟨(.some 50), (.ld (.some 2) (.t 49)), .none, [12], [49]⟩, ⟨(.some 51), (.idx 63 2 (.t 37) (.t 38)), .none, [0, 1, 0, 1, 5, 6, 7, 8, 9, 13], [37, 38]⟩, ⟨.none, (.st 2 (.t 51) (.t 46)), .none, [14, 9, 0, 1, 5, 6, 7, 8, 9, 13], [51, 46]⟩, ⟨(.some 52), (.idx 63 2 (.t 39) (.t 41)), .none, [2, 4, 0, 1, 2, 3, 4, 5, 6, 7, 8, 9, 10, 11, 12, 13, 14, 15], [39, 41]⟩, ⟨.none, (.st 2 (.t 52) (.t 50)), .none, [16, 13, 15, 0, 1, 2, 3, 4, 5, 6, 7, 8, 9, 10, 11, 12, 13, 14, 15], [52, 50]⟩] .true),
    (.region [⟨(.some 35), (.mv (.t 9)), .none, [], []⟩, ⟨(.some 36), (.bin .sub .o (.t 35) (.c (.int .i64 1))), .none, [], []⟩, ⟨(.some 9), (.mv (.t 36)), .none, [], []⟩] .false),
    (.region [⟨(.some 15), (.mv (.t 8)), .none, [], []⟩, ⟨(.some 16), (.bin .add .o (.t 15) (.c (.int .i64 1))), .none, [], []⟩, ⟨(.some 8), (.mv (.t 16)), .none, [], []⟩] .false)]
theorem F76_at : F76.at Try.prog 76 Try.f76 := ⟨Try.func76, by kernel_rfl, by kernel_rfl, by kernel_rfl, by kernel_rfl, by kernel_rfl⟩

-- "slices.heapSortCmpFunc[signalbox/spans.Span]" res .true
def F77 : AFn where
  np := 4
  nt := 60
  res := []
  tab := [(.seq 2),
    (.region [⟨(.some 13), (.mv (.t 1)), .none, [], []⟩, ⟨(.some 8), (.mv (.t 13)), .none, [], []⟩] .false), (.seq 2),
    (.region [⟨(.some 9), (.mv (.c (.int .i64 0))), .none, [], []⟩] .false), (.seq 2),
    (.region [⟨(.some 14), (.mv (.t 2)), .none, [], []⟩, ⟨(.some 15), (.mv (.t 1)), .none, [], []⟩, ⟨(.some 16), (.bin .sub .o (.t 14) (.t 15)), .none, [], []⟩, ⟨(.some 10), (.mv (.t 16)), .none, [], []⟩] .false), (.seq 15), (.seq 2),
    (.region [⟨(.some 17), (.mv (.t 10)), .none, [], []⟩, ⟨(.some 18), (.bin .sub .o (.t 17) (.c (.int .i64 1))), .none, [], []⟩, ⟨(.some 19), (.bin .quo .o (.t 18) (.c (.int .i64 2))), .none, [], []⟩, ⟨(.some 11), (.mv (.t 19)), .none, [], []⟩] .false), (.block 0), .loop, (.seq 6), (.seq 2),
    (.region [⟨(.some 20), (.mv (.t 11)), .none, [], []⟩, ⟨(.some 21), (.bin .geq .o (.t 20) (.c (.int .i64 0))), .none, [], []⟩] .false), (.cond (.t 21) 2), .skip, (.exit 0), (.seq 3), (.block 1),
    (.region [⟨(.some 24), (.mv (.t 0)), .none, [], []⟩, ⟨(.some 25), (.mv (.t 11)), .none, [], []⟩, ⟨(.some 26), (.mv (.t 10)), .none, [], []⟩, ⟨(.some 27), (.mv (.t 8)), .none, [], []⟩, ⟨(.some 28), (.mv (.t 3)), .none, [], []⟩, ⟨(.some 29), (.call 98 [(.t 24), (.t 25), (.t 26), (.t 27), (.t 28)]), .none, [], []⟩] .false),
    (.region [⟨(.some 22), (.mv (.t 11)), .none, [], []⟩, ⟨(.some 23), (.bin .sub .o (.t 22) (.c (.int .i64 1))), .none, [], []⟩, ⟨(.some 11), (.mv (.t 23)), .none, [], []⟩] .false), (.seq 2),
    (.region [⟨(.some 30), (.mv (.t 10)), .none, [], []⟩, ⟨(.some 31), (.bin .sub .o (.t 30) (.c (.int .i64 1))), .none, [], []⟩, ⟨(.some 12), (.mv (.t 31)), .none, [], []⟩] .false), (.block 2), .loop, (.seq 6), (.seq 2),
    (.region [⟨(.some 32), (.mv (.t 12)), .none, [], []⟩, ⟨(.some 33), (.bin .geq .o (.t 32) (.c (.int .i64 0))), .none, [], []⟩] .false), (.cond (.t 33) 2), .skip, (.exit 2), (.seq 5), (.block 3), (.seq 2),
    (.region [⟨(.some 36), (.mv (.t 0)), .none, [], [0]⟩, ⟨(.some 37), (.mv (.t 8)), .none, [], [8]⟩, ⟨(.some 38), (.mv (.t 0)), .none, [], [0]⟩, ⟨(.some 39), (.mv (.t 8)), .none, [], [8]⟩, ⟨(.some 40), (.mv (.t 12)), .none, [], [12]⟩, ⟨(.some 41), (.bin .add .o (.t 39) (.t 40)), .none, [3, 4], [39, 40]⟩, ⟨(.some 42), (.mv (.t 0)), .none, [], [0]⟩, ⟨(.some 43), (.mv (.t 8)), .none, [], [8]⟩, ⟨(.some 44), (.mv (.t 12)), .none, [], [12]⟩, ⟨(.some 45), (.bin .add .o (.t 43) (.t 44)), .none, [7, 8], [43, 44]⟩, ⟨(.some 46), (.idx 63 2 (.t 42) (.t 45)), .none, [6, 9], [42, 45]⟩, ⟨(.some 47), (.ld (.some 2) (.t 46)), .none, [10], [46]⟩, ⟨(.some 48), (.mv (.t 0)), .none, [], [0]⟩, ⟨(.some 49), (.mv (.t 8)), .none, [], [8]⟩, ⟨(.some 50), (.idx 63 2 (.t 48) (.t 49)), .none, [12, 13], [48, 49]⟩, ⟨(.some 51), (.ld (.some 2) (.t 50)), .none, [14], [50]⟩, ⟨(.some 52), (.idx 63 2 (.t 36) (.t 37)), .none, [0, 1, 0, 1, 6, 7, 8, 9, 10, 11, 15], [36, 37]⟩, ⟨.none, (.st 2 (.t 52) (.t 47)), .none, [16, 11, 0, 1, 6, 7, 8, 9, 10, 11, 15], [52, 47]⟩, ⟨(.some 53), (.idx 63 2 (.t 38) (.t 41)), .none, [2, 5, 0, 1, 2, 3, 4, 5, 6, 7, 8, 9, 10, 11, 12, 13, 14, 15, 16, 17], [38, 41]⟩, ⟨.none, (.st 2 (.t 53) (.t 51)), .none, [18, 15, 17, 0, 1, 2, 3, 4, 5, 6, 7, 8, 9, 10, 11, 12, 13, 14, 15, 16, 17], [53, 51]⟩] .true),
    (.region [⟨(.some 54), (.mv (.t 0)), .none, [], []⟩, ⟨(.some 55), (.mv (.t 9)), .none, [], []⟩, ⟨(.some 56), (.mv (.t 12)), .none, [], []⟩, ⟨(.some 57), (.mv (.t 8)), .none, [], []⟩, ⟨(.some 58), (.mv (.t 3)), .none, [], []⟩, ⟨(.some 59), (.call 98 [(.t 54), (.t 55), (.t 56), (.t 57), (.t 58)]), .none, [], []⟩] .false),
    (.region [⟨(.some 34), (.mv (.t 12)), .none, [], []⟩, ⟨(.some 35), (.bin .sub .o (.t 34) (.c (.int .i64 1))), .none, [], []⟩, ⟨(.some 12), (.mv (.t 35)), .none, [], []⟩] .false)]
theorem F77_at : F77.at Try.prog 77 Try.f77 := ⟨Try.func77, by kernel_rfl, by kernel_rfl, by kernel_rfl, by kernel_rfl, by kernel_rfl⟩

-- "slices.breakPatternsCmpFunc[signalbox/spans.Span]" res .true
def F78 : AFn where
  np := 4
  nt := 67
  res := []
  tab := [(.seq 2),
    (.region [⟨(.some 13), (.mv (.t 2)), .none, [], []⟩, ⟨(.some 14), (.mv (.t 1)), .none, [], []⟩, ⟨(.some 15), (.bin .sub .o (.t 13) (.t 14)), .none, [], []⟩, ⟨(.some 8), (.mv (.t 15)), .none, [], []⟩] .false), (.seq 2),
    (.region [⟨(.some 16), (.mv (.t 8)), .none, [], []⟩, ⟨(.some 17), (.bin .geq .o (.t 16) (.c (.int .i64 8))), .none, [], []⟩] .false), (.cond (.t 17) 27), (.seq 2),
    (.region [⟨(.some 18), (.mv (.t 8)), .none, [], []⟩, ⟨(.some 19), (.cvt .u64 (.t 18)), .none, [], []⟩, ⟨(.some 9), (.alloc 126 [(.int .u64 0)]), .none, [], []⟩, ⟨.none, (.st 1 (.t 9) (.t 19)), .none, [], []⟩] .false), (.seq 2),
    (.region [⟨(.some 20), (.mv (.t 8)), .none, [], []⟩, ⟨(.some 21), (.call 99 [(.t 20)]), .none, [], []⟩, ⟨(.some 10), (.mv (.t 21)), .none, [], []⟩] .false), (.seq 2),
    (.region [⟨(.some 22), (.mv (.t 1)), .none, [], []⟩, ⟨(.some 23), (.mv (.t 8)), .none, [], []⟩, ⟨(.some 24), (.bin .quo .o (.t 23) (.c (.int .i64 4))), .none, [], []⟩, ⟨(.some 25), (.bin .mul .o (.t 24) (.c (.int .i64 2))), .none, [], []⟩, ⟨(.some 26), (.bin .add .o (.t 22) (.t 25)), .none, [], []⟩, ⟨(.some 27), (.bin .sub .o (.t 26) (.c (.int .i64 1))), .none, [], []⟩, ⟨(.some 11), (.mv (.t 27)), .none, [], []⟩] .false), (.block 0), .loop, (.seq 6), (.seq 2),
    (.region [⟨(.some 28), (.mv (.t 11)), .none, [], []⟩, ⟨(.some 29), (.mv (.t 1)), .none, [], []⟩, ⟨(.some 30), (.mv (.t 8)), .none, [], []⟩, ⟨(.some 31), (.bin .quo .o (.t 30) (.c (.int .i64 4))), .none, [], []⟩, ⟨(.some 32), (.bin .mul .o (.t 31) (.c (.int .i64 2))), .none, [], []⟩, ⟨(.some 33), (.bin .add .o (.t 29) (.t 32)), .none, [], []⟩, ⟨(.some 34), (.bin .add .o (.t 33) (.c (.int .i64 1))), .none, [], []⟩, ⟨(.some 35), (.bin .leq .o (.t 28) (.t 34)), .none, [], []⟩] .false), (.cond (.t 35) 2), .skip, (.exit 0), (.seq 11), (.block 1), (.seq 2),
    (.region [⟨(.some 38), (.call 100 [(.t 9)]), .none, [], []⟩, ⟨(.some 39), (.mv (.t 10)), .none, [], []⟩, ⟨(.some 40), (.bin .sub .o (.t 39) (.c (.int .u64 1))), .none, [], []⟩, ⟨(.some 41), (.bin .and .o (.t 38) (.t 40)), .none, [], []⟩, ⟨(.some 42), (.cvt .i64 (.t 41)), .none, [], []⟩, ⟨(.some 12), (.mv (.t 42)), .none, [], []⟩] .false), (.seq 6), (.seq 2),
    (.region [⟨(.some 43), (.mv (.t 12)), .none, [], []⟩, ⟨(.some 44), (.mv (.t 8)), .none, [], []⟩, ⟨(.some 45), (.bin .geq .o (.t 43) (.t 44)), .none, [], []⟩] .false), (.cond (.t 45) 2),
    (.region [⟨(.some 46), (.mv (.t 12)), .none, [], []⟩, ⟨(.some 47), (.mv (.t 8)), .none, [], []⟩, ⟨(.some 48), (.bin .sub .o (.t 46) (.t 47)), .none, [], []⟩, ⟨(.some 12), (.mv (.t 48)), .none, [], []⟩] .false), .skip,
    (.region [⟨(.some 49), (.mv (.t 0)), .none, [], [0]⟩, ⟨(.some 50), (.mv (.t 11)), .none, [], [11]⟩, ⟨(.some 51), (.mv (.t 0)), .none, [], [0]⟩, ⟨(.some 52), (.mv (.t 1)), .none, [], [1]⟩, ⟨(.some 53), (.mv (.t 12)), .none, [], [12]⟩, ⟨(.some 54), (.bin .add .o (.t 52) (.t 53)), .none, [3, 4], [52, 53]⟩, ⟨(.some 55), (.mv (.t 0)), .none, [], [0]⟩, ⟨(.some 56), (.mv (.t 1)), .none, [], [1]⟩, ⟨(.some 57), (.mv (.t 12)), .none, [], [12]⟩, ⟨(.some 58), (.bin .add .o (.t 56) (.t 57)), .none, [7, 8], [56, 57]⟩, ⟨(.some 59), (.idx 63 2 (.t 55) (.t 58)), .none, [6, 9], [55, 58]⟩, ⟨(.some 60), (.ld (.some 2) (.t 59)), .none, [10], [59]⟩, ⟨(.some 61), (.mv (.t 0)), .none, [], [0]⟩, ⟨(.some 62), (.mv (.t 11)), .none, [], [11]⟩, ⟨(.some 63), (.idx 63 2 (.t 61) (.t 62)), .none, [12, 13], [61, 62]⟩, ⟨(.some 64), (.ld (.some 2) (.t 63)), .none, [14], [63]⟩, ⟨(.some 65), (.idx 63 2 (.t 49) (.t 50)), .none, [0, 1, 0, 1, 6, 7, 8, 9, 10, 11, 15], [49, 50]⟩, ⟨.none, (.st 2 (.t 65) (.t 60)), .none, [16, 11, 0, 1, 6, 7, 8, 9, 10, 11, 15], [65, 60]⟩, ⟨(.some 66), (.idx 63 2 (.t 51) (.t 54)), .none, [2, 5, 0, 1, 2, 3, 4, 5, 6, 7, 8, 9, 10, 11, 12, 13, 14, 15, 16, 17], [51, 54]⟩, ⟨.none, (.st 2 (.t 66) (.t 64)), .none, [18, 15, 17, 0, 1, 2, 3, 4, 5, 6, 7, 8, 9, 10, 11, 12, 13, 14, 15, 16, 17], [66, 64]⟩] .true),
    (.region [⟨(.some 36), (.mv (.t 11)), .none, [], []⟩, ⟨(.some 37), (.bin .add .o (.t 36) (.c (.int .i64 1))), .none, [], []⟩, ⟨(.some 11), (.mv (.t 37)), .none, [], []⟩] .false), .skip]
theorem F78_at : F78.at Try.prog 78 Try.f78 := ⟨Try.func78, by kernel_rfl, by kernel_rfl, by kernel_rfl, by kernel_rfl, by kernel_rfl⟩

-- "slices.choosePivotCmpFunc[signalbox/spans.Span]" res .true
def F79 : AFn where
  np := 4
  nt := 63
  res := [(.t 8), (.t 9)]
  tab := [(.seq 2),
    (.region [⟨(.some 8), (.mv (.c (.int .i64 0))), .none, [], []⟩, ⟨(.some 9), (.mv (.c (.int .i64 0))), .none, [], []⟩] .false), (.seq 2),
    (.region [⟨(.some 15), (.mv (.t 2)), .none, [], []⟩, ⟨(.some 16), (.mv (.t 1)), .none, [], []⟩, ⟨(.some 17), (.bin .sub .o (.t 15) (.t 16)), .none, [], []⟩, ⟨(.some 10), (.mv (.t 17)), .none, [], []⟩] .false), (.seq 2),
    (.region [⟨(.some 11), (.alloc 3 [(.int .i64 0)]), .none, [], []⟩] .false), (.seq 2),
    (.region [⟨(.some 18), (.mv (.t 1)), .none, [], []⟩, ⟨(.some 19), (.mv (.t 10)), .none, [], []⟩, ⟨(.some 20), (.bin .quo .o (.t 19) (.c (.int .i64 4))), .none, [], []⟩, ⟨(.some 21), (.bin .mul .o (.t 20) (.c (.int .i64 1))), .none, [], []⟩, ⟨(.some 22), (.bin .add .o (.t 18) (.t 21)), .none, [], []⟩, ⟨(.some 12), (.mv (.t 22)), .none, [], []⟩] .false), (.seq 2),
    (.region [⟨(.some 23), (.mv (.t 1)), .none, [], []⟩, ⟨(.some 24), (.mv (.t 10)), .none, [], []⟩, ⟨(.some 25), (.bin .quo .o (.t 24) (.c (.int .i64 4))), .none, [], []⟩, ⟨(.some 26), (.bin .mul .o (.t 25) (.c (.int .i64 2))), .none, [], []⟩, ⟨(.some 27), (.bin .add .o (.t 23) (.t 26)), .none, [], []⟩, ⟨(.some 13), (.mv (.t 27)), .none, [], []⟩] .false), (.seq 2),
    (.region [⟨(.some 28), (.mv (.t 1)), .none, [], []⟩, ⟨(.some 29), (.mv (.t 10)), .none, [], []⟩, ⟨(.some 30), (.bin .quo .o (.t 29) (.c (.int .i64 4))), .none, [], []⟩, ⟨(.some 31), (.bin .mul .o (.t 30) (.c (.int .i64 3))), .none, [], []⟩, ⟨(.some 32), (.bin .add .o (.t 28) (.t 31)), .none, [], []⟩, ⟨(.some 14), (.mv (.t 32)), .none, [], []⟩] .false), (.seq 16), (.seq 2),
    (.region [⟨(.some 33), (.mv (.t 10)), .none, [], []⟩, ⟨(.some 34), (.bin .geq .o (.t 33) (.c (.int .i64 8))), .none, [], []⟩] .false), (.cond (.t 34) 12), (.seq 10), (.seq 2),
    (.region [⟨(.some 35), (.mv (.t 10)), .none, [], []⟩, ⟨(.some 36), (.bin .geq .o (.t 35) (.c (.int .i64 50))), .none, [], []⟩] .false), (.cond (.t 36) 6), (.seq 2),
    (.region [⟨(.some 37), (.mv (.t 0)), .none, [], []⟩, ⟨(.some 38), (.mv (.t 12)), .none, [], []⟩, ⟨(.some 39), (.mv (.t 3)), .none, [], []⟩, ⟨(.some 40), (.call 101 [(.t 37), (.t 38), (.t 11), (.t 39)]), .none, [], []⟩, ⟨(.some 12), (.mv (.t 40)), .none, [], []⟩] .false), (.seq 2),
    (.region [⟨(.some 41), (.mv (.t 0)), .none, [], []⟩, ⟨(.some 42), (.mv (.t 13)), .none, [], []⟩, ⟨(.some 43), (.mv (.t 3)), .none, [], []⟩, ⟨(.some 44), (.call 101 [(.t 41), (.t 42), (.t 11), (.t 43)]), .none, [], []⟩, ⟨(.some 13), (.mv (.t 44)), .none, [], []⟩] .false),
    (.region [⟨(.some 45), (.mv (.t 0)), .none, [], []⟩, ⟨(.some 46), (.mv (.t 14)), .none, [], []⟩, ⟨(.some 47), (.mv (.t 3)), .none, [], []⟩, ⟨(.some 48), (.call 101 [(.t 45), (.t 46), (.t 11), (.t 47)]), .none, [], []⟩, ⟨(.some 14), (.mv (.t 48)), .none, [], []⟩] .false), .skip,
    (.region [⟨(.some 49), (.mv (.t 0)), .none, [], []⟩, ⟨(.some 50), (.mv (.t 12)), .none, [], []⟩, ⟨(.some 51), (.mv (.t 13)), .none, [], []⟩, ⟨(.some 52), (.mv (.t 14)), .none, [], []⟩, ⟨(.some 53), (.mv (.t 3)), .none, [], []⟩, ⟨(.some 54), (.call 102 [(.t 49), (.t 50), (.t 51), (.t 52), (.t 11), (.t 53)]), .none, [], []⟩, ⟨(.some 13), (.mv (.t 54)), .none, [], []⟩] .false), .skip, (.seq 2),
    (.region [⟨(.some 55), (.ld .none (.t 11)), .none, [], []⟩] .false), (.block 0), (.seq 2),
    (.region [⟨(.some 58), (.bin .eql .o (.t 55) (.c (.int .i64 0))), .none, [], []⟩, ⟨(.some 57), (.mv (.t 58)), .none, [], []⟩] .false), (.cond (.t 57) 4), (.seq 2),
    (.region [⟨(.some 59), (.mv (.t 13)), .none, [], []⟩, ⟨(.some 8), (.mv (.t 59)), .none, [], []⟩, ⟨(.some 9), (.mv (.c (.int .i64 1))), .none, [], []⟩] .false), .ret, (.seq 2),
    (.region [⟨(.some 61), (.bin .eql .o (.t 55) (.c (.int .i64 12))), .none, [], []⟩, ⟨(.some 60), (.mv (.t 61)), .none, [], []⟩] .false), (.cond (.t 60) 4), (.seq 2),
    (.region [⟨(.some 62), (.mv (.t 13)), .none, [], []⟩, ⟨(.some 8), (.mv (.t 62)), .none, [], []⟩, ⟨(.some 9), (.mv (.c (.int .i64 2))), .none, [], []⟩] .false), .ret, (.seq 2),
    (.region [⟨(.some 56), (.mv (.t 13)), .none, [], []⟩, ⟨(.some 8), (.mv (.t 56)), .none, [], []⟩, ⟨(.some 9), (.mv (.c (.int .i64 0))), .none, [], []⟩] .false), .ret]
theorem F79_at : F79.at Try.prog 79 Try.f79 := ⟨Try.func79, by kernel_rfl, by kernel_rfl, by kernel_rfl, by kernel_rfl, by kernel_rfl⟩

-- "slices.reverseRangeCmpFunc[signalbox/spans.Span]" res .true
def F80 : AFn where
  np := 4
  nt := 34
  res := []
  tab := [(.seq 2),
    (.region [⟨(.some 10), (.mv (.t 1)), .none, [], []⟩, ⟨(.some 8), (.mv (.t 10)), .none, [], []⟩] .false), (.seq 2),
    (.region [⟨(.some 11), (.mv (.t 2)), .none, [], []⟩, ⟨(.some 12), (.bin .sub .o (.t 11) (.c (.int .i64 1))), .none, [], []⟩, ⟨(.some 9), (.mv (.t 12)), .none, [], []⟩] .false), (.block 0), .loop, (.seq 6), (.seq 2),
    (.region [⟨(.some 13), (.mv (.t 8)), .none, [], []⟩, ⟨(.some 14), (.mv (.t 9)), .none, [], []⟩, ⟨(.some 15), (.bin .lss .o (.t 13) (.t 14)), .none, [], []⟩] .false), (.cond (.t 15) 2), .skip, (.exit 0), (.block 1), (.seq 2),
    (.region [⟨(.some 16), (.mv (.t 0)), .none, [], [0]⟩, ⟨(.some 17), (.mv (.t 8)), .none, [], [8]⟩, ⟨(.some 18), (.mv (.t 0)), .none, [], [0]⟩, ⟨(.some 19), (.mv (.t 9)), .none, [], [9]⟩, ⟨(.some 20), (.mv (.t 0)), .none, [], [0]⟩, ⟨(.some 21), (.mv (.t 9)), .none, [], [9]⟩, ⟨(.some 22), (.idx 63 2 (.t 20) (.t 21)), .none, [4, 5], [20, 21]⟩, ⟨(.some 23), (.ld (.some 2) (.t 22)), .none, [6], [22]⟩, ⟨(.some 24), (.mv (.t 0)), .none, [], [0]⟩, ⟨(.some 25), (.mv (.t 8)), .none, [], [8]⟩, ⟨(.some 26), (.idx 63 2 (.t 24) (.t 25)), .none, [8, 9], [24, 25]⟩, ⟨(.some 27), (.ld (.some 2) (.t 26)), .none, [10], [26]⟩, ⟨(.some 28), (.idx 63 2 (.t 16) (.t 17)), .none, [0, 1, 0, 1, 4, 5, 6, 7, 11], [16, 17]⟩, ⟨.none, (.st 2 (.t 28) (.t 23)), .none, [12, 7, 0, 1, 4, 5, 6, 7, 11], [28, 23]⟩, ⟨(.some 29), (.idx 63 2 (.t 18) (.t 19)), .none, [2, 3, 0, 1, 2, 3, 4, 5, 6, 7, 8, 9, 10, 11, 12, 13], [18, 19]⟩, ⟨.none, (.st 2 (.t 29) (.t 27)), .none, [14, 11, 13, 0, 1, 2, 3, 4, 5, 6, 7, 8, 9, 10, 11, 12, 13], [29, 27]⟩] .true), (.seq 2),
    (.region [⟨(.some 30), (.mv (.t 8)), .none, [], []⟩, ⟨(.some 31), (.bin .add .o (.t 30) (.c (.int .i64 1))), .none, [], []⟩, ⟨(.some 8), (.mv (.t 31)), .none, [], []⟩] .false),
    (.region [⟨(.some 32), (.mv (.t 9)), .none, [], []⟩, ⟨(.some 33), (.bin .sub .o (.t 32) (.c (.int .i64 1))), .none, [], []⟩, ⟨(.some 9), (.mv (.t 33)), .none, [], []⟩] .false)]
theorem F80_at : F80.at Try.prog 80 Try.f80 := ⟨Try.func80, by kernel_rfl, by kernel_rfl, by kernel_rfl, by kernel_rfl, by kernel_rfl⟩

-- "slices.partialInsertionSortCmpFunc[signalbox/spans.Span]" res .true
def F81 : AFn where
  np := 4
  nt := 141
  res := [(.t 8)]
  tab := [(.seq 2),
    (.region [⟨(.some 8), (.mv (.c (.bool .false))), .none, [], []⟩] .false), (.seq 2),
    (.region [⟨(.some 13), (.mv (.t 1)), .none, [], []⟩, ⟨(.some 14), (.bin .add .o (.t 13) (.c (.int .i64 1))), .none, [], []⟩, ⟨(.some 9), (.mv (.t 14)), .none, [], []⟩] .false), (.seq 92), (.seq 2),
    (.region [⟨(.some 10), (.mv (.c (.int .i64 0))), .none, [], []⟩] .false), (.block 0), .loop, (.seq 6), (.seq 2),
    (.region [⟨(.some 15), (.mv (.t 10)), .none, [], []⟩, ⟨(.some 16), (.bin .lss .o (.t 15) (.c (.int .i64 5))), .none, [], []⟩] .false), (.cond (.t 16) 2), .skip, (.exit 0), (.seq 80), (.block 1), (.seq 11), (.block 2), .loop, (.seq 6), (.seq 2),
    (.region [⟨(.some 19), (.mv (.t 9)), .none, [], [9]⟩, ⟨(.some 20), (.mv (.t 2)), .none, [], [2]⟩, ⟨(.some 21), (.bin .lss .o (.t 19) (.t 20)), .none, [0, 1], [19, 20]⟩, ⟨(.some 22), (.mv (.t 21)), .none, [2], [21]⟩, ⟨(.some 23), (.mv (.t 3)), (.some ((.some 22), .true)), [3], [3, 22]⟩, ⟨(.some 24), (.mv (.t 0)), (.some ((.some 22), .true)), [3], [0, 22]⟩, ⟨(.some 25), (.mv (.t 9)), (.some ((.some 22), .true)), [3], [9, 22]⟩, ⟨(.some 26), (.idx 63 2 (.t 24) (.t 25)), (.some ((.some 22), .true)), [5, 6, 3], [24, 25, 22]⟩, ⟨(.some 27), (.ld (.some 2) (.t 26)), (.some ((.some 22), .true)), [7, 3], [26, 22]⟩, ⟨(.some 28), (.mv (.t 0)), (.some ((.some 22), .true)), [3], [0, 22]⟩, ⟨(.some 29), (.mv (.t 9)), (.some ((.some 22), .true)), [3], [9, 22]⟩, ⟨(.some 30), (.bin .sub .o (.t 29) (.c (.int .i64 1))), (.some ((.some 22), .true)), [10, 3], [29, 22]⟩, ⟨(.some 31), (.idx 63 2 (.t 28) (.t 30)), (.some ((.some 22), .true)), [9, 11, 3], [28, 30, 22]⟩, ⟨(.some 32), (.ld (.some 2) (.t 31)), (.some ((.some 22), .true)), [12, 3], [31, 22]⟩, ⟨(.some 33), (.callv (.t 23) [(.t 27), (.t 32)]), (.some ((.some 22), .true)), [4, 8, 13, 3, 3], [23, 27, 32, 22]⟩, ⟨(.some 34), (.bin .lss .o (.t 33) (.c (.int .i64 0))), (.some ((.some 22), .true)), [14, 3], [33, 22]⟩, ⟨(.some 35), (.un .not (.t 34)), (.some ((.some 22), .true)), [15, 3], [34, 22]⟩, ⟨(.some 36), (.pick (.t 22) (.t 35) (.c (.bool .false))), .none, [3, 16], [22, 35]⟩] .true), (.cond (.t 36) 2), .skip, (.exit 2), (.block 3),
    (.region [⟨(.some 37), (.mv (.t 9)), .none, [], []⟩, ⟨(.some 38), (.bin .add .o (.t 37) (.c (.int .i64 1))), .none, [], []⟩, ⟨(.some 9), (.mv (.t 38)), .none, [], []⟩] .false), (.seq 8), (.seq 2),
    (.region [⟨(.some 39), (.mv (.t 9)), .none, [], []⟩, ⟨(.some 40), (.mv (.t 2)), .none, [], []⟩, ⟨(.some 41), (.bin .eql .o (.t 39) (.t 40)), .none, [], []⟩] .false), (.cond (.t 41) 4), (.seq 2),
    (.region [⟨(.some 8), (.mv (.c (.bool .true))), .none, [], []⟩] .false), .ret, .skip, (.seq 8), (.seq 2),
    (.region [⟨(.some 42), (.mv (.t 2)), .none, [], []⟩, ⟨(.some 43), (.mv (.t 1)), .none, [], []⟩, ⟨(.some 44), (.bin .sub .o (.t 42) (.t 43)), .none, [], []⟩, ⟨(.some 45), (.bin .lss .o (.t 44) (.c (.int .i64 50))), .none, [], []⟩] .false), (.cond (.t 45) 4), (.seq 2),
    (.region [⟨(.some 8), (.mv (.c (.bool .false))), .none, [], []⟩] .false), .ret, .skip, (.seq 2),
    (.region [⟨(.some 46), (.mv (.t 0)), .none, [], [0]⟩, ⟨(.some 47), (.mv (.t 9)), .none, [], [9]⟩, ⟨(.some 48), (.mv (.t 0)), .none, [], [0]⟩, ⟨(.some 49), (.mv (.t 9)), .none, [], [9]⟩, ⟨(.some 50), (.bin .sub .o (.t 49) (.c (.int .i64 1))), .none, [3], [49]⟩, ⟨(.some 51), (.mv (.t 0)), .none, [], [0]⟩, ⟨(.some 52), (.mv (.t 9)), .none, [], [9]⟩, ⟨(.some 53), (.bin .sub .o (.t 52) (.c (.int .i64 1))), .none, [6], [52]⟩, ⟨(.some 54), (.idx 63 2 (.t 51) (.t 53)), .none, [5, 7], [51, 53]⟩, ⟨(.some 55), (.ld (.some 2) (.t 54)), .none, [8], [54]⟩, ⟨(.some 56), (.mv (.t 0)), .none, [], [0]⟩, ⟨(.some 57), (.mv (.t 9)), .none, [], [9]⟩, ⟨(.some 58), (.idx 63 2 (.t 56) (.t 57)), .none, [10, 11], [56, 57]⟩, ⟨(.some 59), (.ld (.some 2) (.t 58)), .none, [12], [58]⟩, ⟨(.some 60), (.idx 63 2 (.t 46) (.t 47)), .none, [0, 1, 0, 1, 5, 6, 7, 8, 9, 13], [46, 47]⟩, ⟨.none, (.st 2 (.t 60) (.t 55)), .none, [14, 9, 0, 1, 5, 6, 7, 8, 9, 13], [60, 55]⟩, ⟨(.some 61), (.idx 63 2 (.t 48) (.t 50)), .none, [2, 4, 0, 1, 2, 3, 4, 5, 6, 7, 8, 9, 10, 11, 12, 13, 14, 15], [48, 50]⟩, ⟨.none, (.st 2 (.t 61) (.t 59)), .none, [16, 13, 15, 0, 1, 2, 3, 4, 5, 6, 7, 8, 9, 10, 11, 12, 13, 14, 15], [61, 59]⟩] .true), (.seq 25), (.seq 2),
    (.region [⟨(.some 62), (.mv (.t 9)), .none, [], []⟩, ⟨(.some 63), (.mv (.t 1)), .none, [], []⟩, ⟨(.some 64), (.bin .sub .o (.t 62) (.t 63)), .none, [], []⟩, ⟨(.some 65), (.bin .geq .o (.t 64) (.c (.int .i64 2))), .none, [], []⟩] .false), (.cond (.t 65) 21), (.seq 2),
    (.region [⟨(.some 66), (.mv (.t 9)), .none, [], []⟩, ⟨(.some 67), (.bin .sub .o (.t 66) (.c (.int .i64 1))), .none, [], []⟩, ⟨(.some 11), (.mv (.t 67)), .none, [], []⟩] .false), (.block 4), .loop, (.seq 6), (.seq 2),
    (.region [⟨(.some 68), (.mv (.t 11)), .none, [], []⟩, ⟨(.some 69), (.bin .geq .o (.t 68) (.c (.int .i64 1))), .none, [], []⟩] .false), (.cond (.t 69) 2), .skip, (.exit 4), (.seq 9), (.block 5), (.seq 6), (.seq 2),
    (.region [⟨(.some 72), (.mv (.t 3)), .none, [], [3]⟩, ⟨(.some 73), (.mv (.t 0)), .none, [], [0]⟩, ⟨(.some 74), (.mv (.t 11)), .none, [], [11]⟩, ⟨(.some 75), (.idx 63 2 (.t 73) (.t 74)), .none, [1, 2], [73, 74]⟩, ⟨(.some 76), (.ld (.some 2) (.t 75)), .none, [3], [75]⟩, ⟨(.some 77), (.mv (.t 0)), .none, [], [0]⟩, ⟨(.some 78), (.mv (.t 11)), .none, [], [11]⟩, ⟨(.some 79), (.bin .sub .o (.t 78) (.c (.int .i64 1))), .none, [6], [78]⟩, ⟨(.some 80), (.idx 63 2 (.t 77) (.t 79)), .none, [5, 7], [77, 79]⟩, ⟨(.some 81), (.ld (.some 2) (.t 80)), .none, [8], [80]⟩, ⟨(.some 82), (.callv (.t 72) [(.t 76), (.t 81)]), .none, [0, 4, 9], [72, 76, 81]⟩, ⟨(.some 83), (.bin .lss .o (.t 82) (.c (.int .i64 0))), .none, [10], [82]⟩, ⟨(.some 84), (.un .not (.t 83)), .none, [11], [83]⟩] .true), (.cond (.t 84) 2), (.exit 4), .skip,
    (.region [⟨(.some 85), (.mv (.t 0)), .none, [], [0]⟩, ⟨(.some 86), (.mv (.t 11)), .none, [], [11]⟩, ⟨(.some 87), (.mv (.t 0)), .none, [], [0]⟩, ⟨(.some 88), (.mv (.t 11)), .none, [], [11]⟩, ⟨(.some 89), (.bin .sub .o (.t 88) (.c (.int .i64 1))), .none, [3], [88]⟩, ⟨(.some 90), (.mv (.t 0)), .none, [], [0]⟩, ⟨(.some 91), (.mv (.t 11)), .none, [], [11]⟩, ⟨(.some 92), (.bin .sub .o (.t 91) (.c (.int .i64 1))), .none, [6], [91]⟩, ⟨(.some 93), (.idx 63 2 (.t 90) (.t 92)), .none, [5, 7], [90, 92]⟩, ⟨(.some 94), (.ld (.some 2) (.t 93)), .none, [8], [93]⟩, ⟨(.some 95), (.mv (.t 0)), .none, [], [0]⟩, ⟨(.some 96), (.mv (.t 11)), .none, [], [11]⟩, ⟨(.some 97), (.idx 63 2 (.t 95) (.t 96)), .none, [10, 11], [95, 96]⟩, ⟨(.some 98), (.ld (.some 2) (.t 97)), .none, [12], [97]⟩, ⟨(.some 99), (.idx 63 2 (.t 85) (.t 86)), .none, [0, 1, 0, 1, 5, 6, 7, 8, 9, 13], [85, 86]⟩, ⟨.none, (.st 2 (.t 99) (.t 94)), .none, [14, 9, 0, 1, 5, 6, 7, 8, 9, 13], [99, 94]⟩, ⟨(.some 100), (.idx 63 2 (.t 87) (.t 89)), .none, [2, 4, 0, 1, 2, 3, 4, 5, 6, 7, 8, 9, 10, 11, 12, 13, 14, 15], [87, 89]⟩, ⟨.none, (.st 2 (.t 100) (.t 98)), .none, [16, 13, 15, 0, 1, 2, 3, 4, 5, 6, 7, 8, 9, 10, 11, 12, 13, 14, 15], [100, 98]⟩] .true),
    (.region [⟨(.some 70), (.mv (.t 11)), .none, [], []⟩, ⟨(.some 71), (.bin .sub .o (.t 70) (.c (.int .i64 1))), .none, [], []⟩, ⟨(.some 11), (.mv (.t 71)), .none, [], []⟩] .false), .skip, (.seq 2),
    (.region [⟨(.some 101), (.mv (.t 2)), .none, [], []⟩, ⟨(.some 102), (.mv (.t 9)), .none, [], []⟩, ⟨(.some 103), (.bin .sub .o (.t 101) (.t 102)), .none, [], []⟩, ⟨(.some 104), (.bin .geq .o (.t 103) (.c (.int .i64 2))), .none, [], []⟩] .false), (.cond (.t 104) 21), (.seq 2),
    (.region [⟨(.some 105), (.mv (.t 9)), .none, [], []⟩, ⟨(.some 106), (.bin .add .o (.t 105) (.c (.int .i64 1))), .none, [], []⟩, ⟨(.some 12), (.mv (.t 106)), .none, [], []⟩] .false), (.block 6), .loop, (.seq 6), (.seq 2),
    (.region [⟨(.some 107), (.mv (.t 12)), .none, [], []⟩, ⟨(.some 108), (.mv (.t 2)), .none, [], []⟩, ⟨(.some 109), (.bin .lss .o (.t 107) (.t 108)), .none, [], []⟩] .false), (.cond (.t 109) 2), .skip, (.exit 6), (.seq 9), (.block 7), (.seq 6), (.seq 2),
    (.region [⟨(.some 112), (.mv (.t 3)), .none, [], [3]⟩, ⟨(.some 113), (.mv (.t 0)), .none, [], [0]⟩, ⟨(.some 114), (.mv (.t 12)), .none, [], [12]⟩, ⟨(.some 115), (.idx 63 2 (.t 113) (.t 114)), .none, [1, 2], [113, 114]⟩, ⟨(.some 116), (.ld (.some 2) (.t 115)), .none, [3], [115]⟩, ⟨(.some 117), (.mv (.t 0)), .none, [], [0]⟩, ⟨(.some 118), (.mv (.t 12)), .none, [], [12]⟩, ⟨(.some 119), (.bin .sub .o (.t 118) (.c (.int .i64 1))), .none, [6], [118]⟩, ⟨(.some 120), (.idx 63 2 (.t 117) (.t 119)), .none, [5, 7], [117, 119]⟩, ⟨(.some 121), (.ld (.some 2) (.t 120)), .none, [8], [120]⟩, ⟨(.some 122), (.callv (.t 112) [(.t 116), (.t 121)]), .none, [0, 4, 9], [112, 116, 121]⟩, ⟨(.some 123), (.bin .lss .o (.t 122) (.c (.int .i64 0))), .none, [10], [122]⟩, ⟨(.some 124), (.un .not (.t 123)), .none, [11], [123]⟩] .true), (.cond (.t 124) 2), (.exit 6), .skip,
    (.region [⟨(.some 125), (.mv (.t 0)), .none, [], [0]⟩, ⟨(.some 126), (.mv (.t 12)), .none, [], [12]⟩, ⟨(.some 127), (.mv (.t 0)), .none, [], [0]⟩, ⟨(.some 128), (.mv (.t 12)), .none, [], [12]⟩, ⟨(.some 129), (.bin .sub .o (.t 128) (.c (.int .i64 1))), .none, [3], [128]⟩, ⟨(.some 130), (.mv (.t 0)), .none, [], [0]⟩, ⟨(.some 131), (.mv (.t 12)), .none, [], [12]⟩, ⟨(.some 132), (.bin .sub .o (.t 131) (.c (.int .i64 1))), .none, [6], [131]⟩, ⟨(.some 133), (.idx 63 2 (.t 130) (.t 132)), .none, [5, 7], [130, 132]⟩, ⟨(.some 134), (.ld (.some 2) (.t 133)), .none, [8], [133]⟩, ⟨(.some 135), (.mv (.t 0)), .none, [], [0]⟩, ⟨(.some 136), (.mv (.t 12)), .none, [], [12]⟩, ⟨(.some 137), (.idx 63 2 (.t 135) (.t 136)), .none, [10, 11], [135, 136]⟩, ⟨(.some 138), (.ld (.some 2) (.t 137)), .none, [12], [137]⟩, ⟨(.some 139), (.idx 63 2 (.t 125) (.t 126)), .none, [0, 1, 0, 1, 5, 6, 7, 8, 9, 13], [125, 126]⟩, ⟨.none, (.st 2 (.t 139) (.t 134)), .none, [14, 9, 0, 1, 5, 6, 7, 8, 9, 13], [139, 134]⟩, ⟨(.some 140), (.idx 63 2 (.t 127) (.t 129)), .none, [2, 4, 0, 1, 2, 3, 4, 5, 6, 7, 8, 9, 10, 11, 12, 13, 14, 15], [127, 129]⟩, ⟨.none, (.st 2 (.t 140) (.t 138)), .none, [16, 13, 15, 0, 1, 2, 3, 4, 5, 6, 7, 8, 9, 10, 11, 12, 13, 14, 15], [140, 138]⟩] .true),
    (.region [⟨(.some 110), (.mv (.t 12)), .none, [], []⟩, ⟨(.some 111), (.bin .add .o (.t 110) (.c (.int .i64 1))), .none, [], []⟩, ⟨(.some 12), (.mv (.t 111)), .none, [], []⟩] .false), .skip,
    (.region [⟨(.some 17), (.mv (.t 10)), .none, [], []⟩, ⟨(.some 18), (.bin .add .o (.t 17) (.c (.int .i64 1))), .none, [], []⟩, ⟨(.some 10), (.mv (.t 18)), .none, [], []⟩] .false), (.seq 2),
    (.region [⟨(.some 8), (.mv (.c (.bool .false))), .none, [], []⟩] .false), .ret]
theorem F81_at : F81.at Try.prog 81 Try.f81 := ⟨Try.func81, by kernel_rfl, by kernel_rfl, by kernel_rfl, by kernel_rfl, by kernel_rfl⟩

-- "slices.partitionEqualCmpFunc[signalbox/spans.Span]" res .true
def F82 : AFn where
  np := 5
  nt := 90
  res := [(.t 10)]
  tab := [(.seq 2),
    (.region [⟨(.some 10), (.mv (.c (.int .i64 0))), .none, [], []⟩] .false), (.seq 2),
    (.region [⟨(.some 13), (.mv (.t 0)), .none, [], [0]⟩, ⟨(.some 14), (.mv (.t 1)), .none, [], [1]⟩, ⟨(.some 15), (.mv (.t 0)), .none, [], [0]⟩, ⟨(.some 16), (.mv (.t 3)), .none, [], [3]⟩, ⟨(.some 17), (.mv (.t 0)), .none, [], [0]⟩, ⟨(.some 18), (.mv (.t 3)), .none, [], [3]⟩, ⟨(.some 19), (.idx 63 2 (.t 17) (.t 18)), .none, [4, 5], [17, 18]⟩, ⟨(.some 20), (.ld (.some 2) (.t 19)), .none, [6], [19]⟩, ⟨(.some 21), (.mv (.t 0)), .none, [], [0]⟩, ⟨(.some 22), (.mv (.t 1)), .none, [], [1]⟩, ⟨(.some 23), (.idx 63 2 (.t 21) (.t 22)), .none, [8, 9], [21, 22]⟩, ⟨(.some 24), (.ld (.some 2) (.t 23)), .none, [10], [23]⟩, ⟨(.some 25), (.idx 63 2 (.t 13) (.t 14)), .none, [0, 1, 0, 1, 4, 5, 6, 7, 11], [13, 14]⟩, ⟨.none, (.st 2 (.t 25) (.t 20)), .none, [12, 7, 0, 1, 4, 5, 6, 7, 11], [25, 20]⟩, ⟨(.some 26), (.idx 63 2 (.t 15) (.t 16)), .none, [2, 3, 0, 1, 2, 3, 4, 5, 6, 7, 8, 9, 10, 11, 12, 13], [15, 16]⟩, ⟨.none, (.st 2 (.t 26) (.t 24)), .none, [14, 11, 13, 0, 1, 2, 3, 4, 5, 6, 7, 8, 9, 10, 11, 12, 13], [26, 24]⟩] .true), (.seq 2),
    (.region [⟨(.some 27), (.mv (.t 1)), .none, [], []⟩, ⟨(.some 28), (.bin .add .o (.t 27) (.c (.int .i64 1))), .none, [], []⟩, ⟨(.some 29), (.mv (.t 2)), .none, [], []⟩, ⟨(.some 30), (.bin .sub .o (.t 29) (.c (.int .i64 1))), .none, [], []⟩, ⟨(.some 11), (.mv (.t 28)), .none, [], []⟩, ⟨(.some 12), (.mv (.t 30)), .none, [], []⟩] .false), (.seq 37), (.block 0), .loop, (.block 1), (.seq 11), (.block 2), .loop, (.seq 6), (.seq 2),
    (.region [⟨(.some 31), (.mv (.t 11)), .none, [], [11]⟩, ⟨(.some 32), (.mv (.t 12)), .none, [], [12]⟩, ⟨(.some 33), (.bin .leq .o (.t 31) (.t 32)), .none, [0, 1], [31, 32]⟩, ⟨(.some 34), (.mv (.t 33)), .none, [2], [33]⟩, ⟨(.some 35), (.mv (.t 4)), (.some ((.some 34), .true)), [3], [4, 34]⟩, ⟨(.some 36), (.mv (.t 0)), (.some ((.some 34), .true)), [3], [0, 34]⟩, ⟨(.some 37), (.mv (.t 1)), (.some ((.some 34), .true)), [3], [1, 34]⟩, ⟨(.some 38), (.idx 63 2 (.t 36) (.t 37)), (.some ((.some 34), .true)), [5, 6, 3], [36, 37, 34]⟩, ⟨(.some 39), (.ld (.some 2) (.t 38)), (.some ((.some 34), .true)), [7, 3], [38, 34]⟩, ⟨(.some 40), (.mv (.t 0)), (.some ((.some 34), .true)), [3], [0, 34]⟩, ⟨(.some 41), (.mv (.t 11)), (.some ((.some 34), .true)), [3], [11, 34]⟩, ⟨(.some 42), (.idx 63 2 (.t 40) (.t 41)), (.some ((.some 34), .true)), [9, 10, 3], [40, 41, 34]⟩, ⟨(.some 43), (.ld (.some 2) (.t 42)), (.some ((.some 34), .true)), [11, 3], [42, 34]⟩, ⟨(.some 44), (.callv (.t 35) [(.t 39), (.t 43)]), (.some ((.some 34), .true)), [4, 8, 12, 3, 3], [35, 39, 43, 34]⟩, ⟨(.some 45), (.bin .lss .o (.t 44) (.c (.int .i64 0))), (.some ((.some 34), .true)), [13, 3], [44, 34]⟩, ⟨(.some 46), (.un .not (.t 45)), (.some ((.some 34), .true)), [14, 3], [45, 34]⟩, ⟨(.some 47), (.pick (.t 34) (.t 46) (.c (.bool .false))), .none, [3, 15], [34, 46]⟩] .true), (.cond (.t 47) 2), .skip, (.exit 2), (.block 3),
    (.region [⟨(.some 48), (.mv (.t 11)), .none, [], []⟩, ⟨(.some 49), (.bin .add .o (.t 48) (.c (.int .i64 1))), .none, [], []⟩, ⟨(.some 11), (.mv (.t 49)), .none, [], []⟩] .false), (.seq 11), (.block 4), .loop, (.seq 6), (.seq 2),
    (.region [⟨(.some 50), (.mv (.t 11)), .none, [], [11]⟩, ⟨(.some 51), (.mv (.t 12)), .none, [], [12]⟩, ⟨(.some 52), (.bin .leq .o (.t 50) (.t 51)), .none, [0, 1], [50, 51]⟩, ⟨(.some 53), (.mv (.t 52)), .none, [2], [52]⟩, ⟨(.some 54), (.mv (.t 4)), (.some ((.some 53), .true)), [3], [4, 53]⟩, ⟨(.some 55), (.mv (.t 0)), (.some ((.some 53), .true)), [3], [0, 53]⟩, ⟨(.some 56), (.mv (.t 1)), (.some ((.some 53), .true)), [3], [1, 53]⟩, ⟨(.some 57), (.idx 63 2 (.t 55) (.t 56)), (.some ((.some 53), .true)), [5, 6, 3], [55, 56, 53]⟩, ⟨(.some 58), (.ld (.some 2) (.t 57)), (.some ((.some 53), .true)), [7, 3], [57, 53]⟩, ⟨(.some 59), (.mv (.t 0)), (.some ((.some 53), .true)), [3], [0, 53]⟩, ⟨(.some 60), (.mv (.t 12)), (.some ((.some 53), .true)), [3], [12, 53]⟩, ⟨(.some 61), (.idx 63 2 (.t 59) (.t 60)), (.some ((.some 53), .true)), [9, 10, 3], [59, 60, 53]⟩, ⟨(.some 62), (.ld (.some 2) (.t 61)), (.some ((.some 53), .true)), [11, 3], [61, 53]⟩, ⟨(.some 63), (.callv (.t 54) [(.t 58), (.t 62)]), (.some ((.some 53), .true)), [4, 8, 12, 3, 3], [54, 58, 62, 53]⟩, ⟨(.some 64), (.bin .lss .o (.t 63) (.c (.int .i64 0))), (.some ((.some 53), .true)), [13, 3], [63, 53]⟩, ⟨(.some 65), (.pick (.t 53) (.t 64) (.c (.bool .false))), .none, [3, 14], [53, 64]⟩] .true), (.cond (.t 65) 2), .skip, (.exit 4), (.block 5),
    (.region [⟨(.some 66), (.mv (.t 12)), .none, [], []⟩, ⟨(.some 67), (.bin .sub .o (.t 66) (.c (.int .i64 1))), .none, [], []⟩, ⟨(.some 12), (.mv (.t 67)), .none, [], []⟩] .false), (.seq 6), (.seq 2),
    (.region [⟨(.some 68), (.mv (.t 11)), .none, [], []⟩, ⟨(.some 69), (.mv (.t 12)), .none, [], []⟩, ⟨(.some 70), (.bin .gtr .o (.t 68) (.t 69)), .none, [], []⟩] .false), (.cond (.t 70) 2), (.exit 0), .skip, (.seq 2),
    (.region [⟨(.some 71), (.mv (.t 0)), .none, [], [0]⟩, ⟨(.some 72), (.mv (.t 11)), .none, [], [11]⟩, ⟨(.some 73), (.mv (.t 0)), .none, [], [0]⟩, ⟨(.some 74), (.mv (.t 12)), .none, [], [12]⟩, ⟨(.some 75), (.mv (.t 0)), .none, [], [0]⟩, ⟨(.some 76), (.mv (.t 12)), .none, [], [12]⟩, ⟨(.some 77), (.idx 63 2 (.t 75) (.t 76)), .none, [4, 5], [75, 76]⟩, ⟨(.some 78), (.ld (.some 2) (.t 77)), .none, [6], [77]⟩, ⟨(.some 79), (.mv (.t 0)), .none, [], [0]⟩, ⟨(.some 80), (.mv (.t 11)), .none, [], [11]⟩, ⟨(.some 81), (.idx 63 2 (.t 79) (.t 80)), .none, [8, 9], [79, 80]⟩, ⟨(.some 82), (.ld (.some 2) (.t 81)), .none, [10], [81]⟩, ⟨(.some 83), (.idx 63 2 (.t 71) (.t 72)), .none, [0, 1, 0, 1, 4, 5, 6, 7, 11], [71, 72]⟩, ⟨.none, (.st 2 (.t 83) (.t 78)), .none, [12, 7, 0, 1, 4, 5, 6, 7, 11], [83, 78]⟩, ⟨(.some 84), (.idx 63 2 (.t 73) (.t 74)), .none, [2, 3, 0, 1, 2, 3, 4, 5, 6, 7, 8, 9, 10, 11, 12, 13], [73, 74]⟩, ⟨.none, (.st 2 (.t 84) (.t 82)), .none, [14, 11, 13, 0, 1, 2, 3, 4, 5, 6, 7, 8, 9, 10, 11, 12, 13], [84, 82]⟩] .true), (.seq 2),
    (.region [⟨(.some 85), (.mv (.t 11)), .none, [], []⟩, ⟨(.some 86), (.bin .add .o (.t 85) (.c (.int .i64 1))), .none, [], []⟩, ⟨(.some 11), (.mv (.t 86)), .none, [], []⟩] .false),
    (.region [⟨(.some 87), (.mv (.t 12)), .none, [], []⟩, ⟨(.some 88), (.bin .sub .o (.t 87) (.c (.int .i64 1))), .none, [], []⟩, ⟨(.some 12), (.mv (.t 88)), .none, [], []⟩] .false), (.seq 2),
    (.region [⟨(.some 89), (.mv (.t 11)), .none, [], []⟩, ⟨(.some 10), (.mv (.t 89)), .none, [], []⟩] .false), .ret]
theorem F82_at : F82.at Try.prog 82 Try.f82 := ⟨Try.func82, by kernel_rfl, by kernel_rfl, by kernel_rfl, by kernel_rfl, by kernel_rfl⟩

-- "slices.partitionCmpFunc[signalbox/spans.Span]" res .true
def F83 : AFn where
  np := 5
  nt := 178
  res := [(.t 10), (.t 11)]
  tab := [(.seq 2),
    (.region [⟨(.some 10), (.mv (.c (.int .i64 0))), .none, [], []⟩, ⟨(.some 11), (.mv (.c (.bool .false))), .none, [], []⟩] .false), (.seq 2),
    (.region [⟨(.some 14), (.mv (.t 0)), .none, [], [0]⟩, ⟨(.some 15), (.mv (.t 1)), .none, [], [1]⟩, ⟨(.some 16), (.mv (.t 0)), .none, [], [0]⟩, ⟨(.some 17), (.mv (.t 3)), .none, [], [3]⟩, ⟨(.some 18), (.mv (.t 0)), .none, [], [0]⟩, ⟨(.some 19), (.mv (.t 3)), .none, [], [3]⟩, ⟨(.some 20), (.idx 63 2 (.t 18) (.t 19)), .none, [4, 5], [18, 19]⟩, ⟨(.some 21), (.ld (.some 2) (.t 20)), .none, [6], [20]⟩, ⟨(.some 22), (.mv (.t 0)), .none, [], [0]⟩, ⟨(.some 23), (.mv (.t 1)), .none, [], [1]⟩, ⟨(.some 24), (.idx 63 2 (.t 22) (.t 23)), .none, [8, 9], [22, 23]⟩, ⟨(.some 25), (.ld (.some 2) (.t 24)), .none, [10], [24]⟩, ⟨(.some 26), (.idx 63 2 (.t 14) (.t 15)), .none, [0, 1, 0, 1, 4, 5, 6, 7, 11], [14, 15]⟩, ⟨.none, (.st 2 (.t 26) (.t 21)), .none, [12, 7, 0, 1, 4, 5, 6, 7, 11], [26, 21]⟩, ⟨(.some 27), (.idx 63 2 (.t 16) (.t 17)), .none, [2, 3, 0, 1, 2, 3, 4, 5, 6, 7, 8, 9, 10, 11, 12, 13], [16, 17]⟩, ⟨.none, (.st 2 (.t 27) (.t 25)), .none, [14, 11, 13, 0, 1, 2, 3, 4, 5, 6, 7, 8, 9, 10, 11, 12, 13], [27, 25]⟩] .true), (.seq 2),
    (.region [⟨(.some 28), (.mv (.t 1)), .none, [], []⟩, ⟨(.some 29), (.bin .add .o (.t 28) (.c (.int .i64 1))), .none, [], []⟩, ⟨(.some 30), (.mv (.t 2)), .none, [], []⟩, ⟨(.some 31), (.bin .sub .o (.t 30) (.c (.int .i64 1))), .none, [], []⟩, ⟨(.some 12), (.mv (.t 29)), .none, [], []⟩, ⟨(.some 13), (.mv (.t 31)), .none, [], []⟩] .false), (.seq 11), (.block 0), .loop, (.seq 6), (.seq 2),
    (.region [⟨(.some 32), (.mv (.t 12)), .none, [], [12]⟩, ⟨(.some 33), (.mv (.t 13)), .none, [], [13]⟩, ⟨(.some 34), (.bin .leq .o (.t 32) (.t 33)), .none, [0, 1], [32, 33]⟩, ⟨(.some 35), (.mv (.t 34)), .none, [2], [34]⟩, ⟨(.some 36), (.mv (.t 4)), (.some ((.some 35), .true)), [3], [4, 35]⟩, ⟨(.some 37), (.mv (.t 0)), (.some ((.some 35), .true)), [3], [0, 35]⟩, ⟨(.some 38), (.mv (.t 12)), (.some ((.some 35), .true)), [3], [12, 35]⟩, ⟨(.some 39), (.idx 63 2 (.t 37) (.t 38)), (.some ((.some 35), .true)), [5, 6, 3], [37, 38, 35]⟩, ⟨(.some 40), (.ld (.some 2) (.t 39)), (.some ((.some 35), .true)), [7, 3], [39, 35]⟩, ⟨(.some 41), (.mv (.t 0)), (.some ((.some 35), .true)), [3], [0, 35]⟩, ⟨(.some 42), (.mv (.t 1)), (.some ((.some 35), .true)), [3], [1, 35]⟩, ⟨(.some 43), (.idx 63 2 (.t 41) (.t 42)), (.some ((.some 35), .true)), [9, 10, 3], [41, 42, 35]⟩, ⟨(.some 44), (.ld (.some 2) (.t 43)), (.some ((.some 35), .true)), [11, 3], [43, 35]⟩, ⟨(.some 45), (.callv (.t 36) [(.t 40), (.t 44)]), (.some ((.some 35), .true)), [4, 8, 12, 3, 3], [36, 40, 44, 35]⟩, ⟨(.some 46), (.bin .lss .o (.t 45) (.c (.int .i64 0))), (.some ((.some 35), .true)), [13, 3], [45, 35]⟩, ⟨(.some 47), (.pick (.t 35) (.t 46) (.c (.bool .false))), .none, [3, 14], [35, 46]⟩] .true), (.cond (.t 47) 2), .skip, (.exit 0), (.block 1),
    (.region [⟨(.some 48), (.mv (.t 12)), .none, [], []⟩, ⟨(.some 49), (.bin .add .o (.t 48) (.c (.int .i64 1))), .none, [], []⟩, ⟨(.some 12), (.mv (.t 49)), .none, [], []⟩] .false), (.seq 11), (.block 2), .loop, (.seq 6), (.seq 2),
    (.region [⟨(.some 50), (.mv (.t 12)), .none, [], [12]⟩, ⟨(.some 51), (.mv (.t 13)), .none, [], [13]⟩, ⟨(.some 52), (.bin .leq .o (.t 50) (.t 51)), .none, [0, 1], [50, 51]⟩, ⟨(.some 53), (.mv (.t 52)), .none, [2], [52]⟩, ⟨(.some 54), (.mv (.t 4)), (.some ((.some 53), .true)), [3], [4, 53]⟩, ⟨(.some 55), (.mv (.t 0)), (.some ((.some 53), .true)), [3], [0, 53]⟩, ⟨(.some 56), (.mv (.t 13)), (.some ((.some 53), .true)), [3], [13, 53]⟩, ⟨(.some 57), (.idx 63 2 (.t 55) (.t 56)), (.some ((.some 53), .true)), [5, 6, 3], [55, 56, 53]⟩, ⟨(.some 58), (.ld (.some 2) (.t 57)), (.some ((.some 53), .true)), [7, 3], [57, 53]⟩, ⟨(.some 59), (.mv (.t 0)), (.some ((.some 53), .true)), [3], [0, 53]⟩, ⟨(.some 60), (.mv (.t 1)), (.some ((.some 53), .true)), [3], [1, 53]⟩, ⟨(.some 61), (.idx 63 2 (.t 59) (.t 60)), (.some ((.some 53), .true)), [9, 10, 3], [59, 60, 53]⟩, ⟨(.some 62), (.ld (.some 2) (.t 61)), (.some ((.some 53), .true)), [11, 3], [61, 53]⟩, ⟨(.some 63), (.callv (.t 54) [(.t 58), (.t 62)]), (.some ((.some 53), .true)), [4, 8, 12, 3, 3], [54, 58, 62, 53]⟩, ⟨(.some 64), (.bin .lss .o (.t 63) (.c (.int .i64 0))), (.some ((.some 53), .true)), [13, 3], [63, 53]⟩, ⟨(.some 65), (.un .not (.t 64)), (.some ((.some 53), .true)), [14, 3], [64, 53]⟩, ⟨(.some 66), (.pick (.t 53) (.t 65) (.c (.bool .false))), .none, [3, 15], [53, 65]⟩] .true), (.cond (.t 66) 2), .skip, (.exit 2), (.block 3),
    (.region [⟨(.some 67), (.mv (.t 13)), .none, [], []⟩, ⟨(.some 68), (.bin .sub .o (.t 67) (.c (.int .i64 1))), .none, [], []⟩, ⟨(.some 13), (.mv (.t 68)), .none, [], []⟩] .false), (.seq 10), (.seq 2),
    (.region [⟨(.some 69), (.mv (.t 12)), .none, [], []⟩, ⟨(.some 70), (.mv (.t 13)), .none, [], []⟩, ⟨(.some 71), (.bin .gtr .o (.t 69) (.t 70)), .none, [], []⟩] .false), (.cond (.t 71) 6), (.seq 2),
    (.region [⟨(.some 72), (.mv (.t 0)), .none, [], [0]⟩, ⟨(.some 73), (.mv (.t 13)), .none, [], [13]⟩, ⟨(.some 74), (.mv (.t 0)), .none, [], [0]⟩, ⟨(.some 75), (.mv (.t 1)), .none, [], [1]⟩, ⟨(.some 76), (.mv (.t 0)), .none, [], [0]⟩, ⟨(.some 77), (.mv (.t 1)), .none, [], [1]⟩, ⟨(.some 78), (.idx 63 2 (.t 76) (.t 77)), .none, [4, 5], [76, 77]⟩, ⟨(.some 79), (.ld (.some 2) (.t 78)), .none, [6], [78]⟩, ⟨(.some 80), (.mv (.t 0)), .none, [], [0]⟩, ⟨(.some 81), (.mv (.t 13)), .none, [], [13]⟩, ⟨(.some 82), (.idx 63 2 (.t 80) (.t 81)), .none, [8, 9], [80, 81]⟩, ⟨(.some 83), (.ld (.some 2) (.t 82)), .none, [10], [82]⟩, ⟨(.some 84), (.idx 63 2 (.t 72) (.t 73)), .none, [0, 1, 0, 1, 4, 5, 6, 7, 11], [72, 73]⟩, ⟨.none, (.st 2 (.t 84) (.t 79)), .none, [12, 7, 0, 1, 4, 5, 6, 7, 11], [84, 79]⟩, ⟨(.some 85), (.idx 63 2 (.t 74) (.t 75)), .none, [2, 3, 0, 1, 2, 3, 4, 5, 6, 7, 8, 9, 10, 11, 12, 13], [74, 75]⟩, ⟨.none, (.st 2 (.t 85) (.t 83)), .none, [14, 11, 13, 0, 1, 2, 3, 4, 5, 6, 7, 8, 9, 10, 11, 12, 13], [85, 83]⟩] .true), (.seq 2),
    (.region [⟨(.some 86), (.mv (.t 13)), .none, [], []⟩, ⟨(.some 10), (.mv (.t 86)), .none, [], []⟩, ⟨(.some 11), (.mv (.c (.bool .true))), .none, [], []⟩] .false), .ret, .skip, (.seq 2),
    (.region [⟨(.some 87), (.mv (.t 0)), .none, [], [0]⟩, ⟨(.some 88), (.mv (.t 12)), .none, [], [12]⟩, ⟨(.some 89), (.mv (.t 0)), .none, [], [0]⟩, ⟨(.some 90), (.mv (.t 13)), .none, [], [13]⟩, ⟨(.some 91), (.mv (.t 0)), .none, [], [0]⟩, ⟨(.some 92), (.mv (.t 13)), .none, [], [13]⟩, ⟨(.some 93), (.idx 63 2 (.t 91) (.t 92)), .none, [4, 5], [91, 92]⟩, ⟨(.some 94), (.ld (.some 2) (.t 93)), .none, [6], [93]⟩, ⟨(.some 95), (.mv (.t 0)), .none, [], [0]⟩, ⟨(.some 96), (.mv (.t 12)), .none, [], [12]⟩, ⟨(.some 97), (.idx 63 2 (.t 95) (.t 96)), .none, [8, 9], [95, 96]⟩, ⟨(.some 98), (.ld (.some 2) (.t 97)), .none, [10], [97]⟩, ⟨(.some 99), (.idx 63 2 (.t 87) (.t 88)), .none, [0, 1, 0, 1, 4, 5, 6, 7, 11], [87, 88]⟩, ⟨.none, (.st 2 (.t 99) (.t 94)), .none, [12, 7, 0, 1, 4, 5, 6, 7, 11], [99, 94]⟩, ⟨(.some 100), (.idx 63 2 (.t 89) (.t 90)), .none, [2, 3, 0, 1, 2, 3, 4, 5, 6, 7, 8, 9, 10, 11, 12, 13], [89, 90]⟩, ⟨.none, (.st 2 (.t 100) (.t 98)), .none, [14, 11, 13, 0, 1, 2, 3, 4, 5, 6, 7, 8, 9, 10, 11, 12, 13], [100, 98]⟩] .true), (.seq 2),
    (.region [⟨(.some 101), (.mv (.t 12)), .none, [], []⟩, ⟨(.some 102), (.bin .add .o (.t 101) (.c (.int .i64 1))), .none, [], []⟩, ⟨(.some 12), (.mv (.t 102)), .none, [], []⟩] .false), (.seq 2),
    (.region [⟨(.some 103), (.mv (.t 13)), .none, [], []⟩, ⟨(.some 104), (.bin .sub .o (.t 103) (.c (.int .i64 1))), .none, [], []⟩, ⟨(.some 13), (.mv (.t 104)), .none, [], []⟩] .false), (.seq 37), (.block 4), .loop, (.block 5), (.seq 11), (.block 6), .loop, (.seq 6), (.seq 2),
    (.region [⟨(.some 105), (.mv (.t 12)), .none, [], [12]⟩, ⟨(.some 106), (.mv (.t 13)), .none, [], [13]⟩, ⟨(.some 107), (.bin .leq .o (.t 105) (.t 106)), .none, [0, 1], [105, 106]⟩, ⟨(.some 108), (.mv (.t 107)), .none, [2], [107]⟩, ⟨(.some 109), (.mv (.t 4)), (.some ((.some 108), .true)), [3], [4, 108]⟩, ⟨(.some 110), (.mv (.t 0)), (.some ((.some 108), .true)), [3], [0, 108]⟩, ⟨(.some 111), (.mv (.t 12)), (.some ((.some 108), .true)), [3], [12, 108]⟩, ⟨(.some 112), (.idx 63 2 (.t 110) (.t 111)), (.some ((.some 108), .true)), [5, 6, 3], [110, 111, 108]⟩, ⟨(.some 113), (.ld (.some 2) (.t 112)), (.some ((.some 108), .true)), [7, 3], [112, 108]⟩, ⟨(.some 114), (.mv (.t 0)), (.some ((.some 108), .true)), [3], [0, 108]⟩, ⟨(.some 115), (.mv (.t 1)), (.some ((.some 108), .true)), [3], [1, 108]⟩, ⟨(.some 116), (.idx 63 2 (.t 114) (.t 115)), (.some ((.some 108), .true)), [9, 10, 3], [114, 115, 108]⟩, ⟨(.some 117), (.ld (.some 2) (.t 116)), (.some ((.some 108), .true)), [11, 3], [116, 108]⟩, ⟨(.some 118), (.callv (.t 109) [(.t 113), (.t 117)]), (.some ((.some 108), .true)), [4, 8, 12, 3, 3], [109, 113, 117, 108]⟩, ⟨(.some 119), (.bin .lss .o (.t 118) (.c (.int .i64 0))), (.some ((.some 108), .true)), [13, 3], [118, 108]⟩, ⟨(.some 120), (.pick (.t 108) (.t 119) (.c (.bool .false))), .none, [3, 14], [108, 119]⟩] .true), (.cond (.t 120) 2), .skip, (.exit 6), (.block 7),
    (.region [⟨(.some 121), (.mv (.t 12)), .none, [], []⟩, ⟨(.some 122), (.bin .add .o (.t 121) (.c (.int .i64 1))), .none, [], []⟩, ⟨(.some 12), (.mv (.t 122)), .none, [], []⟩] .false), (.seq 11), (.block 8), .loop, (.seq 6), (.seq 2),
    (.region [⟨(.some 123), (.mv (.t 12)), .none, [], [12]⟩, ⟨(.some 124), (.mv (.t 13)), .none, [], [13]⟩, ⟨(.some 125), (.bin .leq .o (.t 123) (.t 124)), .none, [0, 1], [123, 124]⟩, ⟨(.some 126), (.mv (.t 125)), .none, [2], [125]⟩, ⟨(.some 127), (.mv (.t 4)), (.some ((.some 126), .true)), [3], [4, 126]⟩, ⟨(.some 128), (.mv (.t 0)), (.some ((.some 126), .true)), [3], [0, 126]⟩, ⟨(.some 129), (.mv (.t 13)), (.some ((.some 126), .true)), [3], [13, 126]⟩, ⟨(.some 130), (.idx 63 2 (.t 128) (.t 129)), (.some ((.some 126), .true)), [5, 6, 3], [128, 129, 126]⟩, ⟨(.some 131), (.ld (.some 2) (.t 130)), (.some ((.some 126), .true)), [7, 3], [130, 126]⟩, ⟨(.some 132), (.mv (.t 0)), (.some ((.some 126), .true)), [3], [0, 126]⟩, ⟨(.some 133), (.mv (.t 1)), (.some ((.some 126), .true)), [3], [1, 126]⟩, ⟨(.some 134), (.idx 63 2 (.t 132) (.t 133)), (.some ((.some 126), .true)), [9, 10, 3], [132, 133, 126]⟩, ⟨(.some 135), (.ld (.some 2) (.t 134)), (.some ((.some 126), .true)), [11, 3], [134, 126]⟩, ⟨(.some 136), (.callv (.t 127) [(.t 131), (.t 135)]), (.some ((.some 126), .true)), [4, 8, 12, 3, 3], [127, 131, 135, 126]⟩, ⟨(.some 137), (.bin .lss .o (.t 136) (.c (.int .i64 0))), (.some ((.some 126), .true)), [13, 3], [136, 126]⟩, ⟨(.some 138), (.un .not (.t 137)), (.some ((.some 126), .true)), [14, 3], [137, 126]⟩, ⟨(.some 139), (.pick (.t 126) (.t 138) (.c (.bool .false))), .none, [3, 15], [126, 138]⟩] .true), (.cond (.t 139) 2), .skip, (.exit 8), (.block 9),
    (.region [⟨(.some 140), (.mv (.t 13)), .none, [], []⟩, ⟨(.some 141), (.bin .sub .o (.t 140) (.c (.int .i64 1))), .none, [], []⟩, ⟨(.some 13), (.mv (.t 141)), .none, [], []⟩] .false), (.seq 6), (.seq 2),
    (.region [⟨(.some 142), (.mv (.t 12)), .none, [], []⟩, ⟨(.some 143), (.mv (.t 13)), .none, [], []⟩, ⟨(.some 144), (.bin .gtr .o (.t 142) (.t 143)), .none, [], []⟩] .false), (.cond (.t 144) 2), (.exit 4), .skip, (.seq 2),
    (.region [⟨(.some 145), (.mv (.t 0)), .none, [], [0]⟩, ⟨(.some 146), (.mv (.t 12)), .none, [], [12]⟩, ⟨(.some 147), (.mv (.t 0)), .none, [], [0]⟩, ⟨(.some 148), (.mv (.t 13)), .none, [], [13]⟩, ⟨(.some 149), (.mv (.t 0)), .none, [], [0]⟩, ⟨(.some 150), (.mv (.t 13)), .none, [], [13]⟩, ⟨(.some 151), (.idx 63 2 (.t 149) (.t 150)), .none, [4, 5], [149, 150]⟩, ⟨(.some 152), (.ld (.some 2) (.t 151)), .none, [6], [151]⟩, ⟨(.some 153), (.mv (.t 0)), .none, [], [0]⟩, ⟨(.some 154), (.mv (.t 12)), .none, [], [12]⟩, ⟨(.some 155), (.idx 63 2 (.t 153) (.t 154)), .none, [8, 9], [153, 154]⟩, ⟨(.some 156), (.ld (.some 2) (.t 155)), .none, [10], [155]⟩, ⟨(.some 157), (.idx 63 2 (.t 145) (.t 146)), .none, [0, 1, 0, 1, 4, 5, 6, 7, 11], [145, 146]⟩, ⟨.none, (.st 2 (.t 157) (.t 152)), .none, [12, 7, 0, 1, 4, 5, 6, 7, 11], [157, 152]⟩, ⟨(.some 158), (.idx 63 2 (.t 147) (.t 148)), .none, [2, 3, 0, 1, 2, 3, 4, 5, 6, 7, 8, 9, 10, 11, 12, 13], [147, 148]⟩, ⟨.none, (.st 2 (.t 158) (.t 156)), .none, [14, 11, 13, 0, 1, 2, 3, 4, 5, 6, 7, 8, 9, 10, 11, 12, 13], [158, 156]⟩] .true), (.seq 2),
    (.region [⟨(.some 159), (.mv (.t 12)), .none, [], []⟩, ⟨(.some 160), (.bin .add .o (.t 159) (.c (.int .i64 1))), .none, [], []⟩, ⟨(.some 12), (.mv (.t 160)), .none, [], []⟩] .false),
    (.region [⟨(.some 161), (.mv (.t 13)), .none, [], []⟩, ⟨(.some 162), (.bin .sub .o (.t 161) (.c (.int .i64 1))), .none, [], []⟩, ⟨(.some 13), (.mv (.t 162)), .none, [], []⟩] .false), (.seq 2),
    (.region [⟨(.some 163), (.mv (.t 0)), .none, [], [0]⟩, ⟨(.some 164), (.mv (.t 13)), .none, [], [13]⟩, ⟨(.some 165), (.mv (.t 0)), .none, [], [0]⟩, ⟨(.some 166), (.mv (.t 1)), .none, [], [1]⟩, ⟨(.some 167), (.mv (.t 0)), .none, [], [0]⟩, ⟨(.some 168), (.mv (.t 1)), .none, [], [1]⟩, ⟨(.some 169), (.idx 63 2 (.t 167) (.t 168)), .none, [4, 5], [167, 168]⟩, ⟨(.some 170), (.ld (.some 2) (.t 169)), .none, [6], [169]⟩, ⟨(.some 171), (.mv (.t 0)), .none, [], [0]⟩, ⟨(.some 172), (.mv (.t 13)), .none, [], [13]⟩, ⟨(.some 173), (.idx 63 2 (.t 171) (.t 172)), .none, [8, 9], [171, 172]⟩, ⟨(.some 174), (.ld (.some 2) (.t 173)), .none, [10], [173]⟩, ⟨(.some 175), (.idx 63 2 (.t 163) (.t 164)), .none, [0, 1, 0, 1, 4, 5, 6, 7, 11], [163, 164]⟩, ⟨.none, (.st 2 (.t 175) (.t 170)), .none, [12, 7, 0, 1, 4, 5, 6, 7, 11], [175, 170]⟩, ⟨(.some 176), (.idx 63 2 (.t 165) (.t 166)), .none, [2, 3, 0, 1, 2, 3, 4, 5, 6, 7, 8, 9, 10, 11, 12, 13], [165, 166]⟩, ⟨.none, (.st 2 (.t 176) (.t 174)), .none, [14, 11, 13, 0, 1, 2, 3, 4, 5, 6, 7, 8, 9, 10, 11, 12, 13], [176, 174]⟩] .true), (.seq 2),
    (.region [⟨(.some 177), (.mv (.t 13)), .none, [], []⟩, ⟨(.some 10), (.mv (.t 177)), .none, [], []⟩, ⟨(.some 11), (.mv (.c (.bool .false))), .none, [], []⟩] .false), .ret]
theorem F83_at : F83.at Try.prog 83 Try.f83 := ⟨Try.func83, by kernel_rfl, by kernel_rfl, by kernel_rfl, by kernel_rfl, by kernel_rfl⟩

-- "math/bits.Len32" res .true
def F84 : AFn where
  np := 1
  nt := 19
  res := [(.t 2)]
  tab := [(.seq 2),
    (.region [⟨(.some 2), (.mv (.c (.int .i64 0))), .none, [], []⟩] .false), (.seq 8), (.seq 2),
    (.region [⟨(.some 3), (.mv (.t 0)), .none, [], []⟩, ⟨(.some 4), (.bin .geq .o (.t 3) (.c (.int .u32 65536))), .none, [], []⟩] .false), (.cond (.t 4) 4), (.seq 2),
    (.region [⟨(.some 5), (.mv (.t 0)), .none, [], []⟩, ⟨(.some 6), (.bin .shr .o (.t 5) (.c (.int .u64 16))), .none, [], []⟩, ⟨(.some 0), (.mv (.t 6)), .none, [], []⟩] .false),
    (.region [⟨(.some 2), (.mv (.c (.int .i64 16))), .none, [], []⟩] .false), .skip, (.seq 8), (.seq 2),
    (.region [⟨(.some 7), (.mv (.t 0)), .none, [], []⟩, ⟨(.some 8), (.bin .geq .o (.t 7) (.c (.int .u32 256))), .none, [], []⟩] .false), (.cond (.t 8) 4), (.seq 2),
    (.region [⟨(.some 9), (.mv (.t 0)), .none, [], []⟩, ⟨(.some 10), (.bin .shr .o (.t 9) (.c (.int .u64 8))), .none, [], []⟩, ⟨(.some 0), (.mv (.t 10)), .none, [], []⟩] .false),
    (.region [⟨(.some 11), (.mv (.t 2)), .none, [], []⟩, ⟨(.some 12), (.bin .add .o (.t 11) (.c (.int .i64 8))), .none, [], []⟩, ⟨(.some 2), (.mv (.t 12)), .none, [], []⟩] .false), .skip, (.seq 2),
    (.region [⟨(.some 13), (.mv (.t 2)), .none, [], []⟩, ⟨(.some 14), (.mv (.t 0)), .none, [], []⟩, ⟨(.some 15), (.cvt .u8 (.t 14)), .none, [], []⟩, ⟨(.some 16), (.idxs (.c (.str ⟨#[0, 1, 2, 2, 3, 3, 3, 3, 4, 4, 4, 4, 4, 4, 4, 4, 5, 5, 5, 5, 5, 5, 5, 5, 5, 5, 5, 5, 5, 5, 5, 5, 6, 6, 6, 6, 6, 6, 6, 6, 6, 6, 6, 6, 6, 6, 6, 6, 6, 6, 6, 6, 6, 6, 6, 6, 6, 6, 6, 6, 6, 6, 6, 6, 7, 7, 7, 7, 7, 7, 7, 7, 7, 7, 7, 7, 7, 7, 7, 7, 7, 7, 7, 7, 7, 7, 7, 7, 7, 7, 7, 7, 7, 7, 7, 7, 7, 7, 7, 7, 7, 7, 7, 7, 7, 7, 7, 7, 7, 7, 7, 7, 7, 7, 7, 7, 7, 7, 7, 7, 7, 7, 7, 7, 7, 7, 7, 7, 8, 8, 8, 8, 8, 8, 8, 8, 8, 8, 8, 8, 8, 8, 8, 8, 8, 8, 8, 8, 8, 8, 8, 8, 8, 8, 8, 8, 8, 8, 8, 8, 8, 8, 8, 8, 8, 8, 8, 8, 8, 8, 8, 8, 8, 8, 8, 8, 8, 8, 8, 8, 8, 8, 8, 8, 8, 8, 8, 8, 8, 8, 8, 8, 8, 8, 8, 8, 8, 8, 8, 8, 8, 8, 8, 8, 8, 8, 8, 8, 8, 8, 8, 8, 8, 8, 8, 8, 8, 8, 8, 8, 8, 8, 8, 8, 8, 8, 8, 8, 8, 8, 8, 8, 8, 8, 8, 8, 8, 8, 8, 8, 8, 8, 8, 8, 8, 8, 8, 8, 8, 8, 8, 8, 8, 8, 8, 8]⟩)) (.t 15)), .none, [], []⟩, ⟨(.some 17), (.cvt .i64 (.t 16)), .none, [], []⟩, ⟨(.some 18), (.bin .add .o (.t 13) (.t 17)), .none, [], []⟩, ⟨(.some 2), (.mv (.t 18)), .none, [], []⟩] .false), .ret]
theorem F84_at : F84.at Try.prog 84 Try.f84 := ⟨Try.func84, by kernel_rfl, by kernel_rfl, by kernel_rfl, by kernel_rfl, by kernel_rfl⟩

-- "math/bits.Len64" res .true
def F85 : AFn where
  np := 1
  nt := 25
  res := [(.t 2)]
  tab := [(.seq 2),
    (.region [⟨(.some 2), (.mv (.c (.int .i64 0))), .none, [], []⟩] .false), (.seq 8), (.seq 2),
    (.region [⟨(.some 3), (.mv (.t 0)), .none, [], []⟩, ⟨(.some 4), (.bin .geq .o (.t 3) (.c (.int .u64 4294967296))), .none, [], []⟩] .false), (.cond (.t 4) 4), (.seq 2),
    (.region [⟨(.some 5), (.mv (.t 0)), .none, [], []⟩, ⟨(.some 6), (.bin .shr .o (.t 5) (.c (.int .u64 32))), .none, [], []⟩, ⟨(.some 0), (.mv (.t 6)), .none, [], []⟩] .false),
    (.region [⟨(.some 2), (.mv (.c (.int .i64 32))), .none, [], []⟩] .false), .skip, (.seq 8), (.seq 2),
    (.region [⟨(.some 7), (.mv (.t 0)), .none, [], []⟩, ⟨(.some 8), (.bin .geq .o (.t 7) (.c (.int .u64 65536))), .none, [], []⟩] .false), (.cond (.t 8) 4), (.seq 2),
    (.region [⟨(.some 9), (.mv (.t 0)), .none, [], []⟩, ⟨(.some 10), (.bin .shr .o (.t 9) (.c (.int .u64 16))), .none, [], []⟩, ⟨(.some 0), (.mv (.t 10)), .none, [], []⟩] .false),
    (.region [⟨(.some 11), (.mv (.t 2)), .none, [], []⟩, ⟨(.some 12), (.bin .add .o (.t 11) (.c (.int .i64 16))), .none, [], []⟩, ⟨(.some 2), (.mv (.t 12)), .none, [], []⟩] .false), .skip, (.seq 8), (.seq 2),
    (.region [⟨(.some 13), (.mv (.t 0)), .none, [], []⟩, ⟨(.some 14), (.bin .geq .o (.t 13) (.c (.int .u64 256))), .none, [], []⟩] .false), (.cond (.t 14) 4), (.seq 2),
    (.region [⟨(.some 15), (.mv (.t 0)), .none, [], []⟩, ⟨(.some 16), (.bin .shr .o (.t 15) (.c (.int .u64 8))), .none, [], []⟩, ⟨(.some 0), (.mv (.t 16)), .none, [], []⟩] .false),
    (.region [⟨(.some 17), (.mv (.t 2)), .none, [], []⟩, ⟨(.some 18), (.bin .add .o (.t 17) (.c (.int .i64 8))), .none, [], []⟩, ⟨(.some 2), (.mv (.t 18)), .none, [], []⟩] .false), .skip, (.seq 2),
    (.region [⟨(.some 19), (.mv (.t 2)), .none, [], []⟩, ⟨(.some 20), (.mv (.t 0)), .none, [], []⟩, ⟨(.some 21), (.cvt .u8 (.t 20)), .none, [], []⟩, ⟨(.some 22), (.idxs (.c (.str ⟨#[0, 1, 2, 2, 3, 3, 3, 3, 4, 4, 4, 4, 4, 4, 4, 4, 5, 5, 5, 5, 5, 5, 5, 5, 5, 5, 5, 5, 5, 5, 5, 5, 6, 6, 6, 6, 6, 6, 6, 6, 6, 6, 6, 6, 6, 6, 6, 6, 6, 6, 6, 6, 6, 6, 6, 6, 6, 6, 6, 6, 6, 6, 6, 6, 7, 7, 7, 7, 7, 7, 7, 7, 7, 7, 7, 7, 7, 7, 7, 7, 7, 7, 7, 7, 7, 7, 7, 7, 7, 7, 7, 7, 7, 7, 7, 7, 7, 7, 7, 7, 7, 7, 7, 7, 7, 7, 7, 7, 7, 7, 7, 7, 7, 7, 7, 7, 7, 7, 7, 7, 7, 7, 7, 7, 7, 7, 7, 7, 8, 8, 8, 8, 8, 8, 8, 8, 8, 8, 8, 8, 8, 8, 8, 8, 8, 8, 8, 8, 8, 8, 8, 8, 8, 8, 8, 8, 8, 8, 8, 8, 8, 8, 8, 8, 8, 8, 8, 8, 8, 8, 8, 8, 8, 8, 8, 8, 8, 8, 8, 8, 8, 8, 8, 8, 8, 8, 8, 8, 8, 8, 8, 8, 8, 8, 8, 8, 8, 8, 8, 8, 8, 8, 8, 8, 8, 8, 8, 8, 8, 8, 8, 8, 8, 8, 8, 8, 8, 8, 8, 8, 8, 8, 8, 8, 8, 8, 8, 8, 8, 8, 8, 8, 8, 8, 8, 8, 8, 8, 8, 8, 8, 8, 8, 8, 8, 8, 8, 8, 8, 8, 8, 8, 8, 8, 8, 8]⟩)) (.t 21)), .none, [], []⟩, ⟨(.some 23), (.cvt .i64 (.t 22)), .none, [], []⟩, ⟨(.some 24), (.bin .add .o (.t 19) (.t 23)), .none, [], []⟩, ⟨(.some 2), (.mv (.t 24)), .none, [], []⟩] .false), .ret]
theorem F85_at : F85.at Try.prog 85 Try.f85 := ⟨Try.func85, by kernel_rfl, by kernel_rfl, by kernel_rfl, by kernel_rfl, by kernel_rfl⟩

-- "slices.siftDownCmpFunc[signalbox/spans.Span]" res .true
def F98 : AFn where
  np := 5
  nt := 82
  res := []
  tab := [(.seq 2),
    (.region [⟨(.some 12), (.mv (.t 1)), .none, [], []⟩, ⟨(.some 10), (.mv (.t 12)), .none, [], []⟩] .false), (.block 0), .loop, (.block 1), (.seq 2),
    (.region [⟨(.some 13), (.mv (.t 10)), .none, [], []⟩, ⟨(.some 14), (.bin .mul .o (.c (.int .i64 2)) (.t 13)), .none, [], []⟩, ⟨(.some 15), (.bin .add .o (.t 14) (.c (.int .i64 1))), .none, [], []⟩, ⟨(.some 11), (.mv (.t 15)), .none, [], []⟩] .false), (.seq 6), (.seq 2),
    (.region [⟨(.some 16), (.mv (.t 11)), .none, [], []⟩, ⟨(.some 17), (.mv (.t 2)), .none, [], []⟩, ⟨(.some 18), (.bin .geq .o (.t 16) (.t 17)), .none, [], []⟩] .false), (.cond (.t 18) 2), (.exit 0), .skip, (.seq 6), (.seq 2),
    (.region [⟨(.some 19), (.mv (.t 11)), .none, [], [11]⟩, ⟨(.some 20), (.bin .add .o (.t 19) (.c (.int .i64 1))), .none, [0], [19]⟩, ⟨(.some 21), (.mv (.t 2)), .none, [], [2]⟩, ⟨(.some 22), (.bin .lss .o (.t 20) (.t 21)), .none, [1, 2], [20, 21]⟩, ⟨(.some 23), (.mv (.t 22)), .none, [3], [22]⟩, ⟨(.some 24), (.mv (.t 4)), (.some ((.some 23), .true)), [4], [4, 23]⟩, ⟨(.some 25), (.mv (.t 0)), (.some ((.some 23), .true)), [4], [0, 23]⟩, ⟨(.some 26), (.mv (.t 3)), (.some ((.some 23), .true)), [4], [3, 23]⟩, ⟨(.some 27), (.mv (.t 11)), (.some ((.some 23), .true)), [4], [11, 23]⟩, ⟨(.some 28), (.bin .add .o (.t 26) (.t 27)), (.some ((.some 23), .true)), [7, 8, 4], [26, 27, 23]⟩, ⟨(.some 29), (.idx 63 2 (.t 25) (.t 28)), (.some ((.some 23), .true)), [6, 9, 4], [25, 28, 23]⟩, ⟨(.some 30), (.ld (.some 2) (.t 29)), (.some ((.some 23), .true)), [10, 4], [29, 23]⟩, ⟨(.some 31), (.mv (.t 0)), (.some ((.some 23), .true)), [4], [0, 23]⟩, ⟨(.some 32), (.mv (.t 3)), (.some ((.some 23), .true)), [4], [3, 23]⟩, ⟨(.some 33), (.mv (.t 11)), (.some ((.some 23), .true)), [4], [11, 23]⟩, ⟨(.some 34), (.bin .add .o (.t 32) (.t 33)), (.some ((.some 23), .true)), [13, 14, 4], [32, 33, 23]⟩, ⟨(.some 35), (.bin .add .o (.t 34) (.c (.int .i64 1))), (.some ((.some 23), .true)), [15, 4], [34, 23]⟩, ⟨(.some 36), (.idx 63 2 (.t 31) (.t 35)), (.some ((.some 23), .true)), [12, 16, 4], [31, 35, 23]⟩, ⟨(.some 37), (.ld (.some 2) (.t 36)), (.some ((.some 23), .true)), [17, 4], [36, 23]⟩, ⟨(.some 38), (.callv (.t 24) [(.t 30), (.t 37)]), (.some ((.some 23), .true)), [5, 11, 18, 4, 4], [24, 30, 37, 23]⟩, ⟨(.some 39), (.bin .lss .o (.t 38) (.c (.int .i64 0))), (.some ((.some 23), .true)), [19, 4], [38, 23]⟩, ⟨(.some 40), (.pick (.t 23) (.t 39) (.c (.bool .false))), .none, [4, 20], [23, 39]⟩] .true), (.cond (.t 40) 2),
    (.region [⟨(.some 41), (.mv (.t 11)), .none, [], []⟩, ⟨(.some 42), (.bin .add .o (.t 41) (.c (.int .i64 1))), .none, [], []⟩, ⟨(.some 11), (.mv (.t 42)), .none, [], []⟩] .false), .skip, (.seq 6), (.seq 2),
    (.region [⟨(.some 43), (.mv (.t 4)), .none, [], [4]⟩, ⟨(.some 44), (.mv (.t 0)), .none, [], [0]⟩, ⟨(.some 45), (.mv (.t 3)), .none, [], [3]⟩, ⟨(.some 46), (.mv (.t 10)), .none, [], [10]⟩, ⟨(.some 47), (.bin .add .o (.t 45) (.t 46)), .none, [2, 3], [45, 46]⟩, ⟨(.some 48), (.idx 63 2 (.t 44) (.t 47)), .none, [1, 4], [44, 47]⟩, ⟨(.some 49), (.ld (.some 2) (.t 48)), .none, [5], [48]⟩, ⟨(.some 50), (.mv (.t 0)), .none, [], [0]⟩, ⟨(.some 51), (.mv (.t 3)), .none, [], [3]⟩, ⟨(.some 52), (.mv (.t 11)), .none, [], [11]⟩, ⟨(.some 53), (.bin .add .o (.t 51) (.t 52)), .none, [8, 9], [51, 52]⟩, ⟨(.some 54), (.idx 63 2 (.t 50) (.t 53)), .none, [7, 10], [50, 53]⟩, ⟨(.some 55), (.ld (.some 2) (.t 54)), .none, [11], [54]⟩, ⟨(.some 56), (.callv (.t 43) [(.t 49), (.t 55)]), .none, [0, 6, 12], [43, 49, 55]⟩, ⟨(.some 57), (.bin .lss .o (.t 56) (.c (.int .i64 0))), .none, [13], [56]⟩, ⟨(.some 58), (.un .not (.t 57)), .none, [14], [57]⟩] .true), (.cond (.t 58) 2), .ret, .skip, (.seq 2),
    (.region [⟨(.some 59), (.mv (.t 0)), .none, [], [0]⟩, ⟨(.some 60), (.mv (.t 3)), .none, [], [3]⟩, ⟨(.some 61), (.mv (.t 10)), .none, [], [10]⟩, ⟨(.some 62), (.bin .add .o (.t 60) (.t 61)), .none, [1, 2], [60, 61]⟩, ⟨(.some 63), (.mv (.t 0)), .none, [], [0]⟩, ⟨(.some 64), (.mv (.t 3)), .none, [], [3]⟩, ⟨(.some 65), (.mv (.t 11)), .none, [], [11]⟩, ⟨(.some 66), (.bin .add .o (.t 64) (.t 65)), .none, [5, 6], [64, 65]⟩, ⟨(.some 67), (.mv (.t 0)), .none, [], [0]⟩, ⟨(.some 68), (.mv (.t 3)), .none, [], [3]⟩, ⟨(.some 69), (.mv (.t 11)), .none, [], [11]⟩, ⟨(.some 70), (.bin .add .o (.t 68) (.t 69)), .none, [9, 10], [68, 69]⟩, ⟨(.some 71), (.idx 63 2 (.t 67) (.t 70)), .none, [8, 11], [67, 70]⟩, ⟨(.some 72), (.ld (.some 2) (.t 71)), .none, [12], [71]⟩, ⟨(.some 73), (.mv (.t 0)), .none, [], [0]⟩, ⟨(.some 74), (.mv (.t 3)), .none, [], [3]⟩, ⟨(.some 75), (.mv (.t 10)), .none, [], [10]⟩, ⟨(.some 76), (.bin .add .o (.t 74) (.t 75)), .none, [15, 16], [74, 75]⟩, ⟨(.some 77), (.idx 63 2 (.t 73) (.t 76)), .none, [14, 17], [73, 76]⟩, ⟨(.some 78), (.ld (.some 2) (.t 77)), .none, [18], [77]⟩, ⟨(.some 79), (.idx 63 2 (.t 59) (.t 62)), .none, [0, 3, 0, 1, 2, 3, 8, 9, 10, 11, 12, 13, 19], [59, 62]⟩, ⟨.none, (.st 2 (.t 79) (.t 72)), .none, [20, 13, 0, 1, 2, 3, 8, 9, 10, 11, 12, 13, 19], [79, 72]⟩, ⟨(.some 80), (.idx 63 2 (.t 63) (.t 66)), .none, [4, 7, 0, 1, 2, 3, 4, 5, 6, 7, 8, 9, 10, 11, 12, 13, 14, 15, 16, 17, 18, 19, 20, 21], [63, 66]⟩, ⟨.none, (.st 2 (.t 80) (.t 78)), .none, [22, 19, 21, 0, 1, 2, 3, 4, 5, 6, 7, 8, 9, 10, 11, 12, 13, 14, 15, 16, 17, 18, 19, 20, 21], [80, 78]⟩] .true),
    (.region [⟨(.some 81), (.mv (.t 11)), .none, [], []⟩, ⟨(.some 10), (.mv (.t 81)), .none, [], []⟩] .false)]
theorem F98_at : F98.at Try.prog 98 Try.f98 := ⟨Try.func98, by kernel_rfl, by kernel_rfl, by kernel_rfl, by kernel_rfl, by kernel_rfl⟩

-- "slices.nextPowerOfTwo" res .true
def F99 : AFn where
  np := 1
  nt := 7
  res := [(.t 2)]
  tab := [(.seq 2),
    (.region [⟨(.some 2), (.mv (.c (.int .u64 0))), .none, [], []⟩] .false), (.seq 2),
    (.region [⟨(.some 3), (.mv (.t 0)), .none, [], []⟩, ⟨(.some 4), (.cvt .u64 (.t 3)), .none, [], []⟩, ⟨(.some 5), (.call 70 [(.t 4)]), .none, [], []⟩, ⟨(.some 6), (.bin .shl .o (.c (.int .u64 1)) (.t 5)), .none, [], []⟩, ⟨(.some 2), (.mv (.t 6)), .none, [], []⟩] .false), .ret]
theorem F99_at : F99.at Try.prog 99 Try.f99 := ⟨Try.func99, by kernel_rfl, by kernel_rfl, by kernel_rfl, by kernel_rfl, by kernel_rfl⟩

-- "(*slices.xorshift).Next" res .true
def F100 : AFn where
  np := 1
  nt := 33
  res := [(.t 2)]
  tab := [(.seq 2),
    (.region [⟨(.some 2), (.mv (.c (.int .u64 0))), .none, [], []⟩] .false), (.seq 2),
    (.region [⟨(.some 3), (.mv (.t 0)), .none, [], [0]⟩, ⟨(.some 4), (.nilc (.t 3)), .none, [0], [3]⟩, ⟨(.some 5), (.ld .none (.t 4)), .none, [1], [4]⟩, ⟨(.some 6), (.mv (.t 0)), .none, [], [0]⟩, ⟨(.some 7), (.nilc (.t 6)), .none, [3], [6]⟩, ⟨(.some 8), (.ld .none (.t 7)), .none, [4], [7]⟩, ⟨(.some 9), (.bin .shl .o (.t 8) (.c (.int .u64 13))), .none, [5], [8]⟩, ⟨(.some 10), (.bin .xor .o (.t 5) (.t 9)), .none, [2, 6], [5, 9]⟩, ⟨(.some 11), (.nilc (.t 3)), .none, [0, 0, 1, 2, 3, 4, 5, 6, 7], [3]⟩, ⟨.none, (.st 1 (.t 11) (.t 10)), .none, [8, 7, 0, 1, 2, 3, 4, 5, 6, 7], [11, 10]⟩] .true), (.seq 2),
    (.region [⟨(.some 12), (.mv (.t 0)), .none, [], [0]⟩, ⟨(.some 13), (.nilc (.t 12)), .none, [0], [12]⟩, ⟨(.some 14), (.ld .none (.t 13)), .none, [1], [13]⟩, ⟨(.some 15), (.mv (.t 0)), .none, [], [0]⟩, ⟨(.some 16), (.nilc (.t 15)), .none, [3], [15]⟩, ⟨(.some 17), (.ld .none (.t 16)), .none, [4], [16]⟩, ⟨(.some 18), (.bin .shr .o (.t 17) (.c (.int .u64 7))), .none, [5], [17]⟩, ⟨(.some 19), (.bin .xor .o (.t 14) (.t 18)), .none, [2, 6], [14, 18]⟩, ⟨(.some 20), (.nilc (.t 12)), .none, [0, 0, 1, 2, 3, 4, 5, 6, 7], [12]⟩, ⟨.none, (.st 1 (.t 20) (.t 19)), .none, [8, 7, 0, 1, 2, 3, 4, 5, 6, 7], [20, 19]⟩] .true), (.seq 2),
    (.region [⟨(.some 21), (.mv (.t 0)), .none, [], [0]⟩, ⟨(.some 22), (.nilc (.t 21)), .none, [0], [21]⟩, ⟨(.some 23), (.ld .none (.t 22)), .none, [1], [22]⟩, ⟨(.some 24), (.mv (.t 0)), .none, [], [0]⟩, ⟨(.some 25), (.nilc (.t 24)), .none, [3], [24]⟩, ⟨(.some 26), (.ld .none (.t 25)), .none, [4], [25]⟩, ⟨(.some 27), (.bin .shl .o (.t 26) (.c (.int .u64 17))), .none, [5], [26]⟩, ⟨(.some 28), (.bin .xor .o (.t 23) (.t 27)), .none, [2, 6], [23, 27]⟩, ⟨(.some 29), (.nilc (.t 21)), .none, [0, 0, 1, 2, 3, 4, 5, 6, 7], [21]⟩, ⟨.none, (.st 1 (.t 29) (.t 28)), .none, [8, 7, 0, 1, 2, 3, 4, 5, 6, 7], [29, 28]⟩] .true), (.seq 2),
    (.region [⟨(.some 30), (.mv (.t 0)), .none, [], []⟩, ⟨(.some 31), (.nilc (.t 30)), .none, [], []⟩, ⟨(.some 32), (.ld .none (.t 31)), .none, [], []⟩, ⟨(.some 2), (.mv (.t 32)), .none, [], []⟩] .false), .ret]
theorem F100_at : F100.at Try.prog 100 Try.f100 := ⟨Try.func100, by kernel_rfl, by kernel_rfl, by kernel_rfl, by kernel_rfl, by kernel_rfl⟩

-- "slices.medianAdjacentCmpFunc[signalbox/spans.Span]" res .true
def F101 : AFn where
  np := 4
  nt := 18
  res := [(.t 8)]
  tab := [(.seq 2),
    (.region [⟨(.some 8), (.mv (.c (.int .i64 0))), .none, [], []⟩] .false), (.seq 2),
    (.region [⟨(.some 9), (.mv (.t 0)), .none, [], []⟩, ⟨(.some 10), (.mv (.t 1)), .none, [], []⟩, ⟨(.some 11), (.bin .sub .o (.t 10) (.c (.int .i64 1))), .none, [], []⟩, ⟨(.some 12), (.mv (.t 1)), .none, [], []⟩, ⟨(.some 13), (.mv (.t 1)), .none, [], []⟩, ⟨(.some 14), (.bin .add .o (.t 13) (.c (.int .i64 1))), .none, [], []⟩, ⟨(.some 15), (.mv (.t 2)), .none, [], []⟩, ⟨(.some 16), (.mv (.t 3)), .none, [], []⟩, ⟨(.some 17), (.call 102 [(.t 9), (.t 11), (.t 12), (.t 14), (.t 15), (.t 16)]), .none, [], []⟩, ⟨(.some 8), (.mv (.t 17)), .none, [], []⟩] .false), .ret]
theorem F101_at : F101.at Try.prog 101 Try.f101 := ⟨Try.func101, by kernel_rfl, by kernel_rfl, by kernel_rfl, by kernel_rfl, by kernel_rfl⟩

-- "slices.medianCmpFunc[signalbox/spans.Span]" res .true
def F102 : AFn where
  np := 6
  nt := 41
  res := [(.t 12)]
  tab := [(.seq 2),
    (.region [⟨(.some 12), (.mv (.c (.int .i64 0))), .none, [], []⟩] .false), (.seq 2),
    (.region [⟨(.some 14), (.mv (.t 0)), .none, [], []⟩, ⟨(.some 15), (.mv (.t 1)), .none, [], []⟩, ⟨(.some 16), (.mv (.t 2)), .none, [], []⟩, ⟨(.some 17), (.mv (.t 4)), .none, [], []⟩, ⟨(.some 18), (.mv (.t 5)), .none, [], []⟩, ⟨(.some 19), (.call 108 [(.t 14), (.t 15), (.t 16), (.t 17), (.t 18)]), .none, [], []⟩, ⟨(.some 13), (.mv (.t 19)), .none, [], []⟩, ⟨(.some 20), (.ext (.t 13) 0), .none, [], []⟩, ⟨(.some 21), (.ext (.t 13) 1), .none, [], []⟩, ⟨(.some 1), (.mv (.t 20)), .none, [], []⟩, ⟨(.some 2), (.mv (.t 21)), .none, [], []⟩] .false), (.seq 2),
    (.region [⟨(.some 23), (.mv (.t 0)), .none, [], []⟩, ⟨(.some 24), (.mv (.t 2)), .none, [], []⟩, ⟨(.some 25), (.mv (.t 3)), .none, [], []⟩, ⟨(.some 26), (.mv (.t 4)), .none, [], []⟩, ⟨(.some 27), (.mv (.t 5)), .none, [], []⟩, ⟨(.some 28), (.call 108 [(.t 23), (.t 24), (.t 25), (.t 26), (.t 27)]), .none, [], []⟩, ⟨(.some 22), (.mv (.t 28)), .none, [], []⟩, ⟨(.some 29), (.ext (.t 22) 0), .none, [], []⟩, ⟨(.some 30), (.ext (.t 22) 1), .none, [], []⟩, ⟨(.some 2), (.mv (.t 29)), .none, [], []⟩, ⟨(.some 3), (.mv (.t 30)), .none, [], []⟩] .false), (.seq 2),
    (.region [⟨(.some 32), (.mv (.t 0)), .none, [], []⟩, ⟨(.some 33), (.mv (.t 1)), .none, [], []⟩, ⟨(.some 34), (.mv (.t 2)), .none, [], []⟩, ⟨(.some 35), (.mv (.t 4)), .none, [], []⟩, ⟨(.some 36), (.mv (.t 5)), .none, [], []⟩, ⟨(.some 37), (.call 108 [(.t 32), (.t 33), (.t 34), (.t 35), (.t 36)]), .none, [], []⟩, ⟨(.some 31), (.mv (.t 37)), .none, [], []⟩, ⟨(.some 38), (.ext (.t 31) 0), .none, [], []⟩, ⟨(.some 39), (.ext (.t 31) 1), .none, [], []⟩, ⟨(.some 1), (.mv (.t 38)), .none, [], []⟩, ⟨(.some 2), (.mv (.t 39)), .none, [], []⟩] .false), (.seq 2),
    (.region [⟨(.some 40), (.mv (.t 2)), .none, [], []⟩, ⟨(.some 12), (.mv (.t 40)), .none, [], []⟩] .false), .ret]
theorem F102_at : F102.at Try.prog 102 Try.f102 := ⟨Try.func102, by kernel_rfl, by kernel_rfl, by kernel_rfl, by kernel_rfl, by kernel_rfl⟩

-- "slices.order2CmpFunc[signalbox/spans.Span]" res .true
def F108 : AFn where
  np := 5
  nt := 32
  res := [(.t 10), (.t 11)]
  tab := [(.seq 2),
    (.region [⟨(.some 10), (.mv (.c (.int .i64 0))), .none, [], []⟩, ⟨(.some 11), (.mv (.c (.int .i64 0))), .none, [], []⟩] .false), (.seq 10), (.seq 2),
    (.region [⟨(.some 12), (.mv (.t 4)), .none, [], [4]⟩, ⟨(.some 13), (.mv (.t 0)), .none, [], [0]⟩, ⟨(.some 14), (.mv (.t 2)), .none, [], [2]⟩, ⟨(.some 15), (.idx 63 2 (.t 13) (.t 14)), .none, [1, 2], [13, 14]⟩, ⟨(.some 16), (.ld (.some 2) (.t 15)), .none, [3], [15]⟩, ⟨(.some 17), (.mv (.t 0)), .none, [], [0]⟩, ⟨(.some 18), (.mv (.t 1)), .none, [], [1]⟩, ⟨(.some 19), (.idx 63 2 (.t 17) (.t 18)), .none, [5, 6], [17, 18]⟩, ⟨(.some 20), (.ld (.some 2) (.t 19)), .none, [7], [19]⟩, ⟨(.some 21), (.callv (.t 12) [(.t 16), (.t 20)]), .none, [0, 4, 8], [12, 16, 20]⟩, ⟨(.some 22), (.bin .lss .o (.t 21) (.c (.int .i64 0))), .none, [9], [21]⟩] .true), (.cond (.t 22) 6), (.seq 2),
    (.region [⟨(.some 23), (.mv (.t 3)), .none, [], []⟩, ⟨(.some 24), (.nilc (.t 23)), .none, [], []⟩, ⟨(.some 25), (.ld .none (.t 24)), .none, [], []⟩, ⟨(.some 26), (.bin .add .o (.t 25) (.c (.int .i64 1))), .none, [], []⟩, ⟨(.some 27), (.nilc (.t 23)), .none, [], []⟩, ⟨.none, (.st 1 (.t 27) (.t 26)), .none, [], []⟩] .false), (.seq 2),
    (.region [⟨(.some 28), (.mv (.t 2)), .none, [], []⟩, ⟨(.some 29), (.mv (.t 1)), .none, [], []⟩, ⟨(.some 10), (.mv (.t 28)), .none, [], []⟩, ⟨(.some 11), (.mv (.t 29)), .none, [], []⟩] .false), .ret, .skip, (.seq 2),
    (.region [⟨(.some 30), (.mv (.t 1)), .none, [], []⟩, ⟨(.some 31), (.mv (.t 2)), .none, [], []⟩, ⟨(.some 10), (.mv (.t 30)), .none, [], []⟩, ⟨(.some 11), (.mv (.t 31)), .none, [], []⟩] .false), .ret]
theorem F108_at : F108.at Try.prog 108 Try.f108 := ⟨Try.func108, by kernel_rfl, by kernel_rfl, by kernel_rfl, by kernel_rfl, by kernel_rfl⟩

end Go.Ab
