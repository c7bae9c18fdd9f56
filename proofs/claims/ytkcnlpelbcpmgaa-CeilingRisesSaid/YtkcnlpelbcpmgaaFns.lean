/- PRINTED BY A PROGRAM (wip/tools/fmod.py): the functions of the cut, for the abstract machine. -/
import Derived.Test.YtkcnlpelbcpmgaaProg
import Derived.Test.YtkcnlpelbcpmgaaAbX
namespace Go.Ab
open Go Go.Proofs

-- "signalbox/signalboxlaw13.CeilingRises" res .true
def F4 : AFn where
  np := 3
  nt := 70
  res := [(.t 6)]
  tab := [(.seq 2),
    (.region [⟨(.some 6), (.mv (.c (.bool .false))), .none, [], []⟩] .false), (.seq 8), (.seq 2),
    (.region [⟨(.some 12), (.call 9 []), .none, [], []⟩, ⟨(.some 13), (.un .not (.t 12)), .none, [], []⟩] .false), (.cond (.t 13) 4), (.seq 2),
    (.region [⟨(.some 6), (.mv (.c (.bool .false))), .none, [], []⟩] .false), .ret, .skip, (.seq 8), (.seq 2),
    (.region [⟨(.some 14), (.mv (.t 0)), .none, [], []⟩, ⟨(.some 15), (.len .false (.t 14)), .none, [], []⟩, ⟨(.some 16), (.bin .gtr .o (.t 15) (.c (.int .i64 30))), .none, [], []⟩] .false), (.cond (.t 16) 4), (.seq 2),
    (.region [⟨(.some 6), (.mv (.c (.bool .true))), .none, [], []⟩] .false), .ret, .skip, (.seq 2),
    (.region [⟨(.some 17), (.mv (.t 0)), .none, [], []⟩, ⟨(.some 18), (.call 10 [(.t 17)]), .none, [], []⟩, ⟨(.some 7), (.mv (.t 18)), .none, [], []⟩] .false), (.seq 2),
    (.region [⟨(.some 19), (.mv (.t 2)), .none, [], []⟩, ⟨(.some 8), (.mv (.t 19)), .none, [], []⟩] .false), (.seq 35), (.seq 2),
    (.region [⟨(.some 20), (.mv (.t 0)), .none, [], []⟩, ⟨(.some 21), (.len .false (.t 20)), .none, [], []⟩, ⟨(.some 22), (.mv (.c (.int .i64 0))), .none, [], []⟩] .false), (.block 0), .loop, (.seq 2),
    (.region [⟨(.some 23), (.bin .lss .o (.t 22) (.t 21)), .none, [], []⟩] .false), (.seq 4), (.cond (.t 23) 2), .skip, (.exit 0), (.seq 23), (.block 1), (.seq 2),
    (.region [⟨(.some 24), (.mv (.t 22)), .none, [], []⟩, ⟨(.some 25), (.idx 3 1 (.t 20) (.t 22)), .none, [], []⟩, ⟨(.some 26), (.ld .none (.t 25)), .none, [], []⟩, ⟨(.some 9), (.mv (.t 24)), .none, [], []⟩, ⟨(.some 10), (.mv (.t 26)), .none, [], []⟩] .false), (.seq 8), (.seq 2),
    (.region [⟨(.some 27), (.mv (.t 7)), .none, [], []⟩, ⟨(.some 28), (.mv (.t 9)), .none, [], []⟩, ⟨(.some 29), (.mv (.t 1)), .none, [], []⟩, ⟨(.some 30), (.call 11 [(.t 27), (.t 28), (.t 29)]), .none, [], []⟩, ⟨(.some 31), (.bin .neq .o (.t 30) (.c (.int .i64 0))), .none, [], []⟩] .false), (.cond (.t 31) 4), (.seq 2),
    (.region [⟨(.some 6), (.mv (.c (.bool .false))), .none, [], []⟩] .false), .ret, .skip, (.seq 2),
    (.region [⟨(.some 32), (.mv (.t 7)), .none, [], []⟩, ⟨(.some 33), (.mv (.t 1)), .none, [], []⟩, ⟨(.some 34), (.mv (.t 2)), .none, [], []⟩, ⟨(.some 35), (.call 16 [(.t 32), (.t 33), (.t 34)]), .none, [], []⟩, ⟨(.some 11), (.mv (.t 35)), .none, [], []⟩] .false), (.seq 8), (.seq 2),
    (.region [⟨(.some 36), (.mv (.t 11)), .none, [], []⟩, ⟨(.some 37), (.mv (.t 8)), .none, [], []⟩, ⟨(.some 38), (.bin .lss .o (.t 36) (.t 37)), .none, [], []⟩, ⟨(.some 39), (.mv (.t 38)), .none, [], []⟩, ⟨(.some 40), (.mv (.t 11)), (.some ((.some 39), .false)), [], []⟩, ⟨(.some 41), (.mv (.t 10)), (.some ((.some 39), .false)), [], []⟩, ⟨(.some 42), (.bin .lss .o (.t 40) (.t 41)), (.some ((.some 39), .false)), [], []⟩, ⟨(.some 43), (.pick (.t 39) (.c (.bool .true)) (.t 42)), .none, [], []⟩, ⟨(.some 44), (.mv (.t 43)), .none, [], []⟩, ⟨(.some 45), (.mv (.t 11)), (.some ((.some 44), .false)), [], []⟩, ⟨(.some 46), (.mv (.t 8)), (.some ((.some 44), .false)), [], []⟩, ⟨(.some 47), (.bin .neq .o (.t 45) (.t 46)), (.some ((.some 44), .false)), [], []⟩, ⟨(.some 48), (.mv (.t 47)), (.some ((.some 44), .false)), [], []⟩, ⟨(.some 49), (.mv (.t 11)), (.some ((.some 48), .true)), [], []⟩, ⟨(.some 50), (.mv (.t 10)), (.some ((.some 48), .true)), [], []⟩, ⟨(.some 51), (.bin .neq .o (.t 49) (.t 50)), (.some ((.some 48), .true)), [], []⟩, ⟨(.some 52), (.pick (.t 48) (.t 51) (.c (.bool .false))), (.some ((.some 44), .false)), [], []⟩, ⟨(.some 53), (.pick (.t 44) (.c (.bool .true)) (.t 52)), .none, [], []⟩] .false), (.cond (.t 53) 4), (.seq 2),
    (.region [⟨(.some 6), (.mv (.c (.bool .false))), .none, [], []⟩] .false), .ret, .skip,
    (.region [⟨(.some 54), (.mv (.t 11)), .none, [], []⟩, ⟨(.some 8), (.mv (.t 54)), .none, [], []⟩] .false),
    (.region [⟨(.some 55), (.bin .add .o (.t 22) (.c (.int .i64 1))), .none, [], []⟩, ⟨(.some 22), (.mv (.t 55)), .none, [], []⟩] .false), (.seq 2),
    (.region [⟨(.some 56), (.mv (.t 7)), .none, [], []⟩, ⟨(.some 57), (.mv (.t 1)), .none, [], []⟩, ⟨(.some 58), (.call 13 [(.t 56), (.t 57)]), .none, [], []⟩, ⟨(.some 59), (.mv (.t 0)), .none, [], []⟩, ⟨(.some 60), (.len .false (.t 59)), .none, [], []⟩, ⟨(.some 61), (.bin .eql .o (.t 58) (.t 60)), .none, [], []⟩, ⟨(.some 62), (.mv (.t 61)), .none, [], []⟩, ⟨(.some 63), (.mv (.t 7)), (.some ((.some 62), .true)), [], []⟩, ⟨(.some 64), (.mv (.t 1)), (.some ((.some 62), .true)), [], []⟩, ⟨(.some 65), (.mv (.t 2)), (.some ((.some 62), .true)), [], []⟩, ⟨(.some 66), (.call 16 [(.t 63), (.t 64), (.t 65)]), (.some ((.some 62), .true)), [], []⟩, ⟨(.some 67), (.mv (.t 2)), (.some ((.some 62), .true)), [], []⟩, ⟨(.some 68), (.bin .eql .o (.t 66) (.t 67)), (.some ((.some 62), .true)), [], []⟩, ⟨(.some 69), (.pick (.t 62) (.t 68) (.c (.bool .false))), .none, [], []⟩, ⟨(.some 6), (.mv (.t 69)), .none, [], []⟩] .false), .ret]
theorem F4_at : F4.at Try.prog 4 Try.f4 := ⟨Try.func4, by kernel_rfl, by kernel_rfl, by kernel_rfl, by kernel_rfl, by kernel_rfl⟩

-- "signalbox/signalboxlaw13.fixed" res .true
def F9 : AFn where
  np := 0
  nt := 74
  res := [(.t 0)]
  tab := [(.seq 2),
    (.region [⟨(.some 0), (.mv (.c (.bool .false))), .none, [], []⟩] .false), (.seq 2),
    (.region [⟨(.some 9), (.lit 3 1 2 [(.int .i64 0)] [(0, (.c (.int .i64 7))), (1, (.c (.int .i64 2)))]), .none, [], []⟩, ⟨(.some 10), (.call 10 [(.t 9)]), .none, [], []⟩, ⟨(.some 1), (.mv (.t 10)), .none, [], []⟩] .false), (.seq 2),
    (.region [⟨(.some 11), (.mv (.t 1)), .none, [], []⟩, ⟨(.some 12), (.call 11 [(.t 11), (.c (.int .i64 0)), (.c (.int .i64 5))]), .none, [], []⟩, ⟨(.some 13), (.mv (.t 1)), .none, [], []⟩, ⟨(.some 14), (.call 11 [(.t 13), (.c (.int .i64 0)), (.c (.int .i64 6))]), .none, [], []⟩, ⟨(.some 15), (.mv (.t 1)), .none, [], []⟩, ⟨(.some 16), (.call 12 [(.t 15), (.c (.int .i64 0)), (.c (.int .i64 6))]), .none, [], []⟩, ⟨(.some 2), (.mv (.t 12)), .none, [], []⟩, ⟨(.some 3), (.mv (.t 14)), .none, [], []⟩, ⟨(.some 4), (.mv (.t 16)), .none, [], []⟩] .false), (.seq 2),
    (.region [⟨(.some 18), (.mv (.t 1)), .none, [], []⟩, ⟨(.some 19), (.call 15 [(.t 18), (.c (.int .i64 0))]), .none, [], []⟩, ⟨(.some 17), (.mv (.t 19)), .none, [], []⟩, ⟨(.some 20), (.ext (.t 17) 0), .none, [], []⟩, ⟨(.some 21), (.ext (.t 17) 1), .none, [], []⟩, ⟨(.some 5), (.mv (.t 20)), .none, [], []⟩, ⟨(.some 6), (.mv (.t 21)), .none, [], []⟩] .false), (.seq 2),
    (.region [⟨(.some 23), (.mv (.t 1)), .none, [], []⟩, ⟨(.some 24), (.call 15 [(.t 23), (.c (.int .i64 1))]), .none, [], []⟩, ⟨(.some 22), (.mv (.t 24)), .none, [], []⟩, ⟨(.some 25), (.ext (.t 22) 0), .none, [], []⟩, ⟨(.some 26), (.ext (.t 22) 1), .none, [], []⟩, ⟨(.some 7), (.mv (.t 25)), .none, [], []⟩, ⟨(.some 8), (.mv (.t 26)), .none, [], []⟩] .false), (.seq 2),
    (.region [⟨(.some 27), (.mv (.t 2)), .none, [], []⟩, ⟨(.some 28), (.bin .eql .o (.t 27) (.c (.int .i64 0))), .none, [], []⟩, ⟨(.some 29), (.mv (.t 28)), .none, [], []⟩, ⟨(.some 30), (.mv (.t 3)), (.some ((.some 29), .true)), [], []⟩, ⟨(.some 31), (.bin .eql .o (.t 30) (.c (.int .i64 10))), (.some ((.some 29), .true)), [], []⟩, ⟨(.some 32), (.pick (.t 29) (.t 31) (.c (.bool .false))), .none, [], []⟩, ⟨(.some 33), (.mv (.t 32)), .none, [], []⟩, ⟨(.some 34), (.mv (.t 4)), (.some ((.some 33), .true)), [], []⟩, ⟨(.some 35), (.bin .eql .o (.t 34) (.c (.int .i64 8))), (.some ((.some 33), .true)), [], []⟩, ⟨(.some 36), (.pick (.t 33) (.t 35) (.c (.bool .false))), .none, [], []⟩, ⟨(.some 37), (.mv (.t 36)), .none, [], []⟩, ⟨(.some 38), (.mv (.t 1)), (.some ((.some 37), .true)), [], []⟩, ⟨(.some 39), (.call 16 [(.t 38), (.c (.int .i64 5)), (.c (.int .i64 3))]), (.some ((.some 37), .true)), [], []⟩, ⟨(.some 40), (.bin .eql .o (.t 39) (.c (.int .i64 7))), (.some ((.some 37), .true)), [], []⟩, ⟨(.some 41), (.pick (.t 37) (.t 40) (.c (.bool .false))), .none, [], []⟩, ⟨(.some 42), (.mv (.t 41)), .none, [], []⟩, ⟨(.some 43), (.mv (.t 1)), (.some ((.some 42), .true)), [], []⟩, ⟨(.some 44), (.call 16 [(.t 43), (.c (.int .i64 6)), (.c (.int .i64 3))]), (.some ((.some 42), .true)), [], []⟩, ⟨(.some 45), (.bin .eql .o (.t 44) (.c (.int .i64 3))), (.some ((.some 42), .true)), [], []⟩, ⟨(.some 46), (.pick (.t 42) (.t 45) (.c (.bool .false))), .none, [], []⟩, ⟨(.some 47), (.mv (.t 46)), .none, [], []⟩, ⟨(.some 48), (.mv (.t 5)), (.some ((.some 47), .true)), [], []⟩, ⟨(.some 49), (.bin .eql .o (.t 48) (.c (.int .i64 5))), (.some ((.some 47), .true)), [], []⟩, ⟨(.some 50), (.pick (.t 47) (.t 49) (.c (.bool .false))), .none, [], []⟩, ⟨(.some 51), (.mv (.t 50)), .none, [], []⟩, ⟨(.some 52), (.mv (.t 6)), (.some ((.some 51), .true)), [], []⟩, ⟨(.some 53), (.pick (.t 51) (.t 52) (.c (.bool .false))), .none, [], []⟩, ⟨(.some 54), (.mv (.t 53)), .none, [], []⟩, ⟨(.some 55), (.mv (.t 8)), (.some ((.some 54), .true)), [], []⟩, ⟨(.some 56), (.un .not (.t 55)), (.some ((.some 54), .true)), [], []⟩, ⟨(.some 57), (.pick (.t 54) (.t 56) (.c (.bool .false))), .none, [], []⟩, ⟨(.some 58), (.mv (.t 57)), .none, [], []⟩, ⟨(.some 59), (.mv (.t 1)), (.some ((.some 58), .true)), [], []⟩, ⟨(.some 60), (.call 13 [(.t 59), (.c (.int .i64 5))]), (.some ((.some 58), .true)), [], []⟩, ⟨(.some 61), (.bin .eql .o (.t 60) (.c (.int .i64 1))), (.some ((.some 58), .true)), [], []⟩, ⟨(.some 62), (.pick (.t 58) (.t 61) (.c (.bool .false))), .none, [], []⟩, ⟨(.some 63), (.mv (.t 62)), .none, [], []⟩, ⟨(.some 64), (.mv (.t 1)), (.some ((.some 63), .true)), [], []⟩, ⟨(.some 65), (.call 14 [(.t 64), (.c (.int .i64 5))]), (.some ((.some 63), .true)), [], []⟩, ⟨(.some 66), (.len .false (.t 65)), (.some ((.some 63), .true)), [], []⟩, ⟨(.some 67), (.bin .eql .o (.t 66) (.c (.int .i64 0))), (.some ((.some 63), .true)), [], []⟩, ⟨(.some 68), (.pick (.t 63) (.t 67) (.c (.bool .false))), .none, [], []⟩, ⟨(.some 69), (.mv (.t 68)), .none, [], []⟩, ⟨(.some 70), (.mv (.t 1)), (.some ((.some 69), .true)), [], []⟩, ⟨(.some 71), (.call 11 [(.t 70), (.c (.int .i64 2)), (.c (.int .i64 1))]), (.some ((.some 69), .true)), [], []⟩, ⟨(.some 72), (.bin .eql .o (.t 71) (.c (.int .i64 6))), (.some ((.some 69), .true)), [], []⟩, ⟨(.some 73), (.pick (.t 69) (.t 72) (.c (.bool .false))), .none, [], []⟩, ⟨(.some 0), (.mv (.t 73)), .none, [], []⟩] .false), .ret]
theorem F9_at : F9.at Try.prog 9 Try.f9 := ⟨Try.func9, by kernel_rfl, by kernel_rfl, by kernel_rfl, by kernel_rfl, by kernel_rfl⟩

-- "signalbox/ceiling.New" res .true
def F10 : AFn where
  np := 1
  nt := 27
  res := [(.t 2)]
  tab := [(.seq 2),
    (.region [⟨(.some 2), (.mv (.c .nilp)), .none, [], []⟩] .false), (.seq 2),
    (.region [⟨(.some 6), (.build [.nils] []), .none, [], []⟩, ⟨(.some 7), (.box 69 (.t 6)), .none, [], []⟩, ⟨(.some 3), (.mv (.t 7)), .none, [], []⟩] .false), (.seq 17), (.seq 2),
    (.region [⟨(.some 8), (.mv (.t 0)), .none, [], []⟩, ⟨(.some 9), (.len .false (.t 8)), .none, [], []⟩, ⟨(.some 10), (.mv (.c (.int .i64 0))), .none, [], []⟩] .false), (.block 0), .loop, (.seq 2),
    (.region [⟨(.some 11), (.bin .lss .o (.t 10) (.t 9)), .none, [], []⟩] .false), (.seq 4), (.cond (.t 11) 2), .skip, (.exit 0), (.seq 5), (.block 1), (.seq 2),
    (.region [⟨(.some 12), (.idx 3 1 (.t 8) (.t 10)), .none, [], []⟩, ⟨(.some 13), (.ld .none (.t 12)), .none, [], []⟩, ⟨(.some 5), (.mv (.t 13)), .none, [], []⟩] .false),
    (.region [⟨(.some 14), (.mv (.t 3)), .none, [], []⟩, ⟨(.some 15), (.mv (.t 3)), .none, [], []⟩, ⟨(.some 16), (.nilc (.t 15)), .none, [], []⟩, ⟨(.some 17), (.fad 0 (.t 16)), .none, [], []⟩, ⟨(.some 18), (.ld .none (.t 17)), .none, [], []⟩, ⟨(.some 19), (.mv (.t 5)), .none, [], []⟩, ⟨(.some 20), (.build [(.int .i64 0), (.int .i64 0), (.bool .false)] [(0, (1, (.t 19)))]), .none, [], []⟩, ⟨(.some 21), (.lit 71 3 1 [(.int .i64 0), (.int .i64 0), (.bool .false)] [(0, (.t 20))]), .none, [], []⟩, ⟨(.some 22), (.app 71 3 24 [(.int .i64 0), (.int .i64 0), (.bool .false)] (.t 18) (.t 21)), .none, [], []⟩, ⟨(.some 23), (.nilc (.t 14)), .none, [], []⟩, ⟨(.some 24), (.fad 0 (.t 23)), .none, [], []⟩, ⟨.none, (.st 1 (.t 24) (.t 22)), .none, [], []⟩] .false),
    (.region [⟨(.some 25), (.bin .add .o (.t 10) (.c (.int .i64 1))), .none, [], []⟩, ⟨(.some 10), (.mv (.t 25)), .none, [], []⟩] .false), (.seq 2),
    (.region [⟨(.some 26), (.mv (.t 3)), .none, [], []⟩, ⟨(.some 2), (.mv (.t 26)), .none, [], []⟩] .false), .ret]
theorem F10_at : F10.at Try.prog 10 Try.f10 := ⟨Try.func10, by kernel_rfl, by kernel_rfl, by kernel_rfl, by kernel_rfl, by kernel_rfl⟩

-- "(*signalbox/ceiling.Locks).Lock" res .true
def F11 : AFn where
  np := 3
  nt := 26
  res := [(.t 6)]
  tab := [(.seq 2),
    (.region [⟨(.some 6), (.mv (.c (.int .i64 0))), .none, [], []⟩] .false), (.seq 2),
    (.region [⟨(.some 8), (.mv (.t 0)), .none, [], []⟩, ⟨(.some 9), (.mv (.t 1)), .none, [], []⟩, ⟨(.some 10), (.call 36 [(.t 8), (.t 9)]), .none, [], []⟩, ⟨(.some 7), (.mv (.t 10)), .none, [], []⟩] .false), (.seq 15), (.block 0), (.seq 2),
    (.region [⟨(.some 12), (.mv (.t 7)), .none, [], []⟩, ⟨(.some 13), (.bin .eql .p (.t 12) (.c .nilp)), .none, [], []⟩, ⟨(.some 11), (.mv (.t 13)), .none, [], []⟩] .false), (.cond (.t 11) 4), (.seq 2),
    (.region [⟨(.some 6), (.mv (.c (.int .i64 6))), .none, [], []⟩] .false), .ret, (.seq 2),
    (.region [⟨(.some 15), (.mv (.t 7)), .none, [], []⟩, ⟨(.some 16), (.nilc (.t 15)), .none, [], []⟩, ⟨(.some 17), (.fad 2 (.t 16)), .none, [], []⟩, ⟨(.some 18), (.ld .none (.t 17)), .none, [], []⟩, ⟨(.some 14), (.mv (.t 18)), .none, [], []⟩] .false), (.cond (.t 14) 4), (.seq 2),
    (.region [⟨(.some 6), (.mv (.c (.int .i64 10))), .none, [], []⟩] .false), .ret, .skip, (.seq 2),
    (.region [⟨(.some 19), (.mv (.t 7)), .none, [], []⟩, ⟨(.some 20), (.mv (.t 7)), .none, [], []⟩, ⟨(.some 21), (.mv (.t 2)), .none, [], []⟩, ⟨(.some 22), (.nilc (.t 19)), .none, [], []⟩, ⟨(.some 23), (.fad 1 (.t 22)), .none, [], []⟩, ⟨.none, (.st 1 (.t 23) (.t 21)), .none, [], []⟩, ⟨(.some 24), (.nilc (.t 20)), .none, [], []⟩, ⟨(.some 25), (.fad 2 (.t 24)), .none, [], []⟩, ⟨.none, (.st 1 (.t 25) (.c (.bool .true))), .none, [], []⟩] .false), (.seq 2),
    (.region [⟨(.some 6), (.mv (.c (.int .i64 0))), .none, [], []⟩] .false), .ret]
theorem F11_at : F11.at Try.prog 11 Try.f11 := ⟨Try.func11, by kernel_rfl, by kernel_rfl, by kernel_rfl, by kernel_rfl, by kernel_rfl⟩

-- "(*signalbox/ceiling.Locks).Unlock" res .true
def F12 : AFn where
  np := 3
  nt := 34
  res := [(.t 6)]
  tab := [(.seq 2),
    (.region [⟨(.some 6), (.mv (.c (.int .i64 0))), .none, [], []⟩] .false), (.seq 2),
    (.region [⟨(.some 8), (.mv (.t 0)), .none, [], []⟩, ⟨(.some 9), (.mv (.t 1)), .none, [], []⟩, ⟨(.some 10), (.call 36 [(.t 8), (.t 9)]), .none, [], []⟩, ⟨(.some 7), (.mv (.t 10)), .none, [], []⟩] .false), (.seq 15), (.block 0), (.seq 2),
    (.region [⟨(.some 12), (.mv (.t 7)), .none, [], []⟩, ⟨(.some 13), (.bin .eql .p (.t 12) (.c .nilp)), .none, [], []⟩, ⟨(.some 11), (.mv (.t 13)), .none, [], []⟩] .false), (.cond (.t 11) 4), (.seq 2),
    (.region [⟨(.some 6), (.mv (.c (.int .i64 6))), .none, [], []⟩] .false), .ret, (.seq 2),
    (.region [⟨(.some 15), (.mv (.t 7)), .none, [], []⟩, ⟨(.some 16), (.nilc (.t 15)), .none, [], []⟩, ⟨(.some 17), (.fad 2 (.t 16)), .none, [], []⟩, ⟨(.some 18), (.ld .none (.t 17)), .none, [], []⟩, ⟨(.some 19), (.un .not (.t 18)), .none, [], []⟩, ⟨(.some 20), (.mv (.t 19)), .none, [], []⟩, ⟨(.some 21), (.mv (.t 7)), (.some ((.some 20), .false)), [], []⟩, ⟨(.some 22), (.nilc (.t 21)), (.some ((.some 20), .false)), [], []⟩, ⟨(.some 23), (.fad 1 (.t 22)), (.some ((.some 20), .false)), [], []⟩, ⟨(.some 24), (.ld .none (.t 23)), (.some ((.some 20), .false)), [], []⟩, ⟨(.some 25), (.mv (.t 2)), (.some ((.some 20), .false)), [], []⟩, ⟨(.some 26), (.bin .neq .o (.t 24) (.t 25)), (.some ((.some 20), .false)), [], []⟩, ⟨(.some 27), (.pick (.t 20) (.c (.bool .true)) (.t 26)), .none, [], []⟩, ⟨(.some 14), (.mv (.t 27)), .none, [], []⟩] .false), (.cond (.t 14) 4), (.seq 2),
    (.region [⟨(.some 6), (.mv (.c (.int .i64 8))), .none, [], []⟩] .false), .ret, .skip, (.seq 2),
    (.region [⟨(.some 28), (.mv (.t 7)), .none, [], []⟩, ⟨(.some 29), (.mv (.t 7)), .none, [], []⟩, ⟨(.some 30), (.nilc (.t 28)), .none, [], []⟩, ⟨(.some 31), (.fad 1 (.t 30)), .none, [], []⟩, ⟨.none, (.st 1 (.t 31) (.c (.int .i64 0))), .none, [], []⟩, ⟨(.some 32), (.nilc (.t 29)), .none, [], []⟩, ⟨(.some 33), (.fad 2 (.t 32)), .none, [], []⟩, ⟨.none, (.st 1 (.t 33) (.c (.bool .false))), .none, [], []⟩] .false), (.seq 2),
    (.region [⟨(.some 6), (.mv (.c (.int .i64 0))), .none, [], []⟩] .false), .ret]
theorem F12_at : F12.at Try.prog 12 Try.f12 := ⟨Try.func12, by kernel_rfl, by kernel_rfl, by kernel_rfl, by kernel_rfl, by kernel_rfl⟩

-- "(*signalbox/ceiling.Locks).Free" res .true
def F13 : AFn where
  np := 2
  nt := 24
  res := [(.t 4)]
  tab := [(.seq 2),
    (.region [⟨(.some 4), (.mv (.c (.int .i64 0))), .none, [], []⟩] .false), (.seq 2),
    (.region [⟨(.some 8), (.mv (.t 0)), .none, [], []⟩, ⟨(.some 9), (.mv (.t 1)), .none, [], []⟩, ⟨(.some 10), (.call 14 [(.t 8), (.t 9)]), .none, [], []⟩, ⟨(.some 5), (.mv (.t 10)), .none, [], []⟩] .false), (.seq 17), (.seq 2),
    (.region [⟨(.some 11), (.mv (.t 5)), .none, [], []⟩, ⟨(.some 12), (.len .false (.t 11)), .none, [], []⟩, ⟨(.some 13), (.mv (.c (.int .i64 0))), .none, [], []⟩] .false), (.block 0), .loop, (.seq 2),
    (.region [⟨(.some 14), (.bin .lss .o (.t 13) (.t 12)), .none, [], []⟩] .false), (.seq 4), (.cond (.t 14) 2), .skip, (.exit 0), (.seq 5), (.block 1), (.seq 2),
    (.region [⟨(.some 15), (.idx 3 1 (.t 11) (.t 13)), .none, [], []⟩, ⟨(.some 16), (.ld .none (.t 15)), .none, [], []⟩, ⟨(.some 7), (.mv (.t 16)), .none, [], []⟩] .false),
    (.region [⟨(.some 17), (.mv (.t 0)), .none, [], []⟩, ⟨(.some 18), (.mv (.t 7)), .none, [], []⟩, ⟨(.some 19), (.mv (.t 1)), .none, [], []⟩, ⟨(.some 20), (.call 12 [(.t 17), (.t 18), (.t 19)]), .none, [], []⟩] .false),
    (.region [⟨(.some 21), (.bin .add .o (.t 13) (.c (.int .i64 1))), .none, [], []⟩, ⟨(.some 13), (.mv (.t 21)), .none, [], []⟩] .false), (.seq 2),
    (.region [⟨(.some 22), (.mv (.t 5)), .none, [], []⟩, ⟨(.some 23), (.len .false (.t 22)), .none, [], []⟩, ⟨(.some 4), (.mv (.t 23)), .none, [], []⟩] .false), .ret]
theorem F13_at : F13.at Try.prog 13 Try.f13 := ⟨Try.func13, by kernel_rfl, by kernel_rfl, by kernel_rfl, by kernel_rfl, by kernel_rfl⟩

-- "(*signalbox/ceiling.Locks).Held" res .true
def F14 : AFn where
  np := 2
  nt := 34
  res := [(.t 4)]
  tab := [(.seq 2),
    (.region [⟨(.some 4), (.mv (.c .nils)), .none, [], []⟩] .false), (.seq 2),
    (.region [⟨(.some 5), (.mv (.c .nils)), .none, [], []⟩] .false), (.seq 23), (.seq 2),
    (.region [⟨(.some 8), (.mv (.t 0)), .none, [], []⟩, ⟨(.some 9), (.call 17 [(.t 8)]), .none, [], []⟩, ⟨(.some 10), (.mv (.c (.int .i64 0))), .none, [], []⟩] .false), (.block 0), .loop, (.seq 2),
    (.region [⟨(.some 11), (.bin .lss .o (.t 10) (.t 9)), .none, [], []⟩] .false), (.seq 4), (.cond (.t 11) 2), .skip, (.exit 0), (.seq 11), (.block 1), (.seq 2),
    (.region [⟨(.some 12), (.mv (.t 10)), .none, [], []⟩, ⟨(.some 6), (.mv (.t 12)), .none, [], []⟩] .false), (.seq 2),
    (.region [⟨(.some 13), (.mv (.t 0)), .none, [], []⟩, ⟨(.some 14), (.mv (.t 6)), .none, [], []⟩, ⟨(.some 15), (.call 36 [(.t 13), (.t 14)]), .none, [], []⟩, ⟨(.some 7), (.mv (.t 15)), .none, [], []⟩] .false), (.seq 2),
    (.region [⟨(.some 16), (.mv (.t 7)), .none, [], []⟩, ⟨(.some 17), (.nilc (.t 16)), .none, [], []⟩, ⟨(.some 18), (.fad 2 (.t 17)), .none, [], []⟩, ⟨(.some 19), (.ld .none (.t 18)), .none, [], []⟩, ⟨(.some 20), (.mv (.t 19)), .none, [], []⟩, ⟨(.some 21), (.mv (.t 7)), (.some ((.some 20), .true)), [], []⟩, ⟨(.some 22), (.nilc (.t 21)), (.some ((.some 20), .true)), [], []⟩, ⟨(.some 23), (.fad 1 (.t 22)), (.some ((.some 20), .true)), [], []⟩, ⟨(.some 24), (.ld .none (.t 23)), (.some ((.some 20), .true)), [], []⟩, ⟨(.some 25), (.mv (.t 1)), (.some ((.some 20), .true)), [], []⟩, ⟨(.some 26), (.bin .eql .o (.t 24) (.t 25)), (.some ((.some 20), .true)), [], []⟩, ⟨(.some 27), (.pick (.t 20) (.t 26) (.c (.bool .false))), .none, [], []⟩] .false), (.cond (.t 27) 2),
    (.region [⟨(.some 28), (.mv (.t 5)), .none, [], []⟩, ⟨(.some 29), (.mv (.t 6)), .none, [], []⟩, ⟨(.some 30), (.lit 3 1 1 [(.int .i64 0)] [(0, (.t 29))]), .none, [], []⟩, ⟨(.some 31), (.app 3 1 8 [(.int .i64 0)] (.t 28) (.t 30)), .none, [], []⟩, ⟨(.some 5), (.mv (.t 31)), .none, [], []⟩] .false), .skip,
    (.region [⟨(.some 32), (.bin .add .o (.t 10) (.c (.int .i64 1))), .none, [], []⟩, ⟨(.some 10), (.mv (.t 32)), .none, [], []⟩] .false), (.seq 2),
    (.region [⟨(.some 33), (.mv (.t 5)), .none, [], []⟩, ⟨(.some 4), (.mv (.t 33)), .none, [], []⟩] .false), .ret]
theorem F14_at : F14.at Try.prog 14 Try.f14 := ⟨Try.func14, by kernel_rfl, by kernel_rfl, by kernel_rfl, by kernel_rfl, by kernel_rfl⟩

-- "(*signalbox/ceiling.Locks).Holder" res .true
def F15 : AFn where
  np := 2
  nt := 20
  res := [(.t 4), (.t 5)]
  tab := [(.seq 2),
    (.region [⟨(.some 4), (.mv (.c (.int .i64 0))), .none, [], []⟩, ⟨(.some 5), (.mv (.c (.bool .false))), .none, [], []⟩] .false), (.seq 10), (.seq 2),
    (.region [⟨(.some 7), (.mv (.t 0)), .none, [], []⟩, ⟨(.some 8), (.mv (.t 1)), .none, [], []⟩, ⟨(.some 9), (.call 36 [(.t 7), (.t 8)]), .none, [], []⟩, ⟨(.some 6), (.mv (.t 9)), .none, [], []⟩] .false), (.seq 2),
    (.region [⟨(.some 10), (.mv (.t 6)), .none, [], []⟩, ⟨(.some 11), (.bin .neq .p (.t 10) (.c .nilp)), .none, [], []⟩] .false), (.cond (.t 11) 4), (.seq 2),
    (.region [⟨(.some 12), (.mv (.t 6)), .none, [], [6]⟩, ⟨(.some 13), (.nilc (.t 12)), .none, [0], [12]⟩, ⟨(.some 14), (.fad 1 (.t 13)), .none, [1], [13]⟩, ⟨(.some 15), (.ld .none (.t 14)), .none, [2], [14]⟩, ⟨(.some 16), (.mv (.t 6)), .none, [], [6]⟩, ⟨(.some 17), (.nilc (.t 16)), .none, [4], [16]⟩, ⟨(.some 18), (.fad 2 (.t 17)), .none, [5], [17]⟩, ⟨(.some 19), (.ld .none (.t 18)), .none, [6], [18]⟩, ⟨(.some 4), (.mv (.t 15)), .none, [3, 0, 1, 2, 3], [15]⟩, ⟨(.some 5), (.mv (.t 19)), .none, [7, 8, 0, 1, 2, 3, 4, 5, 6, 7, 8], [19]⟩] .true), .ret, .skip, (.seq 2),
    (.region [⟨(.some 4), (.mv (.c (.int .i64 0))), .none, [], []⟩, ⟨(.some 5), (.mv (.c (.bool .false))), .none, [], []⟩] .false), .ret]
theorem F15_at : F15.at Try.prog 15 Try.f15 := ⟨Try.func15, by kernel_rfl, by kernel_rfl, by kernel_rfl, by kernel_rfl, by kernel_rfl⟩

-- "(*signalbox/ceiling.Locks).Level" res .true
def F16 : AFn where
  np := 3
  nt := 27
  res := [(.t 6)]
  tab := [(.seq 2),
    (.region [⟨(.some 6), (.mv (.c (.int .i64 0))), .none, [], []⟩] .false), (.seq 17), (.seq 2),
    (.region [⟨(.some 9), (.mv (.t 0)), .none, [], []⟩, ⟨(.some 10), (.mv (.t 1)), .none, [], []⟩, ⟨(.some 11), (.call 14 [(.t 9), (.t 10)]), .none, [], []⟩, ⟨(.some 12), (.len .false (.t 11)), .none, [], []⟩, ⟨(.some 13), (.mv (.c (.int .i64 0))), .none, [], []⟩] .false), (.block 0), .loop, (.seq 2),
    (.region [⟨(.some 14), (.bin .lss .o (.t 13) (.t 12)), .none, [], []⟩] .false), (.seq 4), (.cond (.t 14) 2), .skip, (.exit 0), (.seq 5), (.block 1), (.seq 2),
    (.region [⟨(.some 15), (.idx 3 1 (.t 11) (.t 13)), .none, [], []⟩, ⟨(.some 16), (.ld .none (.t 15)), .none, [], []⟩, ⟨(.some 8), (.mv (.t 16)), .none, [], []⟩] .false),
    (.region [⟨(.some 17), (.mv (.t 2)), .none, [], []⟩, ⟨(.some 18), (.mv (.t 0)), .none, [], []⟩, ⟨(.some 19), (.mv (.t 8)), .none, [], []⟩, ⟨(.some 20), (.call 36 [(.t 18), (.t 19)]), .none, [], []⟩, ⟨(.some 21), (.nilc (.t 20)), .none, [], []⟩, ⟨(.some 22), (.fad 0 (.t 21)), .none, [], []⟩, ⟨(.some 23), (.ld .none (.t 22)), .none, [], []⟩, ⟨(.some 24), (.mnmx .true (.t 17) (.t 23)), .none, [], []⟩, ⟨(.some 2), (.mv (.t 24)), .none, [], []⟩] .false),
    (.region [⟨(.some 25), (.bin .add .o (.t 13) (.c (.int .i64 1))), .none, [], []⟩, ⟨(.some 13), (.mv (.t 25)), .none, [], []⟩] .false), (.seq 2),
    (.region [⟨(.some 26), (.mv (.t 2)), .none, [], []⟩, ⟨(.some 6), (.mv (.t 26)), .none, [], []⟩] .false), .ret]
theorem F16_at : F16.at Try.prog 16 Try.f16 := ⟨Try.func16, by kernel_rfl, by kernel_rfl, by kernel_rfl, by kernel_rfl, by kernel_rfl⟩

-- "(*signalbox/ceiling.Locks).Len" res .true
def F17 : AFn where
  np := 1
  nt := 10
  res := [(.t 2)]
  tab := [(.seq 2),
    (.region [⟨(.some 2), (.mv (.c (.int .i64 0))), .none, [], []⟩] .false), (.seq 8), (.seq 2),
    (.region [⟨(.some 3), (.mv (.t 0)), .none, [], []⟩, ⟨(.some 4), (.bin .eql .p (.t 3) (.c .nilp)), .none, [], []⟩] .false), (.cond (.t 4) 4), (.seq 2),
    (.region [⟨(.some 2), (.mv (.c (.int .i64 0))), .none, [], []⟩] .false), .ret, .skip, (.seq 2),
    (.region [⟨(.some 5), (.mv (.t 0)), .none, [], []⟩, ⟨(.some 6), (.nilc (.t 5)), .none, [], []⟩, ⟨(.some 7), (.fad 0 (.t 6)), .none, [], []⟩, ⟨(.some 8), (.ld .none (.t 7)), .none, [], []⟩, ⟨(.some 9), (.len .false (.t 8)), .none, [], []⟩, ⟨(.some 2), (.mv (.t 9)), .none, [], []⟩] .false), .ret]
theorem F17_at : F17.at Try.prog 17 Try.f17 := ⟨Try.func17, by kernel_rfl, by kernel_rfl, by kernel_rfl, by kernel_rfl, by kernel_rfl⟩

-- "(*signalbox/ceiling.Locks).at" res .true
def F36 : AFn where
  np := 2
  nt := 19
  res := [(.t 4)]
  tab := [(.seq 2),
    (.region [⟨(.some 4), (.mv (.c .nilp)), .none, [], []⟩] .false), (.seq 8), (.seq 2),
    (.region [⟨(.some 5), (.mv (.t 1)), .none, [], []⟩, ⟨(.some 6), (.bin .lss .o (.t 5) (.c (.int .i64 0))), .none, [], []⟩, ⟨(.some 7), (.mv (.t 6)), .none, [], []⟩, ⟨(.some 8), (.mv (.t 1)), (.some ((.some 7), .false)), [], []⟩, ⟨(.some 9), (.mv (.t 0)), (.some ((.some 7), .false)), [], []⟩, ⟨(.some 10), (.call 17 [(.t 9)]), (.some ((.some 7), .false)), [], []⟩, ⟨(.some 11), (.bin .geq .o (.t 8) (.t 10)), (.some ((.some 7), .false)), [], []⟩, ⟨(.some 12), (.pick (.t 7) (.c (.bool .true)) (.t 11)), .none, [], []⟩] .false), (.cond (.t 12) 4), (.seq 2),
    (.region [⟨(.some 4), (.mv (.c .nilp)), .none, [], []⟩] .false), .ret, .skip, (.seq 2),
    (.region [⟨(.some 13), (.mv (.t 0)), .none, [], []⟩, ⟨(.some 14), (.nilc (.t 13)), .none, [], []⟩, ⟨(.some 15), (.fad 0 (.t 14)), .none, [], []⟩, ⟨(.some 16), (.ld .none (.t 15)), .none, [], []⟩, ⟨(.some 17), (.mv (.t 1)), .none, [], []⟩, ⟨(.some 18), (.idx 71 3 (.t 16) (.t 17)), .none, [], []⟩, ⟨(.some 4), (.mv (.t 18)), .none, [], []⟩] .false), .ret]
theorem F36_at : F36.at Try.prog 36 Try.f36 := ⟨Try.func36, by kernel_rfl, by kernel_rfl, by kernel_rfl, by kernel_rfl, by kernel_rfl⟩

end Go.Ab
