/- PRINTED BY A PROGRAM (wip/tools/fmod.py): the functions of the cut, for the abstract machine. -/
import Derived.Test.YtkcnlpelbcpmgaaProg
import Derived.Test.YtkcnlpelbcpmgaaAbX
namespace Go.Ab
open Go Go.Proofs

-- "signalbox/signalboxlaw27.PreemptTells" res .true
def F7 : AFn where
  np := 4
  nt := 89
  res := [(.t 8)]
  tab := [(.seq 2),
    (.region [⟨(.some 4), (.box 55 (.t 0)), .none, [], []⟩, ⟨(.some 8), (.mv (.c (.bool .false))), .none, [], []⟩] .false), (.seq 8), (.seq 2),
    (.region [⟨(.some 9), (.call 25 []), .none, [], []⟩, ⟨(.some 10), (.un .not (.t 9)), .none, [], []⟩] .false), (.cond (.t 10) 4), (.seq 2),
    (.region [⟨(.some 8), (.mv (.c (.bool .false))), .none, [], []⟩] .false), .ret, .skip, (.seq 8), (.seq 2),
    (.region [⟨(.some 11), (.ld (.some 10) (.t 4)), .none, [], []⟩, ⟨(.some 12), (.call 26 [(.t 11)]), .none, [], []⟩, ⟨(.some 13), (.un .not (.t 12)), .none, [], []⟩] .false), (.cond (.t 13) 4), (.seq 2),
    (.region [⟨(.some 8), (.mv (.c (.bool .true))), .none, [], []⟩] .false), .ret, .skip, (.seq 8), (.seq 2),
    (.region [⟨(.some 14), (.mv (.t 1)), .none, [], []⟩, ⟨(.some 15), (.bin .lss .o (.t 14) (.c (.int .i64 0))), .none, [], []⟩, ⟨(.some 16), (.mv (.t 15)), .none, [], []⟩, ⟨(.some 17), (.mv (.t 1)), (.some ((.some 16), .false)), [], []⟩, ⟨(.some 18), (.fad 8 (.t 4)), (.some ((.some 16), .false)), [], []⟩, ⟨(.some 19), (.ld .none (.t 18)), (.some ((.some 16), .false)), [], []⟩, ⟨(.some 20), (.len .false (.t 19)), (.some ((.some 16), .false)), [], []⟩, ⟨(.some 21), (.bin .geq .o (.t 17) (.t 20)), (.some ((.some 16), .false)), [], []⟩, ⟨(.some 22), (.pick (.t 16) (.c (.bool .true)) (.t 21)), .none, [], []⟩] .false), (.cond (.t 22) 4), (.seq 2),
    (.region [⟨(.some 23), (.ld (.some 10) (.t 4)), .none, [], [4]⟩, ⟨(.some 24), (.mv (.t 1)), .none, [], [1]⟩, ⟨(.some 25), (.mv (.t 3)), .none, [], [3]⟩, ⟨(.some 26), (.call 27 [(.t 23), (.t 24), (.t 25)]), .none, [0, 1, 2], [23, 24, 25]⟩, ⟨(.some 27), (.ld (.some 10) (.t 4)), .none, [], [4]⟩, ⟨(.some 28), (.mv (.t 1)), .none, [], [1]⟩, ⟨(.some 29), (.call 28 [(.t 27), (.t 28)]), .none, [4, 5, 3], [27, 28]⟩, ⟨(.some 30), (.bin .add .o (.t 26) (.t 29)), .none, [3, 6], [26, 29]⟩, ⟨(.some 31), (.ld (.some 10) (.t 4)), .none, [], [4]⟩, ⟨(.some 32), (.mv (.t 1)), .none, [], [1]⟩, ⟨(.some 33), (.call 29 [(.t 31), (.c (.int .i64 0)), (.t 32)]), .none, [8, 9, 6], [31, 32]⟩, ⟨(.some 34), (.bin .add .o (.t 30) (.t 33)), .none, [7, 10], [30, 33]⟩, ⟨(.some 35), (.bin .eql .o (.t 34) (.c (.int .u64 0))), .none, [11], [34]⟩, ⟨(.some 36), (.mv (.t 35)), .none, [12, 10], [35]⟩, ⟨(.some 37), (.ld (.some 10) (.t 4)), (.some ((.some 36), .true)), [13], [4, 36]⟩, ⟨(.some 38), (.mv (.t 1)), (.some ((.some 36), .true)), [13], [1, 36]⟩, ⟨(.some 39), (.call 30 [(.t 37), (.t 38)]), (.some ((.some 36), .true)), [14, 15, 13, 13], [37, 38, 36]⟩, ⟨(.some 40), (.len .false (.t 39)), (.some ((.some 36), .true)), [16, 13], [39, 36]⟩, ⟨(.some 41), (.ld (.some 10) (.t 4)), (.some ((.some 36), .true)), [13], [4, 36]⟩, ⟨(.some 42), (.mv (.t 1)), (.some ((.some 36), .true)), [13], [1, 36]⟩, ⟨(.some 43), (.call 31 [(.t 41), (.t 42)]), (.some ((.some 36), .true)), [18, 19, 16, 13], [41, 42, 36]⟩, ⟨(.some 44), (.len .false (.t 43)), (.some ((.some 36), .true)), [20, 13], [43, 36]⟩, ⟨(.some 45), (.bin .add .o (.t 40) (.t 44)), (.some ((.some 36), .true)), [17, 21, 13], [40, 44, 36]⟩, ⟨(.some 46), (.bin .eql .o (.t 45) (.c (.int .i64 0))), (.some ((.some 36), .true)), [22, 13], [45, 36]⟩, ⟨(.some 47), (.pick (.t 36) (.t 46) (.c (.bool .false))), .none, [13, 23], [36, 46]⟩, ⟨(.some 8), (.mv (.t 47)), .none, [24, 20, 0, 1, 2, 3, 4, 5, 6, 7, 8, 9, 10, 11, 12, 13, 14, 15, 16, 17, 18, 19, 20, 21, 22, 23, 24], [47]⟩] .true), .ret, .skip, (.seq 8), (.seq 2),
    (.region [⟨(.some 48), (.ld (.some 10) (.t 4)), .none, [], [4]⟩, ⟨(.some 49), (.mv (.t 1)), .none, [], [1]⟩, ⟨(.some 50), (.mv (.t 3)), .none, [], [3]⟩, ⟨(.some 51), (.call 27 [(.t 48), (.t 49), (.t 50)]), .none, [0, 1, 2], [48, 49, 50]⟩, ⟨(.some 52), (.ld (.some 10) (.t 4)), .none, [], [4]⟩, ⟨(.some 53), (.mv (.t 1)), .none, [], [1]⟩, ⟨(.some 54), (.mv (.t 3)), .none, [], [3]⟩, ⟨(.some 55), (.call 32 [(.t 52), (.t 53), (.t 54)]), .none, [4, 5, 6, 3], [52, 53, 54]⟩, ⟨(.some 56), (.bin .neq .o (.t 51) (.t 55)), .none, [3, 7], [51, 55]⟩, ⟨(.some 57), (.mv (.t 56)), .none, [8, 7], [56]⟩, ⟨(.some 58), (.ld (.some 10) (.t 4)), (.some ((.some 57), .false)), [9], [4, 57]⟩, ⟨(.some 59), (.mv (.t 1)), (.some ((.some 57), .false)), [9], [1, 57]⟩, ⟨(.some 60), (.call 28 [(.t 58), (.t 59)]), (.some ((.some 57), .false)), [10, 11, 9, 9], [58, 59, 57]⟩, ⟨(.some 61), (.ld (.some 10) (.t 4)), (.some ((.some 57), .false)), [9], [4, 57]⟩, ⟨(.some 62), (.mv (.t 1)), (.some ((.some 57), .false)), [9], [1, 57]⟩, ⟨(.some 63), (.call 33 [(.t 61), (.t 62)]), (.some ((.some 57), .false)), [13, 14, 12, 9], [61, 62, 57]⟩, ⟨(.some 64), (.bin .neq .o (.t 60) (.t 63)), (.some ((.some 57), .false)), [12, 15, 9], [60, 63, 57]⟩, ⟨(.some 65), (.pick (.t 57) (.c (.bool .true)) (.t 64)), .none, [9, 16], [57, 64]⟩] .true), (.cond (.t 65) 4), (.seq 2),
    (.region [⟨(.some 8), (.mv (.c (.bool .false))), .none, [], []⟩] .false), .ret, .skip, (.seq 8), (.seq 2),
    (.region [⟨(.some 66), (.mv (.t 2)), .none, [], []⟩, ⟨(.some 67), (.bin .lss .o (.t 66) (.c (.int .i64 0))), .none, [], []⟩, ⟨(.some 68), (.mv (.t 67)), .none, [], []⟩, ⟨(.some 69), (.mv (.t 2)), (.some ((.some 68), .false)), [], []⟩, ⟨(.some 70), (.fad 8 (.t 4)), (.some ((.some 68), .false)), [], []⟩, ⟨(.some 71), (.ld .none (.t 70)), (.some ((.some 68), .false)), [], []⟩, ⟨(.some 72), (.len .false (.t 71)), (.some ((.some 68), .false)), [], []⟩, ⟨(.some 73), (.bin .geq .o (.t 69) (.t 72)), (.some ((.some 68), .false)), [], []⟩, ⟨(.some 74), (.pick (.t 68) (.c (.bool .true)) (.t 73)), .none, [], []⟩] .false), (.cond (.t 74) 4), (.seq 2),
    (.region [⟨(.some 75), (.ld (.some 10) (.t 4)), .none, [], []⟩, ⟨(.some 76), (.mv (.t 2)), .none, [], []⟩, ⟨(.some 77), (.mv (.t 1)), .none, [], []⟩, ⟨(.some 78), (.call 29 [(.t 75), (.t 76), (.t 77)]), .none, [], []⟩, ⟨(.some 79), (.bin .eql .o (.t 78) (.c (.int .u64 0))), .none, [], []⟩, ⟨(.some 8), (.mv (.t 79)), .none, [], []⟩] .false), .ret, .skip, (.seq 2),
    (.region [⟨(.some 80), (.ld (.some 10) (.t 4)), .none, [], [4]⟩, ⟨(.some 81), (.mv (.t 2)), .none, [], [2]⟩, ⟨(.some 82), (.mv (.t 1)), .none, [], [1]⟩, ⟨(.some 83), (.call 29 [(.t 80), (.t 81), (.t 82)]), .none, [0, 1, 2], [80, 81, 82]⟩, ⟨(.some 84), (.ld (.some 10) (.t 4)), .none, [], [4]⟩, ⟨(.some 85), (.mv (.t 2)), .none, [], [2]⟩, ⟨(.some 86), (.mv (.t 1)), .none, [], [1]⟩, ⟨(.some 87), (.call 34 [(.t 84), (.t 85), (.t 86)]), .none, [4, 5, 6, 3], [84, 85, 86]⟩, ⟨(.some 88), (.bin .eql .o (.t 83) (.t 87)), .none, [3, 7], [83, 87]⟩, ⟨(.some 8), (.mv (.t 88)), .none, [8, 7, 0, 1, 2, 3, 4, 5, 6, 7, 8], [88]⟩] .true), .ret]
theorem F7_at : F7.at Try.prog 7 Try.f7 := ⟨Try.func7, by kernel_rfl, by kernel_rfl, by kernel_rfl, by kernel_rfl, by kernel_rfl⟩

-- "signalbox/ceiling.New" res .true
def F10 : AFn where
  np := 1
  nt := 27
  res := [(.t 2)]
  tab := [(.seq 2),
    (.region [⟨(.some 2), (.mv (.c .nilp)), .none, [], []⟩] .false), (.seq 2),
    (.region [⟨(.some 6), (.build [.nils] []), .none, [], []⟩, ⟨(.some 7), (.box 69 (.t 6)), .none, [], []⟩, ⟨(.some 3), (.mv (.t 7)), .none, [], []⟩] .false), (.seq 17), (.seq 2),
    (.region [⟨(.some 8), (.mv (.t 0)), .none, [], []⟩, ⟨(.some 9), (.len .false (.t 8)), .none, [], []⟩, ⟨(.some 10), (.mv (.c (.int .i64 0))), .none, [], []⟩] .false), (.block 0), .loop, (.seq 2),
    (.region [⟨(.some 11), (.bin .lss .o (.t 10) (.t 9)), .none, [], []⟩] .false), (.seq 4), (.cond (.t 11) 2), .skip, (.exit 0), (.seq 5), (.block 1), (.seq 2),
    (.region [⟨(.some 12), (.idx 3 1 (.t 8) (.t 10)), .none, [], []⟩, ⟨(.some 13), (.ld .none (.t 12)), .none, [], []⟩, ⟨(.some 5), (.mv (.t 13)), .none, [], []⟩] .false),
    (.region [⟨(.some 14), (.mv (.t 3)), .none, [], []⟩, ⟨(.some 15), (.mv (.t 3)), .none, [], []⟩, ⟨(.some 16), (.nilc (.t 15)), .none, [], []⟩, ⟨(.some 17), (.fad 0 (.t 16)), .none, [], []⟩, ⟨(.some 18), (.ld .none (.t 17)), .none, [], []⟩, ⟨(.some 19), (.mv (.t 5)), .none, [], []⟩, ⟨(.some 20), (.build [(.int .i64 0), (.int .i64 0), (.bool .false)] [(0, (1, (.t 19)))]), .none, [], []⟩, ⟨(.some 21), (.lit 71 3 1 [(.int .i64 0), (.int .i64 0), (.bool .false)] [(0, (.t 20))]), .none, [], []⟩, ⟨(.some 22), (.app 71 3 24 [(.int .i64 0), (.int .i64 0), (.bool .false)] (.t 18) (.t 21)), .none, [], []⟩, ⟨(.some 23), (.nilc (.t 14)), .none, [], []⟩, ⟨(.some 24), (.fad 0 (.t 23)), .none, [], []⟩, ⟨.none, (.st 1 (.t 24) (.t 22)), .none, [], []⟩] .false),
    (.region [⟨(.some 25), (.bin .add .o (.t 10) (.c (.int .i64 1))), .none, [], []⟩, ⟨(.some 10), (.mv (.t 25)), .none, [], []⟩] .false), (.seq 2),
    (.region [⟨(.some 26), (.mv (.t 3)), .none, [], []⟩, ⟨(.some 2), (.mv (.t 26)), .none, [], []⟩] .false), .ret]
theorem F10_at : F10.at Try.prog 10 Try.f10 := ⟨Try.func10, by kernel_rfl, by kernel_rfl, by kernel_rfl, by kernel_rfl, by kernel_rfl⟩

-- "(*signalbox/ceiling.Locks).Lock" res .true
def F11 : AFn where
  np := 3
  nt := 26
  res := [(.t 6)]
  tab := [(.seq 2),
    (.region [⟨(.some 6), (.mv (.c (.int .i64 0))), .none, [], []⟩] .false), (.seq 2),
    (.region [⟨(.some 8), (.mv (.t 0)), .none, [], []⟩, ⟨(.some 9), (.mv (.t 1)), .none, [], []⟩, ⟨(.some 10), (.call 36 [(.t 8), (.t 9)]), .none, [], []⟩, ⟨(.some 7), (.mv (.t 10)), .none, [], []⟩] .false), (.seq 15), (.block 0), (.seq 2),
    (.region [⟨(.some 12), (.mv (.t 7)), .none, [], []⟩, ⟨(.some 13), (.bin .eql .p (.t 12) (.c .nilp)), .none, [], []⟩, ⟨(.some 11), (.mv (.t 13)), .none, [], []⟩] .false), (.cond (.t 11) 4), (.seq 2),
    (.region [⟨(.some 6), (.mv (.c (.int .i64 6))), .none, [], []⟩] .false), .ret, (.seq 2),
    (.region [⟨(.some 15), (.mv (.t 7)), .none, [], []⟩, ⟨(.some 16), (.nilc (.t 15)), .none, [], []⟩, ⟨(.some 17), (.fad 2 (.t 16)), .none, [], []⟩, ⟨(.some 18), (.ld .none (.t 17)), .none, [], []⟩, ⟨(.some 14), (.mv (.t 18)), .none, [], []⟩] .false), (.cond (.t 14) 4), (.seq 2),
    (.region [⟨(.some 6), (.mv (.c (.int .i64 10))), .none, [], []⟩] .false), .ret, .skip, (.seq 2),
    (.region [⟨(.some 19), (.mv (.t 7)), .none, [], []⟩, ⟨(.some 20), (.mv (.t 7)), .none, [], []⟩, ⟨(.some 21), (.mv (.t 2)), .none, [], []⟩, ⟨(.some 22), (.nilc (.t 19)), .none, [], []⟩, ⟨(.some 23), (.fad 1 (.t 22)), .none, [], []⟩, ⟨.none, (.st 1 (.t 23) (.t 21)), .none, [], []⟩, ⟨(.some 24), (.nilc (.t 20)), .none, [], []⟩, ⟨(.some 25), (.fad 2 (.t 24)), .none, [], []⟩, ⟨.none, (.st 1 (.t 25) (.c (.bool .true))), .none, [], []⟩] .false), (.seq 2),
    (.region [⟨(.some 6), (.mv (.c (.int .i64 0))), .none, [], []⟩] .false), .ret]
theorem F11_at : F11.at Try.prog 11 Try.f11 := ⟨Try.func11, by kernel_rfl, by kernel_rfl, by kernel_rfl, by kernel_rfl, by kernel_rfl⟩

-- "(*signalbox/ceiling.Locks).Unlock" res .true
def F12 : AFn where
  np := 3
  nt := 34
  res := [(.t 6)]
  tab := [(.seq 2),
    (.region [⟨(.some 6), (.mv (.c (.int .i64 0))), .none, [], []⟩] .false), (.seq 2),
    (.region [⟨(.some 8), (.mv (.t 0)), .none, [], []⟩, ⟨(.some 9), (.mv (.t 1)), .none, [], []⟩, ⟨(.some 10), (.call 36 [(.t 8), (.t 9)]), .none, [], []⟩, ⟨(.some 7), (.mv (.t 10)), .none, [], []⟩] .false), (.seq 15), (.block 0), (.seq 2),
    (.region [⟨(.some 12), (.mv (.t 7)), .none, [], []⟩, ⟨(.some 13), (.bin .eql .p (.t 12) (.c .nilp)), .none, [], []⟩, ⟨(.some 11), (.mv (.t 13)), .none, [], []⟩] .false), (.cond (.t 11) 4), (.seq 2),
    (.region [⟨(.some 6), (.mv (.c (.int .i64 6))), .none, [], []⟩] .false), .ret, (.seq 2),
    (.region [⟨(.some 15), (.mv (.t 7)), .none, [], []⟩, ⟨(.some 16), (.nilc (.t 15)), .none, [], []⟩, ⟨(.some 17), (.fad 2 (.t 16)), .none, [], []⟩, ⟨(.some 18), (.ld .none (.t 17)), .none, [], []⟩, ⟨(.some 19), (.un .not (.t 18)), .none, [], []⟩, ⟨(.some 20), (.mv (.t 19)), .none, [], []⟩, ⟨(.some 21), (.mv (.t 7)), (.some ((.some 20), .false)), [], []⟩, ⟨(.some 22), (.nilc (.t 21)), (.some ((.some 20), .false)), [], []⟩, ⟨(.some 23), (.fad 1 (.t 22)), (.some ((.some 20), .false)), [], []⟩, ⟨(.some 24), (.ld .none (.t 23)), (.some ((.some 20), .false)), [], []⟩, ⟨(.some 25), (.mv (.t 2)), (.some ((.some 20), .false)), [], []⟩, ⟨(.some 26), (.bin .neq .o (.t 24) (.t 25)), (.some ((.some 20), .false)), [], []⟩, ⟨(.some 27), (.pick (.t 20) (.c (.bool .true)) (.t 26)), .none, [], []⟩, ⟨(.some 14), (.mv (.t 27)), .none, [], []⟩] .false), (.cond (.t 14) 4), (.seq 2),
    (.region [⟨(.some 6), (.mv (.c (.int .i64 8))), .none, [], []⟩] .false), .ret, .skip, (.seq 2),
    (.region [⟨(.some 28), (.mv (.t 7)), .none, [], []⟩, ⟨(.some 29), (.mv (.t 7)), .none, [], []⟩, ⟨(.some 30), (.nilc (.t 28)), .none, [], []⟩, ⟨(.some 31), (.fad 1 (.t 30)), .none, [], []⟩, ⟨.none, (.st 1 (.t 31) (.c (.int .i64 0))), .none, [], []⟩, ⟨(.some 32), (.nilc (.t 29)), .none, [], []⟩, ⟨(.some 33), (.fad 2 (.t 32)), .none, [], []⟩, ⟨.none, (.st 1 (.t 33) (.c (.bool .false))), .none, [], []⟩] .false), (.seq 2),
    (.region [⟨(.some 6), (.mv (.c (.int .i64 0))), .none, [], []⟩] .false), .ret]
theorem F12_at : F12.at Try.prog 12 Try.f12 := ⟨Try.func12, by kernel_rfl, by kernel_rfl, by kernel_rfl, by kernel_rfl, by kernel_rfl⟩

-- "(*signalbox/ceiling.Locks).Held" res .true
def F14 : AFn where
  np := 2
  nt := 34
  res := [(.t 4)]
  tab := [(.seq 2),
    (.region [⟨(.some 4), (.mv (.c .nils)), .none, [], []⟩] .false), (.seq 2),
    (.region [⟨(.some 5), (.mv (.c .nils)), .none, [], []⟩] .false), (.seq 23), (.seq 2),
    (.region [⟨(.some 8), (.mv (.t 0)), .none, [], []⟩, ⟨(.some 9), (.call 17 [(.t 8)]), .none, [], []⟩, ⟨(.some 10), (.mv (.c (.int .i64 0))), .none, [], []⟩] .false), (.block 0), .loop, (.seq 2),
    (.region [⟨(.some 11), (.bin .lss .o (.t 10) (.t 9)), .none, [], []⟩] .false), (.seq 4), (.cond (.t 11) 2), .skip, (.exit 0), (.seq 11), (.block 1), (.seq 2),
    (.region [⟨(.some 12), (.mv (.t 10)), .none, [], []⟩, ⟨(.some 6), (.mv (.t 12)), .none, [], []⟩] .false), (.seq 2),
    (.region [⟨(.some 13), (.mv (.t 0)), .none, [], []⟩, ⟨(.some 14), (.mv (.t 6)), .none, [], []⟩, ⟨(.some 15), (.call 36 [(.t 13), (.t 14)]), .none, [], []⟩, ⟨(.some 7), (.mv (.t 15)), .none, [], []⟩] .false), (.seq 2),
    (.region [⟨(.some 16), (.mv (.t 7)), .none, [], []⟩, ⟨(.some 17), (.nilc (.t 16)), .none, [], []⟩, ⟨(.some 18), (.fad 2 (.t 17)), .none, [], []⟩, ⟨(.some 19), (.ld .none (.t 18)), .none, [], []⟩, ⟨(.some 20), (.mv (.t 19)), .none, [], []⟩, ⟨(.some 21), (.mv (.t 7)), (.some ((.some 20), .true)), [], []⟩, ⟨(.some 22), (.nilc (.t 21)), (.some ((.some 20), .true)), [], []⟩, ⟨(.some 23), (.fad 1 (.t 22)), (.some ((.some 20), .true)), [], []⟩, ⟨(.some 24), (.ld .none (.t 23)), (.some ((.some 20), .true)), [], []⟩, ⟨(.some 25), (.mv (.t 1)), (.some ((.some 20), .true)), [], []⟩, ⟨(.some 26), (.bin .eql .o (.t 24) (.t 25)), (.some ((.some 20), .true)), [], []⟩, ⟨(.some 27), (.pick (.t 20) (.t 26) (.c (.bool .false))), .none, [], []⟩] .false), (.cond (.t 27) 2),
    (.region [⟨(.some 28), (.mv (.t 5)), .none, [], []⟩, ⟨(.some 29), (.mv (.t 6)), .none, [], []⟩, ⟨(.some 30), (.lit 3 1 1 [(.int .i64 0)] [(0, (.t 29))]), .none, [], []⟩, ⟨(.some 31), (.app 3 1 8 [(.int .i64 0)] (.t 28) (.t 30)), .none, [], []⟩, ⟨(.some 5), (.mv (.t 31)), .none, [], []⟩] .false), .skip,
    (.region [⟨(.some 32), (.bin .add .o (.t 10) (.c (.int .i64 1))), .none, [], []⟩, ⟨(.some 10), (.mv (.t 32)), .none, [], []⟩] .false), (.seq 2),
    (.region [⟨(.some 33), (.mv (.t 5)), .none, [], []⟩, ⟨(.some 4), (.mv (.t 33)), .none, [], []⟩] .false), .ret]
theorem F14_at : F14.at Try.prog 14 Try.f14 := ⟨Try.func14, by kernel_rfl, by kernel_rfl, by kernel_rfl, by kernel_rfl, by kernel_rfl⟩

-- "(*signalbox/ceiling.Locks).Level" res .true
def F16 : AFn where
  np := 3
  nt := 27
  res := [(.t 6)]
  tab := [(.seq 2),
    (.region [⟨(.some 6), (.mv (.c (.int .i64 0))), .none, [], []⟩] .false), (.seq 17), (.seq 2),
    (.region [⟨(.some 9), (.mv (.t 0)), .none, [], []⟩, ⟨(.some 10), (.mv (.t 1)), .none, [], []⟩, ⟨(.some 11), (.call 14 [(.t 9), (.t 10)]), .none, [], []⟩, ⟨(.some 12), (.len .false (.t 11)), .none, [], []⟩, ⟨(.some 13), (.mv (.c (.int .i64 0))), .none, [], []⟩] .false), (.block 0), .loop, (.seq 2),
    (.region [⟨(.some 14), (.bin .lss .o (.t 13) (.t 12)), .none, [], []⟩] .false), (.seq 4), (.cond (.t 14) 2), .skip, (.exit 0), (.seq 5), (.block 1), (.seq 2),
    (.region [⟨(.some 15), (.idx 3 1 (.t 11) (.t 13)), .none, [], []⟩, ⟨(.some 16), (.ld .none (.t 15)), .none, [], []⟩, ⟨(.some 8), (.mv (.t 16)), .none, [], []⟩] .false),
    (.region [⟨(.some 17), (.mv (.t 2)), .none, [], []⟩, ⟨(.some 18), (.mv (.t 0)), .none, [], []⟩, ⟨(.some 19), (.mv (.t 8)), .none, [], []⟩, ⟨(.some 20), (.call 36 [(.t 18), (.t 19)]), .none, [], []⟩, ⟨(.some 21), (.nilc (.t 20)), .none, [], []⟩, ⟨(.some 22), (.fad 0 (.t 21)), .none, [], []⟩, ⟨(.some 23), (.ld .none (.t 22)), .none, [], []⟩, ⟨(.some 24), (.mnmx .true (.t 17) (.t 23)), .none, [], []⟩, ⟨(.some 2), (.mv (.t 24)), .none, [], []⟩] .false),
    (.region [⟨(.some 25), (.bin .add .o (.t 13) (.c (.int .i64 1))), .none, [], []⟩, ⟨(.some 13), (.mv (.t 25)), .none, [], []⟩] .false), (.seq 2),
    (.region [⟨(.some 26), (.mv (.t 2)), .none, [], []⟩, ⟨(.some 6), (.mv (.t 26)), .none, [], []⟩] .false), .ret]
theorem F16_at : F16.at Try.prog 16 Try.f16 := ⟨Try.func16, by kernel_rfl, by kernel_rfl, by kernel_rfl, by kernel_rfl, by kernel_rfl⟩

-- "(*signalbox/ceiling.Locks).Len" res .true
def F17 : AFn where
  np := 1
  nt := 10
  res := [(.t 2)]
  tab := [(.seq 2),
    (.region [⟨(.some 2), (.mv (.c (.int .i64 0))), .none, [], []⟩] .false), (.seq 8), (.seq 2),
    (.region [⟨(.some 3), (.mv (.t 0)), .none, [], []⟩, ⟨(.some 4), (.bin .eql .p (.t 3) (.c .nilp)), .none, [], []⟩] .false), (.cond (.t 4) 4), (.seq 2),
    (.region [⟨(.some 2), (.mv (.c (.int .i64 0))), .none, [], []⟩] .false), .ret, .skip, (.seq 2),
    (.region [⟨(.some 5), (.mv (.t 0)), .none, [], []⟩, ⟨(.some 6), (.nilc (.t 5)), .none, [], []⟩, ⟨(.some 7), (.fad 0 (.t 6)), .none, [], []⟩, ⟨(.some 8), (.ld .none (.t 7)), .none, [], []⟩, ⟨(.some 9), (.len .false (.t 8)), .none, [], []⟩, ⟨(.some 2), (.mv (.t 9)), .none, [], []⟩] .false), .ret]
theorem F17_at : F17.at Try.prog 17 Try.f17 := ⟨Try.func17, by kernel_rfl, by kernel_rfl, by kernel_rfl, by kernel_rfl, by kernel_rfl⟩

-- "signalbox/signalboxlaw27.fixed" res .true
def F25 : AFn where
  np := 0
  nt := 51
  res := [(.t 0)]
  tab := [(.seq 2),
    (.region [⟨(.some 0), (.mv (.c (.bool .false))), .none, [], []⟩] .false), (.seq 2),
    (.region [⟨(.some 3), (.call 39 []), .none, [], []⟩, ⟨(.some 4), (.call 30 [(.t 3), (.c (.int .i64 1))]), .none, [], []⟩, ⟨(.some 5), (.call 39 []), .none, [], []⟩, ⟨(.some 6), (.call 31 [(.t 5), (.c (.int .i64 0))]), .none, [], []⟩, ⟨(.some 1), (.mv (.t 4)), .none, [], []⟩, ⟨(.some 2), (.mv (.t 6)), .none, [], []⟩] .false), (.seq 2),
    (.region [⟨(.some 7), (.call 39 []), .none, [], []⟩, ⟨(.some 8), (.call 27 [(.t 7), (.c (.int .i64 0)), (.c (.int .u64 25))]), .none, [], []⟩, ⟨(.some 9), (.bin .eql .o (.t 8) (.c (.int .u64 3))), .none, [], []⟩, ⟨(.some 10), (.mv (.t 9)), .none, [], []⟩, ⟨(.some 11), (.call 39 []), (.some ((.some 10), .true)), [], []⟩, ⟨(.some 12), (.call 27 [(.t 11), (.c (.int .i64 1)), (.c (.int .u64 25))]), (.some ((.some 10), .true)), [], []⟩, ⟨(.some 13), (.bin .eql .o (.t 12) (.c (.int .u64 0))), (.some ((.some 10), .true)), [], []⟩, ⟨(.some 14), (.pick (.t 10) (.t 13) (.c (.bool .false))), .none, [], []⟩, ⟨(.some 15), (.mv (.t 14)), .none, [], []⟩, ⟨(.some 16), (.call 39 []), (.some ((.some 15), .true)), [], []⟩, ⟨(.some 17), (.call 29 [(.t 16), (.c (.int .i64 0)), (.c (.int .i64 1))]), (.some ((.some 15), .true)), [], []⟩, ⟨(.some 18), (.bin .eql .o (.t 17) (.c (.int .u64 7))), (.some ((.some 15), .true)), [], []⟩, ⟨(.some 19), (.pick (.t 15) (.t 18) (.c (.bool .false))), .none, [], []⟩, ⟨(.some 20), (.mv (.t 19)), .none, [], []⟩, ⟨(.some 21), (.call 39 []), (.some ((.some 20), .true)), [], []⟩, ⟨(.some 22), (.call 28 [(.t 21), (.c (.int .i64 1))]), (.some ((.some 20), .true)), [], []⟩, ⟨(.some 23), (.bin .eql .o (.t 22) (.c (.int .u64 7))), (.some ((.some 20), .true)), [], []⟩, ⟨(.some 24), (.pick (.t 20) (.t 23) (.c (.bool .false))), .none, [], []⟩, ⟨(.some 25), (.mv (.t 24)), .none, [], []⟩, ⟨(.some 26), (.call 39 []), (.some ((.some 25), .true)), [], []⟩, ⟨(.some 27), (.call 28 [(.t 26), (.c (.int .i64 0))]), (.some ((.some 25), .true)), [], []⟩, ⟨(.some 28), (.bin .eql .o (.t 27) (.c (.int .u64 0))), (.some ((.some 25), .true)), [], []⟩, ⟨(.some 29), (.pick (.t 25) (.t 28) (.c (.bool .false))), .none, [], []⟩, ⟨(.some 30), (.mv (.t 29)), .none, [], []⟩, ⟨(.some 31), (.mv (.t 1)), (.some ((.some 30), .true)), [], []⟩, ⟨(.some 32), (.len .false (.t 31)), (.some ((.some 30), .true)), [], []⟩, ⟨(.some 33), (.bin .eql .o (.t 32) (.c (.int .i64 1))), (.some ((.some 30), .true)), [], []⟩, ⟨(.some 34), (.pick (.t 30) (.t 33) (.c (.bool .false))), .none, [], []⟩, ⟨(.some 35), (.mv (.t 34)), .none, [], []⟩, ⟨(.some 36), (.mv (.t 1)), (.some ((.some 35), .true)), [], []⟩, ⟨(.some 37), (.idx 3 1 (.t 36) (.c (.int .i64 0))), (.some ((.some 35), .true)), [], []⟩, ⟨(.some 38), (.ld .none (.t 37)), (.some ((.some 35), .true)), [], []⟩, ⟨(.some 39), (.bin .eql .o (.t 38) (.c (.int .i64 0))), (.some ((.some 35), .true)), [], []⟩, ⟨(.some 40), (.pick (.t 35) (.t 39) (.c (.bool .false))), .none, [], []⟩, ⟨(.some 41), (.mv (.t 40)), .none, [], []⟩, ⟨(.some 42), (.mv (.t 2)), (.some ((.some 41), .true)), [], []⟩, ⟨(.some 43), (.len .false (.t 42)), (.some ((.some 41), .true)), [], []⟩, ⟨(.some 44), (.bin .eql .o (.t 43) (.c (.int .i64 2))), (.some ((.some 41), .true)), [], []⟩, ⟨(.some 45), (.pick (.t 41) (.t 44) (.c (.bool .false))), .none, [], []⟩, ⟨(.some 46), (.mv (.t 45)), .none, [], []⟩, ⟨(.some 47), (.call 39 []), (.some ((.some 46), .true)), [], []⟩, ⟨(.some 48), (.call 28 [(.t 47), (.c (.int .i64 2))]), (.some ((.some 46), .true)), [], []⟩, ⟨(.some 49), (.bin .eql .o (.t 48) (.c (.int .u64 0))), (.some ((.some 46), .true)), [], []⟩, ⟨(.some 50), (.pick (.t 46) (.t 49) (.c (.bool .false))), .none, [], []⟩, ⟨(.some 0), (.mv (.t 50)), .none, [], []⟩] .false), .ret]
theorem F25_at : F25.at Try.prog 25 Try.f25 := ⟨Try.func25, by kernel_rfl, by kernel_rfl, by kernel_rfl, by kernel_rfl, by kernel_rfl⟩

-- "signalbox/signalboxlaw27.few" res .true
def F26 : AFn where
  np := 1
  nt := 85
  res := [(.t 2)]
  tab := [(.seq 2),
    (.region [⟨(.some 1), (.box 55 (.t 0)), .none, [], []⟩, ⟨(.some 2), (.mv (.c (.bool .false))), .none, [], []⟩] .false), (.seq 23), (.seq 2),
    (.region [⟨(.some 10), (.fad 7 (.t 1)), .none, [], []⟩, ⟨(.some 11), (.ld .none (.t 10)), .none, [], []⟩, ⟨(.some 12), (.len .false (.t 11)), .none, [], []⟩, ⟨(.some 13), (.mv (.c (.int .i64 0))), .none, [], []⟩] .false), (.block 0), .loop, (.seq 2),
    (.region [⟨(.some 14), (.bin .lss .o (.t 13) (.t 12)), .none, [], []⟩] .false), (.seq 4), (.cond (.t 14) 2), .skip, (.exit 0), (.seq 11), (.block 1), (.seq 2),
    (.region [⟨(.some 15), (.idx 3 1 (.t 11) (.t 13)), .none, [], []⟩, ⟨(.some 16), (.ld .none (.t 15)), .none, [], []⟩, ⟨(.some 4), (.mv (.t 16)), .none, [], []⟩] .false), (.seq 2),
    (.region [⟨(.some 17), (.mv (.t 4)), .none, [], []⟩, ⟨(.some 18), (.bin .gtr .o (.t 17) (.c (.int .i64 64))), .none, [], []⟩, ⟨(.some 19), (.mv (.t 18)), .none, [], []⟩, ⟨(.some 20), (.mv (.t 4)), (.some ((.some 19), .false)), [], []⟩, ⟨(.some 21), (.bin .lss .o (.t 20) (.c (.int .i64 (-64)))), (.some ((.some 19), .false)), [], []⟩, ⟨(.some 22), (.pick (.t 19) (.c (.bool .true)) (.t 21)), .none, [], []⟩] .false), (.cond (.t 22) 4), (.seq 2),
    (.region [⟨(.some 2), (.mv (.c (.bool .false))), .none, [], []⟩] .false), .ret, .skip,
    (.region [⟨(.some 23), (.bin .add .o (.t 13) (.c (.int .i64 1))), .none, [], []⟩, ⟨(.some 13), (.mv (.t 23)), .none, [], []⟩] .false), (.seq 54), (.seq 2),
    (.region [⟨(.some 24), (.fad 8 (.t 1)), .none, [], []⟩, ⟨(.some 25), (.ld .none (.t 24)), .none, [], []⟩, ⟨(.some 26), (.len .false (.t 25)), .none, [], []⟩, ⟨(.some 27), (.mv (.c (.int .i64 0))), .none, [], []⟩] .false), (.block 2), .loop, (.seq 2),
    (.region [⟨(.some 28), (.bin .lss .o (.t 27) (.t 26)), .none, [], []⟩] .false), (.seq 4), (.cond (.t 28) 2), .skip, (.exit 2), (.seq 42), (.block 3), (.seq 2),
    (.region [⟨(.some 29), (.idx 65 7 (.t 25) (.t 27)), .none, [], []⟩, ⟨(.some 30), (.ld (.some 7) (.t 29)), .none, [], []⟩, ⟨(.some 6), (.alloc 65 [(.int .i64 0), (.int .i64 0), (.int .i64 0), (.int .i64 0), (.int .i64 0), (.int .i64 0), .nils]), .none, [], []⟩, ⟨.none, (.st 7 (.t 6) (.t 30)), .none, [], []⟩] .false), (.seq 8), (.seq 2),
    (.region [⟨(.some 31), (.fad 1 (.t 6)), .none, [], []⟩, ⟨(.some 32), (.ld .none (.t 31)), .none, [], []⟩, ⟨(.some 33), (.bin .gtr .o (.t 32) (.c (.int .i64 64))), .none, [], []⟩, ⟨(.some 34), (.mv (.t 33)), .none, [], []⟩, ⟨(.some 35), (.fad 1 (.t 6)), (.some ((.some 34), .false)), [], []⟩, ⟨(.some 36), (.ld .none (.t 35)), (.some ((.some 34), .false)), [], []⟩, ⟨(.some 37), (.bin .lss .o (.t 36) (.c (.int .i64 (-64)))), (.some ((.some 34), .false)), [], []⟩, ⟨(.some 38), (.pick (.t 34) (.c (.bool .true)) (.t 37)), .none, [], []⟩, ⟨(.some 39), (.mv (.t 38)), .none, [], []⟩, ⟨(.some 40), (.fad 6 (.t 6)), (.some ((.some 39), .false)), [], []⟩, ⟨(.some 41), (.ld .none (.t 40)), (.some ((.some 39), .false)), [], []⟩, ⟨(.some 42), (.len .false (.t 41)), (.some ((.some 39), .false)), [], []⟩, ⟨(.some 43), (.bin .gtr .o (.t 42) (.c (.int .i64 30))), (.some ((.some 39), .false)), [], []⟩, ⟨(.some 44), (.pick (.t 39) (.c (.bool .true)) (.t 43)), .none, [], []⟩, ⟨(.some 45), (.mv (.t 44)), .none, [], []⟩, ⟨(.some 46), (.fad 5 (.t 6)), (.some ((.some 45), .false)), [], []⟩, ⟨(.some 47), (.ld .none (.t 46)), (.some ((.some 45), .false)), [], []⟩, ⟨(.some 48), (.bin .gtr .o (.t 47) (.c (.int .i64 1099511627776))), (.some ((.some 45), .false)), [], []⟩, ⟨(.some 49), (.pick (.t 45) (.c (.bool .true)) (.t 48)), .none, [], []⟩] .false), (.cond (.t 49) 4), (.seq 2),
    (.region [⟨(.some 2), (.mv (.c (.bool .false))), .none, [], []⟩] .false), .ret, .skip, (.seq 2),
    (.region [⟨(.some 50), .mkm, .none, [], []⟩, ⟨(.some 7), (.mv (.t 50)), .none, [], []⟩] .false), (.seq 2),
    (.region [⟨(.some 51), (.fad 6 (.t 6)), .none, [], []⟩, ⟨(.some 52), (.ld .none (.t 51)), .none, [], []⟩, ⟨(.some 53), (.len .false (.t 52)), .none, [], []⟩, ⟨(.some 54), (.mv (.c (.int .i64 0))), .none, [], []⟩] .false), (.block 4), .loop, (.seq 2),
    (.region [⟨(.some 55), (.bin .lss .o (.t 54) (.t 53)), .none, [], []⟩] .false), (.seq 4), (.cond (.t 55) 2), .skip, (.exit 4), (.seq 17), (.block 5), (.seq 2),
    (.region [⟨(.some 56), (.idx 87 3 (.t 52) (.t 54)), .none, [], []⟩, ⟨(.some 57), (.ld (.some 3) (.t 56)), .none, [], []⟩, ⟨(.some 9), (.alloc 87 [(.int .i64 0), (.int .i64 0), (.int .i64 0)]), .none, [], []⟩, ⟨.none, (.st 3 (.t 9) (.t 57)), .none, [], []⟩] .false), (.seq 8), (.seq 2),
    (.region [⟨(.some 58), (.fad 0 (.t 9)), .none, [], []⟩, ⟨(.some 59), (.ld .none (.t 58)), .none, [], []⟩, ⟨(.some 60), (.bin .eql .o (.t 59) (.c (.int .i64 5))), .none, [], []⟩, ⟨(.some 61), (.mv (.t 60)), .none, [], []⟩, ⟨(.some 62), (.mv (.t 7)), (.some ((.some 61), .true)), [], []⟩, ⟨(.some 63), (.fad 1 (.t 9)), (.some ((.some 61), .true)), [], []⟩, ⟨(.some 64), (.ld .none (.t 63)), (.some ((.some 61), .true)), [], []⟩, ⟨(.some 65), (.mget (.bool .false) (.t 62) (.t 64)), (.some ((.some 61), .true)), [], []⟩, ⟨(.some 66), (.pick (.t 61) (.t 65) (.c (.bool .false))), .none, [], []⟩] .false), (.cond (.t 66) 4), (.seq 2),
    (.region [⟨(.some 2), (.mv (.c (.bool .false))), .none, [], []⟩] .false), .ret, .skip, (.seq 2),
    (.region [⟨(.some 67), (.fad 0 (.t 9)), .none, [], []⟩, ⟨(.some 68), (.ld .none (.t 67)), .none, [], []⟩, ⟨(.some 69), (.bin .eql .o (.t 68) (.c (.int .i64 5))), .none, [], []⟩, ⟨(.some 70), (.mv (.t 69)), .none, [], []⟩, ⟨(.some 71), (.fad 0 (.t 9)), (.some ((.some 70), .false)), [], []⟩, ⟨(.some 72), (.ld .none (.t 71)), (.some ((.some 70), .false)), [], []⟩, ⟨(.some 73), (.bin .eql .o (.t 72) (.c (.int .i64 6))), (.some ((.some 70), .false)), [], []⟩, ⟨(.some 74), (.pick (.t 70) (.c (.bool .true)) (.t 73)), .none, [], []⟩] .false), (.cond (.t 74) 2),
    (.region [⟨(.some 75), (.mv (.t 7)), .none, [], []⟩, ⟨(.some 76), (.fad 1 (.t 9)), .none, [], []⟩, ⟨(.some 77), (.ld .none (.t 76)), .none, [], []⟩, ⟨(.some 78), (.fad 0 (.t 9)), .none, [], []⟩, ⟨(.some 79), (.ld .none (.t 78)), .none, [], []⟩, ⟨(.some 80), (.bin .eql .o (.t 79) (.c (.int .i64 5))), .none, [], []⟩, ⟨.none, (.mset (.t 75) (.t 77) (.t 80)), .none, [], []⟩] .false), .skip,
    (.region [⟨(.some 81), (.bin .add .o (.t 54) (.c (.int .i64 1))), .none, [], []⟩, ⟨(.some 54), (.mv (.t 81)), .none, [], []⟩] .false),
    (.region [⟨(.some 82), (.bin .add .o (.t 27) (.c (.int .i64 1))), .none, [], []⟩, ⟨(.some 27), (.mv (.t 82)), .none, [], []⟩] .false), (.seq 2),
    (.region [⟨(.some 83), (.ld (.some 10) (.t 1)), .none, [], []⟩, ⟨(.some 84), (.call 35 [(.t 83)]), .none, [], []⟩, ⟨(.some 2), (.mv (.t 84)), .none, [], []⟩] .false), .ret]
theorem F26_at : F26.at Try.prog 26 Try.f26 := ⟨Try.func26, by kernel_rfl, by kernel_rfl, by kernel_rfl, by kernel_rfl, by kernel_rfl⟩

-- "signalbox/preempt.Count" res .true
def F27 : AFn where
  np := 3
  nt := 31
  res := [(.t 6)]
  tab := [(.seq 2),
    (.region [⟨(.some 3), (.box 55 (.t 0)), .none, [], []⟩, ⟨(.some 6), (.mv (.c (.int .u64 0))), .none, [], []⟩] .false), (.seq 2),
    (.region [⟨(.some 7), (.mv (.c (.int .u64 0))), .none, [], []⟩] .false), (.seq 17), (.seq 2),
    (.region [⟨(.some 10), (.ld (.some 10) (.t 3)), .none, [], []⟩, ⟨(.some 11), (.mv (.t 1)), .none, [], []⟩, ⟨(.some 12), (.call 40 [(.t 10), (.t 11)]), .none, [], []⟩, ⟨(.some 13), (.len .false (.t 12)), .none, [], []⟩, ⟨(.some 14), (.mv (.c (.int .i64 0))), .none, [], []⟩] .false), (.block 0), .loop, (.seq 2),
    (.region [⟨(.some 15), (.bin .lss .o (.t 14) (.t 13)), .none, [], []⟩] .false), (.seq 4), (.cond (.t 15) 2), .skip, (.exit 0), (.seq 5), (.block 1), (.seq 2),
    (.region [⟨(.some 16), (.idx 3 1 (.t 12) (.t 14)), .none, [], []⟩, ⟨(.some 17), (.ld .none (.t 16)), .none, [], []⟩, ⟨(.some 9), (.mv (.t 17)), .none, [], []⟩] .false),
    (.region [⟨(.some 18), (.mv (.t 7)), .none, [], []⟩, ⟨(.some 19), (.mv (.t 2)), .none, [], []⟩, ⟨(.some 20), (.fad 8 (.t 3)), .none, [], []⟩, ⟨(.some 21), (.ld .none (.t 20)), .none, [], []⟩, ⟨(.some 22), (.mv (.t 9)), .none, [], []⟩, ⟨(.some 23), (.idx 65 7 (.t 21) (.t 22)), .none, [], []⟩, ⟨(.some 24), (.fad 2 (.t 23)), .none, [], []⟩, ⟨(.some 25), (.ld .none (.t 24)), .none, [], []⟩, ⟨(.some 26), (.call 43 [(.t 25)]), .none, [], []⟩, ⟨(.some 27), (.call 42 [(.t 19), (.t 26)]), .none, [], []⟩, ⟨(.some 28), (.call 41 [(.t 18), (.t 27)]), .none, [], []⟩, ⟨(.some 7), (.mv (.t 28)), .none, [], []⟩] .false),
    (.region [⟨(.some 29), (.bin .add .o (.t 14) (.c (.int .i64 1))), .none, [], []⟩, ⟨(.some 14), (.mv (.t 29)), .none, [], []⟩] .false), (.seq 2),
    (.region [⟨(.some 30), (.mv (.t 7)), .none, [], []⟩, ⟨(.some 6), (.mv (.t 30)), .none, [], []⟩] .false), .ret]
theorem F27_at : F27.at Try.prog 27 Try.f27 := ⟨Try.func27, by kernel_rfl, by kernel_rfl, by kernel_rfl, by kernel_rfl, by kernel_rfl⟩

-- "signalbox/preempt.Delay" res .true
def F28 : AFn where
  np := 2
  nt := 24
  res := [(.t 4)]
  tab := [(.seq 2),
    (.region [⟨(.some 2), (.box 55 (.t 0)), .none, [], []⟩, ⟨(.some 4), (.mv (.c (.int .u64 0))), .none, [], []⟩] .false), (.seq 2),
    (.region [⟨(.some 5), (.mv (.c (.int .u64 0))), .none, [], []⟩] .false), (.seq 17), (.seq 2),
    (.region [⟨(.some 8), (.ld (.some 10) (.t 2)), .none, [], []⟩, ⟨(.some 9), (.mv (.t 1)), .none, [], []⟩, ⟨(.some 10), (.call 30 [(.t 8), (.t 9)]), .none, [], []⟩, ⟨(.some 11), (.len .false (.t 10)), .none, [], []⟩, ⟨(.some 12), (.mv (.c (.int .i64 0))), .none, [], []⟩] .false), (.block 0), .loop, (.seq 2),
    (.region [⟨(.some 13), (.bin .lss .o (.t 12) (.t 11)), .none, [], []⟩] .false), (.seq 4), (.cond (.t 13) 2), .skip, (.exit 0), (.seq 5), (.block 1), (.seq 2),
    (.region [⟨(.some 14), (.idx 3 1 (.t 10) (.t 12)), .none, [], []⟩, ⟨(.some 15), (.ld .none (.t 14)), .none, [], []⟩, ⟨(.some 7), (.mv (.t 15)), .none, [], []⟩] .false),
    (.region [⟨(.some 16), (.mv (.t 5)), .none, [], []⟩, ⟨(.some 17), (.ld (.some 10) (.t 2)), .none, [], []⟩, ⟨(.some 18), (.mv (.t 7)), .none, [], []⟩, ⟨(.some 19), (.mv (.t 1)), .none, [], []⟩, ⟨(.some 20), (.call 29 [(.t 17), (.t 18), (.t 19)]), .none, [], []⟩, ⟨(.some 21), (.mnmx .true (.t 16) (.t 20)), .none, [], []⟩, ⟨(.some 5), (.mv (.t 21)), .none, [], []⟩] .false),
    (.region [⟨(.some 22), (.bin .add .o (.t 12) (.c (.int .i64 1))), .none, [], []⟩, ⟨(.some 12), (.mv (.t 22)), .none, [], []⟩] .false), (.seq 2),
    (.region [⟨(.some 23), (.mv (.t 5)), .none, [], []⟩, ⟨(.some 4), (.mv (.t 23)), .none, [], []⟩] .false), .ret]
theorem F28_at : F28.at Try.prog 28 Try.f28 := ⟨Try.func28, by kernel_rfl, by kernel_rfl, by kernel_rfl, by kernel_rfl, by kernel_rfl⟩

-- "signalbox/preempt.Blocking" res .true
def F29 : AFn where
  np := 3
  nt := 61
  res := [(.t 6)]
  tab := [(.seq 2),
    (.region [⟨(.some 3), (.box 55 (.t 0)), .none, [], []⟩, ⟨(.some 6), (.mv (.c (.int .u64 0))), .none, [], []⟩] .false), (.seq 8), (.seq 2),
    (.region [⟨(.some 11), (.ld (.some 10) (.t 3)), .none, [], []⟩, ⟨(.some 12), (.mv (.t 1)), .none, [], []⟩, ⟨(.some 13), (.call 44 [(.t 11), (.t 12)]), .none, [], []⟩, ⟨(.some 14), (.un .not (.t 13)), .none, [], []⟩, ⟨(.some 15), (.mv (.t 14)), .none, [], []⟩, ⟨(.some 16), (.ld (.some 10) (.t 3)), (.some ((.some 15), .false)), [], []⟩, ⟨(.some 17), (.mv (.t 2)), (.some ((.some 15), .false)), [], []⟩, ⟨(.some 18), (.call 44 [(.t 16), (.t 17)]), (.some ((.some 15), .false)), [], []⟩, ⟨(.some 19), (.un .not (.t 18)), (.some ((.some 15), .false)), [], []⟩, ⟨(.some 20), (.pick (.t 15) (.c (.bool .true)) (.t 19)), .none, [], []⟩] .false), (.cond (.t 20) 4), (.seq 2),
    (.region [⟨(.some 6), (.mv (.c (.int .u64 0))), .none, [], []⟩] .false), .ret, .skip, (.seq 2),
    (.region [⟨(.some 21), (.fad 8 (.t 3)), .none, [], [3]⟩, ⟨(.some 22), (.ld .none (.t 21)), .none, [0], [21]⟩, ⟨(.some 23), (.mv (.t 1)), .none, [], [1]⟩, ⟨(.some 24), (.idx 65 7 (.t 22) (.t 23)), .none, [1, 2], [22, 23]⟩, ⟨(.some 25), (.ld (.some 7) (.t 24)), .none, [3], [24]⟩, ⟨(.some 26), (.fad 8 (.t 3)), .none, [], [3]⟩, ⟨(.some 27), (.ld .none (.t 26)), .none, [5], [26]⟩, ⟨(.some 28), (.mv (.t 2)), .none, [], [2]⟩, ⟨(.some 29), (.idx 65 7 (.t 27) (.t 28)), .none, [6, 7], [27, 28]⟩, ⟨(.some 30), (.fad 0 (.t 29)), .none, [8], [29]⟩, ⟨(.some 31), (.ld .none (.t 30)), .none, [9], [30]⟩, ⟨(.some 7), (.alloc 65 [(.int .i64 0), (.int .i64 0), (.int .i64 0), (.int .i64 0), (.int .i64 0), (.int .i64 0), .nils]), .none, [], []⟩, ⟨.none, (.st 7 (.t 7) (.t 25)), .none, [11, 4, 0, 1, 2, 3, 4, 11], [7, 25]⟩, ⟨(.some 8), (.mv (.t 31)), .none, [10, 12, 0, 1, 2, 3, 4, 5, 6, 7, 8, 9, 10, 11, 12], [31]⟩] .true), (.seq 2),
    (.region [⟨(.some 32), (.fad 6 (.t 7)), .none, [], []⟩, ⟨(.some 33), (.ld .none (.t 32)), .none, [], []⟩, ⟨(.some 34), (.fad 0 (.t 3)), .none, [], []⟩, ⟨(.some 35), (.ld (.some 4) (.t 34)), .none, [], []⟩, ⟨(.some 36), (.call 45 [(.t 33), (.t 35)]), .none, [], []⟩, ⟨(.some 37), (.call 43 [(.t 36)]), .none, [], []⟩, ⟨(.some 9), (.mv (.t 37)), .none, [], []⟩] .false), (.seq 8), (.seq 2),
    (.region [⟨(.some 38), (.fad 1 (.t 7)), .none, [], []⟩, ⟨(.some 39), (.ld .none (.t 38)), .none, [], []⟩, ⟨(.some 40), (.mv (.t 8)), .none, [], []⟩, ⟨(.some 41), (.bin .geq .o (.t 39) (.t 40)), .none, [], []⟩] .false), (.cond (.t 41) 4), (.seq 2),
    (.region [⟨(.some 42), (.mv (.t 9)), .none, [], []⟩, ⟨(.some 6), (.mv (.t 42)), .none, [], []⟩] .false), .ret, .skip, (.seq 2),
    (.region [⟨(.some 43), (.ld (.some 10) (.t 3)), .none, [], []⟩, ⟨(.some 44), (.mv (.t 1)), .none, [], []⟩, ⟨(.some 45), (.mv (.t 8)), .none, [], []⟩, ⟨(.some 46), (.call 46 [(.t 43), (.t 44), (.t 45)]), .none, [], []⟩, ⟨(.some 47), (.call 43 [(.t 46)]), .none, [], []⟩, ⟨(.some 10), (.mv (.t 47)), .none, [], []⟩] .false), (.seq 6), (.seq 2),
    (.region [⟨(.some 48), (.fad 5 (.t 7)), .none, [], []⟩, ⟨(.some 49), (.ld .none (.t 48)), .none, [], []⟩, ⟨(.some 50), (.bin .gtr .o (.t 49) (.c (.int .i64 0))), .none, [], []⟩] .false), (.cond (.t 50) 2),
    (.region [⟨(.some 51), (.fad 5 (.t 7)), .none, [], []⟩, ⟨(.some 52), (.ld .none (.t 51)), .none, [], []⟩, ⟨(.some 53), (.call 43 [(.t 52)]), .none, [], []⟩, ⟨(.some 54), (.mv (.t 10)), .none, [], []⟩, ⟨(.some 55), (.mv (.t 10)), .none, [], []⟩, ⟨(.some 56), (.lit 56 1 3 [(.int .u64 0)] [(0, (.t 53)), (1, (.t 54)), (2, (.t 55))]), .none, [], []⟩, ⟨(.some 57), (.call 47 [(.t 56)]), .none, [], []⟩, ⟨(.some 10), (.mv (.t 57)), .none, [], []⟩] .false), .skip, (.seq 2),
    (.region [⟨(.some 58), (.mv (.t 9)), .none, [], []⟩, ⟨(.some 59), (.mv (.t 10)), .none, [], []⟩, ⟨(.some 60), (.mnmx .false (.t 58) (.t 59)), .none, [], []⟩, ⟨(.some 6), (.mv (.t 60)), .none, [], []⟩] .false), .ret]
theorem F29_at : F29.at Try.prog 29 Try.f29 := ⟨Try.func29, by kernel_rfl, by kernel_rfl, by kernel_rfl, by kernel_rfl, by kernel_rfl⟩

-- "signalbox/preempt.Lower" res .true
def F30 : AFn where
  np := 2
  nt := 8
  res := [(.t 4)]
  tab := [(.seq 2),
    (.region [⟨(.some 2), (.box 55 (.t 0)), .none, [], []⟩, ⟨(.some 4), (.mv (.c .nils)), .none, [], []⟩] .false), (.seq 2),
    (.region [⟨(.some 5), (.ld (.some 10) (.t 2)), .none, [], []⟩, ⟨(.some 6), (.mv (.t 1)), .none, [], []⟩, ⟨(.some 7), (.call 48 [(.t 5), (.t 6), (.c (.fn (.func 49) [] []))]), .none, [], []⟩, ⟨(.some 4), (.mv (.t 7)), .none, [], []⟩] .false), .ret]
theorem F30_at : F30.at Try.prog 30 Try.f30 := ⟨Try.func30, by kernel_rfl, by kernel_rfl, by kernel_rfl, by kernel_rfl, by kernel_rfl⟩

-- "signalbox/preempt.Higher" res .true
def F31 : AFn where
  np := 2
  nt := 8
  res := [(.t 4)]
  tab := [(.seq 2),
    (.region [⟨(.some 2), (.box 55 (.t 0)), .none, [], []⟩, ⟨(.some 4), (.mv (.c .nils)), .none, [], []⟩] .false), (.seq 2),
    (.region [⟨(.some 5), (.ld (.some 10) (.t 2)), .none, [], []⟩, ⟨(.some 6), (.mv (.t 1)), .none, [], []⟩, ⟨(.some 7), (.call 48 [(.t 5), (.t 6), (.c (.fn (.func 50) [] []))]), .none, [], []⟩, ⟨(.some 4), (.mv (.t 7)), .none, [], []⟩] .false), .ret]
theorem F31_at : F31.at Try.prog 31 Try.f31 := ⟨Try.func31, by kernel_rfl, by kernel_rfl, by kernel_rfl, by kernel_rfl, by kernel_rfl⟩

-- "signalbox/signalboxref27.Count" res .true
def F32 : AFn where
  np := 3
  nt := 31
  res := [(.t 6)]
  tab := [(.seq 2),
    (.region [⟨(.some 3), (.box 55 (.t 0)), .none, [], []⟩, ⟨(.some 6), (.mv (.c (.int .u64 0))), .none, [], []⟩] .false), (.seq 2),
    (.region [⟨(.some 7), (.mv (.c (.int .u64 0))), .none, [], []⟩] .false), (.seq 17), (.seq 2),
    (.region [⟨(.some 10), (.ld (.some 10) (.t 3)), .none, [], []⟩, ⟨(.some 11), (.mv (.t 1)), .none, [], []⟩, ⟨(.some 12), (.call 51 [(.t 10), (.t 11)]), .none, [], []⟩, ⟨(.some 13), (.len .false (.t 12)), .none, [], []⟩, ⟨(.some 14), (.mv (.c (.int .i64 0))), .none, [], []⟩] .false), (.block 0), .loop, (.seq 2),
    (.region [⟨(.some 15), (.bin .lss .o (.t 14) (.t 13)), .none, [], []⟩] .false), (.seq 4), (.cond (.t 15) 2), .skip, (.exit 0), (.seq 5), (.block 1), (.seq 2),
    (.region [⟨(.some 16), (.idx 3 1 (.t 12) (.t 14)), .none, [], []⟩, ⟨(.some 17), (.ld .none (.t 16)), .none, [], []⟩, ⟨(.some 9), (.mv (.t 17)), .none, [], []⟩] .false),
    (.region [⟨(.some 18), (.mv (.t 7)), .none, [], []⟩, ⟨(.some 19), (.mv (.t 2)), .none, [], []⟩, ⟨(.some 20), (.fad 8 (.t 3)), .none, [], []⟩, ⟨(.some 21), (.ld .none (.t 20)), .none, [], []⟩, ⟨(.some 22), (.mv (.t 9)), .none, [], []⟩, ⟨(.some 23), (.idx 65 7 (.t 21) (.t 22)), .none, [], []⟩, ⟨(.some 24), (.fad 2 (.t 23)), .none, [], []⟩, ⟨(.some 25), (.ld .none (.t 24)), .none, [], []⟩, ⟨(.some 26), (.call 54 [(.t 25)]), .none, [], []⟩, ⟨(.some 27), (.call 53 [(.t 19), (.t 26)]), .none, [], []⟩, ⟨(.some 28), (.call 52 [(.t 18), (.t 27)]), .none, [], []⟩, ⟨(.some 7), (.mv (.t 28)), .none, [], []⟩] .false),
    (.region [⟨(.some 29), (.bin .add .o (.t 14) (.c (.int .i64 1))), .none, [], []⟩, ⟨(.some 14), (.mv (.t 29)), .none, [], []⟩] .false), (.seq 2),
    (.region [⟨(.some 30), (.mv (.t 7)), .none, [], []⟩, ⟨(.some 6), (.mv (.t 30)), .none, [], []⟩] .false), .ret]
theorem F32_at : F32.at Try.prog 32 Try.f32 := ⟨Try.func32, by kernel_rfl, by kernel_rfl, by kernel_rfl, by kernel_rfl, by kernel_rfl⟩

-- "signalbox/signalboxref27.Delay" res .true
def F33 : AFn where
  np := 2
  nt := 33
  res := [(.t 4)]
  tab := [(.seq 2),
    (.region [⟨(.some 2), (.box 55 (.t 0)), .none, [], []⟩, ⟨(.some 4), (.mv (.c (.int .u64 0))), .none, [], []⟩] .false), (.seq 2),
    (.region [⟨(.some 5), (.mv (.c (.int .u64 0))), .none, [], []⟩] .false), (.seq 21), (.seq 2),
    (.region [⟨(.some 8), (.fad 8 (.t 2)), .none, [], []⟩, ⟨(.some 9), (.ld .none (.t 8)), .none, [], []⟩, ⟨(.some 10), (.len .false (.t 9)), .none, [], []⟩, ⟨(.some 11), (.mv (.c (.int .i64 0))), .none, [], []⟩] .false), (.block 0), .loop, (.seq 2),
    (.region [⟨(.some 12), (.bin .lss .o (.t 11) (.t 10)), .none, [], []⟩] .false), (.seq 4), (.cond (.t 12) 2), .skip, (.exit 0), (.seq 9), (.block 1), (.seq 2),
    (.region [⟨(.some 13), (.mv (.t 11)), .none, [], []⟩, ⟨(.some 14), (.idx 65 7 (.t 9) (.t 11)), .none, [], []⟩, ⟨(.some 15), (.ld (.some 7) (.t 14)), .none, [], []⟩, ⟨(.some 7), (.alloc 65 [(.int .i64 0), (.int .i64 0), (.int .i64 0), (.int .i64 0), (.int .i64 0), (.int .i64 0), .nils]), .none, [], []⟩, ⟨(.some 6), (.mv (.t 13)), .none, [], []⟩, ⟨.none, (.st 7 (.t 7) (.t 15)), .none, [], []⟩] .false), (.seq 2),
    (.region [⟨(.some 16), (.fad 0 (.t 7)), .none, [], [7]⟩, ⟨(.some 17), (.ld .none (.t 16)), .none, [0], [16]⟩, ⟨(.some 18), (.fad 8 (.t 2)), .none, [], [2]⟩, ⟨(.some 19), (.ld .none (.t 18)), .none, [2], [18]⟩, ⟨(.some 20), (.mv (.t 1)), .none, [], [1]⟩, ⟨(.some 21), (.idx 65 7 (.t 19) (.t 20)), .none, [3, 4], [19, 20]⟩, ⟨(.some 22), (.fad 0 (.t 21)), .none, [5], [21]⟩, ⟨(.some 23), (.ld .none (.t 22)), .none, [6], [22]⟩, ⟨(.some 24), (.bin .lss .o (.t 17) (.t 23)), .none, [1, 7], [17, 23]⟩] .true), (.cond (.t 24) 2),
    (.region [⟨(.some 25), (.mv (.t 5)), .none, [], []⟩, ⟨(.some 26), (.ld (.some 10) (.t 2)), .none, [], []⟩, ⟨(.some 27), (.mv (.t 6)), .none, [], []⟩, ⟨(.some 28), (.mv (.t 1)), .none, [], []⟩, ⟨(.some 29), (.call 34 [(.t 26), (.t 27), (.t 28)]), .none, [], []⟩, ⟨(.some 30), (.mnmx .true (.t 25) (.t 29)), .none, [], []⟩, ⟨(.some 5), (.mv (.t 30)), .none, [], []⟩] .false), .skip,
    (.region [⟨(.some 31), (.bin .add .o (.t 11) (.c (.int .i64 1))), .none, [], []⟩, ⟨(.some 11), (.mv (.t 31)), .none, [], []⟩] .false), (.seq 2),
    (.region [⟨(.some 32), (.mv (.t 5)), .none, [], []⟩, ⟨(.some 4), (.mv (.t 32)), .none, [], []⟩] .false), .ret]
theorem F33_at : F33.at Try.prog 33 Try.f33 := ⟨Try.func33, by kernel_rfl, by kernel_rfl, by kernel_rfl, by kernel_rfl, by kernel_rfl⟩

-- "signalbox/signalboxref27.Blocking" res .true
def F34 : AFn where
  np := 3
  nt := 53
  res := [(.t 6)]
  tab := [(.seq 2),
    (.region [⟨(.some 3), (.box 55 (.t 0)), .none, [], []⟩, ⟨(.some 6), (.mv (.c (.int .u64 0))), .none, [], []⟩] .false), (.seq 2),
    (.region [⟨(.some 10), (.fad 8 (.t 3)), .none, [], []⟩, ⟨(.some 11), (.ld .none (.t 10)), .none, [], []⟩, ⟨(.some 12), (.mv (.t 1)), .none, [], []⟩, ⟨(.some 13), (.idx 65 7 (.t 11) (.t 12)), .none, [], []⟩, ⟨(.some 14), (.ld (.some 7) (.t 13)), .none, [], []⟩, ⟨(.some 7), (.alloc 65 [(.int .i64 0), (.int .i64 0), (.int .i64 0), (.int .i64 0), (.int .i64 0), (.int .i64 0), .nils]), .none, [], []⟩, ⟨.none, (.st 7 (.t 7) (.t 14)), .none, [], []⟩] .false), (.seq 2),
    (.region [⟨(.some 15), (.fad 6 (.t 7)), .none, [], []⟩, ⟨(.some 16), (.ld .none (.t 15)), .none, [], []⟩, ⟨(.some 17), (.fad 0 (.t 3)), .none, [], []⟩, ⟨(.some 18), (.ld (.some 4) (.t 17)), .none, [], []⟩, ⟨(.some 19), (.call 55 [(.t 16), (.t 18), (.c (.bool .false))]), .none, [], []⟩, ⟨(.some 20), (.call 54 [(.t 19)]), .none, [], []⟩, ⟨(.some 8), (.mv (.t 20)), .none, [], []⟩] .false), (.seq 8), (.seq 2),
    (.region [⟨(.some 21), (.fad 1 (.t 7)), .none, [], [7]⟩, ⟨(.some 22), (.ld .none (.t 21)), .none, [0], [21]⟩, ⟨(.some 23), (.fad 8 (.t 3)), .none, [], [3]⟩, ⟨(.some 24), (.ld .none (.t 23)), .none, [2], [23]⟩, ⟨(.some 25), (.mv (.t 2)), .none, [], [2]⟩, ⟨(.some 26), (.idx 65 7 (.t 24) (.t 25)), .none, [3, 4], [24, 25]⟩, ⟨(.some 27), (.fad 0 (.t 26)), .none, [5], [26]⟩, ⟨(.some 28), (.ld .none (.t 27)), .none, [6], [27]⟩, ⟨(.some 29), (.bin .geq .o (.t 22) (.t 28)), .none, [1, 7], [22, 28]⟩] .true), (.cond (.t 29) 4), (.seq 2),
    (.region [⟨(.some 30), (.mv (.t 8)), .none, [], []⟩, ⟨(.some 6), (.mv (.t 30)), .none, [], []⟩] .false), .ret, .skip, (.seq 2),
    (.region [⟨(.some 31), (.ld (.some 10) (.t 3)), .none, [], [3]⟩, ⟨(.some 32), (.mv (.t 1)), .none, [], [1]⟩, ⟨(.some 33), (.fad 8 (.t 3)), .none, [], [3]⟩, ⟨(.some 34), (.ld .none (.t 33)), .none, [2], [33]⟩, ⟨(.some 35), (.mv (.t 2)), .none, [], [2]⟩, ⟨(.some 36), (.idx 65 7 (.t 34) (.t 35)), .none, [3, 4], [34, 35]⟩, ⟨(.some 37), (.fad 0 (.t 36)), .none, [5], [36]⟩, ⟨(.some 38), (.ld .none (.t 37)), .none, [6], [37]⟩, ⟨(.some 39), (.call 56 [(.t 31), (.t 32), (.t 38)]), .none, [0, 1, 7], [31, 32, 38]⟩, ⟨(.some 40), (.call 54 [(.t 39)]), .none, [8, 8], [39]⟩, ⟨(.some 9), (.mv (.t 40)), .none, [9, 9, 0, 1, 2, 3, 4, 5, 6, 7, 8, 9], [40]⟩] .true), (.seq 6), (.seq 2),
    (.region [⟨(.some 41), (.fad 5 (.t 7)), .none, [], []⟩, ⟨(.some 42), (.ld .none (.t 41)), .none, [], []⟩, ⟨(.some 43), (.bin .gtr .o (.t 42) (.c (.int .i64 0))), .none, [], []⟩] .false), (.cond (.t 43) 2),
    (.region [⟨(.some 44), (.fad 5 (.t 7)), .none, [], []⟩, ⟨(.some 45), (.ld .none (.t 44)), .none, [], []⟩, ⟨(.some 46), (.call 54 [(.t 45)]), .none, [], []⟩, ⟨(.some 47), (.mv (.t 9)), .none, [], []⟩, ⟨(.some 48), (.bin .mul .o (.c (.int .u64 2)) (.t 47)), .none, [], []⟩, ⟨(.some 49), (.bin .add .o (.t 46) (.t 48)), .none, [], []⟩, ⟨(.some 9), (.mv (.t 49)), .none, [], []⟩] .false), .skip, (.seq 2),
    (.region [⟨(.some 50), (.mv (.t 8)), .none, [], []⟩, ⟨(.some 51), (.mv (.t 9)), .none, [], []⟩, ⟨(.some 52), (.mnmx .false (.t 50) (.t 51)), .none, [], []⟩, ⟨(.some 6), (.mv (.t 52)), .none, [], []⟩] .false), .ret]
theorem F34_at : F34.at Try.prog 34 Try.f34 := ⟨Try.func34, by kernel_rfl, by kernel_rfl, by kernel_rfl, by kernel_rfl, by kernel_rfl⟩

-- "signalbox/signalboxref07.Few" res .true
def F35 : AFn where
  np := 1
  nt := 45
  res := [(.t 2)]
  tab := [(.seq 2),
    (.region [⟨(.some 1), (.box 55 (.t 0)), .none, [], []⟩, ⟨(.some 2), (.mv (.c (.bool .false))), .none, [], []⟩] .false), (.seq 23), (.seq 2),
    (.region [⟨(.some 5), (.fad 8 (.t 1)), .none, [], []⟩, ⟨(.some 6), (.ld .none (.t 5)), .none, [], []⟩, ⟨(.some 7), (.len .false (.t 6)), .none, [], []⟩, ⟨(.some 8), (.mv (.c (.int .i64 0))), .none, [], []⟩] .false), (.block 0), .loop, (.seq 2),
    (.region [⟨(.some 9), (.bin .lss .o (.t 8) (.t 7)), .none, [], []⟩] .false), (.seq 4), (.cond (.t 9) 2), .skip, (.exit 0), (.seq 11), (.block 1), (.seq 2),
    (.region [⟨(.some 10), (.idx 65 7 (.t 6) (.t 8)), .none, [], []⟩, ⟨(.some 11), (.ld (.some 7) (.t 10)), .none, [], []⟩, ⟨(.some 4), (.alloc 65 [(.int .i64 0), (.int .i64 0), (.int .i64 0), (.int .i64 0), (.int .i64 0), (.int .i64 0), .nils]), .none, [], []⟩, ⟨.none, (.st 7 (.t 4) (.t 11)), .none, [], []⟩] .false), (.seq 2),
    (.region [⟨(.some 12), (.fad 6 (.t 4)), .none, [], []⟩, ⟨(.some 13), (.ld .none (.t 12)), .none, [], []⟩, ⟨(.some 14), (.len .false (.t 13)), .none, [], []⟩, ⟨(.some 15), (.bin .gtr .o (.t 14) (.c (.int .i64 80))), .none, [], []⟩] .false), (.cond (.t 15) 4), (.seq 2),
    (.region [⟨(.some 2), (.mv (.c (.bool .false))), .none, [], []⟩] .false), .ret, .skip,
    (.region [⟨(.some 16), (.bin .add .o (.t 8) (.c (.int .i64 1))), .none, [], []⟩, ⟨(.some 8), (.mv (.t 16)), .none, [], []⟩] .false), (.seq 2),
    (.region [⟨(.some 17), (.fad 4 (.t 1)), .none, [], []⟩, ⟨(.some 18), (.ld .none (.t 17)), .none, [], []⟩, ⟨(.some 19), (.len .false (.t 18)), .none, [], []⟩, ⟨(.some 20), (.bin .leq .o (.t 19) (.c (.int .i64 20))), .none, [], []⟩, ⟨(.some 21), (.mv (.t 20)), .none, [], []⟩, ⟨(.some 22), (.fad 6 (.t 1)), (.some ((.some 21), .true)), [], []⟩, ⟨(.some 23), (.ld .none (.t 22)), (.some ((.some 21), .true)), [], []⟩, ⟨(.some 24), (.len .false (.t 23)), (.some ((.some 21), .true)), [], []⟩, ⟨(.some 25), (.bin .leq .o (.t 24) (.c (.int .i64 20))), (.some ((.some 21), .true)), [], []⟩, ⟨(.some 26), (.pick (.t 21) (.t 25) (.c (.bool .false))), .none, [], []⟩, ⟨(.some 27), (.mv (.t 26)), .none, [], []⟩, ⟨(.some 28), (.fad 7 (.t 1)), (.some ((.some 27), .true)), [], []⟩, ⟨(.some 29), (.ld .none (.t 28)), (.some ((.some 27), .true)), [], []⟩, ⟨(.some 30), (.len .false (.t 29)), (.some ((.some 27), .true)), [], []⟩, ⟨(.some 31), (.bin .leq .o (.t 30) (.c (.int .i64 20))), (.some ((.some 27), .true)), [], []⟩, ⟨(.some 32), (.pick (.t 27) (.t 31) (.c (.bool .false))), .none, [], []⟩, ⟨(.some 33), (.mv (.t 32)), .none, [], []⟩, ⟨(.some 34), (.fad 8 (.t 1)), (.some ((.some 33), .true)), [], []⟩, ⟨(.some 35), (.ld .none (.t 34)), (.some ((.some 33), .true)), [], []⟩, ⟨(.some 36), (.len .false (.t 35)), (.some ((.some 33), .true)), [], []⟩, ⟨(.some 37), (.bin .leq .o (.t 36) (.c (.int .i64 20))), (.some ((.some 33), .true)), [], []⟩, ⟨(.some 38), (.pick (.t 33) (.t 37) (.c (.bool .false))), .none, [], []⟩, ⟨(.some 39), (.mv (.t 38)), .none, [], []⟩, ⟨(.some 40), (.fad 9 (.t 1)), (.some ((.some 39), .true)), [], []⟩, ⟨(.some 41), (.ld .none (.t 40)), (.some ((.some 39), .true)), [], []⟩, ⟨(.some 42), (.len .false (.t 41)), (.some ((.some 39), .true)), [], []⟩, ⟨(.some 43), (.bin .leq .o (.t 42) (.c (.int .i64 20))), (.some ((.some 39), .true)), [], []⟩, ⟨(.some 44), (.pick (.t 39) (.t 43) (.c (.bool .false))), .none, [], []⟩, ⟨(.some 2), (.mv (.t 44)), .none, [], []⟩] .false), .ret]
theorem F35_at : F35.at Try.prog 35 Try.f35 := ⟨Try.func35, by kernel_rfl, by kernel_rfl, by kernel_rfl, by kernel_rfl, by kernel_rfl⟩

-- "(*signalbox/ceiling.Locks).at" res .true
def F36 : AFn where
  np := 2
  nt := 19
  res := [(.t 4)]
  tab := [(.seq 2),
    (.region [⟨(.some 4), (.mv (.c .nilp)), .none, [], []⟩] .false), (.seq 8), (.seq 2),
    (.region [⟨(.some 5), (.mv (.t 1)), .none, [], []⟩, ⟨(.some 6), (.bin .lss .o (.t 5) (.c (.int .i64 0))), .none, [], []⟩, ⟨(.some 7), (.mv (.t 6)), .none, [], []⟩, ⟨(.some 8), (.mv (.t 1)), (.some ((.some 7), .false)), [], []⟩, ⟨(.some 9), (.mv (.t 0)), (.some ((.some 7), .false)), [], []⟩, ⟨(.some 10), (.call 17 [(.t 9)]), (.some ((.some 7), .false)), [], []⟩, ⟨(.some 11), (.bin .geq .o (.t 8) (.t 10)), (.some ((.some 7), .false)), [], []⟩, ⟨(.some 12), (.pick (.t 7) (.c (.bool .true)) (.t 11)), .none, [], []⟩] .false), (.cond (.t 12) 4), (.seq 2),
    (.region [⟨(.some 4), (.mv (.c .nilp)), .none, [], []⟩] .false), .ret, .skip, (.seq 2),
    (.region [⟨(.some 13), (.mv (.t 0)), .none, [], []⟩, ⟨(.some 14), (.nilc (.t 13)), .none, [], []⟩, ⟨(.some 15), (.fad 0 (.t 14)), .none, [], []⟩, ⟨(.some 16), (.ld .none (.t 15)), .none, [], []⟩, ⟨(.some 17), (.mv (.t 1)), .none, [], []⟩, ⟨(.some 18), (.idx 71 3 (.t 16) (.t 17)), .none, [], []⟩, ⟨(.some 4), (.mv (.t 18)), .none, [], []⟩] .false), .ret]
theorem F36_at : F36.at Try.prog 36 Try.f36 := ⟨Try.func36, by kernel_rfl, by kernel_rfl, by kernel_rfl, by kernel_rfl, by kernel_rfl⟩

-- "signalbox/signalboxlaw27.two" res .true
def F39 : AFn where
  np := 0
  nt := 12
  res := [(.cell 0 (.some 10))]
  tab := [(.seq 2),
    (.region [⟨(.some 0), (.alloc 55 [(.int .i64 0), (.int .i64 0), (.int .i64 0), (.int .i64 0), .nils, (.int .i64 0), .nils, .nils, .nils, .nils]), .none, [], []⟩] .false), (.seq 2),
    (.region [⟨(.some 1), (.build [(.int .i64 0), (.int .i64 0), (.int .i64 0), (.int .i64 0)] [(0, (1, (.c (.int .i64 1)))), (1, (1, (.c (.int .i64 1)))), (2, (1, (.c (.int .i64 1)))), (3, (1, (.c (.int .i64 5))))]), .none, [], []⟩, ⟨(.some 2), (.build [(.int .i64 0), (.int .i64 0), (.int .i64 0)] [(0, (1, (.c (.int .i64 1)))), (1, (1, (.c (.int .i64 20))))]), .none, [], []⟩, ⟨(.some 3), (.build [(.int .i64 0), (.int .i64 0), (.int .i64 0)] [(0, (1, (.c (.int .i64 3))))]), .none, [], []⟩, ⟨(.some 4), (.build [(.int .i64 0), (.int .i64 0), (.int .i64 0)] [(0, (1, (.c (.int .i64 4))))]), .none, [], []⟩, ⟨(.some 5), (.lit 87 3 3 [(.int .i64 0), (.int .i64 0), (.int .i64 0)] [(0, (.t 2)), (1, (.t 3)), (2, (.t 4))]), .none, [], []⟩, ⟨(.some 6), (.build [(.int .i64 0), (.int .i64 0), (.int .i64 0), (.int .i64 0), (.int .i64 0), (.int .i64 0), .nils] [(0, (1, (.c (.int .i64 1)))), (1, (1, (.c (.int .i64 1)))), (2, (1, (.c (.int .i64 50)))), (5, (1, (.c (.int .i64 3)))), (6, (1, (.t 5)))]), .none, [], []⟩, ⟨(.some 7), (.build [(.int .i64 0), (.int .i64 0), (.int .i64 0)] [(0, (1, (.c (.int .i64 1)))), (1, (1, (.c (.int .i64 2))))]), .none, [], []⟩, ⟨(.some 8), (.lit 87 3 1 [(.int .i64 0), (.int .i64 0), (.int .i64 0)] [(0, (.t 7))]), .none, [], []⟩, ⟨(.some 9), (.build [(.int .i64 0), (.int .i64 0), (.int .i64 0), (.int .i64 0), (.int .i64 0), (.int .i64 0), .nils] [(0, (1, (.c (.int .i64 2)))), (1, (1, (.c (.int .i64 2)))), (2, (1, (.c (.int .i64 10)))), (6, (1, (.t 8)))]), .none, [], []⟩, ⟨(.some 10), (.lit 65 7 2 [(.int .i64 0), (.int .i64 0), (.int .i64 0), (.int .i64 0), (.int .i64 0), (.int .i64 0), .nils] [(0, (.t 6)), (1, (.t 9))]), .none, [], []⟩, ⟨(.some 11), (.build [(.int .i64 0), (.int .i64 0), (.int .i64 0), (.int .i64 0), .nils, (.int .i64 0), .nils, .nils, .nils, .nils] [(0, (4, (.t 1))), (8, (1, (.t 10)))]), .none, [], []⟩, ⟨.none, (.st 10 (.t 0) (.t 11)), .none, [], []⟩] .false), .ret]
theorem F39_at : F39.at Try.prog 39 Try.f39 := ⟨Try.func39, by kernel_rfl, by kernel_rfl, by kernel_rfl, by kernel_rfl, by kernel_rfl⟩

-- "signalbox/reload.Above" res .true
def F40 : AFn where
  np := 2
  nt := 35
  res := [(.t 4)]
  tab := [(.seq 2),
    (.region [⟨(.some 2), (.box 55 (.t 0)), .none, [], []⟩, ⟨(.some 4), (.mv (.c .nils)), .none, [], []⟩] .false), (.seq 8), (.seq 2),
    (.region [⟨(.some 8), (.ld (.some 10) (.t 2)), .none, [], []⟩, ⟨(.some 9), (.mv (.t 1)), .none, [], []⟩, ⟨(.some 10), (.call 59 [(.t 8), (.t 9)]), .none, [], []⟩, ⟨(.some 11), (.un .not (.t 10)), .none, [], []⟩] .false), (.cond (.t 11) 4), (.seq 2),
    (.region [⟨(.some 4), (.mv (.c .nils)), .none, [], []⟩] .false), .ret, .skip, (.seq 2),
    (.region [⟨(.some 5), (.mv (.c .nils)), .none, [], []⟩] .false), (.seq 21), (.seq 2),
    (.region [⟨(.some 12), (.fad 8 (.t 2)), .none, [], []⟩, ⟨(.some 13), (.ld .none (.t 12)), .none, [], []⟩, ⟨(.some 14), (.len .false (.t 13)), .none, [], []⟩, ⟨(.some 15), (.mv (.c (.int .i64 0))), .none, [], []⟩] .false), (.block 0), .loop, (.seq 2),
    (.region [⟨(.some 16), (.bin .lss .o (.t 15) (.t 14)), .none, [], []⟩] .false), (.seq 4), (.cond (.t 16) 2), .skip, (.exit 0), (.seq 9), (.block 1), (.seq 2),
    (.region [⟨(.some 17), (.mv (.t 15)), .none, [], []⟩, ⟨(.some 18), (.idx 65 7 (.t 13) (.t 15)), .none, [], []⟩, ⟨(.some 19), (.ld (.some 7) (.t 18)), .none, [], []⟩, ⟨(.some 7), (.alloc 65 [(.int .i64 0), (.int .i64 0), (.int .i64 0), (.int .i64 0), (.int .i64 0), (.int .i64 0), .nils]), .none, [], []⟩, ⟨(.some 6), (.mv (.t 17)), .none, [], []⟩, ⟨.none, (.st 7 (.t 7) (.t 19)), .none, [], []⟩] .false), (.seq 2),
    (.region [⟨(.some 20), (.fad 0 (.t 7)), .none, [], [7]⟩, ⟨(.some 21), (.ld .none (.t 20)), .none, [0], [20]⟩, ⟨(.some 22), (.fad 8 (.t 2)), .none, [], [2]⟩, ⟨(.some 23), (.ld .none (.t 22)), .none, [2], [22]⟩, ⟨(.some 24), (.mv (.t 1)), .none, [], [1]⟩, ⟨(.some 25), (.idx 65 7 (.t 23) (.t 24)), .none, [3, 4], [23, 24]⟩, ⟨(.some 26), (.fad 1 (.t 25)), .none, [5], [25]⟩, ⟨(.some 27), (.ld .none (.t 26)), .none, [6], [26]⟩, ⟨(.some 28), (.bin .gtr .o (.t 21) (.t 27)), .none, [1, 7], [21, 27]⟩] .true), (.cond (.t 28) 2),
    (.region [⟨(.some 29), (.mv (.t 5)), .none, [], []⟩, ⟨(.some 30), (.mv (.t 6)), .none, [], []⟩, ⟨(.some 31), (.lit 3 1 1 [(.int .i64 0)] [(0, (.t 30))]), .none, [], []⟩, ⟨(.some 32), (.app 3 1 8 [(.int .i64 0)] (.t 29) (.t 31)), .none, [], []⟩, ⟨(.some 5), (.mv (.t 32)), .none, [], []⟩] .false), .skip,
    (.region [⟨(.some 33), (.bin .add .o (.t 15) (.c (.int .i64 1))), .none, [], []⟩, ⟨(.some 15), (.mv (.t 33)), .none, [], []⟩] .false), (.seq 2),
    (.region [⟨(.some 34), (.mv (.t 5)), .none, [], []⟩, ⟨(.some 4), (.mv (.t 34)), .none, [], []⟩] .false), .ret]
theorem F40_at : F40.at Try.prog 40 Try.f40 := ⟨Try.func40, by kernel_rfl, by kernel_rfl, by kernel_rfl, by kernel_rfl, by kernel_rfl⟩

-- "signalbox/sat.Add" res .true
def F41 : AFn where
  np := 2
  nt := 16
  res := [(.t 4)]
  tab := [(.seq 2),
    (.region [⟨(.some 4), (.mv (.c (.int .u64 0))), .none, [], []⟩] .false), (.seq 2),
    (.region [⟨(.some 8), (.mv (.t 0)), .none, [], []⟩, ⟨(.some 9), (.mv (.t 1)), .none, [], []⟩, ⟨(.some 10), (.addc (.t 8) (.t 9) (.c (.int .u64 0))), .none, [], []⟩, ⟨(.some 7), (.mv (.t 10)), .none, [], []⟩, ⟨(.some 11), (.ext (.t 7) 0), .none, [], []⟩, ⟨(.some 12), (.ext (.t 7) 1), .none, [], []⟩, ⟨(.some 5), (.mv (.t 11)), .none, [], []⟩, ⟨(.some 6), (.mv (.t 12)), .none, [], []⟩] .false), (.seq 8), (.seq 2),
    (.region [⟨(.some 13), (.mv (.t 6)), .none, [], []⟩, ⟨(.some 14), (.bin .gtr .o (.t 13) (.c (.int .u64 0))), .none, [], []⟩] .false), (.cond (.t 14) 4), (.seq 2),
    (.region [⟨(.some 4), (.mv (.c (.int .u64 18446744073709551615))), .none, [], []⟩] .false), .ret, .skip, (.seq 2),
    (.region [⟨(.some 15), (.mv (.t 5)), .none, [], []⟩, ⟨(.some 4), (.mv (.t 15)), .none, [], []⟩] .false), .ret]
theorem F41_at : F41.at Try.prog 41 Try.f41 := ⟨Try.func41, by kernel_rfl, by kernel_rfl, by kernel_rfl, by kernel_rfl, by kernel_rfl⟩

-- "signalbox/sat.Ceil" res .true
def F42 : AFn where
  np := 2
  nt := 20
  res := [(.t 4)]
  tab := [(.seq 2),
    (.region [⟨(.some 4), (.mv (.c (.int .u64 0))), .none, [], []⟩] .false), (.seq 15), (.block 0), (.seq 2),
    (.region [⟨(.some 6), (.mv (.t 0)), .none, [], []⟩, ⟨(.some 7), (.bin .eql .o (.t 6) (.c (.int .u64 0))), .none, [], []⟩, ⟨(.some 5), (.mv (.t 7)), .none, [], []⟩] .false), (.cond (.t 5) 4), (.seq 2),
    (.region [⟨(.some 4), (.mv (.c (.int .u64 0))), .none, [], []⟩] .false), .ret, (.seq 2),
    (.region [⟨(.some 9), (.mv (.t 1)), .none, [], []⟩, ⟨(.some 10), (.bin .eql .o (.t 9) (.c (.int .u64 0))), .none, [], []⟩, ⟨(.some 11), (.mv (.t 10)), .none, [], []⟩, ⟨(.some 12), (.mv (.t 0)), (.some ((.some 11), .false)), [], []⟩, ⟨(.some 13), (.bin .eql .o (.t 12) (.c (.int .u64 18446744073709551615))), (.some ((.some 11), .false)), [], []⟩, ⟨(.some 14), (.pick (.t 11) (.c (.bool .true)) (.t 13)), .none, [], []⟩, ⟨(.some 8), (.mv (.t 14)), .none, [], []⟩] .false), (.cond (.t 8) 4), (.seq 2),
    (.region [⟨(.some 4), (.mv (.c (.int .u64 18446744073709551615))), .none, [], []⟩] .false), .ret, .skip, (.seq 2),
    (.region [⟨(.some 15), (.mv (.t 0)), .none, [], []⟩, ⟨(.some 16), (.bin .sub .o (.t 15) (.c (.int .u64 1))), .none, [], []⟩, ⟨(.some 17), (.mv (.t 1)), .none, [], []⟩, ⟨(.some 18), (.bin .quo .o (.t 16) (.t 17)), .none, [], []⟩, ⟨(.some 19), (.bin .add .o (.t 18) (.c (.int .u64 1))), .none, [], []⟩, ⟨(.some 4), (.mv (.t 19)), .none, [], []⟩] .false), .ret]
theorem F42_at : F42.at Try.prog 42 Try.f42 := ⟨Try.func42, by kernel_rfl, by kernel_rfl, by kernel_rfl, by kernel_rfl, by kernel_rfl⟩

-- "signalbox/sat.Of" res .true
def F43 : AFn where
  np := 1
  nt := 6
  res := [(.t 2)]
  tab := [(.seq 2),
    (.region [⟨(.some 2), (.mv (.c (.int .u64 0))), .none, [], []⟩] .false), (.seq 2),
    (.region [⟨(.some 3), (.mv (.t 0)), .none, [], []⟩, ⟨(.some 4), (.mnmx .true (.t 3) (.c (.int .i64 0))), .none, [], []⟩, ⟨(.some 5), (.cvt .u64 (.t 4)), .none, [], []⟩, ⟨(.some 2), (.mv (.t 5)), .none, [], []⟩] .false), .ret]
theorem F43_at : F43.at Try.prog 43 Try.f43 := ⟨Try.func43, by kernel_rfl, by kernel_rfl, by kernel_rfl, by kernel_rfl, by kernel_rfl⟩

-- "signalbox/preempt.is" res .true
def F44 : AFn where
  np := 2
  nt := 14
  res := [(.t 4)]
  tab := [(.seq 2),
    (.region [⟨(.some 2), (.box 55 (.t 0)), .none, [], []⟩, ⟨(.some 4), (.mv (.c (.bool .false))), .none, [], []⟩] .false), (.seq 2),
    (.region [⟨(.some 5), (.mv (.t 1)), .none, [], []⟩, ⟨(.some 6), (.bin .geq .o (.t 5) (.c (.int .i64 0))), .none, [], []⟩, ⟨(.some 7), (.mv (.t 6)), .none, [], []⟩, ⟨(.some 8), (.mv (.t 1)), (.some ((.some 7), .true)), [], []⟩, ⟨(.some 9), (.fad 8 (.t 2)), (.some ((.some 7), .true)), [], []⟩, ⟨(.some 10), (.ld .none (.t 9)), (.some ((.some 7), .true)), [], []⟩, ⟨(.some 11), (.len .false (.t 10)), (.some ((.some 7), .true)), [], []⟩, ⟨(.some 12), (.bin .lss .o (.t 8) (.t 11)), (.some ((.some 7), .true)), [], []⟩, ⟨(.some 13), (.pick (.t 7) (.t 12) (.c (.bool .false))), .none, [], []⟩, ⟨(.some 4), (.mv (.t 13)), .none, [], []⟩] .false), .ret]
theorem F44_at : F44.at Try.prog 44 Try.f44 := ⟨Try.func44, by kernel_rfl, by kernel_rfl, by kernel_rfl, by kernel_rfl, by kernel_rfl⟩

-- "signalbox/cost.Worst" res .true
def F45 : AFn where
  np := 2
  nt := 8
  res := [(.t 4)]
  tab := [(.seq 2),
    (.region [⟨(.some 3), (.box 52 (.t 1)), .none, [], []⟩, ⟨(.some 4), (.mv (.c (.int .i64 0))), .none, [], []⟩] .false), (.seq 2),
    (.region [⟨(.some 5), (.mv (.t 0)), .none, [], []⟩, ⟨(.some 6), (.ld (.some 4) (.t 3)), .none, [], []⟩, ⟨(.some 7), (.call 61 [(.t 5), (.t 6), (.c (.bool .false))]), .none, [], []⟩, ⟨(.some 4), (.mv (.t 7)), .none, [], []⟩] .false), .ret]
theorem F45_at : F45.at Try.prog 45 Try.f45 := ⟨Try.func45, by kernel_rfl, by kernel_rfl, by kernel_rfl, by kernel_rfl, by kernel_rfl⟩

-- "signalbox/section.Longest" res .true
def F46 : AFn where
  np := 3
  nt := 46
  res := [(.t 6)]
  tab := [(.seq 2),
    (.region [⟨(.some 3), (.box 55 (.t 0)), .none, [], []⟩, ⟨(.some 6), (.mv (.c (.int .i64 0))), .none, [], []⟩] .false), (.seq 2),
    (.region [⟨(.some 7), (.mv (.c (.int .i64 0))), .none, [], []⟩, ⟨(.some 8), (.mv (.c (.int .i64 0))), .none, [], []⟩] .false), (.seq 27), (.seq 2),
    (.region [⟨(.some 11), (.ld (.some 10) (.t 3)), .none, [], []⟩, ⟨(.some 12), (.mv (.t 1)), .none, [], []⟩, ⟨(.some 13), (.call 62 [(.t 11), (.t 12)]), .none, [], []⟩, ⟨(.some 14), (.len .false (.t 13)), .none, [], []⟩, ⟨(.some 15), (.mv (.c (.int .i64 0))), .none, [], []⟩] .false), (.block 0), .loop, (.seq 2),
    (.region [⟨(.some 16), (.bin .lss .o (.t 15) (.t 14)), .none, [], []⟩] .false), (.seq 4), (.cond (.t 16) 2), .skip, (.exit 0), (.seq 15), (.block 1), (.seq 2),
    (.region [⟨(.some 17), (.mv (.t 15)), .none, [], []⟩, ⟨(.some 18), (.idx 108 2 (.t 13) (.t 15)), .none, [], []⟩, ⟨(.some 19), (.ld (.some 2) (.t 18)), .none, [], []⟩, ⟨(.some 10), (.alloc 108 [(.int .i64 0), (.int .i64 0)]), .none, [], []⟩, ⟨(.some 9), (.mv (.t 17)), .none, [], []⟩, ⟨.none, (.st 2 (.t 10) (.t 19)), .none, [], []⟩] .false), (.seq 8), (.seq 2),
    (.region [⟨(.some 20), (.fad 0 (.t 10)), .none, [], []⟩, ⟨(.some 21), (.ld .none (.t 20)), .none, [], []⟩, ⟨(.some 22), (.fad 1 (.t 10)), .none, [], []⟩, ⟨(.some 23), (.ld .none (.t 22)), .none, [], []⟩, ⟨(.some 24), (.mnmx .true (.t 21) (.t 23)), .none, [], []⟩, ⟨(.some 25), (.mv (.t 2)), .none, [], []⟩, ⟨(.some 26), (.bin .lss .o (.t 24) (.t 25)), .none, [], []⟩] .false), (.cond (.t 26) 4), (.seq 2),
    (.region [⟨(.some 8), (.mv (.c (.int .i64 0))), .none, [], []⟩] .false), (.exit 1), .skip, (.seq 2),
    (.region [⟨(.some 27), (.mv (.t 8)), .none, [], [8]⟩, ⟨(.some 28), (.fad 8 (.t 3)), .none, [], [3]⟩, ⟨(.some 29), (.ld .none (.t 28)), .none, [1], [28]⟩, ⟨(.some 30), (.mv (.t 1)), .none, [], [1]⟩, ⟨(.some 31), (.idx 65 7 (.t 29) (.t 30)), .none, [2, 3], [29, 30]⟩, ⟨(.some 32), (.fad 6 (.t 31)), .none, [4], [31]⟩, ⟨(.some 33), (.ld .none (.t 32)), .none, [5], [32]⟩, ⟨(.some 34), (.mv (.t 9)), .none, [], [9]⟩, ⟨(.some 35), (.idx 87 3 (.t 33) (.t 34)), .none, [6, 7], [33, 34]⟩, ⟨(.some 36), (.ld (.some 3) (.t 35)), .none, [8], [35]⟩, ⟨(.some 37), (.fad 0 (.t 3)), .none, [], [3]⟩, ⟨(.some 38), (.ld (.some 4) (.t 37)), .none, [10], [37]⟩, ⟨(.some 39), (.call 63 [(.t 36), (.t 38), (.c (.bool .false))]), .none, [9, 11], [36, 38]⟩, ⟨(.some 40), (.bin .add .o (.t 27) (.t 39)), .none, [0, 12], [27, 39]⟩, ⟨(.some 8), (.mv (.t 40)), .none, [13, 12, 0, 1, 2, 3, 4, 5, 6, 7, 8, 9, 10, 11, 12, 13], [40]⟩] .true),
    (.region [⟨(.some 41), (.mv (.t 7)), .none, [], []⟩, ⟨(.some 42), (.mv (.t 8)), .none, [], []⟩, ⟨(.some 43), (.mnmx .true (.t 41) (.t 42)), .none, [], []⟩, ⟨(.some 7), (.mv (.t 43)), .none, [], []⟩] .false),
    (.region [⟨(.some 44), (.bin .add .o (.t 15) (.c (.int .i64 1))), .none, [], []⟩, ⟨(.some 15), (.mv (.t 44)), .none, [], []⟩] .false), (.seq 2),
    (.region [⟨(.some 45), (.mv (.t 7)), .none, [], []⟩, ⟨(.some 6), (.mv (.t 45)), .none, [], []⟩] .false), .ret]
theorem F46_at : F46.at Try.prog 46 Try.f46 := ⟨Try.func46, by kernel_rfl, by kernel_rfl, by kernel_rfl, by kernel_rfl, by kernel_rfl⟩

-- "signalbox/sat.Sum" res .true
def F47 : AFn where
  np := 1
  nt := 17
  res := [(.t 2)]
  tab := [(.seq 2),
    (.region [⟨(.some 2), (.mv (.c (.int .u64 0))), .none, [], []⟩] .false), (.seq 2),
    (.region [⟨(.some 3), (.mv (.c (.int .u64 0))), .none, [], []⟩] .false), (.seq 17), (.seq 2),
    (.region [⟨(.some 6), (.mv (.t 0)), .none, [], []⟩, ⟨(.some 7), (.len .false (.t 6)), .none, [], []⟩, ⟨(.some 8), (.mv (.c (.int .i64 0))), .none, [], []⟩] .false), (.block 0), .loop, (.seq 2),
    (.region [⟨(.some 9), (.bin .lss .o (.t 8) (.t 7)), .none, [], []⟩] .false), (.seq 4), (.cond (.t 9) 2), .skip, (.exit 0), (.seq 5), (.block 1), (.seq 2),
    (.region [⟨(.some 10), (.idx 56 1 (.t 6) (.t 8)), .none, [], []⟩, ⟨(.some 11), (.ld .none (.t 10)), .none, [], []⟩, ⟨(.some 5), (.mv (.t 11)), .none, [], []⟩] .false),
    (.region [⟨(.some 12), (.mv (.t 3)), .none, [], []⟩, ⟨(.some 13), (.mv (.t 5)), .none, [], []⟩, ⟨(.some 14), (.call 41 [(.t 12), (.t 13)]), .none, [], []⟩, ⟨(.some 3), (.mv (.t 14)), .none, [], []⟩] .false),
    (.region [⟨(.some 15), (.bin .add .o (.t 8) (.c (.int .i64 1))), .none, [], []⟩, ⟨(.some 8), (.mv (.t 15)), .none, [], []⟩] .false), (.seq 2),
    (.region [⟨(.some 16), (.mv (.t 3)), .none, [], []⟩, ⟨(.some 2), (.mv (.t 16)), .none, [], []⟩] .false), .ret]
theorem F47_at : F47.at Try.prog 47 Try.f47 := ⟨Try.func47, by kernel_rfl, by kernel_rfl, by kernel_rfl, by kernel_rfl, by kernel_rfl⟩

-- "signalbox/preempt.some" res .true
def F48 : AFn where
  np := 3
  nt := 36
  res := [(.t 6)]
  tab := [(.seq 2),
    (.region [⟨(.some 3), (.box 55 (.t 0)), .none, [], []⟩, ⟨(.some 6), (.mv (.c .nils)), .none, [], []⟩] .false), (.seq 8), (.seq 2),
    (.region [⟨(.some 10), (.ld (.some 10) (.t 3)), .none, [], []⟩, ⟨(.some 11), (.mv (.t 1)), .none, [], []⟩, ⟨(.some 12), (.call 44 [(.t 10), (.t 11)]), .none, [], []⟩, ⟨(.some 13), (.un .not (.t 12)), .none, [], []⟩] .false), (.cond (.t 13) 4), (.seq 2),
    (.region [⟨(.some 6), (.mv (.c .nils)), .none, [], []⟩] .false), .ret, .skip, (.seq 2),
    (.region [⟨(.some 7), (.mv (.c .nils)), .none, [], []⟩] .false), (.seq 21), (.seq 2),
    (.region [⟨(.some 14), (.fad 8 (.t 3)), .none, [], []⟩, ⟨(.some 15), (.ld .none (.t 14)), .none, [], []⟩, ⟨(.some 16), (.len .false (.t 15)), .none, [], []⟩, ⟨(.some 17), (.mv (.c (.int .i64 0))), .none, [], []⟩] .false), (.block 0), .loop, (.seq 2),
    (.region [⟨(.some 18), (.bin .lss .o (.t 17) (.t 16)), .none, [], []⟩] .false), (.seq 4), (.cond (.t 18) 2), .skip, (.exit 0), (.seq 9), (.block 1), (.seq 2),
    (.region [⟨(.some 19), (.mv (.t 17)), .none, [], []⟩, ⟨(.some 20), (.idx 65 7 (.t 15) (.t 17)), .none, [], []⟩, ⟨(.some 21), (.ld (.some 7) (.t 20)), .none, [], []⟩, ⟨(.some 9), (.alloc 65 [(.int .i64 0), (.int .i64 0), (.int .i64 0), (.int .i64 0), (.int .i64 0), (.int .i64 0), .nils]), .none, [], []⟩, ⟨(.some 8), (.mv (.t 19)), .none, [], []⟩, ⟨.none, (.st 7 (.t 9) (.t 21)), .none, [], []⟩] .false), (.seq 2),
    (.region [⟨(.some 22), (.mv (.t 2)), .none, [], [2]⟩, ⟨(.some 23), (.ld (.some 7) (.t 9)), .none, [], [9]⟩, ⟨(.some 24), (.fad 8 (.t 3)), .none, [], [3]⟩, ⟨(.some 25), (.ld .none (.t 24)), .none, [2], [24]⟩, ⟨(.some 26), (.mv (.t 1)), .none, [], [1]⟩, ⟨(.some 27), (.idx 65 7 (.t 25) (.t 26)), .none, [3, 4], [25, 26]⟩, ⟨(.some 28), (.ld (.some 7) (.t 27)), .none, [5], [27]⟩, ⟨(.some 29), (.callv (.t 22) [(.t 23), (.t 28)]), .none, [0, 1, 6], [22, 23, 28]⟩] .true), (.cond (.t 29) 2),
    (.region [⟨(.some 30), (.mv (.t 7)), .none, [], []⟩, ⟨(.some 31), (.mv (.t 8)), .none, [], []⟩, ⟨(.some 32), (.lit 3 1 1 [(.int .i64 0)] [(0, (.t 31))]), .none, [], []⟩, ⟨(.some 33), (.app 3 1 8 [(.int .i64 0)] (.t 30) (.t 32)), .none, [], []⟩, ⟨(.some 7), (.mv (.t 33)), .none, [], []⟩] .false), .skip,
    (.region [⟨(.some 34), (.bin .add .o (.t 17) (.c (.int .i64 1))), .none, [], []⟩, ⟨(.some 17), (.mv (.t 34)), .none, [], []⟩] .false), (.seq 2),
    (.region [⟨(.some 35), (.mv (.t 7)), .none, [], []⟩, ⟨(.some 6), (.mv (.t 35)), .none, [], []⟩] .false), .ret]
theorem F48_at : F48.at Try.prog 48 Try.f48 := ⟨Try.func48, by kernel_rfl, by kernel_rfl, by kernel_rfl, by kernel_rfl, by kernel_rfl⟩

-- "signalbox/preempt.Lower$1" res .true
def F49 : AFn where
  np := 2
  nt := 10
  res := [(.t 4)]
  tab := [(.seq 2),
    (.region [⟨(.some 2), (.box 65 (.t 0)), .none, [], []⟩, ⟨(.some 3), (.box 65 (.t 1)), .none, [], []⟩, ⟨(.some 4), (.mv (.c (.bool .false))), .none, [], []⟩] .false), (.seq 2),
    (.region [⟨(.some 5), (.fad 0 (.t 2)), .none, [], []⟩, ⟨(.some 6), (.ld .none (.t 5)), .none, [], []⟩, ⟨(.some 7), (.fad 0 (.t 3)), .none, [], []⟩, ⟨(.some 8), (.ld .none (.t 7)), .none, [], []⟩, ⟨(.some 9), (.bin .lss .o (.t 6) (.t 8)), .none, [], []⟩, ⟨(.some 4), (.mv (.t 9)), .none, [], []⟩] .false), .ret]
theorem F49_at : F49.at Try.prog 49 Try.f49 := ⟨Try.func49, by kernel_rfl, by kernel_rfl, by kernel_rfl, by kernel_rfl, by kernel_rfl⟩

-- "signalbox/preempt.Higher$1" res .true
def F50 : AFn where
  np := 2
  nt := 10
  res := [(.t 4)]
  tab := [(.seq 2),
    (.region [⟨(.some 2), (.box 65 (.t 0)), .none, [], []⟩, ⟨(.some 3), (.box 65 (.t 1)), .none, [], []⟩, ⟨(.some 4), (.mv (.c (.bool .false))), .none, [], []⟩] .false), (.seq 2),
    (.region [⟨(.some 5), (.fad 0 (.t 2)), .none, [], []⟩, ⟨(.some 6), (.ld .none (.t 5)), .none, [], []⟩, ⟨(.some 7), (.fad 0 (.t 3)), .none, [], []⟩, ⟨(.some 8), (.ld .none (.t 7)), .none, [], []⟩, ⟨(.some 9), (.bin .geq .o (.t 6) (.t 8)), .none, [], []⟩, ⟨(.some 4), (.mv (.t 9)), .none, [], []⟩] .false), .ret]
theorem F50_at : F50.at Try.prog 50 Try.f50 := ⟨Try.func50, by kernel_rfl, by kernel_rfl, by kernel_rfl, by kernel_rfl, by kernel_rfl⟩

-- "signalbox/signalboxref23.Above" res .true
def F51 : AFn where
  np := 2
  nt := 31
  res := [(.t 4)]
  tab := [(.seq 2),
    (.region [⟨(.some 2), (.box 55 (.t 0)), .none, [], []⟩, ⟨(.some 4), (.mv (.c .nils)), .none, [], []⟩] .false), (.seq 2),
    (.region [⟨(.some 5), (.mv (.c .nils)), .none, [], []⟩] .false), (.seq 21), (.seq 2),
    (.region [⟨(.some 8), (.fad 8 (.t 2)), .none, [], []⟩, ⟨(.some 9), (.ld .none (.t 8)), .none, [], []⟩, ⟨(.some 10), (.len .false (.t 9)), .none, [], []⟩, ⟨(.some 11), (.mv (.c (.int .i64 0))), .none, [], []⟩] .false), (.block 0), .loop, (.seq 2),
    (.region [⟨(.some 12), (.bin .lss .o (.t 11) (.t 10)), .none, [], []⟩] .false), (.seq 4), (.cond (.t 12) 2), .skip, (.exit 0), (.seq 9), (.block 1), (.seq 2),
    (.region [⟨(.some 13), (.mv (.t 11)), .none, [], []⟩, ⟨(.some 14), (.idx 65 7 (.t 9) (.t 11)), .none, [], []⟩, ⟨(.some 15), (.ld (.some 7) (.t 14)), .none, [], []⟩, ⟨(.some 7), (.alloc 65 [(.int .i64 0), (.int .i64 0), (.int .i64 0), (.int .i64 0), (.int .i64 0), (.int .i64 0), .nils]), .none, [], []⟩, ⟨(.some 6), (.mv (.t 13)), .none, [], []⟩, ⟨.none, (.st 7 (.t 7) (.t 15)), .none, [], []⟩] .false), (.seq 2),
    (.region [⟨(.some 16), (.fad 0 (.t 7)), .none, [], [7]⟩, ⟨(.some 17), (.ld .none (.t 16)), .none, [0], [16]⟩, ⟨(.some 18), (.fad 8 (.t 2)), .none, [], [2]⟩, ⟨(.some 19), (.ld .none (.t 18)), .none, [2], [18]⟩, ⟨(.some 20), (.mv (.t 1)), .none, [], [1]⟩, ⟨(.some 21), (.idx 65 7 (.t 19) (.t 20)), .none, [3, 4], [19, 20]⟩, ⟨(.some 22), (.fad 1 (.t 21)), .none, [5], [21]⟩, ⟨(.some 23), (.ld .none (.t 22)), .none, [6], [22]⟩, ⟨(.some 24), (.bin .gtr .o (.t 17) (.t 23)), .none, [1, 7], [17, 23]⟩] .true), (.cond (.t 24) 2),
    (.region [⟨(.some 25), (.mv (.t 5)), .none, [], []⟩, ⟨(.some 26), (.mv (.t 6)), .none, [], []⟩, ⟨(.some 27), (.lit 3 1 1 [(.int .i64 0)] [(0, (.t 26))]), .none, [], []⟩, ⟨(.some 28), (.app 3 1 8 [(.int .i64 0)] (.t 25) (.t 27)), .none, [], []⟩, ⟨(.some 5), (.mv (.t 28)), .none, [], []⟩] .false), .skip,
    (.region [⟨(.some 29), (.bin .add .o (.t 11) (.c (.int .i64 1))), .none, [], []⟩, ⟨(.some 11), (.mv (.t 29)), .none, [], []⟩] .false), (.seq 2),
    (.region [⟨(.some 30), (.mv (.t 5)), .none, [], []⟩, ⟨(.some 4), (.mv (.t 30)), .none, [], []⟩] .false), .ret]
theorem F51_at : F51.at Try.prog 51 Try.f51 := ⟨Try.func51, by kernel_rfl, by kernel_rfl, by kernel_rfl, by kernel_rfl, by kernel_rfl⟩

-- "signalbox/signalboxref01.Add" res .true
def F52 : AFn where
  np := 2
  nt := 12
  res := [(.t 4)]
  tab := [(.seq 2),
    (.region [⟨(.some 4), (.mv (.c (.int .u64 0))), .none, [], []⟩] .false), (.seq 8), (.seq 2),
    (.region [⟨(.some 5), (.mv (.t 0)), .none, [], []⟩, ⟨(.some 6), (.mv (.t 1)), .none, [], []⟩, ⟨(.some 7), (.bin .sub .o (.c (.int .u64 18446744073709551615)) (.t 6)), .none, [], []⟩, ⟨(.some 8), (.bin .gtr .o (.t 5) (.t 7)), .none, [], []⟩] .false), (.cond (.t 8) 4), (.seq 2),
    (.region [⟨(.some 4), (.mv (.c (.int .u64 18446744073709551615))), .none, [], []⟩] .false), .ret, .skip, (.seq 2),
    (.region [⟨(.some 9), (.mv (.t 0)), .none, [], []⟩, ⟨(.some 10), (.mv (.t 1)), .none, [], []⟩, ⟨(.some 11), (.bin .add .o (.t 9) (.t 10)), .none, [], []⟩, ⟨(.some 4), (.mv (.t 11)), .none, [], []⟩] .false), .ret]
theorem F52_at : F52.at Try.prog 52 Try.f52 := ⟨Try.func52, by kernel_rfl, by kernel_rfl, by kernel_rfl, by kernel_rfl, by kernel_rfl⟩

-- "signalbox/signalboxref01.Ceil" res .true
def F53 : AFn where
  np := 2
  nt := 25
  res := [(.t 4)]
  tab := [(.seq 2),
    (.region [⟨(.some 4), (.mv (.c (.int .u64 0))), .none, [], []⟩] .false), (.seq 8), (.seq 2),
    (.region [⟨(.some 6), (.mv (.t 0)), .none, [], []⟩, ⟨(.some 7), (.bin .eql .o (.t 6) (.c (.int .u64 0))), .none, [], []⟩] .false), (.cond (.t 7) 4), (.seq 2),
    (.region [⟨(.some 4), (.mv (.c (.int .u64 0))), .none, [], []⟩] .false), .ret, .skip, (.seq 8), (.seq 2),
    (.region [⟨(.some 8), (.mv (.t 1)), .none, [], []⟩, ⟨(.some 9), (.bin .eql .o (.t 8) (.c (.int .u64 0))), .none, [], []⟩, ⟨(.some 10), (.mv (.t 9)), .none, [], []⟩, ⟨(.some 11), (.mv (.t 0)), (.some ((.some 10), .false)), [], []⟩, ⟨(.some 12), (.bin .eql .o (.t 11) (.c (.int .u64 18446744073709551615))), (.some ((.some 10), .false)), [], []⟩, ⟨(.some 13), (.pick (.t 10) (.c (.bool .true)) (.t 12)), .none, [], []⟩] .false), (.cond (.t 13) 4), (.seq 2),
    (.region [⟨(.some 4), (.mv (.c (.int .u64 18446744073709551615))), .none, [], []⟩] .false), .ret, .skip, (.seq 2),
    (.region [⟨(.some 14), (.mv (.t 0)), .none, [], []⟩, ⟨(.some 15), (.mv (.t 1)), .none, [], []⟩, ⟨(.some 16), (.bin .quo .o (.t 14) (.t 15)), .none, [], []⟩, ⟨(.some 5), (.mv (.t 16)), .none, [], []⟩] .false), (.seq 6), (.seq 2),
    (.region [⟨(.some 17), (.mv (.t 5)), .none, [], []⟩, ⟨(.some 18), (.mv (.t 1)), .none, [], []⟩, ⟨(.some 19), (.bin .mul .o (.t 17) (.t 18)), .none, [], []⟩, ⟨(.some 20), (.mv (.t 0)), .none, [], []⟩, ⟨(.some 21), (.bin .neq .o (.t 19) (.t 20)), .none, [], []⟩] .false), (.cond (.t 21) 2),
    (.region [⟨(.some 22), (.mv (.t 5)), .none, [], []⟩, ⟨(.some 23), (.bin .add .o (.t 22) (.c (.int .u64 1))), .none, [], []⟩, ⟨(.some 5), (.mv (.t 23)), .none, [], []⟩] .false), .skip, (.seq 2),
    (.region [⟨(.some 24), (.mv (.t 5)), .none, [], []⟩, ⟨(.some 4), (.mv (.t 24)), .none, [], []⟩] .false), .ret]
theorem F53_at : F53.at Try.prog 53 Try.f53 := ⟨Try.func53, by kernel_rfl, by kernel_rfl, by kernel_rfl, by kernel_rfl, by kernel_rfl⟩

-- "signalbox/signalboxref27.of" res .true
def F54 : AFn where
  np := 1
  nt := 7
  res := [(.t 2)]
  tab := [(.seq 2),
    (.region [⟨(.some 2), (.mv (.c (.int .u64 0))), .none, [], []⟩] .false), (.seq 8), (.seq 2),
    (.region [⟨(.some 3), (.mv (.t 0)), .none, [], []⟩, ⟨(.some 4), (.bin .lss .o (.t 3) (.c (.int .i64 0))), .none, [], []⟩] .false), (.cond (.t 4) 4), (.seq 2),
    (.region [⟨(.some 2), (.mv (.c (.int .u64 0))), .none, [], []⟩] .false), .ret, .skip, (.seq 2),
    (.region [⟨(.some 5), (.mv (.t 0)), .none, [], []⟩, ⟨(.some 6), (.cvt .u64 (.t 5)), .none, [], []⟩, ⟨(.some 2), (.mv (.t 6)), .none, [], []⟩] .false), .ret]
theorem F54_at : F54.at Try.prog 54 Try.f54 := ⟨Try.func54, by kernel_rfl, by kernel_rfl, by kernel_rfl, by kernel_rfl, by kernel_rfl⟩

-- "signalbox/signalboxref09.Sum" res .true
def F55 : AFn where
  np := 3
  nt := 24
  res := [(.t 6)]
  tab := [(.seq 2),
    (.region [⟨(.some 4), (.box 52 (.t 1)), .none, [], []⟩, ⟨(.some 6), (.mv (.c (.int .i64 0))), .none, [], []⟩] .false), (.seq 2),
    (.region [⟨(.some 7), (.mv (.c (.int .i64 0))), .none, [], []⟩] .false), (.seq 17), (.seq 2),
    (.region [⟨(.some 10), (.mv (.t 0)), .none, [], []⟩, ⟨(.some 11), (.len .false (.t 10)), .none, [], []⟩, ⟨(.some 12), (.mv (.c (.int .i64 0))), .none, [], []⟩] .false), (.block 0), .loop, (.seq 2),
    (.region [⟨(.some 13), (.bin .lss .o (.t 12) (.t 11)), .none, [], []⟩] .false), (.seq 4), (.cond (.t 13) 2), .skip, (.exit 0), (.seq 5), (.block 1), (.seq 2),
    (.region [⟨(.some 14), (.idx 87 3 (.t 10) (.t 12)), .none, [], []⟩, ⟨(.some 15), (.ld (.some 3) (.t 14)), .none, [], []⟩, ⟨(.some 9), (.alloc 87 [(.int .i64 0), (.int .i64 0), (.int .i64 0)]), .none, [], []⟩, ⟨.none, (.st 3 (.t 9) (.t 15)), .none, [], []⟩] .false),
    (.region [⟨(.some 16), (.mv (.t 7)), .none, [], []⟩, ⟨(.some 17), (.ld (.some 3) (.t 9)), .none, [], []⟩, ⟨(.some 18), (.ld (.some 4) (.t 4)), .none, [], []⟩, ⟨(.some 19), (.mv (.t 2)), .none, [], []⟩, ⟨(.some 20), (.call 64 [(.t 17), (.t 18), (.t 19)]), .none, [], []⟩, ⟨(.some 21), (.bin .add .o (.t 16) (.t 20)), .none, [], []⟩, ⟨(.some 7), (.mv (.t 21)), .none, [], []⟩] .false),
    (.region [⟨(.some 22), (.bin .add .o (.t 12) (.c (.int .i64 1))), .none, [], []⟩, ⟨(.some 12), (.mv (.t 22)), .none, [], []⟩] .false), (.seq 2),
    (.region [⟨(.some 23), (.mv (.t 7)), .none, [], []⟩, ⟨(.some 6), (.mv (.t 23)), .none, [], []⟩] .false), .ret]
theorem F55_at : F55.at Try.prog 55 Try.f55 := ⟨Try.func55, by kernel_rfl, by kernel_rfl, by kernel_rfl, by kernel_rfl, by kernel_rfl⟩

-- "signalbox/signalboxref24.Longest" res .true
def F56 : AFn where
  np := 3
  nt := 67
  res := [(.t 6)]
  tab := [(.seq 2),
    (.region [⟨(.some 3), (.box 55 (.t 0)), .none, [], []⟩, ⟨(.some 6), (.mv (.c (.int .i64 0))), .none, [], []⟩] .false), (.seq 2),
    (.region [⟨(.some 12), (.fad 8 (.t 3)), .none, [], []⟩, ⟨(.some 13), (.ld .none (.t 12)), .none, [], []⟩, ⟨(.some 14), (.mv (.t 1)), .none, [], []⟩, ⟨(.some 15), (.idx 65 7 (.t 13) (.t 14)), .none, [], []⟩, ⟨(.some 16), (.ld (.some 7) (.t 15)), .none, [], []⟩, ⟨(.some 7), (.alloc 65 [(.int .i64 0), (.int .i64 0), (.int .i64 0), (.int .i64 0), (.int .i64 0), (.int .i64 0), .nils]), .none, [], []⟩, ⟨.none, (.st 7 (.t 7) (.t 16)), .none, [], []⟩] .false), (.seq 2),
    (.region [⟨(.some 8), (.mv (.c (.int .i64 0))), .none, [], []⟩] .false), (.seq 40), (.seq 2),
    (.region [⟨(.some 17), (.fad 6 (.t 7)), .none, [], []⟩, ⟨(.some 18), (.ld .none (.t 17)), .none, [], []⟩, ⟨(.some 19), (.len .false (.t 18)), .none, [], []⟩, ⟨(.some 20), (.mv (.c (.int .i64 0))), .none, [], []⟩] .false), (.block 0), .loop, (.seq 2),
    (.region [⟨(.some 21), (.bin .lss .o (.t 20) (.t 19)), .none, [], []⟩] .false), (.seq 4), (.cond (.t 21) 2), .skip, (.exit 0), (.seq 28), (.block 1), (.seq 2),
    (.region [⟨(.some 22), (.mv (.t 20)), .none, [], []⟩, ⟨(.some 9), (.mv (.t 22)), .none, [], []⟩] .false), (.seq 2),
    (.region [⟨(.some 10), (.mv (.c (.int .i64 0))), .none, [], []⟩] .false), (.seq 2),
    (.region [⟨(.some 23), (.mv (.t 9)), .none, [], []⟩, ⟨(.some 11), (.mv (.t 23)), .none, [], []⟩] .false), (.block 2), .loop, (.seq 6), (.seq 2),
    (.region [⟨(.some 24), (.mv (.t 11)), .none, [], []⟩, ⟨(.some 25), (.fad 6 (.t 7)), .none, [], []⟩, ⟨(.some 26), (.ld .none (.t 25)), .none, [], []⟩, ⟨(.some 27), (.len .false (.t 26)), .none, [], []⟩, ⟨(.some 28), (.bin .lss .o (.t 24) (.t 27)), .none, [], []⟩] .false), (.cond (.t 28) 2), .skip, (.exit 2), (.seq 11), (.block 3), (.seq 6), (.seq 2),
    (.region [⟨(.some 31), (.ld (.some 10) (.t 3)), .none, [], [3]⟩, ⟨(.some 32), (.ld (.some 7) (.t 7)), .none, [], [7]⟩, ⟨(.some 33), (.fad 6 (.t 7)), .none, [], [7]⟩, ⟨(.some 34), (.ld .none (.t 33)), .none, [2], [33]⟩, ⟨(.some 35), (.mv (.t 11)), .none, [], [11]⟩, ⟨(.some 36), (.slc (.some 3) (.t 34) .none (.some (.t 35))), .none, [3, 4], [34, 35]⟩, ⟨(.some 37), (.call 65 [(.t 31), (.t 32), (.t 36)]), .none, [0, 1, 5], [31, 32, 36]⟩, ⟨(.some 38), (.mv (.t 2)), .none, [], [2]⟩, ⟨(.some 39), (.bin .lss .o (.t 37) (.t 38)), .none, [6, 7], [37, 38]⟩, ⟨(.some 40), (.mv (.t 39)), .none, [8, 6], [39]⟩, ⟨(.some 41), (.ld (.some 10) (.t 3)), (.some ((.some 40), .true)), [9], [3, 40]⟩, ⟨(.some 42), (.ld (.some 7) (.t 7)), (.some ((.some 40), .true)), [9], [7, 40]⟩, ⟨(.some 43), (.fad 6 (.t 7)), (.some ((.some 40), .true)), [9], [7, 40]⟩, ⟨(.some 44), (.ld .none (.t 43)), (.some ((.some 40), .true)), [12, 9], [43, 40]⟩, ⟨(.some 45), (.mv (.t 11)), (.some ((.some 40), .true)), [9], [11, 40]⟩, ⟨(.some 46), (.bin .add .o (.t 45) (.c (.int .i64 1))), (.some ((.some 40), .true)), [14, 9], [45, 40]⟩, ⟨(.some 47), (.slc (.some 3) (.t 44) .none (.some (.t 46))), (.some ((.some 40), .true)), [13, 15, 9], [44, 46, 40]⟩, ⟨(.some 48), (.call 65 [(.t 41), (.t 42), (.t 47)]), (.some ((.some 40), .true)), [10, 11, 16, 9, 9], [41, 42, 47, 40]⟩, ⟨(.some 49), (.mv (.t 2)), (.some ((.some 40), .true)), [9], [2, 40]⟩, ⟨(.some 50), (.bin .lss .o (.t 48) (.t 49)), (.some ((.some 40), .true)), [17, 18, 9], [48, 49, 40]⟩, ⟨(.some 51), (.pick (.t 40) (.t 50) (.c (.bool .false))), .none, [9, 19], [40, 50]⟩] .true), (.cond (.t 51) 2), (.exit 2), .skip, (.seq 2),
    (.region [⟨(.some 52), (.mv (.t 10)), .none, [], [10]⟩, ⟨(.some 53), (.fad 6 (.t 7)), .none, [], [7]⟩, ⟨(.some 54), (.ld .none (.t 53)), .none, [1], [53]⟩, ⟨(.some 55), (.mv (.t 11)), .none, [], [11]⟩, ⟨(.some 56), (.idx 87 3 (.t 54) (.t 55)), .none, [2, 3], [54, 55]⟩, ⟨(.some 57), (.ld (.some 3) (.t 56)), .none, [4], [56]⟩, ⟨(.some 58), (.fad 0 (.t 3)), .none, [], [3]⟩, ⟨(.some 59), (.ld (.some 4) (.t 58)), .none, [6], [58]⟩, ⟨(.some 60), (.call 64 [(.t 57), (.t 59), (.c (.bool .false))]), .none, [5, 7], [57, 59]⟩, ⟨(.some 61), (.bin .add .o (.t 52) (.t 60)), .none, [0, 8], [52, 60]⟩, ⟨(.some 10), (.mv (.t 61)), .none, [9, 8, 0, 1, 2, 3, 4, 5, 6, 7, 8, 9], [61]⟩] .true),
    (.region [⟨(.some 62), (.mv (.t 8)), .none, [], []⟩, ⟨(.some 63), (.mv (.t 10)), .none, [], []⟩, ⟨(.some 64), (.mnmx .true (.t 62) (.t 63)), .none, [], []⟩, ⟨(.some 8), (.mv (.t 64)), .none, [], []⟩] .false),
    (.region [⟨(.some 29), (.mv (.t 11)), .none, [], []⟩, ⟨(.some 30), (.bin .add .o (.t 29) (.c (.int .i64 1))), .none, [], []⟩, ⟨(.some 11), (.mv (.t 30)), .none, [], []⟩] .false),
    (.region [⟨(.some 65), (.bin .add .o (.t 20) (.c (.int .i64 1))), .none, [], []⟩, ⟨(.some 20), (.mv (.t 65)), .none, [], []⟩] .false), (.seq 2),
    (.region [⟨(.some 66), (.mv (.t 8)), .none, [], []⟩, ⟨(.some 6), (.mv (.t 66)), .none, [], []⟩] .false), .ret]
theorem F56_at : F56.at Try.prog 56 Try.f56 := ⟨Try.func56, by kernel_rfl, by kernel_rfl, by kernel_rfl, by kernel_rfl, by kernel_rfl⟩

-- "signalbox/reload.is" res .true
def F59 : AFn where
  np := 2
  nt := 14
  res := [(.t 4)]
  tab := [(.seq 2),
    (.region [⟨(.some 2), (.box 55 (.t 0)), .none, [], []⟩, ⟨(.some 4), (.mv (.c (.bool .false))), .none, [], []⟩] .false), (.seq 2),
    (.region [⟨(.some 5), (.mv (.t 1)), .none, [], []⟩, ⟨(.some 6), (.bin .geq .o (.t 5) (.c (.int .i64 0))), .none, [], []⟩, ⟨(.some 7), (.mv (.t 6)), .none, [], []⟩, ⟨(.some 8), (.mv (.t 1)), (.some ((.some 7), .true)), [], []⟩, ⟨(.some 9), (.fad 8 (.t 2)), (.some ((.some 7), .true)), [], []⟩, ⟨(.some 10), (.ld .none (.t 9)), (.some ((.some 7), .true)), [], []⟩, ⟨(.some 11), (.len .false (.t 10)), (.some ((.some 7), .true)), [], []⟩, ⟨(.some 12), (.bin .lss .o (.t 8) (.t 11)), (.some ((.some 7), .true)), [], []⟩, ⟨(.some 13), (.pick (.t 7) (.t 12) (.c (.bool .false))), .none, [], []⟩, ⟨(.some 4), (.mv (.t 13)), .none, [], []⟩] .false), .ret]
theorem F59_at : F59.at Try.prog 59 Try.f59 := ⟨Try.func59, by kernel_rfl, by kernel_rfl, by kernel_rfl, by kernel_rfl, by kernel_rfl⟩

-- "signalbox/cost.sum" res .true
def F61 : AFn where
  np := 3
  nt := 24
  res := [(.t 6)]
  tab := [(.seq 2),
    (.region [⟨(.some 4), (.box 52 (.t 1)), .none, [], []⟩, ⟨(.some 6), (.mv (.c (.int .i64 0))), .none, [], []⟩] .false), (.seq 2),
    (.region [⟨(.some 7), (.mv (.c (.int .i64 0))), .none, [], []⟩] .false), (.seq 17), (.seq 2),
    (.region [⟨(.some 10), (.mv (.t 0)), .none, [], []⟩, ⟨(.some 11), (.len .false (.t 10)), .none, [], []⟩, ⟨(.some 12), (.mv (.c (.int .i64 0))), .none, [], []⟩] .false), (.block 0), .loop, (.seq 2),
    (.region [⟨(.some 13), (.bin .lss .o (.t 12) (.t 11)), .none, [], []⟩] .false), (.seq 4), (.cond (.t 13) 2), .skip, (.exit 0), (.seq 5), (.block 1), (.seq 2),
    (.region [⟨(.some 14), (.idx 87 3 (.t 10) (.t 12)), .none, [], []⟩, ⟨(.some 15), (.ld (.some 3) (.t 14)), .none, [], []⟩, ⟨(.some 9), (.alloc 87 [(.int .i64 0), (.int .i64 0), (.int .i64 0)]), .none, [], []⟩, ⟨.none, (.st 3 (.t 9) (.t 15)), .none, [], []⟩] .false),
    (.region [⟨(.some 16), (.mv (.t 7)), .none, [], []⟩, ⟨(.some 17), (.ld (.some 3) (.t 9)), .none, [], []⟩, ⟨(.some 18), (.ld (.some 4) (.t 4)), .none, [], []⟩, ⟨(.some 19), (.mv (.t 2)), .none, [], []⟩, ⟨(.some 20), (.call 63 [(.t 17), (.t 18), (.t 19)]), .none, [], []⟩, ⟨(.some 21), (.bin .add .o (.t 16) (.t 20)), .none, [], []⟩, ⟨(.some 7), (.mv (.t 21)), .none, [], []⟩] .false),
    (.region [⟨(.some 22), (.bin .add .o (.t 12) (.c (.int .i64 1))), .none, [], []⟩, ⟨(.some 12), (.mv (.t 22)), .none, [], []⟩] .false), (.seq 2),
    (.region [⟨(.some 23), (.mv (.t 7)), .none, [], []⟩, ⟨(.some 6), (.mv (.t 23)), .none, [], []⟩] .false), .ret]
theorem F61_at : F61.at Try.prog 61 Try.f61 := ⟨Try.func61, by kernel_rfl, by kernel_rfl, by kernel_rfl, by kernel_rfl, by kernel_rfl⟩

-- "signalbox/section.Levels" res .true
def F62 : AFn where
  np := 2
  nt := 43
  res := [(.t 4)]
  tab := [(.seq 2),
    (.region [⟨(.some 2), (.box 55 (.t 0)), .none, [], []⟩, ⟨(.some 4), (.mv (.c .nils)), .none, [], []⟩] .false), (.seq 8), (.seq 2),
    (.region [⟨(.some 9), (.ld (.some 10) (.t 2)), .none, [], []⟩, ⟨(.some 10), (.mv (.t 1)), .none, [], []⟩, ⟨(.some 11), (.call 66 [(.t 9), (.t 10)]), .none, [], []⟩, ⟨(.some 12), (.un .not (.t 11)), .none, [], []⟩] .false), (.cond (.t 12) 4), (.seq 2),
    (.region [⟨(.some 4), (.mv (.c .nils)), .none, [], []⟩] .false), .ret, .skip, (.seq 2),
    (.region [⟨(.some 13), (.fad 8 (.t 2)), .none, [], [2]⟩, ⟨(.some 14), (.ld .none (.t 13)), .none, [0], [13]⟩, ⟨(.some 15), (.mv (.t 1)), .none, [], [1]⟩, ⟨(.some 16), (.idx 65 7 (.t 14) (.t 15)), .none, [1, 2], [14, 15]⟩, ⟨(.some 17), (.fad 1 (.t 16)), .none, [3], [16]⟩, ⟨(.some 18), (.ld .none (.t 17)), .none, [4], [17]⟩, ⟨(.some 19), (.fad 7 (.t 2)), .none, [], [2]⟩, ⟨(.some 20), (.ld .none (.t 19)), .none, [6], [19]⟩, ⟨(.some 21), (.call 10 [(.t 20)]), .none, [7], [20]⟩, ⟨(.some 22), (.build [(.int .i64 0), (.int .i64 0), .nilp] [(0, (1, (.t 18))), (2, (1, (.t 21)))]), .none, [5, 8], [18, 21]⟩, ⟨(.some 23), (.box 115 (.t 22)), .none, [9], [22]⟩, ⟨(.some 5), (.mv (.t 23)), .none, [10, 8, 0, 1, 2, 3, 4, 5, 6, 7, 8, 9, 10], [23]⟩] .true), (.seq 2),
    (.region [⟨(.some 6), (.mv (.c .nils)), .none, [], []⟩] .false), (.seq 17), (.seq 2),
    (.region [⟨(.some 24), (.fad 8 (.t 2)), .none, [], []⟩, ⟨(.some 25), (.ld .none (.t 24)), .none, [], []⟩, ⟨(.some 26), (.mv (.t 1)), .none, [], []⟩, ⟨(.some 27), (.idx 65 7 (.t 25) (.t 26)), .none, [], []⟩, ⟨(.some 28), (.fad 6 (.t 27)), .none, [], []⟩, ⟨(.some 29), (.ld .none (.t 28)), .none, [], []⟩, ⟨(.some 30), (.len .false (.t 29)), .none, [], []⟩, ⟨(.some 31), (.mv (.c (.int .i64 0))), .none, [], []⟩] .false), (.block 0), .loop, (.seq 2),
    (.region [⟨(.some 32), (.bin .lss .o (.t 31) (.t 30)), .none, [], []⟩] .false), (.seq 4), (.cond (.t 32) 2), .skip, (.exit 0), (.seq 5), (.block 1), (.seq 2),
    (.region [⟨(.some 33), (.idx 87 3 (.t 29) (.t 31)), .none, [], []⟩, ⟨(.some 34), (.ld (.some 3) (.t 33)), .none, [], []⟩, ⟨(.some 8), (.alloc 87 [(.int .i64 0), (.int .i64 0), (.int .i64 0)]), .none, [], []⟩, ⟨.none, (.st 3 (.t 8) (.t 34)), .none, [], []⟩] .false),
    (.region [⟨(.some 35), (.mv (.t 6)), .none, [], []⟩, ⟨(.some 36), (.mv (.t 5)), .none, [], []⟩, ⟨(.some 37), (.ld (.some 3) (.t 8)), .none, [], []⟩, ⟨(.some 38), (.call 67 [(.t 36), (.t 37)]), .none, [], []⟩, ⟨(.some 39), (.lit 108 2 1 [(.int .i64 0), (.int .i64 0)] [(0, (.t 38))]), .none, [], []⟩, ⟨(.some 40), (.app 108 2 16 [(.int .i64 0), (.int .i64 0)] (.t 35) (.t 39)), .none, [], []⟩, ⟨(.some 6), (.mv (.t 40)), .none, [], []⟩] .false),
    (.region [⟨(.some 41), (.bin .add .o (.t 31) (.c (.int .i64 1))), .none, [], []⟩, ⟨(.some 31), (.mv (.t 41)), .none, [], []⟩] .false), (.seq 2),
    (.region [⟨(.some 42), (.mv (.t 6)), .none, [], []⟩, ⟨(.some 4), (.mv (.t 42)), .none, [], []⟩] .false), .ret]
theorem F62_at : F62.at Try.prog 62 Try.f62 := ⟨Try.func62, by kernel_rfl, by kernel_rfl, by kernel_rfl, by kernel_rfl, by kernel_rfl⟩

-- "signalbox/cost.Of" res .true
def F63 : AFn where
  np := 3
  nt := 26
  res := [(.t 6)]
  tab := [(.seq 2),
    (.region [⟨(.some 3), (.box 87 (.t 0)), .none, [], []⟩, ⟨(.some 4), (.box 52 (.t 1)), .none, [], []⟩, ⟨(.some 6), (.mv (.c (.int .i64 0))), .none, [], []⟩] .false), (.seq 21), (.block 0), (.seq 2),
    (.region [⟨(.some 8), (.fad 0 (.t 3)), .none, [], []⟩, ⟨(.some 9), (.ld .none (.t 8)), .none, [], []⟩, ⟨(.some 10), (.bin .eql .o (.t 9) (.c (.int .i64 1))), .none, [], []⟩, ⟨(.some 7), (.mv (.t 10)), .none, [], []⟩] .false), (.cond (.t 7) 4), (.seq 2),
    (.region [⟨(.some 11), (.fad 1 (.t 3)), .none, [], []⟩, ⟨(.some 12), (.ld .none (.t 11)), .none, [], []⟩, ⟨(.some 13), (.call 68 [(.t 12)]), .none, [], []⟩, ⟨(.some 6), (.mv (.t 13)), .none, [], []⟩] .false), .ret, (.seq 2),
    (.region [⟨(.some 15), (.fad 0 (.t 3)), .none, [], []⟩, ⟨(.some 16), (.ld .none (.t 15)), .none, [], []⟩, ⟨(.some 17), (.bin .neq .o (.t 16) (.c (.int .i64 2))), .none, [], []⟩, ⟨(.some 14), (.mv (.t 17)), .none, [], []⟩] .false), (.cond (.t 14) 4), (.seq 2),
    (.region [⟨(.some 6), (.mv (.c (.int .i64 1))), .none, [], []⟩] .false), .ret, (.seq 2),
    (.region [⟨(.some 19), (.mv (.t 2)), .none, [], []⟩, ⟨(.some 18), (.mv (.t 19)), .none, [], []⟩] .false), (.cond (.t 18) 4), (.seq 2),
    (.region [⟨(.some 20), (.fad 2 (.t 4)), .none, [], []⟩, ⟨(.some 21), (.ld .none (.t 20)), .none, [], []⟩, ⟨(.some 22), (.call 68 [(.t 21)]), .none, [], []⟩, ⟨(.some 6), (.mv (.t 22)), .none, [], []⟩] .false), .ret, .skip, (.seq 2),
    (.region [⟨(.some 23), (.fad 3 (.t 4)), .none, [], []⟩, ⟨(.some 24), (.ld .none (.t 23)), .none, [], []⟩, ⟨(.some 25), (.call 68 [(.t 24)]), .none, [], []⟩, ⟨(.some 6), (.mv (.t 25)), .none, [], []⟩] .false), .ret]
theorem F63_at : F63.at Try.prog 63 Try.f63 := ⟨Try.func63, by kernel_rfl, by kernel_rfl, by kernel_rfl, by kernel_rfl, by kernel_rfl⟩

-- "signalbox/signalboxref09.Of" res .true
def F64 : AFn where
  np := 3
  nt := 28
  res := [(.t 6)]
  tab := [(.seq 2),
    (.region [⟨(.some 3), (.box 87 (.t 0)), .none, [], []⟩, ⟨(.some 4), (.box 52 (.t 1)), .none, [], []⟩, ⟨(.some 6), (.mv (.c (.int .i64 0))), .none, [], []⟩] .false), (.seq 8), (.seq 2),
    (.region [⟨(.some 7), (.fad 0 (.t 3)), .none, [], []⟩, ⟨(.some 8), (.ld .none (.t 7)), .none, [], []⟩, ⟨(.some 9), (.bin .eql .o (.t 8) (.c (.int .i64 1))), .none, [], []⟩] .false), (.cond (.t 9) 4), (.seq 2),
    (.region [⟨(.some 10), (.fad 1 (.t 3)), .none, [], []⟩, ⟨(.some 11), (.ld .none (.t 10)), .none, [], []⟩, ⟨(.some 12), (.call 69 [(.t 11)]), .none, [], []⟩, ⟨(.some 6), (.mv (.t 12)), .none, [], []⟩] .false), .ret, .skip, (.seq 8), (.seq 2),
    (.region [⟨(.some 13), (.fad 0 (.t 3)), .none, [], []⟩, ⟨(.some 14), (.ld .none (.t 13)), .none, [], []⟩, ⟨(.some 15), (.bin .eql .o (.t 14) (.c (.int .i64 2))), .none, [], []⟩, ⟨(.some 16), (.mv (.t 15)), .none, [], []⟩, ⟨(.some 17), (.mv (.t 2)), (.some ((.some 16), .true)), [], []⟩, ⟨(.some 18), (.pick (.t 16) (.t 17) (.c (.bool .false))), .none, [], []⟩] .false), (.cond (.t 18) 4), (.seq 2),
    (.region [⟨(.some 19), (.fad 2 (.t 4)), .none, [], []⟩, ⟨(.some 20), (.ld .none (.t 19)), .none, [], []⟩, ⟨(.some 21), (.call 69 [(.t 20)]), .none, [], []⟩, ⟨(.some 6), (.mv (.t 21)), .none, [], []⟩] .false), .ret, .skip, (.seq 8), (.seq 2),
    (.region [⟨(.some 22), (.fad 0 (.t 3)), .none, [], []⟩, ⟨(.some 23), (.ld .none (.t 22)), .none, [], []⟩, ⟨(.some 24), (.bin .eql .o (.t 23) (.c (.int .i64 2))), .none, [], []⟩] .false), (.cond (.t 24) 4), (.seq 2),
    (.region [⟨(.some 25), (.fad 3 (.t 4)), .none, [], []⟩, ⟨(.some 26), (.ld .none (.t 25)), .none, [], []⟩, ⟨(.some 27), (.call 69 [(.t 26)]), .none, [], []⟩, ⟨(.some 6), (.mv (.t 27)), .none, [], []⟩] .false), .ret, .skip, (.seq 2),
    (.region [⟨(.some 6), (.mv (.c (.int .i64 1))), .none, [], []⟩] .false), .ret]
theorem F64_at : F64.at Try.prog 64 Try.f64 := ⟨Try.func64, by kernel_rfl, by kernel_rfl, by kernel_rfl, by kernel_rfl, by kernel_rfl⟩

-- "signalbox/signalboxref24.Level" res .true
def F65 : AFn where
  np := 3
  nt := 89
  res := [(.t 6)]
  tab := [(.seq 2),
    (.region [⟨(.some 3), (.box 55 (.t 0)), .none, [], []⟩, ⟨(.some 4), (.box 65 (.t 1)), .none, [], []⟩, ⟨(.some 6), (.mv (.c (.int .i64 0))), .none, [], []⟩] .false), (.seq 2),
    (.region [⟨(.some 7), (.mv (.c (.int .i64 0))), .none, [], []⟩] .false), (.seq 2),
    (.region [⟨(.some 14), (.fad 1 (.t 4)), .none, [], []⟩, ⟨(.some 15), (.ld .none (.t 14)), .none, [], []⟩, ⟨(.some 8), (.mv (.t 15)), .none, [], []⟩] .false), (.seq 2),
    (.region [⟨(.some 16), (.fad 7 (.t 3)), .none, [], []⟩, ⟨(.some 17), (.ld .none (.t 16)), .none, [], []⟩, ⟨(.some 18), (.len .false (.t 17)), .none, [], []⟩, ⟨(.some 19), (.mks 3 1 8 [(.int .i64 0)] (.t 18) (.t 18)), .none, [], []⟩, ⟨(.some 9), (.mv (.t 19)), .none, [], []⟩] .false), (.seq 46), (.seq 2),
    (.region [⟨(.some 20), (.mv (.t 2)), .none, [], []⟩, ⟨(.some 21), (.len .false (.t 20)), .none, [], []⟩, ⟨(.some 22), (.mv (.c (.int .i64 0))), .none, [], []⟩] .false), (.block 0), .loop, (.seq 2),
    (.region [⟨(.some 23), (.bin .lss .o (.t 22) (.t 21)), .none, [], []⟩] .false), (.seq 4), (.cond (.t 23) 2), .skip, (.exit 0), (.seq 34), (.block 1), (.seq 2),
    (.region [⟨(.some 24), (.idx 87 3 (.t 20) (.t 22)), .none, [], []⟩, ⟨(.some 25), (.ld (.some 3) (.t 24)), .none, [], []⟩, ⟨(.some 11), (.alloc 87 [(.int .i64 0), (.int .i64 0), (.int .i64 0)]), .none, [], []⟩, ⟨.none, (.st 3 (.t 11) (.t 25)), .none, [], []⟩] .false), (.seq 2),
    (.region [⟨(.some 26), (.fad 0 (.t 11)), .none, [], []⟩, ⟨(.some 27), (.ld .none (.t 26)), .none, [], []⟩] .false), (.block 2), (.seq 2),
    (.region [⟨(.some 29), (.bin .eql .o (.t 27) (.c (.int .i64 3))), .none, [], []⟩, ⟨(.some 28), (.mv (.t 29)), .none, [], []⟩] .false), (.cond (.t 28) 2),
    (.region [⟨(.some 30), (.mv (.t 7)), .none, [], []⟩, ⟨(.some 31), (.bin .add .o (.t 30) (.c (.int .i64 1))), .none, [], []⟩, ⟨(.some 7), (.mv (.t 31)), .none, [], []⟩] .false), (.seq 2),
    (.region [⟨(.some 33), (.bin .eql .o (.t 27) (.c (.int .i64 4))), .none, [], []⟩, ⟨(.some 32), (.mv (.t 33)), .none, [], []⟩] .false), (.cond (.t 32) 2),
    (.region [⟨(.some 34), (.mv (.t 7)), .none, [], []⟩, ⟨(.some 35), (.bin .sub .o (.t 34) (.c (.int .i64 1))), .none, [], []⟩, ⟨(.some 36), (.mnmx .true (.t 35) (.c (.int .i64 0))), .none, [], []⟩, ⟨(.some 7), (.mv (.t 36)), .none, [], []⟩] .false), (.seq 6), (.seq 2),
    (.region [⟨(.some 38), (.bin .eql .o (.t 27) (.c (.int .i64 5))), .none, [], []⟩, ⟨(.some 37), (.mv (.t 38)), .none, [], []⟩] .false), (.cond (.t 37) 2), .skip,
    (.region [⟨(.some 39), (.bin .eql .o (.t 27) (.c (.int .i64 6))), .none, [], []⟩, ⟨(.some 37), (.mv (.t 39)), .none, [], []⟩] .false), (.cond (.t 37) 12), (.seq 6), (.seq 2),
    (.region [⟨(.some 40), (.fad 1 (.t 11)), .none, [], []⟩, ⟨(.some 41), (.ld .none (.t 40)), .none, [], []⟩, ⟨(.some 42), (.bin .lss .o (.t 41) (.c (.int .i64 0))), .none, [], []⟩, ⟨(.some 43), (.mv (.t 42)), .none, [], []⟩, ⟨(.some 44), (.fad 1 (.t 11)), (.some ((.some 43), .false)), [], []⟩, ⟨(.some 45), (.ld .none (.t 44)), (.some ((.some 43), .false)), [], []⟩, ⟨(.some 46), (.mv (.t 9)), (.some ((.some 43), .false)), [], []⟩, ⟨(.some 47), (.len .false (.t 46)), (.some ((.some 43), .false)), [], []⟩, ⟨(.some 48), (.bin .geq .o (.t 45) (.t 47)), (.some ((.some 43), .false)), [], []⟩, ⟨(.some 49), (.pick (.t 43) (.c (.bool .true)) (.t 48)), .none, [], []⟩] .false), (.cond (.t 49) 2), (.exit 1), .skip, (.seq 2),
    (.region [⟨(.some 50), (.fad 0 (.t 11)), .none, [], []⟩, ⟨(.some 51), (.ld .none (.t 50)), .none, [], []⟩, ⟨(.some 52), (.bin .eql .o (.t 51) (.c (.int .i64 5))), .none, [], []⟩] .false), (.cond (.t 52) 2),
    (.region [⟨(.some 53), (.mv (.t 9)), .none, [], []⟩, ⟨(.some 54), (.fad 1 (.t 11)), .none, [], []⟩, ⟨(.some 55), (.ld .none (.t 54)), .none, [], []⟩, ⟨(.some 56), (.idx 3 1 (.t 53) (.t 55)), .none, [], []⟩, ⟨.none, (.st 1 (.t 56) (.c (.int .i64 1))), .none, [], []⟩] .false),
    (.region [⟨(.some 57), (.mv (.t 9)), .none, [], []⟩, ⟨(.some 58), (.fad 1 (.t 11)), .none, [], []⟩, ⟨(.some 59), (.ld .none (.t 58)), .none, [], []⟩, ⟨(.some 60), (.idx 3 1 (.t 57) (.t 59)), .none, [], []⟩, ⟨.none, (.st 1 (.t 60) (.c (.int .i64 0))), .none, [], []⟩] .false), .skip,
    (.region [⟨(.some 61), (.bin .add .o (.t 22) (.c (.int .i64 1))), .none, [], []⟩, ⟨(.some 22), (.mv (.t 61)), .none, [], []⟩] .false), (.seq 21), (.seq 2),
    (.region [⟨(.some 62), (.mv (.t 9)), .none, [], []⟩, ⟨(.some 63), (.len .false (.t 62)), .none, [], []⟩, ⟨(.some 64), (.mv (.c (.int .i64 0))), .none, [], []⟩] .false), (.block 3), .loop, (.seq 2),
    (.region [⟨(.some 65), (.bin .lss .o (.t 64) (.t 63)), .none, [], []⟩] .false), (.seq 4), (.cond (.t 65) 2), .skip, (.exit 3), (.seq 9), (.block 4), (.seq 2),
    (.region [⟨(.some 66), (.mv (.t 64)), .none, [], []⟩, ⟨(.some 67), (.idx 3 1 (.t 62) (.t 64)), .none, [], []⟩, ⟨(.some 68), (.ld .none (.t 67)), .none, [], []⟩, ⟨(.some 12), (.mv (.t 66)), .none, [], []⟩, ⟨(.some 13), (.mv (.t 68)), .none, [], []⟩] .false), (.seq 2),
    (.region [⟨(.some 69), (.mv (.t 13)), .none, [], []⟩, ⟨(.some 70), (.bin .gtr .o (.t 69) (.c (.int .i64 0))), .none, [], []⟩, ⟨(.some 71), (.mv (.t 70)), .none, [], []⟩, ⟨(.some 72), (.fad 7 (.t 3)), (.some ((.some 71), .true)), [], []⟩, ⟨(.some 73), (.ld .none (.t 72)), (.some ((.some 71), .true)), [], []⟩, ⟨(.some 74), (.mv (.t 12)), (.some ((.some 71), .true)), [], []⟩, ⟨(.some 75), (.idx 3 1 (.t 73) (.t 74)), (.some ((.some 71), .true)), [], []⟩, ⟨(.some 76), (.ld .none (.t 75)), (.some ((.some 71), .true)), [], []⟩, ⟨(.some 77), (.mv (.t 8)), (.some ((.some 71), .true)), [], []⟩, ⟨(.some 78), (.bin .gtr .o (.t 76) (.t 77)), (.some ((.some 71), .true)), [], []⟩, ⟨(.some 79), (.pick (.t 71) (.t 78) (.c (.bool .false))), .none, [], []⟩] .false), (.cond (.t 79) 2),
    (.region [⟨(.some 80), (.fad 7 (.t 3)), .none, [], []⟩, ⟨(.some 81), (.ld .none (.t 80)), .none, [], []⟩, ⟨(.some 82), (.mv (.t 12)), .none, [], []⟩, ⟨(.some 83), (.idx 3 1 (.t 81) (.t 82)), .none, [], []⟩, ⟨(.some 84), (.ld .none (.t 83)), .none, [], []⟩, ⟨(.some 8), (.mv (.t 84)), .none, [], []⟩] .false), .skip,
    (.region [⟨(.some 85), (.bin .add .o (.t 64) (.c (.int .i64 1))), .none, [], []⟩, ⟨(.some 64), (.mv (.t 85)), .none, [], []⟩] .false), (.seq 8), (.seq 2),
    (.region [⟨(.some 86), (.mv (.t 7)), .none, [], []⟩, ⟨(.some 87), (.bin .gtr .o (.t 86) (.c (.int .i64 0))), .none, [], []⟩] .false), (.cond (.t 87) 4), (.seq 2),
    (.region [⟨(.some 6), (.mv (.c (.int .i64 64))), .none, [], []⟩] .false), .ret, .skip, (.seq 2),
    (.region [⟨(.some 88), (.mv (.t 8)), .none, [], []⟩, ⟨(.some 6), (.mv (.t 88)), .none, [], []⟩] .false), .ret]
theorem F65_at : F65.at Try.prog 65 Try.f65 := ⟨Try.func65, by kernel_rfl, by kernel_rfl, by kernel_rfl, by kernel_rfl, by kernel_rfl⟩

-- "signalbox/section.is" res .true
def F66 : AFn where
  np := 2
  nt := 14
  res := [(.t 4)]
  tab := [(.seq 2),
    (.region [⟨(.some 2), (.box 55 (.t 0)), .none, [], []⟩, ⟨(.some 4), (.mv (.c (.bool .false))), .none, [], []⟩] .false), (.seq 2),
    (.region [⟨(.some 5), (.mv (.t 1)), .none, [], []⟩, ⟨(.some 6), (.bin .geq .o (.t 5) (.c (.int .i64 0))), .none, [], []⟩, ⟨(.some 7), (.mv (.t 6)), .none, [], []⟩, ⟨(.some 8), (.mv (.t 1)), (.some ((.some 7), .true)), [], []⟩, ⟨(.some 9), (.fad 8 (.t 2)), (.some ((.some 7), .true)), [], []⟩, ⟨(.some 10), (.ld .none (.t 9)), (.some ((.some 7), .true)), [], []⟩, ⟨(.some 11), (.len .false (.t 10)), (.some ((.some 7), .true)), [], []⟩, ⟨(.some 12), (.bin .lss .o (.t 8) (.t 11)), (.some ((.some 7), .true)), [], []⟩, ⟨(.some 13), (.pick (.t 7) (.t 12) (.c (.bool .false))), .none, [], []⟩, ⟨(.some 4), (.mv (.t 13)), .none, [], []⟩] .false), .ret]
theorem F66_at : F66.at Try.prog 66 Try.f66 := ⟨Try.func66, by kernel_rfl, by kernel_rfl, by kernel_rfl, by kernel_rfl, by kernel_rfl⟩

-- "(*signalbox/section.walker).step" res .true
def F67 : AFn where
  np := 2
  nt := 53
  res := [(.cell 4 (.some 2))]
  tab := [(.seq 2),
    (.region [⟨(.some 3), (.box 87 (.t 1)), .none, [], []⟩, ⟨(.some 4), (.alloc 108 [(.int .i64 0), (.int .i64 0)]), .none, [], []⟩] .false), (.seq 2),
    (.region [⟨(.some 6), (.mv (.t 0)), .none, [], []⟩, ⟨(.some 7), (.call 70 [(.t 6)]), .none, [], []⟩, ⟨(.some 8), (.build [(.int .i64 0), (.int .i64 0)] [(0, (1, (.t 7)))]), .none, [], []⟩, ⟨(.some 5), (.alloc 108 [(.int .i64 0), (.int .i64 0)]), .none, [], []⟩, ⟨.none, (.st 2 (.t 5) (.t 8)), .none, [], []⟩] .false), (.seq 21), (.seq 2),
    (.region [⟨(.some 9), (.fad 0 (.t 3)), .none, [], []⟩, ⟨(.some 10), (.ld .none (.t 9)), .none, [], []⟩] .false), (.block 0), (.seq 2),
    (.region [⟨(.some 12), (.bin .eql .o (.t 10) (.c (.int .i64 3))), .none, [], []⟩, ⟨(.some 11), (.mv (.t 12)), .none, [], []⟩] .false), (.cond (.t 11) 2),
    (.region [⟨(.some 13), (.mv (.t 0)), .none, [], []⟩, ⟨(.some 14), (.nilc (.t 13)), .none, [], []⟩, ⟨(.some 15), (.fad 1 (.t 14)), .none, [], []⟩, ⟨(.some 16), (.ld .none (.t 15)), .none, [], []⟩, ⟨(.some 17), (.bin .add .o (.t 16) (.c (.int .i64 1))), .none, [], []⟩, ⟨(.some 18), (.nilc (.t 13)), .none, [], []⟩, ⟨(.some 19), (.fad 1 (.t 18)), .none, [], []⟩, ⟨.none, (.st 1 (.t 19) (.t 17)), .none, [], []⟩] .false), (.seq 2),
    (.region [⟨(.some 21), (.bin .eql .o (.t 10) (.c (.int .i64 4))), .none, [], []⟩, ⟨(.some 20), (.mv (.t 21)), .none, [], []⟩] .false), (.cond (.t 20) 2),
    (.region [⟨(.some 22), (.mv (.t 0)), .none, [], []⟩, ⟨(.some 23), (.mv (.t 0)), .none, [], []⟩, ⟨(.some 24), (.nilc (.t 23)), .none, [], []⟩, ⟨(.some 25), (.fad 1 (.t 24)), .none, [], []⟩, ⟨(.some 26), (.ld .none (.t 25)), .none, [], []⟩, ⟨(.some 27), (.bin .sub .o (.t 26) (.c (.int .i64 1))), .none, [], []⟩, ⟨(.some 28), (.mnmx .true (.t 27) (.c (.int .i64 0))), .none, [], []⟩, ⟨(.some 29), (.nilc (.t 22)), .none, [], []⟩, ⟨(.some 30), (.fad 1 (.t 29)), .none, [], []⟩, ⟨.none, (.st 1 (.t 30) (.t 28)), .none, [], []⟩] .false), (.seq 2),
    (.region [⟨(.some 32), (.bin .eql .o (.t 10) (.c (.int .i64 5))), .none, [], []⟩, ⟨(.some 31), (.mv (.t 32)), .none, [], []⟩] .false), (.cond (.t 31) 2),
    (.region [⟨(.some 33), (.mv (.t 0)), .none, [], [0]⟩, ⟨(.some 34), (.nilc (.t 33)), .none, [0], [33]⟩, ⟨(.some 35), (.fad 2 (.t 34)), .none, [1], [34]⟩, ⟨(.some 36), (.ld .none (.t 35)), .none, [2], [35]⟩, ⟨(.some 37), (.fad 1 (.t 3)), .none, [], [3]⟩, ⟨(.some 38), (.ld .none (.t 37)), .none, [4], [37]⟩, ⟨(.some 39), (.call 11 [(.t 36), (.t 38), (.c (.int .i64 0))]), .none, [3, 5], [36, 38]⟩] .true), (.seq 2),
    (.region [⟨(.some 41), (.bin .eql .o (.t 10) (.c (.int .i64 6))), .none, [], []⟩, ⟨(.some 40), (.mv (.t 41)), .none, [], []⟩] .false), (.cond (.t 40) 2),
    (.region [⟨(.some 42), (.mv (.t 0)), .none, [], [0]⟩, ⟨(.some 43), (.nilc (.t 42)), .none, [0], [42]⟩, ⟨(.some 44), (.fad 2 (.t 43)), .none, [1], [43]⟩, ⟨(.some 45), (.ld .none (.t 44)), .none, [2], [44]⟩, ⟨(.some 46), (.fad 1 (.t 3)), .none, [], [3]⟩, ⟨(.some 47), (.ld .none (.t 46)), .none, [4], [46]⟩, ⟨(.some 48), (.call 12 [(.t 45), (.t 47), (.c (.int .i64 0))]), .none, [3, 5], [45, 47]⟩] .true), .skip, (.seq 2),
    (.region [⟨(.some 49), (.mv (.t 0)), .none, [], []⟩, ⟨(.some 50), (.call 70 [(.t 49)]), .none, [], []⟩, ⟨(.some 51), (.fad 1 (.t 5)), .none, [], []⟩, ⟨.none, (.st 1 (.t 51) (.t 50)), .none, [], []⟩] .false), (.seq 2),
    (.region [⟨(.some 52), (.ld (.some 2) (.t 5)), .none, [], []⟩, ⟨.none, (.st 2 (.t 4) (.t 52)), .none, [], []⟩] .false), .ret]
theorem F67_at : F67.at Try.prog 67 Try.f67 := ⟨Try.func67, by kernel_rfl, by kernel_rfl, by kernel_rfl, by kernel_rfl, by kernel_rfl⟩

-- "signalbox/cost.clamp" res .true
def F68 : AFn where
  np := 1
  nt := 6
  res := [(.t 2)]
  tab := [(.seq 2),
    (.region [⟨(.some 2), (.mv (.c (.int .i64 0))), .none, [], []⟩] .false), (.seq 2),
    (.region [⟨(.some 3), (.mv (.t 0)), .none, [], []⟩, ⟨(.some 4), (.mnmx .true (.t 3) (.c (.int .i64 0))), .none, [], []⟩, ⟨(.some 5), (.mnmx .false (.t 4) (.c (.int .i64 1073741824))), .none, [], []⟩, ⟨(.some 2), (.mv (.t 5)), .none, [], []⟩] .false), .ret]
theorem F68_at : F68.at Try.prog 68 Try.f68 := ⟨Try.func68, by kernel_rfl, by kernel_rfl, by kernel_rfl, by kernel_rfl, by kernel_rfl⟩

-- "signalbox/signalboxref09.clamp" res .true
def F69 : AFn where
  np := 1
  nt := 8
  res := [(.t 2)]
  tab := [(.seq 2),
    (.region [⟨(.some 2), (.mv (.c (.int .i64 0))), .none, [], []⟩] .false), (.seq 8), (.seq 2),
    (.region [⟨(.some 3), (.mv (.t 0)), .none, [], []⟩, ⟨(.some 4), (.bin .lss .o (.t 3) (.c (.int .i64 0))), .none, [], []⟩] .false), (.cond (.t 4) 4), (.seq 2),
    (.region [⟨(.some 2), (.mv (.c (.int .i64 0))), .none, [], []⟩] .false), .ret, .skip, (.seq 8), (.seq 2),
    (.region [⟨(.some 5), (.mv (.t 0)), .none, [], []⟩, ⟨(.some 6), (.bin .gtr .o (.t 5) (.c (.int .i64 1073741824))), .none, [], []⟩] .false), (.cond (.t 6) 4), (.seq 2),
    (.region [⟨(.some 2), (.mv (.c (.int .i64 1073741824))), .none, [], []⟩] .false), .ret, .skip, (.seq 2),
    (.region [⟨(.some 7), (.mv (.t 0)), .none, [], []⟩, ⟨(.some 2), (.mv (.t 7)), .none, [], []⟩] .false), .ret]
theorem F69_at : F69.at Try.prog 69 Try.f69 := ⟨Try.func69, by kernel_rfl, by kernel_rfl, by kernel_rfl, by kernel_rfl, by kernel_rfl⟩

-- "(*signalbox/section.walker).level" res .true
def F70 : AFn where
  np := 1
  nt := 17
  res := [(.t 2)]
  tab := [(.seq 2),
    (.region [⟨(.some 2), (.mv (.c (.int .i64 0))), .none, [], []⟩] .false), (.seq 8), (.seq 2),
    (.region [⟨(.some 3), (.mv (.t 0)), .none, [], []⟩, ⟨(.some 4), (.nilc (.t 3)), .none, [], []⟩, ⟨(.some 5), (.fad 1 (.t 4)), .none, [], []⟩, ⟨(.some 6), (.ld .none (.t 5)), .none, [], []⟩, ⟨(.some 7), (.bin .gtr .o (.t 6) (.c (.int .i64 0))), .none, [], []⟩] .false), (.cond (.t 7) 4), (.seq 2),
    (.region [⟨(.some 2), (.mv (.c (.int .i64 64))), .none, [], []⟩] .false), .ret, .skip, (.seq 2),
    (.region [⟨(.some 8), (.mv (.t 0)), .none, [], [0]⟩, ⟨(.some 9), (.nilc (.t 8)), .none, [0], [8]⟩, ⟨(.some 10), (.fad 2 (.t 9)), .none, [1], [9]⟩, ⟨(.some 11), (.ld .none (.t 10)), .none, [2], [10]⟩, ⟨(.some 12), (.mv (.t 0)), .none, [], [0]⟩, ⟨(.some 13), (.nilc (.t 12)), .none, [4], [12]⟩, ⟨(.some 14), (.fad 0 (.t 13)), .none, [5], [13]⟩, ⟨(.some 15), (.ld .none (.t 14)), .none, [6], [14]⟩, ⟨(.some 16), (.call 16 [(.t 11), (.c (.int .i64 0)), (.t 15)]), .none, [3, 7], [11, 15]⟩, ⟨(.some 2), (.mv (.t 16)), .none, [8, 8, 0, 1, 2, 3, 4, 5, 6, 7, 8], [16]⟩] .true), .ret]
theorem F70_at : F70.at Try.prog 70 Try.f70 := ⟨Try.func70, by kernel_rfl, by kernel_rfl, by kernel_rfl, by kernel_rfl, by kernel_rfl⟩

end Go.Ab
