/- PRINTED BY A PROGRAM (wip/tools/fmod.py): the functions of the cut, for the abstract machine. -/
import Derived.Test.YtkcnlpelbcpmgaaProg
import Derived.Test.YtkcnlpelbcpmgaaAbX
namespace Go.Ab
open Go Go.Proofs

-- "signalbox/signalboxlaw13.CeilingPlays" res .true
def F3 : AFn where
  np := 4
  nt := 278
  res := [(.t 8)]
  tab := [(.seq 2),
    (.region [⟨(.some 8), (.mv (.c (.bool .false))), .none, [], []⟩] .false), (.seq 8), (.seq 2),
    (.region [⟨(.some 27), (.call 9 []), .none, [], []⟩, ⟨(.some 28), (.un .not (.t 27)), .none, [], []⟩] .false), (.cond (.t 28) 4), (.seq 2),
    (.region [⟨(.some 8), (.mv (.c (.bool .false))), .none, [], []⟩] .false), .ret, .skip, (.seq 8), (.seq 2),
    (.region [⟨(.some 29), (.mv (.t 0)), .none, [], []⟩, ⟨(.some 30), (.len .false (.t 29)), .none, [], []⟩, ⟨(.some 31), (.bin .gtr .o (.t 30) (.c (.int .i64 20))), .none, [], []⟩, ⟨(.some 32), (.mv (.t 31)), .none, [], []⟩, ⟨(.some 33), (.mv (.t 1)), (.some ((.some 32), .false)), [], []⟩, ⟨(.some 34), (.len .false (.t 33)), (.some ((.some 32), .false)), [], []⟩, ⟨(.some 35), (.bin .gtr .o (.t 34) (.c (.int .i64 150))), (.some ((.some 32), .false)), [], []⟩, ⟨(.some 36), (.pick (.t 32) (.c (.bool .true)) (.t 35)), .none, [], []⟩] .false), (.cond (.t 36) 4), (.seq 2),
    (.region [⟨(.some 8), (.mv (.c (.bool .true))), .none, [], []⟩] .false), .ret, .skip, (.seq 2),
    (.region [⟨(.some 37), (.mv (.t 0)), .none, [], []⟩, ⟨(.some 38), (.call 10 [(.t 37)]), .none, [], []⟩, ⟨(.some 9), (.mv (.t 38)), .none, [], []⟩] .false), (.seq 2),
    (.region [⟨(.some 39), (.mv (.t 0)), .none, [], []⟩, ⟨(.some 40), (.len .false (.t 39)), .none, [], []⟩, ⟨(.some 41), (.mks 4 1 1 [(.bool .false)] (.t 40) (.t 40)), .none, [], []⟩, ⟨(.some 10), (.mv (.t 41)), .none, [], []⟩] .false), (.seq 2),
    (.region [⟨(.some 42), (.mv (.t 0)), .none, [], []⟩, ⟨(.some 43), (.len .false (.t 42)), .none, [], []⟩, ⟨(.some 44), (.mks 3 1 8 [(.int .i64 0)] (.t 43) (.t 43)), .none, [], []⟩, ⟨(.some 11), (.mv (.t 44)), .none, [], []⟩] .false), (.seq 154), (.seq 2),
    (.region [⟨(.some 45), (.mv (.t 1)), .none, [], []⟩, ⟨(.some 46), (.len .false (.t 45)), .none, [], []⟩, ⟨(.some 47), (.mv (.c (.int .i64 0))), .none, [], []⟩] .false), (.block 0), .loop, (.seq 2),
    (.region [⟨(.some 48), (.bin .lss .o (.t 47) (.t 46)), .none, [], []⟩] .false), (.seq 4), (.cond (.t 48) 2), .skip, (.exit 0), (.seq 142), (.block 1), (.seq 2),
    (.region [⟨(.some 49), (.idx 29 3 (.t 45) (.t 47)), .none, [], []⟩, ⟨(.some 50), (.ld (.some 3) (.t 49)), .none, [], []⟩, ⟨(.some 13), (.alloc 29 [(.int .u8 0), (.int .i64 0), (.int .i64 0)]), .none, [], []⟩, ⟨.none, (.st 3 (.t 13) (.t 50)), .none, [], []⟩] .false), (.seq 2),
    (.region [⟨(.some 51), (.fad 1 (.t 13)), .none, [], []⟩, ⟨(.some 52), (.ld .none (.t 51)), .none, [], []⟩, ⟨(.some 53), (.bin .geq .o (.t 52) (.c (.int .i64 0))), .none, [], []⟩, ⟨(.some 54), (.mv (.t 53)), .none, [], []⟩, ⟨(.some 55), (.fad 1 (.t 13)), (.some ((.some 54), .true)), [], []⟩, ⟨(.some 56), (.ld .none (.t 55)), (.some ((.some 54), .true)), [], []⟩, ⟨(.some 57), (.mv (.t 0)), (.some ((.some 54), .true)), [], []⟩, ⟨(.some 58), (.len .false (.t 57)), (.some ((.some 54), .true)), [], []⟩, ⟨(.some 59), (.bin .lss .o (.t 56) (.t 58)), (.some ((.some 54), .true)), [], []⟩, ⟨(.some 60), (.pick (.t 54) (.t 59) (.c (.bool .false))), .none, [], []⟩, ⟨(.some 14), (.mv (.t 60)), .none, [], []⟩] .false), (.seq 2),
    (.region [⟨(.some 15), (.mv (.c (.int .i64 0))), .none, [], []⟩] .false), (.seq 82), (.seq 2),
    (.region [⟨(.some 61), (.fad 0 (.t 13)), .none, [], []⟩, ⟨(.some 62), (.ld .none (.t 61)), .none, [], []⟩, ⟨(.some 63), (.bin .rem .o (.t 62) (.c (.int .u8 3))), .none, [], []⟩] .false), (.block 2), (.seq 2),
    (.region [⟨(.some 65), (.bin .eql .o (.t 63) (.c (.int .u8 0))), .none, [], []⟩, ⟨(.some 64), (.mv (.t 65)), .none, [], []⟩] .false), (.cond (.t 64) 19), (.seq 11), (.block 3), (.seq 2),
    (.region [⟨(.some 77), (.mv (.t 14)), .none, [], []⟩, ⟨(.some 78), (.un .not (.t 77)), .none, [], []⟩, ⟨(.some 76), (.mv (.t 78)), .none, [], []⟩] .false), (.cond (.t 76) 2),
    (.region [⟨(.some 15), (.mv (.c (.int .i64 6))), .none, [], []⟩] .false), (.seq 2),
    (.region [⟨(.some 80), (.mv (.t 10)), .none, [], []⟩, ⟨(.some 81), (.fad 1 (.t 13)), .none, [], []⟩, ⟨(.some 82), (.ld .none (.t 81)), .none, [], []⟩, ⟨(.some 83), (.idx 4 1 (.t 80) (.t 82)), .none, [], []⟩, ⟨(.some 84), (.ld .none (.t 83)), .none, [], []⟩, ⟨(.some 79), (.mv (.t 84)), .none, [], []⟩] .false), (.cond (.t 79) 2),
    (.region [⟨(.some 15), (.mv (.c (.int .i64 10))), .none, [], []⟩] .false),
    (.region [⟨(.some 66), (.mv (.t 10)), .none, [], [10]⟩, ⟨(.some 67), (.fad 1 (.t 13)), .none, [], [13]⟩, ⟨(.some 68), (.ld .none (.t 67)), .none, [1], [67]⟩, ⟨(.some 69), (.mv (.t 11)), .none, [], [11]⟩, ⟨(.some 70), (.fad 1 (.t 13)), .none, [], [13]⟩, ⟨(.some 71), (.ld .none (.t 70)), .none, [4], [70]⟩, ⟨(.some 72), (.fad 2 (.t 13)), .none, [], [13]⟩, ⟨(.some 73), (.ld .none (.t 72)), .none, [6], [72]⟩, ⟨(.some 74), (.idx 4 1 (.t 66) (.t 68)), .none, [0, 2, 0, 1, 2], [66, 68]⟩, ⟨.none, (.st 1 (.t 74) (.c (.bool .true))), .none, [8, 0, 1, 2], [74]⟩, ⟨(.some 75), (.idx 3 1 (.t 69) (.t 71)), .none, [3, 5, 0, 1, 2, 3, 4, 5, 6, 7, 8, 9], [69, 71]⟩, ⟨.none, (.st 1 (.t 75) (.t 73)), .none, [10, 7, 9, 0, 1, 2, 3, 4, 5, 6, 7, 8, 9], [75, 73]⟩] .true), (.seq 2),
    (.region [⟨(.some 85), (.mv (.t 9)), .none, [], []⟩, ⟨(.some 86), (.fad 1 (.t 13)), .none, [], []⟩, ⟨(.some 87), (.ld .none (.t 86)), .none, [], []⟩, ⟨(.some 88), (.fad 2 (.t 13)), .none, [], []⟩, ⟨(.some 89), (.ld .none (.t 88)), .none, [], []⟩, ⟨(.some 90), (.call 11 [(.t 85), (.t 87), (.t 89)]), .none, [], []⟩, ⟨(.some 91), (.mv (.t 15)), .none, [], []⟩, ⟨(.some 92), (.bin .neq .o (.t 90) (.t 91)), .none, [], []⟩] .false), (.cond (.t 92) 4), (.seq 2),
    (.region [⟨(.some 8), (.mv (.c (.bool .false))), .none, [], []⟩] .false), .ret, .skip, (.seq 2),
    (.region [⟨(.some 94), (.bin .eql .o (.t 63) (.c (.int .u8 1))), .none, [], []⟩, ⟨(.some 93), (.mv (.t 94)), .none, [], []⟩] .false), (.cond (.t 93) 19), (.seq 11), (.block 4), (.seq 2),
    (.region [⟨(.some 100), (.mv (.t 14)), .none, [], []⟩, ⟨(.some 101), (.un .not (.t 100)), .none, [], []⟩, ⟨(.some 99), (.mv (.t 101)), .none, [], []⟩] .false), (.cond (.t 99) 2),
    (.region [⟨(.some 15), (.mv (.c (.int .i64 6))), .none, [], []⟩] .false), (.seq 2),
    (.region [⟨(.some 103), (.mv (.t 10)), .none, [], [10]⟩, ⟨(.some 104), (.fad 1 (.t 13)), .none, [], [13]⟩, ⟨(.some 105), (.ld .none (.t 104)), .none, [1], [104]⟩, ⟨(.some 106), (.idx 4 1 (.t 103) (.t 105)), .none, [0, 2], [103, 105]⟩, ⟨(.some 107), (.ld .none (.t 106)), .none, [3], [106]⟩, ⟨(.some 108), (.un .not (.t 107)), .none, [4], [107]⟩, ⟨(.some 109), (.mv (.t 108)), .none, [5], [108]⟩, ⟨(.some 110), (.mv (.t 11)), (.some ((.some 109), .false)), [6], [11, 109]⟩, ⟨(.some 111), (.fad 1 (.t 13)), (.some ((.some 109), .false)), [6], [13, 109]⟩, ⟨(.some 112), (.ld .none (.t 111)), (.some ((.some 109), .false)), [8, 6], [111, 109]⟩, ⟨(.some 113), (.idx 3 1 (.t 110) (.t 112)), (.some ((.some 109), .false)), [7, 9, 6], [110, 112, 109]⟩, ⟨(.some 114), (.ld .none (.t 113)), (.some ((.some 109), .false)), [10, 6], [113, 109]⟩, ⟨(.some 115), (.fad 2 (.t 13)), (.some ((.some 109), .false)), [6], [13, 109]⟩, ⟨(.some 116), (.ld .none (.t 115)), (.some ((.some 109), .false)), [12, 6], [115, 109]⟩, ⟨(.some 117), (.bin .neq .o (.t 114) (.t 116)), (.some ((.some 109), .false)), [11, 13, 6], [114, 116, 109]⟩, ⟨(.some 118), (.pick (.t 109) (.c (.bool .true)) (.t 117)), .none, [6, 14], [109, 117]⟩, ⟨(.some 102), (.mv (.t 118)), .none, [15, 6], [118]⟩] .true), (.cond (.t 102) 2),
    (.region [⟨(.some 15), (.mv (.c (.int .i64 8))), .none, [], []⟩] .false),
    (.region [⟨(.some 95), (.mv (.t 10)), .none, [], []⟩, ⟨(.some 96), (.fad 1 (.t 13)), .none, [], []⟩, ⟨(.some 97), (.ld .none (.t 96)), .none, [], []⟩, ⟨(.some 98), (.idx 4 1 (.t 95) (.t 97)), .none, [], []⟩, ⟨.none, (.st 1 (.t 98) (.c (.bool .false))), .none, [], []⟩] .false), (.seq 2),
    (.region [⟨(.some 119), (.mv (.t 9)), .none, [], []⟩, ⟨(.some 120), (.fad 1 (.t 13)), .none, [], []⟩, ⟨(.some 121), (.ld .none (.t 120)), .none, [], []⟩, ⟨(.some 122), (.fad 2 (.t 13)), .none, [], []⟩, ⟨(.some 123), (.ld .none (.t 122)), .none, [], []⟩, ⟨(.some 124), (.call 12 [(.t 119), (.t 121), (.t 123)]), .none, [], []⟩, ⟨(.some 125), (.mv (.t 15)), .none, [], []⟩, ⟨(.some 126), (.bin .neq .o (.t 124) (.t 125)), .none, [], []⟩] .false), (.cond (.t 126) 4), (.seq 2),
    (.region [⟨(.some 8), (.mv (.c (.bool .false))), .none, [], []⟩] .false), .ret, .skip, (.seq 2),
    (.region [⟨(.some 128), (.bin .eql .o (.t 63) (.c (.int .u8 2))), .none, [], []⟩, ⟨(.some 127), (.mv (.t 128)), .none, [], []⟩] .false), (.cond (.t 127) 33), (.seq 2),
    (.region [⟨(.some 16), (.mv (.c (.int .i64 0))), .none, [], []⟩] .false), (.seq 23), (.seq 2),
    (.region [⟨(.some 129), (.mv (.t 10)), .none, [], []⟩, ⟨(.some 130), (.len .false (.t 129)), .none, [], []⟩, ⟨(.some 131), (.mv (.c (.int .i64 0))), .none, [], []⟩] .false), (.block 5), .loop, (.seq 2),
    (.region [⟨(.some 132), (.bin .lss .o (.t 131) (.t 130)), .none, [], []⟩] .false), (.seq 4), (.cond (.t 132) 2), .skip, (.exit 5), (.seq 11), (.block 6), (.seq 2),
    (.region [⟨(.some 133), (.mv (.t 131)), .none, [], []⟩, ⟨(.some 17), (.mv (.t 133)), .none, [], []⟩] .false), (.seq 2),
    (.region [⟨(.some 134), (.mv (.t 10)), .none, [], [10]⟩, ⟨(.some 135), (.mv (.t 17)), .none, [], [17]⟩, ⟨(.some 136), (.idx 4 1 (.t 134) (.t 135)), .none, [0, 1], [134, 135]⟩, ⟨(.some 137), (.ld .none (.t 136)), .none, [2], [136]⟩, ⟨(.some 138), (.mv (.t 137)), .none, [3], [137]⟩, ⟨(.some 139), (.mv (.t 11)), (.some ((.some 138), .true)), [4], [11, 138]⟩, ⟨(.some 140), (.mv (.t 17)), (.some ((.some 138), .true)), [4], [17, 138]⟩, ⟨(.some 141), (.idx 3 1 (.t 139) (.t 140)), (.some ((.some 138), .true)), [5, 6, 4], [139, 140, 138]⟩, ⟨(.some 142), (.ld .none (.t 141)), (.some ((.some 138), .true)), [7, 4], [141, 138]⟩, ⟨(.some 143), (.fad 2 (.t 13)), (.some ((.some 138), .true)), [4], [13, 138]⟩, ⟨(.some 144), (.ld .none (.t 143)), (.some ((.some 138), .true)), [9, 4], [143, 138]⟩, ⟨(.some 145), (.bin .eql .o (.t 142) (.t 144)), (.some ((.some 138), .true)), [8, 10, 4], [142, 144, 138]⟩, ⟨(.some 146), (.pick (.t 138) (.t 145) (.c (.bool .false))), .none, [4, 11], [138, 145]⟩] .true), (.cond (.t 146) 4), (.seq 2),
    (.region [⟨(.some 147), (.mv (.t 10)), .none, [], []⟩, ⟨(.some 148), (.mv (.t 17)), .none, [], []⟩, ⟨(.some 149), (.idx 4 1 (.t 147) (.t 148)), .none, [], []⟩, ⟨.none, (.st 1 (.t 149) (.c (.bool .false))), .none, [], []⟩] .false),
    (.region [⟨(.some 150), (.mv (.t 16)), .none, [], []⟩, ⟨(.some 151), (.bin .add .o (.t 150) (.c (.int .i64 1))), .none, [], []⟩, ⟨(.some 16), (.mv (.t 151)), .none, [], []⟩] .false), .skip,
    (.region [⟨(.some 152), (.bin .add .o (.t 131) (.c (.int .i64 1))), .none, [], []⟩, ⟨(.some 131), (.mv (.t 152)), .none, [], []⟩] .false), (.seq 2),
    (.region [⟨(.some 153), (.mv (.t 9)), .none, [], []⟩, ⟨(.some 154), (.fad 2 (.t 13)), .none, [], []⟩, ⟨(.some 155), (.ld .none (.t 154)), .none, [], []⟩, ⟨(.some 156), (.call 13 [(.t 153), (.t 155)]), .none, [], []⟩, ⟨(.some 157), (.mv (.t 16)), .none, [], []⟩, ⟨(.some 158), (.bin .neq .o (.t 156) (.t 157)), .none, [], []⟩] .false), (.cond (.t 158) 4), (.seq 2),
    (.region [⟨(.some 8), (.mv (.c (.bool .false))), .none, [], []⟩] .false), .ret, .skip, .skip, (.seq 2),
    (.region [⟨(.some 159), (.mv (.t 3)), .none, [], []⟩, ⟨(.some 18), (.mv (.t 159)), .none, [], []⟩, ⟨(.some 19), (.mv (.c (.int .i64 0))), .none, [], []⟩] .false), (.seq 2),
    (.region [⟨(.some 160), (.mv (.t 9)), .none, [], []⟩, ⟨(.some 161), (.mv (.t 2)), .none, [], []⟩, ⟨(.some 162), (.call 14 [(.t 160), (.t 161)]), .none, [], []⟩, ⟨(.some 20), (.mv (.t 162)), .none, [], []⟩] .false), (.seq 41), (.seq 2),
    (.region [⟨(.some 163), (.mv (.t 10)), .none, [], []⟩, ⟨(.some 164), (.len .false (.t 163)), .none, [], []⟩, ⟨(.some 165), (.mv (.c (.int .i64 0))), .none, [], []⟩] .false), (.block 7), .loop, (.seq 2),
    (.region [⟨(.some 166), (.bin .lss .o (.t 165) (.t 164)), .none, [], []⟩] .false), (.seq 4), (.cond (.t 166) 2), .skip, (.exit 7), (.seq 29), (.block 8), (.seq 2),
    (.region [⟨(.some 167), (.mv (.t 165)), .none, [], []⟩, ⟨(.some 21), (.mv (.t 167)), .none, [], []⟩] .false), (.seq 2),
    (.region [⟨(.some 169), (.mv (.t 9)), .none, [], []⟩, ⟨(.some 170), (.mv (.t 21)), .none, [], []⟩, ⟨(.some 171), (.call 15 [(.t 169), (.t 170)]), .none, [], []⟩, ⟨(.some 168), (.mv (.t 171)), .none, [], []⟩, ⟨(.some 172), (.ext (.t 168) 0), .none, [], []⟩, ⟨(.some 173), (.ext (.t 168) 1), .none, [], []⟩, ⟨(.some 22), (.mv (.t 172)), .none, [], []⟩, ⟨(.some 23), (.mv (.t 173)), .none, [], []⟩] .false), (.seq 8), (.seq 2),
    (.region [⟨(.some 174), (.mv (.t 23)), .none, [], []⟩, ⟨(.some 175), (.mv (.t 10)), .none, [], []⟩, ⟨(.some 176), (.mv (.t 21)), .none, [], []⟩, ⟨(.some 177), (.idx 4 1 (.t 175) (.t 176)), .none, [], []⟩, ⟨(.some 178), (.ld .none (.t 177)), .none, [], []⟩, ⟨(.some 179), (.bin .neq .b (.t 174) (.t 178)), .none, [], []⟩, ⟨(.some 180), (.mv (.t 179)), .none, [], []⟩, ⟨(.some 181), (.mv (.t 23)), (.some ((.some 180), .false)), [], []⟩, ⟨(.some 182), (.mv (.t 181)), (.some ((.some 180), .false)), [], []⟩, ⟨(.some 183), (.mv (.t 22)), (.some ((.some 182), .true)), [], []⟩, ⟨(.some 184), (.mv (.t 11)), (.some ((.some 182), .true)), [], []⟩, ⟨(.some 185), (.mv (.t 21)), (.some ((.some 182), .true)), [], []⟩, ⟨(.some 186), (.idx 3 1 (.t 184) (.t 185)), (.some ((.some 182), .true)), [], []⟩, ⟨(.some 187), (.ld .none (.t 186)), (.some ((.some 182), .true)), [], []⟩, ⟨(.some 188), (.bin .neq .o (.t 183) (.t 187)), (.some ((.some 182), .true)), [], []⟩, ⟨(.some 189), (.pick (.t 182) (.t 188) (.c (.bool .false))), (.some ((.some 180), .false)), [], []⟩, ⟨(.some 190), (.pick (.t 180) (.c (.bool .true)) (.t 189)), .none, [], []⟩] .false), (.cond (.t 190) 4), (.seq 2),
    (.region [⟨(.some 8), (.mv (.c (.bool .false))), .none, [], []⟩] .false), .ret, .skip, (.seq 2),
    (.region [⟨(.some 191), (.mv (.t 10)), .none, [], []⟩, ⟨(.some 192), (.mv (.t 21)), .none, [], []⟩, ⟨(.some 193), (.idx 4 1 (.t 191) (.t 192)), .none, [], []⟩, ⟨(.some 194), (.ld .none (.t 193)), .none, [], []⟩, ⟨(.some 195), (.mv (.t 194)), .none, [], []⟩, ⟨(.some 196), (.mv (.t 11)), (.some ((.some 195), .true)), [], []⟩, ⟨(.some 197), (.mv (.t 21)), (.some ((.some 195), .true)), [], []⟩, ⟨(.some 198), (.idx 3 1 (.t 196) (.t 197)), (.some ((.some 195), .true)), [], []⟩, ⟨(.some 199), (.ld .none (.t 198)), (.some ((.some 195), .true)), [], []⟩, ⟨(.some 200), (.mv (.t 2)), (.some ((.some 195), .true)), [], []⟩, ⟨(.some 201), (.bin .eql .o (.t 199) (.t 200)), (.some ((.some 195), .true)), [], []⟩, ⟨(.some 202), (.pick (.t 195) (.t 201) (.c (.bool .false))), .none, [], []⟩] .false), (.cond (.t 202) 12), (.seq 2),
    (.region [⟨(.some 203), (.mv (.t 18)), .none, [], []⟩, ⟨(.some 204), (.mv (.t 0)), .none, [], []⟩, ⟨(.some 205), (.mv (.t 21)), .none, [], []⟩, ⟨(.some 206), (.idx 3 1 (.t 204) (.t 205)), .none, [], []⟩, ⟨(.some 207), (.ld .none (.t 206)), .none, [], []⟩, ⟨(.some 208), (.mnmx .true (.t 203) (.t 207)), .none, [], []⟩, ⟨(.some 18), (.mv (.t 208)), .none, [], []⟩] .false), (.seq 8), (.seq 2),
    (.region [⟨(.some 209), (.mv (.t 19)), .none, [], []⟩, ⟨(.some 210), (.mv (.t 20)), .none, [], []⟩, ⟨(.some 211), (.len .false (.t 210)), .none, [], []⟩, ⟨(.some 212), (.bin .geq .o (.t 209) (.t 211)), .none, [], []⟩, ⟨(.some 213), (.mv (.t 212)), .none, [], []⟩, ⟨(.some 214), (.mv (.t 20)), (.some ((.some 213), .false)), [], []⟩, ⟨(.some 215), (.mv (.t 19)), (.some ((.some 213), .false)), [], []⟩, ⟨(.some 216), (.idx 3 1 (.t 214) (.t 215)), (.some ((.some 213), .false)), [], []⟩, ⟨(.some 217), (.ld .none (.t 216)), (.some ((.some 213), .false)), [], []⟩, ⟨(.some 218), (.mv (.t 21)), (.some ((.some 213), .false)), [], []⟩, ⟨(.some 219), (.bin .neq .o (.t 217) (.t 218)), (.some ((.some 213), .false)), [], []⟩, ⟨(.some 220), (.pick (.t 213) (.c (.bool .true)) (.t 219)), .none, [], []⟩] .false), (.cond (.t 220) 4), (.seq 2),
    (.region [⟨(.some 8), (.mv (.c (.bool .false))), .none, [], []⟩] .false), .ret, .skip,
    (.region [⟨(.some 221), (.mv (.t 19)), .none, [], []⟩, ⟨(.some 222), (.bin .add .o (.t 221) (.c (.int .i64 1))), .none, [], []⟩, ⟨(.some 19), (.mv (.t 222)), .none, [], []⟩] .false), .skip,
    (.region [⟨(.some 223), (.bin .add .o (.t 165) (.c (.int .i64 1))), .none, [], []⟩, ⟨(.some 165), (.mv (.t 223)), .none, [], []⟩] .false), (.seq 2),
    (.region [⟨(.some 224), (.mv (.t 19)), .none, [], []⟩, ⟨(.some 225), (.mv (.t 20)), .none, [], []⟩, ⟨(.some 226), (.len .false (.t 225)), .none, [], []⟩, ⟨(.some 227), (.bin .neq .o (.t 224) (.t 226)), .none, [], []⟩, ⟨(.some 228), (.mv (.t 227)), .none, [], []⟩, ⟨(.some 229), (.mv (.t 9)), (.some ((.some 228), .false)), [], []⟩, ⟨(.some 230), (.mv (.t 2)), (.some ((.some 228), .false)), [], []⟩, ⟨(.some 231), (.mv (.t 3)), (.some ((.some 228), .false)), [], []⟩, ⟨(.some 232), (.call 16 [(.t 229), (.t 230), (.t 231)]), (.some ((.some 228), .false)), [], []⟩, ⟨(.some 233), (.mv (.t 18)), (.some ((.some 228), .false)), [], []⟩, ⟨(.some 234), (.bin .neq .o (.t 232) (.t 233)), (.some ((.some 228), .false)), [], []⟩, ⟨(.some 235), (.pick (.t 228) (.c (.bool .true)) (.t 234)), .none, [], []⟩] .false), (.cond (.t 235) 4), (.seq 2),
    (.region [⟨(.some 8), (.mv (.c (.bool .false))), .none, [], []⟩] .false), .ret, .skip,
    (.region [⟨(.some 236), (.bin .add .o (.t 47) (.c (.int .i64 1))), .none, [], []⟩, ⟨(.some 47), (.mv (.t 236)), .none, [], []⟩] .false), (.seq 2),
    (.region [⟨(.some 24), (.mv (.c .nilp)), .none, [], []⟩] .false), (.seq 2),
    (.region [⟨(.some 238), (.mv (.t 24)), .none, [], []⟩, ⟨(.some 239), (.call 15 [(.t 238), (.c (.int .i64 0))]), .none, [], []⟩, ⟨(.some 237), (.mv (.t 239)), .none, [], []⟩, ⟨(.some 240), (.ext (.t 237) 0), .none, [], []⟩, ⟨(.some 241), (.ext (.t 237) 1), .none, [], []⟩, ⟨(.some 25), (.mv (.t 240)), .none, [], []⟩, ⟨(.some 26), (.mv (.t 241)), .none, [], []⟩] .false), (.seq 2),
    (.region [⟨(.some 242), (.mv (.t 9)), .none, [], []⟩, ⟨(.some 243), (.call 17 [(.t 242)]), .none, [], []⟩, ⟨(.some 244), (.mv (.t 0)), .none, [], []⟩, ⟨(.some 245), (.len .false (.t 244)), .none, [], []⟩, ⟨(.some 246), (.bin .eql .o (.t 243) (.t 245)), .none, [], []⟩, ⟨(.some 247), (.mv (.t 246)), .none, [], []⟩, ⟨(.some 248), (.mv (.t 24)), (.some ((.some 247), .true)), [], []⟩, ⟨(.some 249), (.call 17 [(.t 248)]), (.some ((.some 247), .true)), [], []⟩, ⟨(.some 250), (.mv (.t 24)), (.some ((.some 247), .true)), [], []⟩, ⟨(.some 251), (.mv (.t 2)), (.some ((.some 247), .true)), [], []⟩, ⟨(.some 252), (.call 13 [(.t 250), (.t 251)]), (.some ((.some 247), .true)), [], []⟩, ⟨(.some 253), (.bin .add .o (.t 249) (.t 252)), (.some ((.some 247), .true)), [], []⟩, ⟨(.some 254), (.mv (.t 24)), (.some ((.some 247), .true)), [], []⟩, ⟨(.some 255), (.mv (.t 2)), (.some ((.some 247), .true)), [], []⟩, ⟨(.some 256), (.call 14 [(.t 254), (.t 255)]), (.some ((.some 247), .true)), [], []⟩, ⟨(.some 257), (.len .false (.t 256)), (.some ((.some 247), .true)), [], []⟩, ⟨(.some 258), (.bin .add .o (.t 253) (.t 257)), (.some ((.some 247), .true)), [], []⟩, ⟨(.some 259), (.bin .eql .o (.t 258) (.c (.int .i64 0))), (.some ((.some 247), .true)), [], []⟩, ⟨(.some 260), (.pick (.t 247) (.t 259) (.c (.bool .false))), .none, [], []⟩, ⟨(.some 261), (.mv (.t 260)), .none, [], []⟩, ⟨(.some 262), (.mv (.t 24)), (.some ((.some 261), .true)), [], []⟩, ⟨(.some 263), (.call 11 [(.t 262), (.c (.int .i64 0)), (.c (.int .i64 1))]), (.some ((.some 261), .true)), [], []⟩, ⟨(.some 264), (.bin .eql .o (.t 263) (.c (.int .i64 6))), (.some ((.some 261), .true)), [], []⟩, ⟨(.some 265), (.pick (.t 261) (.t 264) (.c (.bool .false))), .none, [], []⟩, ⟨(.some 266), (.mv (.t 265)), .none, [], []⟩, ⟨(.some 267), (.mv (.t 24)), (.some ((.some 266), .true)), [], []⟩, ⟨(.some 268), (.mv (.t 2)), (.some ((.some 266), .true)), [], []⟩, ⟨(.some 269), (.mv (.t 3)), (.some ((.some 266), .true)), [], []⟩, ⟨(.some 270), (.call 16 [(.t 267), (.t 268), (.t 269)]), (.some ((.some 266), .true)), [], []⟩, ⟨(.some 271), (.mv (.t 3)), (.some ((.some 266), .true)), [], []⟩, ⟨(.some 272), (.bin .eql .o (.t 270) (.t 271)), (.some ((.some 266), .true)), [], []⟩, ⟨(.some 273), (.pick (.t 266) (.t 272) (.c (.bool .false))), .none, [], []⟩, ⟨(.some 274), (.mv (.t 273)), .none, [], []⟩, ⟨(.some 275), (.mv (.t 26)), (.some ((.some 274), .true)), [], []⟩, ⟨(.some 276), (.un .not (.t 275)), (.some ((.some 274), .true)), [], []⟩, ⟨(.some 277), (.pick (.t 274) (.t 276) (.c (.bool .false))), .none, [], []⟩, ⟨(.some 8), (.mv (.t 277)), .none, [], []⟩] .false), .ret]
theorem F3_at : F3.at Try.prog 3 Try.f3 := ⟨Try.func3, by kernel_rfl, by kernel_rfl, by kernel_rfl, by kernel_rfl, by kernel_rfl⟩

-- "signalbox/signalboxlaw13.fixed" res .true
def F9 : AFn where
  np := 0
  nt := 74
  res := [(.t 0)]
  tab := [(.seq 2),
    (.region [⟨(.some 0), (.mv (.c (.bool .false))), .none, [], []⟩] .false), (.seq 2),
    (.region [⟨(.some 9), (.lit 3 1 2 [(.int .i64 0)] [(0, (.c (.int .i64 7))), (1, (.c (.int .i64 2)))]), .none, [], []⟩, ⟨(.some 10), (.call 10 [(.t 9)]), .none, [], []⟩, ⟨(.some 1), (.mv (.t 10)), .none, [], []⟩] .false), (.seq 2),
    (.region [⟨(.some 11), (.mv (.t 1)), .none, [], []⟩, ⟨(.some 12), (.call 11 [(.t 11), (.c (.int .i64 0)), (.c (.int .i64 5))]), .none, [], []⟩, ⟨(.some 13), (.mv (.t 1)), .none, [], []⟩, ⟨(.some 14), (.call 11 [(.t 13), (.c (.int .i64 0)), (.c (.int .i64 6))]), .none, [], []⟩, ⟨(.some 15), (.mv (.t 1)), .none, [], []⟩, ⟨(.some 16), (.call 12 [(.t 15), (.c (.int .i64 0)), (.c (.int .i64 6))]), .none, [], []⟩, ⟨(.some 2), (.mv (.t 12)), .none, [], []⟩, ⟨(.some 3), (.mv (.t 14)), .none, [], []⟩, ⟨(.some 4), (.mv (.t 16)), .none, [], []⟩] .false), (.seq 2),
    (.region [⟨(.some 18), (.mv (.t 1)), .none, [], []⟩, ⟨(.some 19), (.call 15 [(.t 18), (.c (.int .i64 0))]), .none, [], []⟩, ⟨(.some 17), (.mv (.t 19)), .none, [], []⟩, ⟨(.some 20), (.ext (.t 17) 0), .none, [], []⟩, ⟨(.some 21), (.ext (.t 17) 1), .none, [], []⟩, ⟨(.some 5), (.mv (.t 20)), .none, [], []⟩, ⟨(.some 6), (.mv (.t 21)), .none, [], []⟩] .false), (.seq 2),
    (.region [⟨(.some 23), (.mv (.t 1)), .none, [], []⟩, ⟨(.some 24), (.call 15 [(.t 23), (.c (.int .i64 1))]), .none, [], []⟩, ⟨(.some 22), (.mv (.t 24)), .none, [], []⟩, ⟨(.some 25), (.ext (.t 22) 0), .none, [], []⟩, ⟨(.some 26), (.ext (.t 22) 1), .none, [], []⟩, ⟨(.some 7), (.mv (.t 25)), .none, [], []⟩, ⟨(.some 8), (.mv (.t 26)), .none, [], []⟩] .false), (.seq 2),
    (.region [⟨(.some 27), (.mv (.t 2)), .none, [], []⟩, ⟨(.some 28), (.bin .eql .o (.t 27) (.c (.int .i64 0))), .none, [], []⟩, ⟨(.some 29), (.mv (.t 28)), .none, [], []⟩, ⟨(.some 30), (.mv (.t 3)), (.some ((.some 29), .true)), [], []⟩, ⟨(.some 31), (.bin .eql .o (.t 30) (.c (.int .i64 10))), (.some ((.some 29), .true)), [], []⟩, ⟨(.some 32), (.pick (.t 29) (.t 31) (.c (.bool .false))), .none, [], []⟩, ⟨(.some 33), (.mv (.t 32)), .none, [], []⟩, ⟨(.some 34), (.mv (.t 4)), (.some ((.some 33), .true)), [], []⟩, ⟨(.some 35), (.bin .eql .o (.t 34) (.c (.int .i64 8))), (.some ((.some 33), .true)), [], []⟩, ⟨(.some 36), (.pick (.t 33) (.t 35) (.c (.bool .false))), .none, [], []⟩, ⟨(.some 37), (.mv (.t 36)), .none, [], []⟩, ⟨(.some 38), (.mv (.t 1)), (.some ((.some 37), .true)), [], []⟩, ⟨(.some 39), (.call 16 [(.t 38), (.c (.int .i64 5)), (.c (.int .i64 3))]), (.some ((.some 37), .true)), [], []⟩, ⟨(.some 40), (.bin .eql .o (.t 39) (.c (.int .i64 7))), (.some ((.some 37), .true)), [], []⟩, ⟨(.some 41), (.pick (.t 37) (.t 40) (.c (.bool .false))), .none, [], []⟩, ⟨(.some 42), (.mv (.t 41)), .none, [], []⟩, ⟨(.some 43), (.mv (.t 1)), (.some ((.some 42), .true)), [], []⟩, ⟨(.some 44), (.call 16 [(.t 43), (.c (.int .i64 6)), (.c (.int .i64 3))]), (.some ((.some 42), .true)), [], []⟩, ⟨(.some 45), (.bin .eql .o (.t 44) (.c (.int .i64 3))), (.some ((.some 42), .true)), [], []⟩, ⟨(.some 46), (.pick (.t 42) (.t 45) (.c (.bool .false))), .none, [], []⟩, ⟨(.some 47), (.mv (.t 46)), .none, [], []⟩, ⟨(.some 48), (.mv (.t 5)), (.some ((.some 47), .true)), [], []⟩, ⟨(.some 49), (.bin .eql .o (.t 48) (.c (.int .i64 5))), (.some ((.some 47), .true)), [], []⟩, ⟨(.some 50), (.pick (.t 47) (.t 49) (.c (.bool .false))), .none, [], []⟩, ⟨(.some 51), (.mv (.t 50)), .none, [], []⟩, ⟨(.some 52), (.mv (.t 6)), (.some ((.some 51), .true)), [], []⟩, ⟨(.some 53), (.pick (.t 51) (.t 52) (.c (.bool .false))), .none, [], []⟩, ⟨(.some 54), (.mv (.t 53)), .none, [], []⟩, ⟨(.some 55), (.mv (.t 8)), (.some ((.some 54), .true)), [], []⟩, ⟨(.some 56), (.un .not (.t 55)), (.some ((.some 54), .true)), [], []⟩, ⟨(.some 57), (.pick (.t 54) (.t 56) (.c (.bool .false))), .none, [], []⟩, ⟨(.some 58), (.mv (.t 57)), .none, [], []⟩, ⟨(.some 59), (.mv (.t 1)), (.some ((.some 58), .true)), [], []⟩, ⟨(.some 60), (.call 13 [(.t 59), (.c (.int .i64 5))]), (.some ((.some 58), .true)), [], []⟩, ⟨(.some 61), (.bin .eql .o (.t 60) (.c (.int .i64 1))), (.some ((.some 58), .true)), [], []⟩, ⟨(.some 62), (.pick (.t 58) (.t 61) (.c (.bool .false))), .none, [], []⟩, ⟨(.some 63), (.mv (.t 62)), .none, [], []⟩, ⟨(.some 64), (.mv (.t 1)), (.some ((.some 63), .true)), [], []⟩, ⟨(.some 65), (.call 14 [(.t 64), (.c (.int .i64 5))]), (.some ((.some 63), .true)), [], []⟩, ⟨(.some 66), (.len .false (.t 65)), (.some ((.some 63), .true)), [], []⟩, ⟨(.some 67), (.bin .eql .o (.t 66) (.c (.int .i64 0))), (.some ((.some 63), .true)), [], []⟩, ⟨(.some 68), (.pick (.t 63) (.t 67) (.c (.bool .false))), .none, [], []⟩, ⟨(.some 69), (.mv (.t 68)), .none, [], []⟩, ⟨(.some 70), (.mv (.t 1)), (.some ((.some 69), .true)), [], []⟩, ⟨(.some 71), (.call 11 [(.t 70), (.c (.int .i64 2)), (.c (.int .i64 1))]), (.some ((.some 69), .true)), [], []⟩, ⟨(.some 72), (.bin .eql .o (.t 71) (.c (.int .i64 6))), (.some ((.some 69), .true)), [], []⟩, ⟨(.some 73), (.pick (.t 69) (.t 72) (.c (.bool .false))), .none, [], []⟩, ⟨(.some 0), (.mv (.t 73)), .none, [], []⟩] .false), .ret]
theorem F9_at : F9.at Try.prog 9 Try.f9 := ⟨Try.func9, by kernel_rfl, by kernel_rfl, by kernel_rfl, by kernel_rfl, by kernel_rfl⟩

-- "signalbox/ceiling.New" res .true
def F10 : AFn where
  np := 1
  nt := 27
  res := [(.t 2)]
  tab := [(.seq 2),
    (.region [⟨(.some 2), (.mv (.c .nilp)), .none, [], []⟩] .false), (.seq 2),
    (.region [⟨(.some 6), (.build [.nils] []), .none, [], []⟩, ⟨(.some 7), (.box 69 (.t 6)), .none, [], []⟩, ⟨(.some 3), (.mv (.t 7)), .none, [], []⟩] .false), (.seq 17), (.seq 2),
    (.region [⟨(.some 8), (.mv (.t 0)), .none, [], []⟩, ⟨(.some 9), (.len .false (.t 8)), .none, [], []⟩, ⟨(.some 10), (.mv (.c (.int .i64 0))), .none, [], []⟩] .false), (.block 0), .loop, (.seq 2),
    (.region [⟨(.some 11), (.bin .lss .o (.t 10) (.t 9)), .none, [], []⟩] .false), (.seq 4), (.cond (.t 11) 2), .skip, (.exit 0), (.seq 5), (.block 1), (.seq 2),
    (.region [⟨(.some 12), (.idx 3 1 (.t 8) (.t 10)), .none, [], []⟩, ⟨(.some 13), (.ld .none (.t 12)), .none, [], []⟩, ⟨(.some 5), (.mv (.t 13)), .none, [], []⟩] .false),
    (.region [⟨(.some 14), (.mv (.t 3)), .none, [], []⟩, ⟨(.some 15), (.mv (.t 3)), .none, [], []⟩, ⟨(.some 16), (.nilc (.t 15)), .none, [], []⟩, ⟨(.some 17), (.fad 0 (.t 16)), .none, [], []⟩, ⟨(.some 18), (.ld .none (.t 17)), .none, [], []⟩, ⟨(.some 19), (.mv (.t 5)), .none, [], []⟩, ⟨(.some 20), (.build [(.int .i64 0), (.int .i64 0), (.bool .false)] [(0, (1, (.t 19)))]), .none, [], []⟩, ⟨(.some 21), (.lit 71 3 1 [(.int .i64 0), (.int .i64 0), (.bool .false)] [(0, (.t 20))]), .none, [], []⟩, ⟨(.some 22), (.app 71 3 24 [(.int .i64 0), (.int .i64 0), (.bool .false)] (.t 18) (.t 21)), .none, [], []⟩, ⟨(.some 23), (.nilc (.t 14)), .none, [], []⟩, ⟨(.some 24), (.fad 0 (.t 23)), .none, [], []⟩, ⟨.none, (.st 1 (.t 24) (.t 22)), .none, [], []⟩] .false),
    (.region [⟨(.some 25), (.bin .add .o (.t 10) (.c (.int .i64 1))), .none, [], []⟩, ⟨(.some 10), (.mv (.t 25)), .none, [], []⟩] .false), (.seq 2),
    (.region [⟨(.some 26), (.mv (.t 3)), .none, [], []⟩, ⟨(.some 2), (.mv (.t 26)), .none, [], []⟩] .false), .ret]
theorem F10_at : F10.at Try.prog 10 Try.f10 := ⟨Try.func10, by kernel_rfl, by kernel_rfl, by kernel_rfl, by kernel_rfl, by kernel_rfl⟩

-- "(*signalbox/ceiling.Locks).Lock" res .true
def F11 : AFn where
  np := 3
  nt := 26
  res := [(.t 6)]
  tab := [(.seq 2),
    (.region [⟨(.some 6), (.mv (.c (.int .i64 0))), .none, [], []⟩] .false), (.seq 2),
    (.region [⟨(.some 8), (.mv (.t 0)), .none, [], []⟩, ⟨(.some 9), (.mv (.t 1)), .none, [], []⟩, ⟨(.some 10), (.call 36 [(.t 8), (.t 9)]), .none, [], []⟩, ⟨(.some 7), (.mv (.t 10)), .none, [], []⟩] .false), (.seq 15), (.block 0), (.seq 2),
    (.region [⟨(.some 12), (.mv (.t 7)), .none, [], []⟩, ⟨(.some 13), (.bin .eql .p (.t 12) (.c .nilp)), .none, [], []⟩, ⟨(.some 11), (.mv (.t 13)), .none, [], []⟩] .false), (.cond (.t 11) 4), (.seq 2),
    (.region [⟨(.some 6), (.mv (.c (.int .i64 6))), .none, [], []⟩] .false), .ret, (.seq 2),
    (.region [⟨(.some 15), (.mv (.t 7)), .none, [], []⟩, ⟨(.some 16), (.nilc (.t 15)), .none, [], []⟩, ⟨(.some 17), (.fad 2 (.t 16)), .none, [], []⟩, ⟨(.some 18), (.ld .none (.t 17)), .none, [], []⟩, ⟨(.some 14), (.mv (.t 18)), .none, [], []⟩] .false), (.cond (.t 14) 4), (.seq 2),
    (.region [⟨(.some 6), (.mv (.c (.int .i64 10))), .none, [], []⟩] .false), .ret, .skip, (.seq 2),
    (.region [⟨(.some 19), (.mv (.t 7)), .none, [], []⟩, ⟨(.some 20), (.mv (.t 7)), .none, [], []⟩, ⟨(.some 21), (.mv (.t 2)), .none, [], []⟩, ⟨(.some 22), (.nilc (.t 19)), .none, [], []⟩, ⟨(.some 23), (.fad 1 (.t 22)), .none, [], []⟩, ⟨.none, (.st 1 (.t 23) (.t 21)), .none, [], []⟩, ⟨(.some 24), (.nilc (.t 20)), .none, [], []⟩, ⟨(.some 25), (.fad 2 (.t 24)), .none, [], []⟩, ⟨.none, (.st 1 (.t 25) (.c (.bool .true))), .none, [], []⟩] .false), (.seq 2),
    (.region [⟨(.some 6), (.mv (.c (.int .i64 0))), .none, [], []⟩] .false), .ret]
theorem F11_at : F11.at Try.prog 11 Try.f11 := ⟨Try.func11, by kernel_rfl, by kernel_rfl, by kernel_rfl, by kernel_rfl, by kernel_rfl⟩

-- "(*signalbox/ceiling.Locks).Unlock" res .true
def F12 : AFn where
  np := 3
  nt := 34
  res := [(.t 6)]
  tab := [(.seq 2),
    (.region [⟨(.some 6), (.mv (.c (.int .i64 0))), .none, [], []⟩] .false), (.seq 2),
    (.region [⟨(.some 8), (.mv (.t 0)), .none, [], []⟩, ⟨(.some 9), (.mv (.t 1)), .none, [], []⟩, ⟨(.some 10), (.call 36 [(.t 8), (.t 9)]), .none, [], []⟩, ⟨(.some 7), (.mv (.t 10)), .none, [], []⟩] .false), (.seq 15), (.block 0), (.seq 2),
    (.region [⟨(.some 12), (.mv (.t 7)), .none, [], []⟩, ⟨(.some 13), (.bin .eql .p (.t 12) (.c .nilp)), .none, [], []⟩, ⟨(.some 11), (.mv (.t 13)), .none, [], []⟩] .false), (.cond (.t 11) 4), (.seq 2),
    (.region [⟨(.some 6), (.mv (.c (.int .i64 6))), .none, [], []⟩] .false), .ret, (.seq 2),
    (.region [⟨(.some 15), (.mv (.t 7)), .none, [], []⟩, ⟨(.some 16), (.nilc (.t 15)), .none, [], []⟩, ⟨(.some 17), (.fad 2 (.t 16)), .none, [], []⟩, ⟨(.some 18), (.ld .none (.t 17)), .none, [], []⟩, ⟨(.some 19), (.un .not (.t 18)), .none, [], []⟩, ⟨(.some 20), (.mv (.t 19)), .none, [], []⟩, ⟨(.some 21), (.mv (.t 7)), (.some ((.some 20), .false)), [], []⟩, ⟨(.some 22), (.nilc (.t 21)), (.some ((.some 20), .false)), [], []⟩, ⟨(.some 23), (.fad 1 (.t 22)), (.some ((.some 20), .false)), [], []⟩, ⟨(.some 24), (.ld .none (.t 23)), (.some ((.some 20), .false)), [], []⟩, ⟨(.some 25), (.mv (.t 2)), (.some ((.some 20), .false)), [], []⟩, ⟨(.some 26), (.bin .neq .o (.t 24) (.t 25)), (.some ((.some 20), .false)), [], []⟩, ⟨(.some 27), (.pick (.t 20) (.c (.bool .true)) (.t 26)), .none, [], []⟩, ⟨(.some 14), (.mv (.t 27)), .none, [], []⟩] .false), (.cond (.t 14) 4), (.seq 2),
    (.region [⟨(.some 6), (.mv (.c (.int .i64 8))), .none, [], []⟩] .false), .ret, .skip, (.seq 2),
    (.region [⟨(.some 28), (.mv (.t 7)), .none, [], []⟩, ⟨(.some 29), (.mv (.t 7)), .none, [], []⟩, ⟨(.some 30), (.nilc (.t 28)), .none, [], []⟩, ⟨(.some 31), (.fad 1 (.t 30)), .none, [], []⟩, ⟨.none, (.st 1 (.t 31) (.c (.int .i64 0))), .none, [], []⟩, ⟨(.some 32), (.nilc (.t 29)), .none, [], []⟩, ⟨(.some 33), (.fad 2 (.t 32)), .none, [], []⟩, ⟨.none, (.st 1 (.t 33) (.c (.bool .false))), .none, [], []⟩] .false), (.seq 2),
    (.region [⟨(.some 6), (.mv (.c (.int .i64 0))), .none, [], []⟩] .false), .ret]
theorem F12_at : F12.at Try.prog 12 Try.f12 := ⟨Try.func12, by kernel_rfl, by kernel_rfl, by kernel_rfl, by kernel_rfl, by kernel_rfl⟩

-- "(*signalbox/ceiling.Locks).Free" res .true
def F13 : AFn where
  np := 2
  nt := 24
  res := [(.t 4)]
  tab := [(.seq 2),
    (.region [⟨(.some 4), (.mv (.c (.int .i64 0))), .none, [], []⟩] .false), (.seq 2),
    (.region [⟨(.some 8), (.mv (.t 0)), .none, [], []⟩, ⟨(.some 9), (.mv (.t 1)), .none, [], []⟩, ⟨(.some 10), (.call 14 [(.t 8), (.t 9)]), .none, [], []⟩, ⟨(.some 5), (.mv (.t 10)), .none, [], []⟩] .false), (.seq 17), (.seq 2),
    (.region [⟨(.some 11), (.mv (.t 5)), .none, [], []⟩, ⟨(.some 12), (.len .false (.t 11)), .none, [], []⟩, ⟨(.some 13), (.mv (.c (.int .i64 0))), .none, [], []⟩] .false), (.block 0), .loop, (.seq 2),
    (.region [⟨(.some 14), (.bin .lss .o (.t 13) (.t 12)), .none, [], []⟩] .false), (.seq 4), (.cond (.t 14) 2), .skip, (.exit 0), (.seq 5), (.block 1), (.seq 2),
    (.region [⟨(.some 15), (.idx 3 1 (.t 11) (.t 13)), .none, [], []⟩, ⟨(.some 16), (.ld .none (.t 15)), .none, [], []⟩, ⟨(.some 7), (.mv (.t 16)), .none, [], []⟩] .false),
    (.region [⟨(.some 17), (.mv (.t 0)), .none, [], []⟩, ⟨(.some 18), (.mv (.t 7)), .none, [], []⟩, ⟨(.some 19), (.mv (.t 1)), .none, [], []⟩, ⟨(.some 20), (.call 12 [(.t 17), (.t 18), (.t 19)]), .none, [], []⟩] .false),
    (.region [⟨(.some 21), (.bin .add .o (.t 13) (.c (.int .i64 1))), .none, [], []⟩, ⟨(.some 13), (.mv (.t 21)), .none, [], []⟩] .false), (.seq 2),
    (.region [⟨(.some 22), (.mv (.t 5)), .none, [], []⟩, ⟨(.some 23), (.len .false (.t 22)), .none, [], []⟩, ⟨(.some 4), (.mv (.t 23)), .none, [], []⟩] .false), .ret]
theorem F13_at : F13.at Try.prog 13 Try.f13 := ⟨Try.func13, by kernel_rfl, by kernel_rfl, by kernel_rfl, by kernel_rfl, by kernel_rfl⟩

-- "(*signalbox/ceiling.Locks).Held" res .true
def F14 : AFn where
  np := 2
  nt := 34
  res := [(.t 4)]
  tab := [(.seq 2),
    (.region [⟨(.some 4), (.mv (.c .nils)), .none, [], []⟩] .false), (.seq 2),
    (.region [⟨(.some 5), (.mv (.c .nils)), .none, [], []⟩] .false), (.seq 23), (.seq 2),
    (.region [⟨(.some 8), (.mv (.t 0)), .none, [], []⟩, ⟨(.some 9), (.call 17 [(.t 8)]), .none, [], []⟩, ⟨(.some 10), (.mv (.c (.int .i64 0))), .none, [], []⟩] .false), (.block 0), .loop, (.seq 2),
    (.region [⟨(.some 11), (.bin .lss .o (.t 10) (.t 9)), .none, [], []⟩] .false), (.seq 4), (.cond (.t 11) 2), .skip, (.exit 0), (.seq 11), (.block 1), (.seq 2),
    (.region [⟨(.some 12), (.mv (.t 10)), .none, [], []⟩, ⟨(.some 6), (.mv (.t 12)), .none, [], []⟩] .false), (.seq 2),
    (.region [⟨(.some 13), (.mv (.t 0)), .none, [], []⟩, ⟨(.some 14), (.mv (.t 6)), .none, [], []⟩, ⟨(.some 15), (.call 36 [(.t 13), (.t 14)]), .none, [], []⟩, ⟨(.some 7), (.mv (.t 15)), .none, [], []⟩] .false), (.seq 2),
    (.region [⟨(.some 16), (.mv (.t 7)), .none, [], []⟩, ⟨(.some 17), (.nilc (.t 16)), .none, [], []⟩, ⟨(.some 18), (.fad 2 (.t 17)), .none, [], []⟩, ⟨(.some 19), (.ld .none (.t 18)), .none, [], []⟩, ⟨(.some 20), (.mv (.t 19)), .none, [], []⟩, ⟨(.some 21), (.mv (.t 7)), (.some ((.some 20), .true)), [], []⟩, ⟨(.some 22), (.nilc (.t 21)), (.some ((.some 20), .true)), [], []⟩, ⟨(.some 23), (.fad 1 (.t 22)), (.some ((.some 20), .true)), [], []⟩, ⟨(.some 24), (.ld .none (.t 23)), (.some ((.some 20), .true)), [], []⟩, ⟨(.some 25), (.mv (.t 1)), (.some ((.some 20), .true)), [], []⟩, ⟨(.some 26), (.bin .eql .o (.t 24) (.t 25)), (.some ((.some 20), .true)), [], []⟩, ⟨(.some 27), (.pick (.t 20) (.t 26) (.c (.bool .false))), .none, [], []⟩] .false), (.cond (.t 27) 2),
    (.region [⟨(.some 28), (.mv (.t 5)), .none, [], []⟩, ⟨(.some 29), (.mv (.t 6)), .none, [], []⟩, ⟨(.some 30), (.lit 3 1 1 [(.int .i64 0)] [(0, (.t 29))]), .none, [], []⟩, ⟨(.some 31), (.app 3 1 8 [(.int .i64 0)] (.t 28) (.t 30)), .none, [], []⟩, ⟨(.some 5), (.mv (.t 31)), .none, [], []⟩] .false), .skip,
    (.region [⟨(.some 32), (.bin .add .o (.t 10) (.c (.int .i64 1))), .none, [], []⟩, ⟨(.some 10), (.mv (.t 32)), .none, [], []⟩] .false), (.seq 2),
    (.region [⟨(.some 33), (.mv (.t 5)), .none, [], []⟩, ⟨(.some 4), (.mv (.t 33)), .none, [], []⟩] .false), .ret]
theorem F14_at : F14.at Try.prog 14 Try.f14 := ⟨Try.func14, by kernel_rfl, by kernel_rfl, by kernel_rfl, by kernel_rfl, by kernel_rfl⟩

-- "(*signalbox/ceiling.Locks).Holder" res .true
def F15 : AFn where
  np := 2
  nt := 20
  res := [(.t 4), (.t 5)]
  tab := [(.seq 2),
    (.region [⟨(.some 4), (.mv (.c (.int .i64 0))), .none, [], []⟩, ⟨(.some 5), (.mv (.c (.bool .false))), .none, [], []⟩] .false), (.seq 10), (.seq 2),
    (.region [⟨(.some 7), (.mv (.t 0)), .none, [], []⟩, ⟨(.some 8), (.mv (.t 1)), .none, [], []⟩, ⟨(.some 9), (.call 36 [(.t 7), (.t 8)]), .none, [], []⟩, ⟨(.some 6), (.mv (.t 9)), .none, [], []⟩] .false), (.seq 2),
    (.region [⟨(.some 10), (.mv (.t 6)), .none, [], []⟩, ⟨(.some 11), (.bin .neq .p (.t 10) (.c .nilp)), .none, [], []⟩] .false), (.cond (.t 11) 4), (.seq 2),
    (.region [⟨(.some 12), (.mv (.t 6)), .none, [], [6]⟩, ⟨(.some 13), (.nilc (.t 12)), .none, [0], [12]⟩, ⟨(.some 14), (.fad 1 (.t 13)), .none, [1], [13]⟩, ⟨(.some 15), (.ld .none (.t 14)), .none, [2], [14]⟩, ⟨(.some 16), (.mv (.t 6)), .none, [], [6]⟩, ⟨(.some 17), (.nilc (.t 16)), .none, [4], [16]⟩, ⟨(.some 18), (.fad 2 (.t 17)), .none, [5], [17]⟩, ⟨(.some 19), (.ld .none (.t 18)), .none, [6], [18]⟩, ⟨(.some 4), (.mv (.t 15)), .none, [3, 0, 1, 2, 3], [15]⟩, ⟨(.some 5), (.mv (.t 19)), .none, [7, 8, 0, 1, 2, 3, 4, 5, 6, 7, 8], [19]⟩] .true), .ret, .skip, (.seq 2),
    (.region [⟨(.some 4), (.mv (.c (.int .i64 0))), .none, [], []⟩, ⟨(.some 5), (.mv (.c (.bool .false))), .none, [], []⟩] .false), .ret]
theorem F15_at : F15.at Try.prog 15 Try.f15 := ⟨Try.func15, by kernel_rfl, by kernel_rfl, by kernel_rfl, by kernel_rfl, by kernel_rfl⟩

-- "(*signalbox/ceiling.Locks).Level" res .true
def F16 : AFn where
  np := 3
  nt := 27
  res := [(.t 6)]
  tab := [(.seq 2),
    (.region [⟨(.some 6), (.mv (.c (.int .i64 0))), .none, [], []⟩] .false), (.seq 17), (.seq 2),
    (.region [⟨(.some 9), (.mv (.t 0)), .none, [], []⟩, ⟨(.some 10), (.mv (.t 1)), .none, [], []⟩, ⟨(.some 11), (.call 14 [(.t 9), (.t 10)]), .none, [], []⟩, ⟨(.some 12), (.len .false (.t 11)), .none, [], []⟩, ⟨(.some 13), (.mv (.c (.int .i64 0))), .none, [], []⟩] .false), (.block 0), .loop, (.seq 2),
    (.region [⟨(.some 14), (.bin .lss .o (.t 13) (.t 12)), .none, [], []⟩] .false), (.seq 4), (.cond (.t 14) 2), .skip, (.exit 0), (.seq 5), (.block 1), (.seq 2),
    (.region [⟨(.some 15), (.idx 3 1 (.t 11) (.t 13)), .none, [], []⟩, ⟨(.some 16), (.ld .none (.t 15)), .none, [], []⟩, ⟨(.some 8), (.mv (.t 16)), .none, [], []⟩] .false),
    (.region [⟨(.some 17), (.mv (.t 2)), .none, [], []⟩, ⟨(.some 18), (.mv (.t 0)), .none, [], []⟩, ⟨(.some 19), (.mv (.t 8)), .none, [], []⟩, ⟨(.some 20), (.call 36 [(.t 18), (.t 19)]), .none, [], []⟩, ⟨(.some 21), (.nilc (.t 20)), .none, [], []⟩, ⟨(.some 22), (.fad 0 (.t 21)), .none, [], []⟩, ⟨(.some 23), (.ld .none (.t 22)), .none, [], []⟩, ⟨(.some 24), (.mnmx .true (.t 17) (.t 23)), .none, [], []⟩, ⟨(.some 2), (.mv (.t 24)), .none, [], []⟩] .false),
    (.region [⟨(.some 25), (.bin .add .o (.t 13) (.c (.int .i64 1))), .none, [], []⟩, ⟨(.some 13), (.mv (.t 25)), .none, [], []⟩] .false), (.seq 2),
    (.region [⟨(.some 26), (.mv (.t 2)), .none, [], []⟩, ⟨(.some 6), (.mv (.t 26)), .none, [], []⟩] .false), .ret]
theorem F16_at : F16.at Try.prog 16 Try.f16 := ⟨Try.func16, by kernel_rfl, by kernel_rfl, by kernel_rfl, by kernel_rfl, by kernel_rfl⟩

-- "(*signalbox/ceiling.Locks).Len" res .true
def F17 : AFn where
  np := 1
  nt := 10
  res := [(.t 2)]
  tab := [(.seq 2),
    (.region [⟨(.some 2), (.mv (.c (.int .i64 0))), .none, [], []⟩] .false), (.seq 8), (.seq 2),
    (.region [⟨(.some 3), (.mv (.t 0)), .none, [], []⟩, ⟨(.some 4), (.bin .eql .p (.t 3) (.c .nilp)), .none, [], []⟩] .false), (.cond (.t 4) 4), (.seq 2),
    (.region [⟨(.some 2), (.mv (.c (.int .i64 0))), .none, [], []⟩] .false), .ret, .skip, (.seq 2),
    (.region [⟨(.some 5), (.mv (.t 0)), .none, [], []⟩, ⟨(.some 6), (.nilc (.t 5)), .none, [], []⟩, ⟨(.some 7), (.fad 0 (.t 6)), .none, [], []⟩, ⟨(.some 8), (.ld .none (.t 7)), .none, [], []⟩, ⟨(.some 9), (.len .false (.t 8)), .none, [], []⟩, ⟨(.some 2), (.mv (.t 9)), .none, [], []⟩] .false), .ret]
theorem F17_at : F17.at Try.prog 17 Try.f17 := ⟨Try.func17, by kernel_rfl, by kernel_rfl, by kernel_rfl, by kernel_rfl, by kernel_rfl⟩

-- "(*signalbox/ceiling.Locks).at" res .true
def F36 : AFn where
  np := 2
  nt := 19
  res := [(.t 4)]
  tab := [(.seq 2),
    (.region [⟨(.some 4), (.mv (.c .nilp)), .none, [], []⟩] .false), (.seq 8), (.seq 2),
    (.region [⟨(.some 5), (.mv (.t 1)), .none, [], []⟩, ⟨(.some 6), (.bin .lss .o (.t 5) (.c (.int .i64 0))), .none, [], []⟩, ⟨(.some 7), (.mv (.t 6)), .none, [], []⟩, ⟨(.some 8), (.mv (.t 1)), (.some ((.some 7), .false)), [], []⟩, ⟨(.some 9), (.mv (.t 0)), (.some ((.some 7), .false)), [], []⟩, ⟨(.some 10), (.call 17 [(.t 9)]), (.some ((.some 7), .false)), [], []⟩, ⟨(.some 11), (.bin .geq .o (.t 8) (.t 10)), (.some ((.some 7), .false)), [], []⟩, ⟨(.some 12), (.pick (.t 7) (.c (.bool .true)) (.t 11)), .none, [], []⟩] .false), (.cond (.t 12) 4), (.seq 2),
    (.region [⟨(.some 4), (.mv (.c .nilp)), .none, [], []⟩] .false), .ret, .skip, (.seq 2),
    (.region [⟨(.some 13), (.mv (.t 0)), .none, [], []⟩, ⟨(.some 14), (.nilc (.t 13)), .none, [], []⟩, ⟨(.some 15), (.fad 0 (.t 14)), .none, [], []⟩, ⟨(.some 16), (.ld .none (.t 15)), .none, [], []⟩, ⟨(.some 17), (.mv (.t 1)), .none, [], []⟩, ⟨(.some 18), (.idx 71 3 (.t 16) (.t 17)), .none, [], []⟩, ⟨(.some 4), (.mv (.t 18)), .none, [], []⟩] .false), .ret]
theorem F36_at : F36.at Try.prog 36 Try.f36 := ⟨Try.func36, by kernel_rfl, by kernel_rfl, by kernel_rfl, by kernel_rfl, by kernel_rfl⟩

end Go.Ab
