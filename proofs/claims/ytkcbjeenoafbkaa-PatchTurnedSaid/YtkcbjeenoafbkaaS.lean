/- The slim functions of this seat, and the table of them. -/
import Derived.Test.YtkcbjeenoafbkaaDen2
set_option linter.unusedVariables false
namespace Go.Proofs.Ytkcbjeenoafbkaa
open Go.Den
/-- pochoir/pochoirlaw42.PatchDiffs -/
def s6 : SFn :=
 ⟨95, [.tmp 4],
  (.seq (.reg [⟨(some 4), .mv (.v (.bool false)), none, none, []⟩])
  (.seq (.seq (.reg [⟨(some 15), .call 25 [], none, none, []⟩, ⟨(some 16), .un .not (.t 15), none, none, []⟩])
  (.cond (.t 16) (.seq (.reg [⟨(some 4), .mv (.v (.bool false)), none, none, []⟩])
  .ret) .skip))
  (.seq (.seq (.reg [⟨(some 17), .mv (.t 0), none, none, []⟩, ⟨(some 18), .len true (.t 17), none, none, []⟩, ⟨(some 19), .bin .gtr (.t 18) (.v (.int .i64 300)), none, none, []⟩, ⟨(some 20), .mv (.t 19), none, none, []⟩, ⟨(some 21), .mv (.t 1), (some (20, false)), none, []⟩, ⟨(some 22), .len true (.t 21), (some (20, false)), none, []⟩, ⟨(some 23), .bin .gtr (.t 22) (.v (.int .i64 300)), (some (20, false)), none, []⟩, ⟨(some 24), .pick (.t 20) (.v (.bool true)) (.t 23), none, none, []⟩])
  (.cond (.t 24) (.seq (.reg [⟨(some 4), .mv (.v (.bool true)), none, none, []⟩])
  .ret) .skip))
  (.seq (.reg [⟨(some 26), .mv (.t 0), none, none, []⟩, ⟨(some 27), .mv (.t 1), none, none, []⟩, ⟨(some 28), .call 26 [(.t 26), (.t 27)], none, none, []⟩, ⟨(some 25), .mv (.t 28), none, none, []⟩, ⟨(some 29), .extract (.t 25) 0, none, none, []⟩, ⟨(some 30), .extract (.t 25) 1, none, none, []⟩, ⟨(some 5), .mv (.t 29), none, none, []⟩, ⟨(some 6), .mv (.t 30), none, none, []⟩])
  (.seq (.reg [⟨(some 32), .mv (.t 0), none, none, []⟩, ⟨(some 33), .mv (.t 5), none, none, []⟩, ⟨(some 34), .call 27 [(.t 32), (.t 33)], none, none, []⟩, ⟨(some 31), .mv (.t 34), none, none, []⟩, ⟨(some 35), .extract (.t 31) 0, none, none, []⟩, ⟨(some 36), .extract (.t 31) 1, none, none, []⟩, ⟨(some 7), .mv (.t 35), none, none, []⟩, ⟨(some 8), .mv (.t 36), none, none, []⟩])
  (.seq (.reg [⟨(some 38), .mv (.t 0), none, none, []⟩, ⟨(some 39), .mv (.t 5), none, none, []⟩, ⟨(some 40), .call 28 [(.t 38), (.t 39)], none, none, []⟩, ⟨(some 37), .mv (.t 40), none, none, []⟩, ⟨(some 41), .extract (.t 37) 0, none, none, []⟩, ⟨(some 42), .extract (.t 37) 1, none, none, []⟩, ⟨(some 9), .mv (.t 41), none, none, []⟩, ⟨(some 10), .mv (.t 42), none, none, []⟩])
  (.seq (.reg [⟨(some 44), .mv (.t 5), none, none, []⟩, ⟨(some 45), .call 29 [(.t 44)], none, none, []⟩, ⟨(some 43), .mv (.t 45), none, none, []⟩, ⟨(some 46), .extract (.t 43) 0, none, none, []⟩, ⟨(some 47), .extract (.t 43) 1, none, none, []⟩, ⟨(some 11), .mv (.t 46), none, none, []⟩, ⟨(some 12), .mv (.t 47), none, none, []⟩])
  (.seq (.reg [⟨(some 49), .mv (.t 5), none, none, []⟩, ⟨(some 50), .call 30 [(.t 49)], none, none, []⟩, ⟨(some 48), .mv (.t 50), none, none, []⟩, ⟨(some 51), .extract (.t 48) 0, none, none, []⟩, ⟨(some 52), .extract (.t 48) 1, none, none, []⟩, ⟨(some 13), .mv (.t 51), none, none, []⟩, ⟨(some 14), .mv (.t 52), none, none, []⟩])
  (.seq (.reg [⟨(some 53), .mv (.t 6), none, none, []⟩, ⟨(some 54), .bin .eql (.t 53) (.v (.int .i64 0)), none, none, []⟩, ⟨(some 55), .mv (.t 54), none, none, []⟩, ⟨(some 56), .mv (.t 8), (some (55, true)), none, []⟩, ⟨(some 57), .bin .eql (.t 56) (.v (.int .i64 0)), (some (55, true)), none, []⟩, ⟨(some 58), .pick (.t 55) (.t 57) (.v (.bool false)), none, none, []⟩, ⟨(some 59), .mv (.t 58), none, none, []⟩, ⟨(some 60), .mv (.t 7), (some (59, true)), none, []⟩, ⟨(some 61), .mv (.t 1), (some (59, true)), none, []⟩, ⟨(some 62), .bin .eql (.t 60) (.t 61), (some (59, true)), none, []⟩, ⟨(some 63), .pick (.t 59) (.t 62) (.v (.bool false)), none, none, []⟩, ⟨(some 64), .mv (.t 63), none, none, []⟩, ⟨(some 65), .mv (.t 10), (some (64, true)), none, []⟩, ⟨(some 66), .bin .eql (.t 65) (.v (.int .i64 0)), (some (64, true)), none, []⟩, ⟨(some 67), .pick (.t 64) (.t 66) (.v (.bool false)), none, none, []⟩, ⟨(some 68), .mv (.t 67), none, none, []⟩, ⟨(some 69), .mv (.t 9), (some (68, true)), none, []⟩, ⟨(some 70), .mv (.t 1), (some (68, true)), none, []⟩, ⟨(some 71), .bin .eql (.t 69) (.t 70), (some (68, true)), none, []⟩, ⟨(some 72), .pick (.t 68) (.t 71) (.v (.bool false)), none, none, []⟩, ⟨(some 73), .mv (.t 72), none, none, []⟩, ⟨(some 74), .mv (.t 5), (some (73, true)), none, []⟩, ⟨(some 75), .len true (.t 74), (some (73, true)), none, []⟩, ⟨(some 76), .mv (.t 0), (some (73, true)), none, []⟩, ⟨(some 77), .mv (.t 1), (some (73, true)), none, []⟩, ⟨(some 78), .call 31 [(.t 76), (.t 77)], (some (73, true)), none, []⟩, ⟨(some 79), .bin .add (.v (.int .i64 39)) (.t 78), (some (73, true)), none, []⟩, ⟨(some 80), .bin .leq (.t 75) (.t 79), (some (73, true)), none, []⟩, ⟨(some 81), .pick (.t 73) (.t 80) (.v (.bool false)), none, none, []⟩, ⟨(some 82), .mv (.t 81), none, none, []⟩, ⟨(some 83), .mv (.t 11), (some (82, true)), none, []⟩, ⟨(some 84), .mv (.t 13), (some (82, true)), none, []⟩, ⟨(some 85), .bin .eql (.t 83) (.t 84), (some (82, true)), none, []⟩, ⟨(some 86), .pick (.t 82) (.t 85) (.v (.bool false)), none, none, []⟩, ⟨(some 87), .mv (.t 86), none, none, []⟩, ⟨(some 88), .mv (.t 12), (some (87, true)), none, []⟩, ⟨(some 89), .bin .eql (.t 88) (.v (.int .i64 0)), (some (87, true)), none, []⟩, ⟨(some 90), .pick (.t 87) (.t 89) (.v (.bool false)), none, none, []⟩, ⟨(some 91), .mv (.t 90), none, none, []⟩, ⟨(some 92), .mv (.t 14), (some (91, true)), none, []⟩, ⟨(some 93), .bin .eql (.t 92) (.v (.int .i64 0)), (some (91, true)), none, []⟩, ⟨(some 94), .pick (.t 91) (.t 93) (.v (.bool false)), none, none, []⟩, ⟨(some 4), .mv (.t 94), none, none, []⟩])
  .ret)))))))))⟩
/-- pochoir/pochoirlaw42.PatchApplies -/
def s7 : SFn :=
 ⟨109, [.tmp 6],
  (.seq (.reg [⟨(some 6), .mv (.v (.bool false)), none, none, []⟩])
  (.seq (.seq (.reg [⟨(some 22), .call 25 [], none, none, []⟩, ⟨(some 23), .un .not (.t 22), none, none, []⟩])
  (.cond (.t 23) (.seq (.reg [⟨(some 6), .mv (.v (.bool false)), none, none, []⟩])
  .ret) .skip))
  (.seq (.seq (.reg [⟨(some 24), .mv (.t 0), none, none, []⟩, ⟨(some 25), .len true (.t 24), none, none, []⟩, ⟨(some 26), .bin .gtr (.t 25) (.v (.int .i64 300)), none, none, []⟩, ⟨(some 27), .mv (.t 26), none, none, []⟩, ⟨(some 28), .mv (.t 1), (some (27, false)), none, []⟩, ⟨(some 29), .len true (.t 28), (some (27, false)), none, []⟩, ⟨(some 30), .bin .gtr (.t 29) (.v (.int .i64 300)), (some (27, false)), none, []⟩, ⟨(some 31), .pick (.t 27) (.v (.bool true)) (.t 30), none, none, []⟩])
  (.cond (.t 31) (.seq (.reg [⟨(some 6), .mv (.v (.bool true)), none, none, []⟩])
  .ret) .skip))
  (.seq (.reg [⟨(some 33), .mv (.t 0), none, none, []⟩, ⟨(some 34), .mv (.t 1), none, none, []⟩, ⟨(some 35), .call 27 [(.t 33), (.t 34)], none, none, []⟩, ⟨(some 32), .mv (.t 35), none, none, []⟩, ⟨(some 36), .extract (.t 32) 0, none, none, []⟩, ⟨(some 37), .extract (.t 32) 1, none, none, []⟩, ⟨(some 7), .mv (.t 36), none, none, []⟩, ⟨(some 8), .mv (.t 37), none, none, []⟩])
  (.seq (.reg [⟨(some 39), .mv (.t 0), none, none, []⟩, ⟨(some 40), .mv (.t 1), none, none, []⟩, ⟨(some 41), .call 28 [(.t 39), (.t 40)], none, none, []⟩, ⟨(some 38), .mv (.t 41), none, none, []⟩, ⟨(some 42), .extract (.t 38) 0, none, none, []⟩, ⟨(some 43), .extract (.t 38) 1, none, none, []⟩, ⟨(some 9), .mv (.t 42), none, none, []⟩, ⟨(some 10), .mv (.t 43), none, none, []⟩])
  (.seq (.reg [⟨(some 45), .mv (.t 1), none, none, []⟩, ⟨(some 46), .call 29 [(.t 45)], none, none, []⟩, ⟨(some 44), .mv (.t 46), none, none, []⟩, ⟨(some 47), .extract (.t 44) 0, none, none, []⟩, ⟨(some 48), .extract (.t 44) 1, none, none, []⟩, ⟨(some 11), .mv (.t 47), none, none, []⟩, ⟨(some 12), .mv (.t 48), none, none, []⟩])
  (.seq (.reg [⟨(some 50), .mv (.t 1), none, none, []⟩, ⟨(some 51), .call 30 [(.t 50)], none, none, []⟩, ⟨(some 49), .mv (.t 51), none, none, []⟩, ⟨(some 52), .extract (.t 49) 0, none, none, []⟩, ⟨(some 53), .extract (.t 49) 1, none, none, []⟩, ⟨(some 13), .mv (.t 52), none, none, []⟩, ⟨(some 14), .mv (.t 53), none, none, []⟩])
  (.seq (.seq (.reg [⟨(some 54), .mv (.t 7), none, none, []⟩, ⟨(some 55), .mv (.t 9), none, none, []⟩, ⟨(some 56), .bin .neq (.t 54) (.t 55), none, none, []⟩, ⟨(some 57), .mv (.t 56), none, none, []⟩, ⟨(some 58), .mv (.t 8), (some (57, false)), none, []⟩, ⟨(some 59), .mv (.t 10), (some (57, false)), none, []⟩, ⟨(some 60), .bin .neq (.t 58) (.t 59), (some (57, false)), none, []⟩, ⟨(some 61), .pick (.t 57) (.v (.bool true)) (.t 60), none, none, []⟩, ⟨(some 62), .mv (.t 61), none, none, []⟩, ⟨(some 63), .mv (.t 11), (some (62, false)), none, []⟩, ⟨(some 64), .mv (.t 13), (some (62, false)), none, []⟩, ⟨(some 65), .bin .neq (.t 63) (.t 64), (some (62, false)), none, []⟩, ⟨(some 66), .pick (.t 62) (.v (.bool true)) (.t 65), none, none, []⟩, ⟨(some 67), .mv (.t 66), none, none, []⟩, ⟨(some 68), .mv (.t 12), (some (67, false)), none, []⟩, ⟨(some 69), .mv (.t 14), (some (67, false)), none, []⟩, ⟨(some 70), .bin .neq (.t 68) (.t 69), (some (67, false)), none, []⟩, ⟨(some 71), .pick (.t 67) (.v (.bool true)) (.t 70), none, none, []⟩])
  (.cond (.t 71) (.seq (.reg [⟨(some 6), .mv (.v (.bool false)), none, none, []⟩])
  .ret) .skip))
  (.seq (.seq (.reg [⟨(some 72), .mv (.t 2), none, none, []⟩, ⟨(some 73), .un .not (.t 72), none, none, []⟩])
  (.cond (.t 73) (.seq (.reg [⟨(some 6), .mv (.v (.bool true)), none, none, []⟩])
  .ret) .skip))
  (.seq (.reg [⟨(some 74), .mv (.t 0), none, none, []⟩, ⟨(some 75), .mv (.t 0), none, none, []⟩, ⟨(some 76), .len true (.t 75), none, none, []⟩, ⟨(some 77), .bin .sub (.v (.int .i64 65537)) (.t 76), none, none, []⟩, ⟨(some 78), .mksl 5 [(.int .u8 0)] (.t 77) (.t 77), none, none, []⟩, ⟨(some 79), .b2s (.t 78), none, none, []⟩, ⟨(some 80), .bin .add (.t 74) (.t 79), none, none, []⟩, ⟨(some 15), .mv (.t 80), none, none, []⟩])
  (.seq (.reg [⟨(some 82), .mv (.t 15), none, none, []⟩, ⟨(some 83), .mv (.t 1), none, none, []⟩, ⟨(some 84), .call 27 [(.t 82), (.t 83)], none, none, []⟩, ⟨(some 81), .mv (.t 84), none, none, []⟩, ⟨(some 85), .extract (.t 81) 0, none, none, []⟩, ⟨(some 86), .extract (.t 81) 1, none, none, []⟩, ⟨(some 16), .mv (.t 85), none, none, []⟩, ⟨(some 17), .mv (.t 86), none, none, []⟩])
  (.seq (.reg [⟨(some 88), .mv (.t 15), none, none, []⟩, ⟨(some 89), .mv (.t 0), none, none, []⟩, ⟨(some 90), .call 26 [(.t 88), (.t 89)], none, none, []⟩, ⟨(some 87), .mv (.t 90), none, none, []⟩, ⟨(some 91), .extract (.t 87) 0, none, none, []⟩, ⟨(some 92), .extract (.t 87) 1, none, none, []⟩, ⟨(some 18), .mv (.t 91), none, none, []⟩, ⟨(some 19), .mv (.t 92), none, none, []⟩])
  (.seq (.reg [⟨(some 94), .mv (.t 0), none, none, []⟩, ⟨(some 95), .mv (.t 15), none, none, []⟩, ⟨(some 96), .call 26 [(.t 94), (.t 95)], none, none, []⟩, ⟨(some 93), .mv (.t 96), none, none, []⟩, ⟨(some 97), .extract (.t 93) 0, none, none, []⟩, ⟨(some 98), .extract (.t 93) 1, none, none, []⟩, ⟨(some 20), .mv (.t 97), none, none, []⟩, ⟨(some 21), .mv (.t 98), none, none, []⟩])
  (.seq (.reg [⟨(some 99), .mv (.t 17), none, none, []⟩, ⟨(some 100), .bin .eql (.t 99) (.v (.int .i64 6)), none, none, []⟩, ⟨(some 101), .mv (.t 100), none, none, []⟩, ⟨(some 102), .mv (.t 19), (some (101, true)), none, []⟩, ⟨(some 103), .bin .eql (.t 102) (.v (.int .i64 6)), (some (101, true)), none, []⟩, ⟨(some 104), .pick (.t 101) (.t 103) (.v (.bool false)), none, none, []⟩, ⟨(some 105), .mv (.t 104), none, none, []⟩, ⟨(some 106), .mv (.t 21), (some (105, true)), none, []⟩, ⟨(some 107), .bin .eql (.t 106) (.v (.int .i64 6)), (some (105, true)), none, []⟩, ⟨(some 108), .pick (.t 105) (.t 107) (.v (.bool false)), none, none, []⟩, ⟨(some 6), .mv (.t 108), none, none, []⟩])
  .ret))))))))))))))⟩
/-- pochoir/pochoirlaw42.PatchTurned -/
def s8 : SFn :=
 ⟨117, [.tmp 6],
  (.seq (.reg [⟨(some 5), .box 55 (.t 2), none, none, []⟩, ⟨(some 6), .mv (.v (.bool false)), none, none, []⟩])
  (.seq (.seq (.reg [⟨(some 15), .call 25 [], none, none, []⟩, ⟨(some 16), .un .not (.t 15), none, none, []⟩])
  (.cond (.t 16) (.seq (.reg [⟨(some 6), .mv (.v (.bool false)), none, none, []⟩])
  .ret) .skip))
  (.seq (.seq (.reg [⟨(some 17), .mv (.t 0), none, none, []⟩, ⟨(some 18), .len true (.t 17), none, none, []⟩, ⟨(some 19), .bin .gtr (.t 18) (.v (.int .i64 300)), none, none, []⟩, ⟨(some 20), .mv (.t 19), none, none, []⟩, ⟨(some 21), .mv (.t 1), (some (20, false)), none, []⟩, ⟨(some 22), .len true (.t 21), (some (20, false)), none, []⟩, ⟨(some 23), .bin .gtr (.t 22) (.v (.int .i64 300)), (some (20, false)), none, []⟩, ⟨(some 24), .pick (.t 20) (.v (.bool true)) (.t 23), none, none, []⟩])
  (.cond (.t 24) (.seq (.reg [⟨(some 6), .mv (.v (.bool true)), none, none, []⟩])
  .ret) .skip))
  (.seq (.reg [⟨(some 26), .mv (.t 0), none, none, []⟩, ⟨(some 27), .mv (.t 1), none, none, []⟩, ⟨(some 28), .call 26 [(.t 26), (.t 27)], none, none, []⟩, ⟨(some 25), .mv (.t 28), none, none, []⟩, ⟨(some 29), .extract (.t 25) 0, none, none, []⟩, ⟨(some 30), .extract (.t 25) 1, none, none, []⟩, ⟨(some 7), .mv (.t 29), none, none, []⟩, ⟨(some 8), .mv (.t 30), none, none, []⟩])
  (.seq (.seq (.reg [⟨(some 31), .mv (.t 8), none, none, []⟩, ⟨(some 32), .bin .neq (.t 31) (.v (.int .i64 0)), none, none, []⟩, ⟨(some 33), .mv (.t 32), none, none, []⟩, ⟨(some 34), .mv (.t 7), (some (33, false)), none, []⟩, ⟨(some 35), .len true (.t 34), (some (33, false)), none, []⟩, ⟨(some 36), .bin .lss (.t 35) (.v (.int .i64 16)), (some (33, false)), none, []⟩, ⟨(some 37), .pick (.t 33) (.v (.bool true)) (.t 36), none, none, []⟩])
  (.cond (.t 37) (.seq (.reg [⟨(some 6), .mv (.v (.bool false)), none, none, []⟩])
  .ret) .skip))
  (.seq (.reg [⟨(some 38), .mv (.t 7), none, none, []⟩, ⟨(some 39), .s2b 5 (.t 38), none, none, []⟩, ⟨(some 9), .mv (.t 39), none, none, []⟩])
  (.seq (.reg [⟨(some 40), .iarr 2 1 (.t 5) (.v (.int .i64 0)), none, none, []⟩, ⟨(some 41), .load none (.t 40), none, none, []⟩, ⟨(some 42), .conv .i64 (.t 41), none, none, []⟩, ⟨(some 43), .mv (.t 9), none, none, []⟩, ⟨(some 44), .len false (.t 43), none, none, []⟩, ⟨(some 45), .bin .rem (.t 42) (.t 44), none, none, []⟩, ⟨(some 10), .mv (.t 45), none, none, []⟩])
  (.seq (.reg [⟨(some 46), .mv (.t 9), none, none, []⟩, ⟨(some 47), .mv (.t 10), none, none, []⟩, ⟨(some 48), .iarr 2 1 (.t 5) (.v (.int .i64 1)), none, none, []⟩, ⟨(some 49), .load none (.t 48), none, none, []⟩, ⟨(some 50), .conv .u8 (.t 49), none, none, []⟩, ⟨(some 51), .iaddr 1 (.t 46) (.t 47), none, none, []⟩, ⟨none, .store 1 (.t 51) (.t 50), none, none, []⟩])
  (.seq (.reg [⟨(some 53), .mv (.t 0), none, none, []⟩, ⟨(some 54), .mv (.t 9), none, none, []⟩, ⟨(some 55), .b2s (.t 54), none, none, []⟩, ⟨(some 56), .call 27 [(.t 53), (.t 55)], none, none, []⟩, ⟨(some 52), .mv (.t 56), none, none, []⟩, ⟨(some 57), .extract (.t 52) 0, none, none, []⟩, ⟨(some 58), .extract (.t 52) 1, none, none, []⟩, ⟨(some 11), .mv (.t 57), none, none, []⟩, ⟨(some 12), .mv (.t 58), none, none, []⟩])
  (.seq (.seq (.regd [⟨(some 59), .mv (.t 12), none, (some []), []⟩, ⟨(some 60), .bin .neq (.t 59) (.v (.int .i64 0)), none, (some []), []⟩, ⟨(some 61), .mv (.t 60), none, (some []), []⟩, ⟨(some 62), .mv (.t 11), (some (61, true)), (some []), []⟩, ⟨(some 63), .bin .neq (.t 62) (.v (.str ⟨#[]⟩)), (some (61, true)), (some []), []⟩, ⟨(some 64), .pick (.t 61) (.t 63) (.v (.bool false)), none, (some []), []⟩, ⟨(some 65), .mv (.t 64), none, (some []), []⟩, ⟨(some 66), .mv (.t 12), (some (65, false)), (some []), []⟩, ⟨(some 67), .bin .eql (.t 66) (.v (.int .i64 0)), (some (65, false)), (some []), []⟩, ⟨(some 68), .mv (.t 67), (some (65, false)), (some []), []⟩, ⟨(some 69), .mv (.t 9), (some (68, true)), (some []), []⟩, ⟨(some 70), .mv (.t 10), (some (68, true)), (some []), []⟩, ⟨(some 71), .iaddr 1 (.t 69) (.t 70), (some (68, true)), (some []), []⟩, ⟨(some 72), .load none (.t 71), (some (68, true)), none, []⟩, ⟨(some 73), .mv (.t 7), (some (68, true)), (some []), []⟩, ⟨(some 74), .mv (.t 10), (some (68, true)), (some []), []⟩, ⟨(some 75), .ixs (.t 73) (.t 74), (some (68, true)), (some []), []⟩, ⟨(some 76), .bin .neq (.t 72) (.t 75), (some (68, true)), (some []), []⟩, ⟨(some 77), .pick (.t 68) (.t 76) (.v (.bool false)), (some (65, false)), (some []), []⟩, ⟨(some 78), .mv (.t 77), (some (65, false)), (some []), []⟩, ⟨(some 79), .mv (.t 10), (some (78, true)), (some []), []⟩, ⟨(some 80), .bin .lss (.t 79) (.v (.int .i64 16)), (some (78, true)), (some []), []⟩, ⟨(some 81), .mv (.t 80), (some (78, true)), (some []), []⟩, ⟨(some 82), .mv (.t 11), (some (81, false)), (some []), []⟩, ⟨(some 83), .len true (.t 82), (some (81, false)), (some []), []⟩, ⟨(some 84), .mv (.t 1), (some (81, false)), (some []), []⟩, ⟨(some 85), .len true (.t 84), (some (81, false)), (some []), []⟩, ⟨(some 86), .bin .neq (.t 83) (.t 85), (some (81, false)), (some []), []⟩, ⟨(some 87), .pick (.t 81) (.v (.bool true)) (.t 86), (some (78, true)), (some []), []⟩, ⟨(some 88), .mv (.t 87), (some (78, true)), (some []), []⟩, ⟨(some 89), .mv (.t 11), (some (88, false)), (some []), []⟩, ⟨(some 90), .call 32 [(.t 89)], (some (88, false)), none, []⟩, ⟨(some 91), .mv (.t 1), (some (88, false)), (some [31]), []⟩, ⟨(some 92), .call 32 [(.t 91)], (some (88, false)), none, []⟩, ⟨(some 93), .bin .neq (.t 90) (.t 92), (some (88, false)), (some []), []⟩, ⟨(some 94), .pick (.t 88) (.v (.bool true)) (.t 93), (some (78, true)), (some []), []⟩, ⟨(some 95), .pick (.t 78) (.t 94) (.v (.bool false)), (some (65, false)), (some []), []⟩, ⟨(some 96), .pick (.t 65) (.v (.bool true)) (.t 95), none, (some []), []⟩])
  (.cond (.t 96) (.seq (.reg [⟨(some 6), .mv (.v (.bool false)), none, none, []⟩])
  .ret) .skip))
  (.seq (.seq (.reg [⟨(some 97), .mv (.t 1), none, none, []⟩, ⟨(some 98), .len true (.t 97), none, none, []⟩, ⟨(some 99), .mv (.t 0), none, none, []⟩, ⟨(some 100), .len true (.t 99), none, none, []⟩, ⟨(some 101), .bin .eql (.t 98) (.t 100), none, none, []⟩, ⟨(some 102), .mv (.t 101), none, none, []⟩, ⟨(some 103), .mv (.t 1), (some (102, true)), none, []⟩, ⟨(some 104), .call 32 [(.t 103)], (some (102, true)), none, []⟩, ⟨(some 105), .mv (.t 0), (some (102, true)), none, []⟩, ⟨(some 106), .call 32 [(.t 105)], (some (102, true)), none, []⟩, ⟨(some 107), .bin .eql (.t 104) (.t 106), (some (102, true)), none, []⟩, ⟨(some 108), .pick (.t 102) (.t 107) (.v (.bool false)), none, none, []⟩])
  (.cond (.t 108) (.seq (.reg [⟨(some 6), .mv (.v (.bool true)), none, none, []⟩])
  .ret) .skip))
  (.seq (.reg [⟨(some 110), .mv (.t 1), none, none, []⟩, ⟨(some 111), .mv (.t 7), none, none, []⟩, ⟨(some 112), .call 27 [(.t 110), (.t 111)], none, none, []⟩, ⟨(some 109), .mv (.t 112), none, none, []⟩, ⟨(some 113), .extract (.t 109) 0, none, none, []⟩, ⟨(some 114), .extract (.t 109) 1, none, none, []⟩, ⟨(some 13), .mv (.t 113), none, none, []⟩, ⟨(some 14), .mv (.t 114), none, none, []⟩])
  (.seq (.reg [⟨(some 115), .mv (.t 14), none, none, []⟩, ⟨(some 116), .bin .eql (.t 115) (.v (.int .i64 5)), none, none, []⟩, ⟨(some 6), .mv (.t 116), none, none, []⟩])
  .ret)))))))))))))⟩
/-- pochoir/pochoirlaw42.awake -/
def s25 : SFn :=
 ⟨55, [.tmp 0],
  (.seq (.reg [⟨(some 0), .mv (.v (.bool false)), none, none, []⟩])
  (.seq (.reg [⟨(some 10), .call 26 [(.v (.str ⟨#[97, 98, 99, 100, 101, 102, 103, 104]⟩)), (.v (.str ⟨#[97, 98, 99, 100, 88, 101, 102, 103, 104]⟩))], none, none, []⟩, ⟨(some 9), .mv (.t 10), none, none, []⟩, ⟨(some 11), .extract (.t 9) 0, none, none, []⟩, ⟨(some 12), .extract (.t 9) 1, none, none, []⟩, ⟨(some 1), .mv (.t 11), none, none, []⟩, ⟨(some 2), .mv (.t 12), none, none, []⟩])
  (.seq (.reg [⟨(some 14), .mv (.t 1), none, none, []⟩, ⟨(some 15), .call 27 [(.v (.str ⟨#[97, 98, 99, 100, 101, 102, 103, 104]⟩)), (.t 14)], none, none, []⟩, ⟨(some 13), .mv (.t 15), none, none, []⟩, ⟨(some 16), .extract (.t 13) 0, none, none, []⟩, ⟨(some 17), .extract (.t 13) 1, none, none, []⟩, ⟨(some 3), .mv (.t 16), none, none, []⟩, ⟨(some 4), .mv (.t 17), none, none, []⟩])
  (.seq (.reg [⟨(some 19), .mv (.t 1), none, none, []⟩, ⟨(some 20), .call 27 [(.v (.str ⟨#[97, 98, 99, 100, 101, 102, 103, 120]⟩)), (.t 19)], none, none, []⟩, ⟨(some 18), .mv (.t 20), none, none, []⟩, ⟨(some 21), .extract (.t 18) 0, none, none, []⟩, ⟨(some 22), .extract (.t 18) 1, none, none, []⟩, ⟨(some 5), .mv (.t 21), none, none, []⟩, ⟨(some 6), .mv (.t 22), none, none, []⟩])
  (.seq (.reg [⟨(some 24), .mv (.t 1), none, none, []⟩, ⟨(some 25), .call 29 [(.t 24)], none, none, []⟩, ⟨(some 23), .mv (.t 25), none, none, []⟩, ⟨(some 26), .extract (.t 23) 0, none, none, []⟩, ⟨(some 27), .extract (.t 23) 1, none, none, []⟩, ⟨(some 7), .mv (.t 26), none, none, []⟩, ⟨(some 8), .mv (.t 27), none, none, []⟩])
  (.seq (.reg [⟨(some 28), .mv (.t 2), none, none, []⟩, ⟨(some 29), .bin .eql (.t 28) (.v (.int .i64 0)), none, none, []⟩, ⟨(some 30), .mv (.t 29), none, none, []⟩, ⟨(some 31), .mv (.t 1), (some (30, true)), none, []⟩, ⟨(some 32), .len true (.t 31), (some (30, true)), none, []⟩, ⟨(some 33), .bin .leq (.t 32) (.v (.int .i64 40)), (some (30, true)), none, []⟩, ⟨(some 34), .pick (.t 30) (.t 33) (.v (.bool false)), none, none, []⟩, ⟨(some 35), .mv (.t 34), none, none, []⟩, ⟨(some 36), .mv (.t 3), (some (35, true)), none, []⟩, ⟨(some 37), .bin .eql (.t 36) (.v (.str ⟨#[97, 98, 99, 100, 88, 101, 102, 103, 104]⟩)), (some (35, true)), none, []⟩, ⟨(some 38), .pick (.t 35) (.t 37) (.v (.bool false)), none, none, []⟩, ⟨(some 39), .mv (.t 38), none, none, []⟩, ⟨(some 40), .mv (.t 4), (some (39, true)), none, []⟩, ⟨(some 41), .bin .eql (.t 40) (.v (.int .i64 0)), (some (39, true)), none, []⟩, ⟨(some 42), .pick (.t 39) (.t 41) (.v (.bool false)), none, none, []⟩, ⟨(some 43), .mv (.t 42), none, none, []⟩, ⟨(some 44), .mv (.t 6), (some (43, true)), none, []⟩, ⟨(some 45), .bin .eql (.t 44) (.v (.int .i64 5)), (some (43, true)), none, []⟩, ⟨(some 46), .pick (.t 43) (.t 45) (.v (.bool false)), none, none, []⟩, ⟨(some 47), .mv (.t 46), none, none, []⟩, ⟨(some 48), .mv (.t 7), (some (47, true)), none, []⟩, ⟨(some 49), .bin .gtr (.t 48) (.v (.int .i64 0)), (some (47, true)), none, []⟩, ⟨(some 50), .pick (.t 47) (.t 49) (.v (.bool false)), none, none, []⟩, ⟨(some 51), .mv (.t 50), none, none, []⟩, ⟨(some 52), .mv (.t 8), (some (51, true)), none, []⟩, ⟨(some 53), .bin .eql (.t 52) (.v (.int .i64 0)), (some (51, true)), none, []⟩, ⟨(some 54), .pick (.t 51) (.t 53) (.v (.bool false)), none, none, []⟩, ⟨(some 0), .mv (.t 54), none, none, []⟩])
  .ret))))))⟩
/-- pochoir/patch.Diff -/
def s26 : SFn :=
 ⟨56, [.tmp 4, .tmp 5],
  (.seq (.reg [⟨(some 4), .mv (.v (.str ⟨#[]⟩)), none, none, []⟩, ⟨(some 5), .mv (.v (.int .i64 0)), none, none, []⟩])
  (.seq (.seq (.reg [⟨(some 9), .mv (.t 0), none, none, []⟩, ⟨(some 10), .len true (.t 9), none, none, []⟩, ⟨(some 11), .mv (.t 1), none, none, []⟩, ⟨(some 12), .len true (.t 11), none, none, []⟩, ⟨(some 13), .mnmx true [(.t 10), (.t 12)], none, none, []⟩, ⟨(some 14), .bin .gtr (.t 13) (.v (.int .i64 65536)), none, none, []⟩])
  (.cond (.t 14) (.seq (.reg [⟨(some 4), .mv (.v (.str ⟨#[]⟩)), none, none, []⟩, ⟨(some 5), .mv (.v (.int .i64 6)), none, none, []⟩])
  .ret) .skip))
  (.seq (.reg [⟨(some 16), .mv (.t 0), none, none, []⟩, ⟨(some 17), .mv (.t 1), none, none, []⟩, ⟨(some 18), .call 49 [(.t 16), (.t 17)], none, none, []⟩, ⟨(some 15), .mv (.t 18), none, none, []⟩, ⟨(some 19), .extract (.t 15) 0, none, none, []⟩, ⟨(some 20), .extract (.t 15) 1, none, none, []⟩, ⟨(some 6), .mv (.t 19), none, none, []⟩, ⟨(some 7), .mv (.t 20), none, none, []⟩])
  (.seq (.reg [⟨(some 21), .mv (.t 0), none, none, []⟩, ⟨(some 22), .len true (.t 21), none, none, []⟩, ⟨(some 23), .call 50 [(.t 22)], none, none, []⟩, ⟨(some 24), .mv (.t 0), none, none, []⟩, ⟨(some 25), .call 52 [(.t 24)], none, none, []⟩, ⟨(some 26), .call 51 [(.t 25)], none, none, []⟩, ⟨(some 27), .bin .add (.t 23) (.t 26), none, none, []⟩, ⟨(some 28), .mv (.t 1), none, none, []⟩, ⟨(some 29), .len true (.t 28), none, none, []⟩, ⟨(some 30), .call 50 [(.t 29)], none, none, []⟩, ⟨(some 31), .bin .add (.t 27) (.t 30), none, none, []⟩, ⟨(some 32), .mv (.t 1), none, none, []⟩, ⟨(some 33), .call 52 [(.t 32)], none, none, []⟩, ⟨(some 34), .call 51 [(.t 33)], none, none, []⟩, ⟨(some 35), .bin .add (.t 31) (.t 34), none, none, []⟩, ⟨(some 8), .mv (.t 35), none, none, []⟩])
  (.seq (.regd [⟨(some 36), .mv (.t 8), none, (some []), []⟩, ⟨(some 37), .mv (.t 6), none, (some []), []⟩, ⟨(some 38), .call 53 [(.v (.int .i64 0)), (.t 37)], none, none, []⟩, ⟨(some 39), .bin .add (.t 36) (.t 38), none, (some []), []⟩, ⟨(some 40), .mv (.t 1), none, (some [2]), []⟩, ⟨(some 41), .mv (.t 6), none, (some [2]), []⟩, ⟨(some 42), .mv (.t 1), none, (some [2]), []⟩, ⟨(some 43), .len true (.t 42), none, (some [2]), []⟩, ⟨(some 44), .mv (.t 7), none, (some [2]), []⟩, ⟨(some 45), .bin .sub (.t 43) (.t 44), none, (some [2]), []⟩, ⟨(some 46), .slstr (.t 40) (some (.t 41)) (some (.t 45)), none, (some [2]), []⟩, ⟨(some 47), .call 54 [(.t 46)], none, none, []⟩, ⟨(some 48), .bin .add (.t 39) (.t 47), none, (some []), []⟩, ⟨(some 49), .mv (.t 0), none, (some [2, 11]), []⟩, ⟨(some 50), .len true (.t 49), none, (some [2, 11]), []⟩, ⟨(some 51), .mv (.t 7), none, (some [2, 11]), []⟩, ⟨(some 52), .bin .sub (.t 50) (.t 51), none, (some [2, 11]), []⟩, ⟨(some 53), .mv (.t 7), none, (some [2, 11]), []⟩, ⟨(some 54), .call 53 [(.t 52), (.t 53)], none, none, []⟩, ⟨(some 55), .bin .add (.t 48) (.t 54), none, (some []), []⟩, ⟨(some 4), .mv (.t 55), none, (some []), []⟩, ⟨(some 5), .mv (.v (.int .i64 0)), none, (some []), []⟩])
  .ret)))))⟩
/-- pochoir/patch.Apply -/
def s27 : SFn :=
 ⟨71, [.tmp 4, .tmp 5],
  (.seq (.reg [⟨(some 4), .mv (.v (.str ⟨#[]⟩)), none, none, []⟩, ⟨(some 5), .mv (.v (.int .i64 0)), none, none, []⟩])
  (.seq (.seq (.reg [⟨(some 11), .mv (.t 0), none, none, []⟩, ⟨(some 12), .len true (.t 11), none, none, []⟩, ⟨(some 13), .bin .gtr (.t 12) (.v (.int .i64 65536)), none, none, []⟩])
  (.cond (.t 13) (.seq (.reg [⟨(some 4), .mv (.v (.str ⟨#[]⟩)), none, none, []⟩, ⟨(some 5), .mv (.v (.int .i64 6)), none, none, []⟩])
  .ret) .skip))
  (.seq (.reg [⟨(some 15), .mv (.t 1), none, none, []⟩, ⟨(some 16), .call 55 [(.t 15)], none, none, []⟩, ⟨(some 14), .mv (.t 16), none, none, []⟩, ⟨(some 17), .extract (.t 14) 0, none, none, []⟩, ⟨(some 18), .extract (.t 14) 1, none, none, []⟩, ⟨(some 19), .extract (.t 14) 2, none, none, []⟩, ⟨(some 20), .extract (.t 14) 3, none, none, []⟩, ⟨(some 6), .box 92 (.v (.agg [(.int .u32 0), (.int .u32 0), (.int .u32 0), (.int .u32 0)])), none, none, []⟩, ⟨none, .store 4 (.t 6) (.t 17), none, none, []⟩, ⟨(some 7), .mv (.t 18), none, none, []⟩, ⟨(some 8), .mv (.t 19), none, none, []⟩, ⟨(some 9), .mv (.t 20), none, none, []⟩])
  (.seq (.block 0 (.seq (.reg [⟨(some 22), .mv (.t 8), none, none, []⟩, ⟨(some 23), .bin .neq (.t 22) (.v (.int .i64 0)), none, none, []⟩, ⟨(some 21), .mv (.t 23), none, none, []⟩])
  (.cond (.t 21) (.seq (.reg [⟨(some 24), .mv (.t 8), none, none, []⟩, ⟨(some 4), .mv (.v (.str ⟨#[]⟩)), none, none, []⟩, ⟨(some 5), .mv (.t 24), none, none, []⟩])
  .ret) (.seq (.regd [⟨(some 26), .faddr 0 (.t 6), none, (some []), []⟩, ⟨(some 27), .load none (.t 26), none, none, []⟩, ⟨(some 28), .conv .i64 (.t 27), none, (some []), []⟩, ⟨(some 29), .mv (.t 0), none, (some []), []⟩, ⟨(some 30), .len true (.t 29), none, (some []), []⟩, ⟨(some 31), .bin .neq (.t 28) (.t 30), none, (some []), []⟩, ⟨(some 32), .mv (.t 31), none, (some []), []⟩, ⟨(some 33), .faddr 1 (.t 6), (some (32, false)), (some []), []⟩, ⟨(some 34), .load none (.t 33), (some (32, false)), (some []), []⟩, ⟨(some 35), .mv (.t 0), (some (32, false)), (some []), []⟩, ⟨(some 36), .call 52 [(.t 35)], (some (32, false)), none, [((some (32, false)), (.t 33))]⟩, ⟨(some 37), .bin .neq (.t 34) (.t 36), (some (32, false)), (some []), []⟩, ⟨(some 38), .pick (.t 32) (.v (.bool true)) (.t 37), none, (some []), []⟩, ⟨(some 25), .mv (.t 38), none, (some []), []⟩])
  (.cond (.t 25) (.seq (.reg [⟨(some 4), .mv (.v (.str ⟨#[]⟩)), none, none, []⟩, ⟨(some 5), .mv (.v (.int .i64 5)), none, none, []⟩])
  .ret) .skip)))))
  (.seq (.reg [⟨(some 40), .mv (.t 0), none, none, []⟩, ⟨(some 41), .mv (.t 7), none, none, []⟩, ⟨(some 42), .faddr 2 (.t 6), none, none, []⟩, ⟨(some 43), .load none (.t 42), none, none, []⟩, ⟨(some 44), .conv .i64 (.t 43), none, none, []⟩, ⟨(some 45), .call 56 [(.t 40), (.t 41), (.t 44)], none, none, []⟩, ⟨(some 39), .mv (.t 45), none, none, []⟩, ⟨(some 46), .extract (.t 39) 0, none, none, []⟩, ⟨(some 47), .extract (.t 39) 1, none, none, []⟩, ⟨(some 10), .mv (.t 46), none, none, []⟩, ⟨(some 8), .mv (.t 47), none, none, []⟩])
  (.seq (.block 1 (.seq (.reg [⟨(some 49), .mv (.t 8), none, none, []⟩, ⟨(some 50), .bin .neq (.t 49) (.v (.int .i64 0)), none, none, []⟩, ⟨(some 48), .mv (.t 50), none, none, []⟩])
  (.cond (.t 48) (.seq (.reg [⟨(some 51), .mv (.t 8), none, none, []⟩, ⟨(some 4), .mv (.v (.str ⟨#[]⟩)), none, none, []⟩, ⟨(some 5), .mv (.t 51), none, none, []⟩])
  .ret) (.seq (.reg [⟨(some 53), .mv (.t 9), none, none, []⟩, ⟨(some 54), .bin .neq (.t 53) (.v (.int .i64 0)), none, none, []⟩, ⟨(some 52), .mv (.t 54), none, none, []⟩])
  (.cond (.t 52) (.seq (.reg [⟨(some 55), .mv (.t 9), none, none, []⟩, ⟨(some 4), .mv (.v (.str ⟨#[]⟩)), none, none, []⟩, ⟨(some 5), .mv (.t 55), none, none, []⟩])
  .ret) (.seq (.regd [⟨(some 57), .faddr 2 (.t 6), none, (some []), []⟩, ⟨(some 58), .load none (.t 57), none, none, []⟩, ⟨(some 59), .conv .i64 (.t 58), none, (some []), []⟩, ⟨(some 60), .mv (.t 10), none, (some []), []⟩, ⟨(some 61), .len true (.t 60), none, (some []), []⟩, ⟨(some 62), .bin .neq (.t 59) (.t 61), none, (some []), []⟩, ⟨(some 63), .mv (.t 62), none, (some []), []⟩, ⟨(some 64), .faddr 3 (.t 6), (some (63, false)), (some []), []⟩, ⟨(some 65), .load none (.t 64), (some (63, false)), (some []), []⟩, ⟨(some 66), .mv (.t 10), (some (63, false)), (some []), []⟩, ⟨(some 67), .call 52 [(.t 66)], (some (63, false)), none, [((some (63, false)), (.t 64))]⟩, ⟨(some 68), .bin .neq (.t 65) (.t 67), (some (63, false)), (some []), []⟩, ⟨(some 69), .pick (.t 63) (.v (.bool true)) (.t 68), none, (some []), []⟩, ⟨(some 56), .mv (.t 69), none, (some []), []⟩])
  (.cond (.t 56) (.seq (.reg [⟨(some 4), .mv (.v (.str ⟨#[]⟩)), none, none, []⟩, ⟨(some 5), .mv (.v (.int .i64 5)), none, none, []⟩])
  .ret) .skip)))))))
  (.seq (.reg [⟨(some 70), .mv (.t 10), none, none, []⟩, ⟨(some 4), .mv (.t 70), none, none, []⟩, ⟨(some 5), .mv (.v (.int .i64 0)), none, none, []⟩])
  .ret)))))))⟩
/-- pochoir/pochoirref42.Apply -/
def s28 : SFn :=
 ⟨91, [.tmp 4, .tmp 5],
  (.seq (.reg [⟨(some 4), .mv (.v (.str ⟨#[]⟩)), none, none, []⟩, ⟨(some 5), .mv (.v (.int .i64 0)), none, none, []⟩])
  (.seq (.seq (.reg [⟨(some 17), .mv (.t 0), none, none, []⟩, ⟨(some 18), .len true (.t 17), none, none, []⟩, ⟨(some 19), .bin .gtr (.t 18) (.v (.int .i64 65536)), none, none, []⟩])
  (.cond (.t 19) (.seq (.reg [⟨(some 4), .mv (.v (.str ⟨#[]⟩)), none, none, []⟩, ⟨(some 5), .mv (.v (.int .i64 6)), none, none, []⟩])
  .ret) .skip))
  (.seq (.seq (.reg [⟨(some 20), .mv (.t 1), none, none, []⟩, ⟨(some 21), .len true (.t 20), none, none, []⟩, ⟨(some 22), .bin .lss (.t 21) (.v (.int .i64 16)), none, none, []⟩])
  (.cond (.t 22) (.seq (.reg [⟨(some 4), .mv (.v (.str ⟨#[]⟩)), none, none, []⟩, ⟨(some 5), .mv (.v (.int .i64 3)), none, none, []⟩])
  .ret) .skip))
  (.seq (.reg [⟨(some 23), .mv (.t 1), none, none, []⟩, ⟨(some 24), .call 57 [(.t 23), (.v (.int .i64 8))], none, none, []⟩, ⟨(some 6), .mv (.t 24), none, none, []⟩])
  (.seq (.seq (.reg [⟨(some 25), .mv (.t 6), none, none, []⟩, ⟨(some 26), .bin .gtr (.t 25) (.v (.int .i64 65536)), none, none, []⟩])
  (.cond (.t 26) (.seq (.reg [⟨(some 4), .mv (.v (.str ⟨#[]⟩)), none, none, []⟩, ⟨(some 5), .mv (.v (.int .i64 6)), none, none, []⟩])
  .ret) .skip))
  (.seq (.seq (.reg [⟨(some 27), .mv (.t 1), none, none, []⟩, ⟨(some 28), .call 57 [(.t 27), (.v (.int .i64 0))], none, none, []⟩, ⟨(some 29), .mv (.t 0), none, none, []⟩, ⟨(some 30), .len true (.t 29), none, none, []⟩, ⟨(some 31), .bin .neq (.t 28) (.t 30), none, none, []⟩, ⟨(some 32), .mv (.t 31), none, none, []⟩, ⟨(some 33), .mv (.t 1), (some (32, false)), none, []⟩, ⟨(some 34), .call 57 [(.t 33), (.v (.int .i64 4))], (some (32, false)), none, []⟩, ⟨(some 35), .mv (.t 0), (some (32, false)), none, []⟩, ⟨(some 36), .call 32 [(.t 35)], (some (32, false)), none, []⟩, ⟨(some 37), .conv .i64 (.t 36), (some (32, false)), none, []⟩, ⟨(some 38), .bin .neq (.t 34) (.t 37), (some (32, false)), none, []⟩, ⟨(some 39), .pick (.t 32) (.v (.bool true)) (.t 38), none, none, []⟩])
  (.cond (.t 39) (.seq (.reg [⟨(some 4), .mv (.v (.str ⟨#[]⟩)), none, none, []⟩, ⟨(some 5), .mv (.v (.int .i64 5)), none, none, []⟩])
  .ret) .skip))
  (.seq (.reg [⟨(some 7), .mv (.v (.str ⟨#[]⟩)), none, none, []⟩])
  (.seq (.seq (.reg [⟨(some 8), .mv (.v (.int .i64 16)), none, none, []⟩])
  (.block 0 (.loop (.seq (.seq (.reg [⟨(some 40), .mv (.t 8), none, none, []⟩, ⟨(some 41), .mv (.t 1), none, none, []⟩, ⟨(some 42), .len true (.t 41), none, none, []⟩, ⟨(some 43), .bin .lss (.t 40) (.t 42), none, none, []⟩])
  (.cond (.t 43) .skip (.exit 0)))
  (.block 1 (.seq (.reg [⟨(some 45), .mv (.t 1), none, none, []⟩, ⟨(some 46), .mv (.t 8), none, none, []⟩, ⟨(some 47), .call 58 [(.t 45), (.t 46)], none, none, []⟩, ⟨(some 44), .mv (.t 47), none, none, []⟩, ⟨(some 48), .extract (.t 44) 0, none, none, []⟩, ⟨(some 49), .extract (.t 44) 1, none, none, []⟩, ⟨(some 50), .extract (.t 44) 2, none, none, []⟩, ⟨(some 51), .extract (.t 44) 3, none, none, []⟩, ⟨(some 52), .extract (.t 44) 4, none, none, []⟩, ⟨(some 9), .mv (.t 48), none, none, []⟩, ⟨(some 10), .mv (.t 49), none, none, []⟩, ⟨(some 11), .mv (.t 50), none, none, []⟩, ⟨(some 12), .mv (.t 51), none, none, []⟩, ⟨(some 13), .mv (.t 52), none, none, []⟩])
  (.seq (.seq (.reg [⟨(some 53), .mv (.t 13), none, none, []⟩, ⟨(some 54), .bin .neq (.t 53) (.v (.int .i64 0)), none, none, []⟩])
  (.cond (.t 54) (.seq (.reg [⟨(some 55), .mv (.t 13), none, none, []⟩, ⟨(some 4), .mv (.v (.str ⟨#[]⟩)), none, none, []⟩, ⟨(some 5), .mv (.t 55), none, none, []⟩])
  .ret) .skip))
  (.seq (.reg [⟨(some 56), .mv (.t 1), none, none, []⟩, ⟨(some 14), .mv (.t 56), none, none, []⟩])
  (.seq (.seq (.reg [⟨(some 57), .mv (.t 9), none, none, []⟩])
  (.cond (.t 57) (.reg [⟨(some 58), .mv (.t 0), none, none, []⟩, ⟨(some 14), .mv (.t 58), none, none, []⟩]) .skip))
  (.seq (.reg [⟨(some 60), .mv (.t 14), none, none, []⟩, ⟨(some 61), .mv (.t 10), none, none, []⟩, ⟨(some 62), .mv (.t 11), none, none, []⟩, ⟨(some 63), .call 59 [(.t 60), (.t 61), (.t 62)], none, none, []⟩, ⟨(some 59), .mv (.t 63), none, none, []⟩, ⟨(some 64), .extract (.t 59) 0, none, none, []⟩, ⟨(some 65), .extract (.t 59) 1, none, none, []⟩, ⟨(some 15), .mv (.t 64), none, none, []⟩, ⟨(some 16), .mv (.t 65), none, none, []⟩])
  (.seq (.seq (.reg [⟨(some 66), .mv (.t 16), none, none, []⟩, ⟨(some 67), .bin .neq (.t 66) (.v (.int .i64 0)), none, none, []⟩])
  (.cond (.t 67) (.seq (.reg [⟨(some 4), .mv (.v (.str ⟨#[]⟩)), none, none, []⟩, ⟨(some 5), .mv (.v (.int .i64 3)), none, none, []⟩])
  .ret) .skip))
  (.seq (.seq (.reg [⟨(some 68), .mv (.t 7), none, none, []⟩, ⟨(some 69), .len true (.t 68), none, none, []⟩, ⟨(some 70), .mv (.t 11), none, none, []⟩, ⟨(some 71), .bin .add (.t 69) (.t 70), none, none, []⟩, ⟨(some 72), .mv (.t 6), none, none, []⟩, ⟨(some 73), .bin .gtr (.t 71) (.t 72), none, none, []⟩])
  (.cond (.t 73) (.seq (.reg [⟨(some 4), .mv (.v (.str ⟨#[]⟩)), none, none, []⟩, ⟨(some 5), .mv (.v (.int .i64 6)), none, none, []⟩])
  .ret) .skip))
  (.seq (.reg [⟨(some 74), .mv (.t 7), none, none, []⟩, ⟨(some 75), .mv (.t 15), none, none, []⟩, ⟨(some 76), .bin .add (.t 74) (.t 75), none, none, []⟩, ⟨(some 7), .mv (.t 76), none, none, []⟩])
  (.reg [⟨(some 77), .mv (.t 12), none, none, []⟩, ⟨(some 8), .mv (.t 77), none, none, []⟩]))))))))))))))
  (.seq (.seq (.reg [⟨(some 78), .mv (.t 7), none, none, []⟩, ⟨(some 79), .len true (.t 78), none, none, []⟩, ⟨(some 80), .mv (.t 6), none, none, []⟩, ⟨(some 81), .bin .neq (.t 79) (.t 80), none, none, []⟩, ⟨(some 82), .mv (.t 81), none, none, []⟩, ⟨(some 83), .mv (.t 7), (some (82, false)), none, []⟩, ⟨(some 84), .call 32 [(.t 83)], (some (82, false)), none, []⟩, ⟨(some 85), .conv .i64 (.t 84), (some (82, false)), none, []⟩, ⟨(some 86), .mv (.t 1), (some (82, false)), none, []⟩, ⟨(some 87), .call 57 [(.t 86), (.v (.int .i64 12))], (some (82, false)), none, []⟩, ⟨(some 88), .bin .neq (.t 85) (.t 87), (some (82, false)), none, []⟩, ⟨(some 89), .pick (.t 82) (.v (.bool true)) (.t 88), none, none, []⟩])
  (.cond (.t 89) (.seq (.reg [⟨(some 4), .mv (.v (.str ⟨#[]⟩)), none, none, []⟩, ⟨(some 5), .mv (.v (.int .i64 5)), none, none, []⟩])
  .ret) .skip))
  (.seq (.reg [⟨(some 90), .mv (.t 7), none, none, []⟩, ⟨(some 4), .mv (.t 90), none, none, []⟩, ⟨(some 5), .mv (.v (.int .i64 0)), none, none, []⟩])
  .ret))))))))))⟩
/-- pochoir/patch.Steps -/
def s29 : SFn :=
 ⟨25, [.tmp 2, .tmp 3],
  (.seq (.reg [⟨(some 2), .mv (.v (.int .i64 0)), none, none, []⟩, ⟨(some 3), .mv (.v (.int .i64 0)), none, none, []⟩])
  (.seq (.reg [⟨(some 9), .mv (.t 0), none, none, []⟩, ⟨(some 10), .call 55 [(.t 9)], none, none, []⟩, ⟨(some 8), .mv (.t 10), none, none, []⟩, ⟨(some 11), .extract (.t 8) 0, none, none, []⟩, ⟨(some 12), .extract (.t 8) 1, none, none, []⟩, ⟨(some 13), .extract (.t 8) 2, none, none, []⟩, ⟨(some 14), .extract (.t 8) 3, none, none, []⟩, ⟨(some 4), .box 92 (.v (.agg [(.int .u32 0), (.int .u32 0), (.int .u32 0), (.int .u32 0)])), none, none, []⟩, ⟨none, .store 4 (.t 4) (.t 11), none, none, []⟩, ⟨(some 5), .mv (.t 12), none, none, []⟩, ⟨(some 6), .mv (.t 13), none, none, []⟩, ⟨(some 7), .mv (.t 14), none, none, []⟩])
  (.seq (.block 0 (.seq (.reg [⟨(some 16), .mv (.t 6), none, none, []⟩, ⟨(some 17), .bin .neq (.t 16) (.v (.int .i64 0)), none, none, []⟩, ⟨(some 15), .mv (.t 17), none, none, []⟩])
  (.cond (.t 15) (.seq (.reg [⟨(some 18), .mv (.t 6), none, none, []⟩, ⟨(some 2), .mv (.v (.int .i64 0)), none, none, []⟩, ⟨(some 3), .mv (.t 18), none, none, []⟩])
  .ret) (.seq (.reg [⟨(some 20), .mv (.t 7), none, none, []⟩, ⟨(some 21), .bin .neq (.t 20) (.v (.int .i64 0)), none, none, []⟩, ⟨(some 19), .mv (.t 21), none, none, []⟩])
  (.cond (.t 19) (.seq (.reg [⟨(some 22), .mv (.t 7), none, none, []⟩, ⟨(some 2), .mv (.v (.int .i64 0)), none, none, []⟩, ⟨(some 3), .mv (.t 22), none, none, []⟩])
  .ret) .skip)))))
  (.seq (.reg [⟨(some 23), .mv (.t 5), none, none, []⟩, ⟨(some 24), .len false (.t 23), none, none, []⟩, ⟨(some 2), .mv (.t 24), none, none, []⟩, ⟨(some 3), .mv (.v (.int .i64 0)), none, none, []⟩])
  .ret))))⟩
/-- pochoir/pochoirref42.Steps -/
def s30 : SFn :=
 ⟨37, [.tmp 2, .tmp 3],
  (.seq (.reg [⟨(some 2), .mv (.v (.int .i64 0)), none, none, []⟩, ⟨(some 3), .mv (.v (.int .i64 0)), none, none, []⟩])
  (.seq (.seq (.reg [⟨(some 11), .mv (.t 0), none, none, []⟩, ⟨(some 12), .len true (.t 11), none, none, []⟩, ⟨(some 13), .bin .lss (.t 12) (.v (.int .i64 16)), none, none, []⟩])
  (.cond (.t 13) (.seq (.reg [⟨(some 2), .mv (.v (.int .i64 0)), none, none, []⟩, ⟨(some 3), .mv (.v (.int .i64 3)), none, none, []⟩])
  .ret) .skip))
  (.seq (.seq (.reg [⟨(some 14), .mv (.t 0), none, none, []⟩, ⟨(some 15), .call 57 [(.t 14), (.v (.int .i64 8))], none, none, []⟩, ⟨(some 16), .bin .gtr (.t 15) (.v (.int .i64 65536)), none, none, []⟩])
  (.cond (.t 16) (.seq (.reg [⟨(some 2), .mv (.v (.int .i64 0)), none, none, []⟩, ⟨(some 3), .mv (.v (.int .i64 6)), none, none, []⟩])
  .ret) .skip))
  (.seq (.reg [⟨(some 4), .mv (.v (.int .i64 0)), none, none, []⟩])
  (.seq (.seq (.reg [⟨(some 5), .mv (.v (.int .i64 16)), none, none, []⟩])
  (.block 0 (.loop (.seq (.seq (.reg [⟨(some 17), .mv (.t 5), none, none, []⟩, ⟨(some 18), .mv (.t 0), none, none, []⟩, ⟨(some 19), .len true (.t 18), none, none, []⟩, ⟨(some 20), .bin .lss (.t 17) (.t 19), none, none, []⟩])
  (.cond (.t 20) .skip (.exit 0)))
  (.block 1 (.seq (.reg [⟨(some 22), .mv (.t 0), none, none, []⟩, ⟨(some 23), .mv (.t 5), none, none, []⟩, ⟨(some 24), .call 58 [(.t 22), (.t 23)], none, none, []⟩, ⟨(some 21), .mv (.t 24), none, none, []⟩, ⟨(some 25), .extract (.t 21) 0, none, none, []⟩, ⟨(some 26), .extract (.t 21) 1, none, none, []⟩, ⟨(some 27), .extract (.t 21) 2, none, none, []⟩, ⟨(some 28), .extract (.t 21) 3, none, none, []⟩, ⟨(some 29), .extract (.t 21) 4, none, none, []⟩, ⟨(some 6), .mv (.t 25), none, none, []⟩, ⟨(some 7), .mv (.t 26), none, none, []⟩, ⟨(some 8), .mv (.t 27), none, none, []⟩, ⟨(some 9), .mv (.t 28), none, none, []⟩, ⟨(some 10), .mv (.t 29), none, none, []⟩])
  (.seq (.seq (.reg [⟨(some 30), .mv (.t 10), none, none, []⟩, ⟨(some 31), .bin .neq (.t 30) (.v (.int .i64 0)), none, none, []⟩])
  (.cond (.t 31) (.seq (.reg [⟨(some 32), .mv (.t 10), none, none, []⟩, ⟨(some 2), .mv (.v (.int .i64 0)), none, none, []⟩, ⟨(some 3), .mv (.t 32), none, none, []⟩])
  .ret) .skip))
  (.seq (.reg [⟨(some 33), .mv (.t 4), none, none, []⟩, ⟨(some 34), .bin .add (.t 33) (.v (.int .i64 1)), none, none, []⟩, ⟨(some 4), .mv (.t 34), none, none, []⟩])
  (.reg [⟨(some 35), .mv (.t 9), none, none, []⟩, ⟨(some 5), .mv (.t 35), none, none, []⟩])))))))))
  (.seq (.reg [⟨(some 36), .mv (.t 4), none, none, []⟩, ⟨(some 2), .mv (.t 36), none, none, []⟩, ⟨(some 3), .mv (.v (.int .i64 0)), none, none, []⟩])
  .ret))))))⟩
/-- pochoir/pochoirref42.Between -/
def s31 : SFn :=
 ⟨67, [.tmp 4],
  (.seq (.reg [⟨(some 4), .mv (.v (.int .i64 0)), none, none, []⟩])
  (.seq (.reg [⟨(some 5), .mv (.v (.int .i64 0)), none, none, []⟩])
  (.seq (.block 0 (.loop (.seq (.seq (.regd [⟨(some 7), .mv (.t 5), none, (some []), []⟩, ⟨(some 8), .mv (.t 0), none, (some []), []⟩, ⟨(some 9), .len true (.t 8), none, (some []), []⟩, ⟨(some 10), .bin .lss (.t 7) (.t 9), none, (some []), []⟩, ⟨(some 11), .mv (.t 10), none, (some []), []⟩, ⟨(some 12), .mv (.t 5), (some (11, true)), (some []), []⟩, ⟨(some 13), .mv (.t 1), (some (11, true)), (some []), []⟩, ⟨(some 14), .len true (.t 13), (some (11, true)), (some []), []⟩, ⟨(some 15), .bin .lss (.t 12) (.t 14), (some (11, true)), (some []), []⟩, ⟨(some 16), .pick (.t 11) (.t 15) (.v (.bool false)), none, (some []), []⟩, ⟨(some 17), .mv (.t 16), none, (some []), []⟩, ⟨(some 18), .mv (.t 0), (some (17, true)), (some []), []⟩, ⟨(some 19), .mv (.t 5), (some (17, true)), (some []), []⟩, ⟨(some 20), .ixs (.t 18) (.t 19), (some (17, true)), (some []), []⟩, ⟨(some 21), .mv (.t 1), (some (17, true)), (some []), []⟩, ⟨(some 22), .mv (.t 5), (some (17, true)), (some []), []⟩, ⟨(some 23), .ixs (.t 21) (.t 22), (some (17, true)), (some []), []⟩, ⟨(some 24), .bin .eql (.t 20) (.t 23), (some (17, true)), (some []), []⟩, ⟨(some 25), .pick (.t 17) (.t 24) (.v (.bool false)), none, (some []), []⟩])
  (.cond (.t 25) .skip (.exit 0)))
  (.block 1 (.reg [⟨(some 26), .mv (.t 5), none, none, []⟩, ⟨(some 27), .bin .add (.t 26) (.v (.int .i64 1)), none, none, []⟩, ⟨(some 5), .mv (.t 27), none, none, []⟩])))))
  (.seq (.reg [⟨(some 6), .mv (.v (.int .i64 0)), none, none, []⟩])
  (.seq (.block 2 (.loop (.seq (.seq (.regd [⟨(some 28), .mv (.t 6), none, (some []), []⟩, ⟨(some 29), .mv (.t 0), none, (some []), []⟩, ⟨(some 30), .len true (.t 29), none, (some []), []⟩, ⟨(some 31), .mv (.t 5), none, (some []), []⟩, ⟨(some 32), .bin .sub (.t 30) (.t 31), none, (some []), []⟩, ⟨(some 33), .bin .lss (.t 28) (.t 32), none, (some []), []⟩, ⟨(some 34), .mv (.t 33), none, (some []), []⟩, ⟨(some 35), .mv (.t 6), (some (34, true)), (some []), []⟩, ⟨(some 36), .mv (.t 1), (some (34, true)), (some []), []⟩, ⟨(some 37), .len true (.t 36), (some (34, true)), (some []), []⟩, ⟨(some 38), .mv (.t 5), (some (34, true)), (some []), []⟩, ⟨(some 39), .bin .sub (.t 37) (.t 38), (some (34, true)), (some []), []⟩, ⟨(some 40), .bin .lss (.t 35) (.t 39), (some (34, true)), (some []), []⟩, ⟨(some 41), .pick (.t 34) (.t 40) (.v (.bool false)), none, (some []), []⟩, ⟨(some 42), .mv (.t 41), none, (some []), []⟩, ⟨(some 43), .mv (.t 0), (some (42, true)), (some []), []⟩, ⟨(some 44), .mv (.t 0), (some (42, true)), (some []), []⟩, ⟨(some 45), .len true (.t 44), (some (42, true)), (some []), []⟩, ⟨(some 46), .bin .sub (.t 45) (.v (.int .i64 1)), (some (42, true)), (some []), []⟩, ⟨(some 47), .mv (.t 6), (some (42, true)), (some []), []⟩, ⟨(some 48), .bin .sub (.t 46) (.t 47), (some (42, true)), (some []), []⟩, ⟨(some 49), .ixs (.t 43) (.t 48), (some (42, true)), (some []), []⟩, ⟨(some 50), .mv (.t 1), (some (42, true)), (some []), []⟩, ⟨(some 51), .mv (.t 1), (some (42, true)), (some []), []⟩, ⟨(some 52), .len true (.t 51), (some (42, true)), (some []), []⟩, ⟨(some 53), .bin .sub (.t 52) (.v (.int .i64 1)), (some (42, true)), (some []), []⟩, ⟨(some 54), .mv (.t 6), (some (42, true)), (some []), []⟩, ⟨(some 55), .bin .sub (.t 53) (.t 54), (some (42, true)), (some []), []⟩, ⟨(some 56), .ixs (.t 50) (.t 55), (some (42, true)), (some []), []⟩, ⟨(some 57), .bin .eql (.t 49) (.t 56), (some (42, true)), (some []), []⟩, ⟨(some 58), .pick (.t 42) (.t 57) (.v (.bool false)), none, (some []), []⟩])
  (.cond (.t 58) .skip (.exit 2)))
  (.block 3 (.reg [⟨(some 59), .mv (.t 6), none, none, []⟩, ⟨(some 60), .bin .add (.t 59) (.v (.int .i64 1)), none, none, []⟩, ⟨(some 6), .mv (.t 60), none, none, []⟩])))))
  (.seq (.reg [⟨(some 61), .mv (.t 1), none, none, []⟩, ⟨(some 62), .len true (.t 61), none, none, []⟩, ⟨(some 63), .mv (.t 5), none, none, []⟩, ⟨(some 64), .bin .sub (.t 62) (.t 63), none, none, []⟩, ⟨(some 65), .mv (.t 6), none, none, []⟩, ⟨(some 66), .bin .sub (.t 64) (.t 65), none, none, []⟩, ⟨(some 4), .mv (.t 66), none, none, []⟩])
  .ret))))))⟩
/-- pochoir/pochoirref08.Crc -/
def s32 : SFn :=
 ⟨33, [.tmp 2],
  (.seq (.reg [⟨(some 2), .mv (.v (.int .u32 0)), none, none, []⟩])
  (.seq (.reg [⟨(some 3), .mv (.v (.int .u32 4294967295)), none, none, []⟩])
  (.seq (.seq (.reg [⟨(some 4), .mv (.v (.int .i64 0)), none, none, []⟩])
  (.block 0 (.loop (.seq (.seq (.reg [⟨(some 7), .mv (.t 4), none, none, []⟩, ⟨(some 8), .mv (.t 0), none, none, []⟩, ⟨(some 9), .len true (.t 8), none, none, []⟩, ⟨(some 10), .bin .lss (.t 7) (.t 9), none, none, []⟩])
  (.cond (.t 10) .skip (.exit 0)))
  (.seq (.block 1 (.seq (.reg [⟨(some 13), .mv (.t 3), none, none, []⟩, ⟨(some 14), .mv (.t 0), none, none, []⟩, ⟨(some 15), .mv (.t 4), none, none, []⟩, ⟨(some 16), .ixs (.t 14) (.t 15), none, none, []⟩, ⟨(some 17), .conv .u32 (.t 16), none, none, []⟩, ⟨(some 18), .call 60 [(.t 13), (.t 17)], none, none, []⟩, ⟨(some 3), .mv (.t 18), none, none, []⟩])
  (.seq (.reg [⟨(some 5), .mv (.v (.int .i64 0)), none, none, []⟩])
  (.block 2 (.loop (.seq (.seq (.reg [⟨(some 19), .mv (.t 5), none, none, []⟩, ⟨(some 20), .bin .lss (.t 19) (.v (.int .i64 8)), none, none, []⟩])
  (.cond (.t 20) .skip (.exit 2)))
  (.seq (.block 3 (.seq (.reg [⟨(some 23), .mv (.t 3), none, none, []⟩, ⟨(some 24), .bin .rem (.t 23) (.v (.int .u32 2)), none, none, []⟩, ⟨(some 6), .mv (.t 24), none, none, []⟩])
  (.seq (.reg [⟨(some 25), .mv (.t 3), none, none, []⟩, ⟨(some 26), .bin .quo (.t 25) (.v (.int .u32 2)), none, none, []⟩, ⟨(some 3), .mv (.t 26), none, none, []⟩])
  (.seq (.reg [⟨(some 27), .mv (.t 6), none, none, []⟩, ⟨(some 28), .bin .eql (.t 27) (.v (.int .u32 1)), none, none, []⟩])
  (.cond (.t 28) (.reg [⟨(some 29), .mv (.t 3), none, none, []⟩, ⟨(some 30), .call 60 [(.t 29), (.v (.int .u32 3988292384))], none, none, []⟩, ⟨(some 3), .mv (.t 30), none, none, []⟩]) .skip)))))
  (.reg [⟨(some 21), .mv (.t 5), none, none, []⟩, ⟨(some 22), .bin .add (.t 21) (.v (.int .i64 1)), none, none, []⟩, ⟨(some 5), .mv (.t 22), none, none, []⟩]))))))))
  (.reg [⟨(some 11), .mv (.t 4), none, none, []⟩, ⟨(some 12), .bin .add (.t 11) (.v (.int .i64 1)), none, none, []⟩, ⟨(some 4), .mv (.t 12), none, none, []⟩]))))))
  (.seq (.reg [⟨(some 31), .mv (.t 3), none, none, []⟩, ⟨(some 32), .call 60 [(.t 31), (.v (.int .u32 4294967295))], none, none, []⟩, ⟨(some 2), .mv (.t 32), none, none, []⟩])
  .ret))))⟩
/-- pochoir/patch.alike -/
def s49 : SFn :=
 ⟨56, [.tmp 4, .tmp 5],
  (.seq (.reg [⟨(some 4), .mv (.v (.int .i64 0)), none, none, []⟩, ⟨(some 5), .mv (.v (.int .i64 0)), none, none, []⟩])
  (.seq (.reg [⟨(some 6), .mv (.v (.int .i64 0)), none, none, []⟩])
  (.seq (.block 0 (.loop (.seq (.seq (.regd [⟨(some 8), .mv (.t 6), none, (some []), []⟩, ⟨(some 9), .mv (.t 0), none, (some []), []⟩, ⟨(some 10), .len true (.t 9), none, (some []), []⟩, ⟨(some 11), .mv (.t 1), none, (some []), []⟩, ⟨(some 12), .len true (.t 11), none, (some []), []⟩, ⟨(some 13), .mnmx false [(.t 10), (.t 12)], none, (some []), []⟩, ⟨(some 14), .bin .lss (.t 8) (.t 13), none, (some []), []⟩, ⟨(some 15), .mv (.t 14), none, (some []), []⟩, ⟨(some 16), .mv (.t 0), (some (15, true)), (some []), []⟩, ⟨(some 17), .mv (.t 6), (some (15, true)), (some []), []⟩, ⟨(some 18), .ixs (.t 16) (.t 17), (some (15, true)), (some []), []⟩, ⟨(some 19), .mv (.t 1), (some (15, true)), (some []), []⟩, ⟨(some 20), .mv (.t 6), (some (15, true)), (some []), []⟩, ⟨(some 21), .ixs (.t 19) (.t 20), (some (15, true)), (some []), []⟩, ⟨(some 22), .bin .eql (.t 18) (.t 21), (some (15, true)), (some []), []⟩, ⟨(some 23), .pick (.t 15) (.t 22) (.v (.bool false)), none, (some []), []⟩])
  (.cond (.t 23) .skip (.exit 0)))
  (.block 1 (.reg [⟨(some 24), .mv (.t 6), none, none, []⟩, ⟨(some 25), .bin .add (.t 24) (.v (.int .i64 1)), none, none, []⟩, ⟨(some 6), .mv (.t 25), none, none, []⟩])))))
  (.seq (.reg [⟨(some 7), .mv (.v (.int .i64 0)), none, none, []⟩])
  (.seq (.block 2 (.loop (.seq (.seq (.regd [⟨(some 26), .mv (.t 7), none, (some []), []⟩, ⟨(some 27), .mv (.t 0), none, (some []), []⟩, ⟨(some 28), .len true (.t 27), none, (some []), []⟩, ⟨(some 29), .mv (.t 1), none, (some []), []⟩, ⟨(some 30), .len true (.t 29), none, (some []), []⟩, ⟨(some 31), .mnmx false [(.t 28), (.t 30)], none, (some []), []⟩, ⟨(some 32), .mv (.t 6), none, (some []), []⟩, ⟨(some 33), .bin .sub (.t 31) (.t 32), none, (some []), []⟩, ⟨(some 34), .bin .lss (.t 26) (.t 33), none, (some []), []⟩, ⟨(some 35), .mv (.t 34), none, (some []), []⟩, ⟨(some 36), .mv (.t 0), (some (35, true)), (some []), []⟩, ⟨(some 37), .mv (.t 0), (some (35, true)), (some []), []⟩, ⟨(some 38), .len true (.t 37), (some (35, true)), (some []), []⟩, ⟨(some 39), .bin .sub (.t 38) (.v (.int .i64 1)), (some (35, true)), (some []), []⟩, ⟨(some 40), .mv (.t 7), (some (35, true)), (some []), []⟩, ⟨(some 41), .bin .sub (.t 39) (.t 40), (some (35, true)), (some []), []⟩, ⟨(some 42), .ixs (.t 36) (.t 41), (some (35, true)), (some []), []⟩, ⟨(some 43), .mv (.t 1), (some (35, true)), (some []), []⟩, ⟨(some 44), .mv (.t 1), (some (35, true)), (some []), []⟩, ⟨(some 45), .len true (.t 44), (some (35, true)), (some []), []⟩, ⟨(some 46), .bin .sub (.t 45) (.v (.int .i64 1)), (some (35, true)), (some []), []⟩, ⟨(some 47), .mv (.t 7), (some (35, true)), (some []), []⟩, ⟨(some 48), .bin .sub (.t 46) (.t 47), (some (35, true)), (some []), []⟩, ⟨(some 49), .ixs (.t 43) (.t 48), (some (35, true)), (some []), []⟩, ⟨(some 50), .bin .eql (.t 42) (.t 49), (some (35, true)), (some []), []⟩, ⟨(some 51), .pick (.t 35) (.t 50) (.v (.bool false)), none, (some []), []⟩])
  (.cond (.t 51) .skip (.exit 2)))
  (.block 3 (.reg [⟨(some 52), .mv (.t 7), none, none, []⟩, ⟨(some 53), .bin .add (.t 52) (.v (.int .i64 1)), none, none, []⟩, ⟨(some 7), .mv (.t 53), none, none, []⟩])))))
  (.seq (.reg [⟨(some 54), .mv (.t 6), none, none, []⟩, ⟨(some 55), .mv (.t 7), none, none, []⟩, ⟨(some 4), .mv (.t 54), none, none, []⟩, ⟨(some 5), .mv (.t 55), none, none, []⟩])
  .ret))))))⟩
/-- pochoir/patch.p32 -/
def s50 : SFn :=
 ⟨6, [.tmp 2],
  (.seq (.reg [⟨(some 2), .mv (.v (.str ⟨#[]⟩)), none, none, []⟩])
  (.seq (.reg [⟨(some 3), .mv (.t 0), none, none, []⟩, ⟨(some 4), .conv .u32 (.t 3), none, none, []⟩, ⟨(some 5), .call 51 [(.t 4)], none, none, []⟩, ⟨(some 2), .mv (.t 5), none, none, []⟩])
  .ret))⟩
/-- pochoir/octet.P32 -/
def s51 : SFn :=
 ⟨11, [.tmp 2],
  (.seq (.reg [⟨(some 2), .mv (.v (.str ⟨#[]⟩)), none, none, []⟩])
  (.seq (.reg [⟨(some 3), .mv (.t 0), none, none, []⟩, ⟨(some 4), .bin .shr (.t 3) (.v (.int .u64 16)), none, none, []⟩, ⟨(some 5), .conv .u16 (.t 4), none, none, []⟩, ⟨(some 6), .call 81 [(.t 5)], none, none, []⟩, ⟨(some 7), .mv (.t 0), none, none, []⟩, ⟨(some 8), .conv .u16 (.t 7), none, none, []⟩, ⟨(some 9), .call 81 [(.t 8)], none, none, []⟩, ⟨(some 10), .bin .add (.t 6) (.t 9), none, none, []⟩, ⟨(some 2), .mv (.t 10), none, none, []⟩])
  .ret))⟩
/-- pochoir/sum.Crc -/
def s52 : SFn :=
 ⟨26, [.tmp 2],
  (.seq (.reg [⟨(some 2), .mv (.v (.int .u32 0)), none, none, []⟩])
  (.seq (.reg [⟨(some 6), .call 82 [], none, none, []⟩, ⟨(some 3), .box 133 (.v (.agg (List.replicate 256 (.int .u32 0)))), none, none, []⟩, ⟨none, .store 256 (.t 3) (.t 6), none, none, []⟩])
  (.seq (.reg [⟨(some 4), .mv (.v (.int .u32 4294967295)), none, none, []⟩])
  (.seq (.seq (.reg [⟨(some 7), .mv (.t 0), none, none, []⟩, ⟨(some 8), .len true (.t 7), none, none, []⟩, ⟨(some 9), .mv (.v (.int .i64 0)), none, none, []⟩])
  (.block 0 (.loop (.seq (.reg [⟨(some 10), .bin .lss (.t 9) (.t 8), none, none, []⟩])
  (.seq (.cond (.t 10) .skip (.exit 0))
  (.seq (.block 1 (.seq (.reg [⟨(some 11), .mv (.t 9), none, none, []⟩, ⟨(some 5), .mv (.t 11), none, none, []⟩])
  (.reg [⟨(some 12), .mv (.t 4), none, none, []⟩, ⟨(some 13), .bin .shr (.t 12) (.v (.int .u64 8)), none, none, []⟩, ⟨(some 14), .mv (.t 4), none, none, []⟩, ⟨(some 15), .conv .u8 (.t 14), none, none, []⟩, ⟨(some 16), .mv (.t 0), none, none, []⟩, ⟨(some 17), .mv (.t 5), none, none, []⟩, ⟨(some 18), .ixs (.t 16) (.t 17), none, none, []⟩, ⟨(some 19), .bin .xor (.t 15) (.t 18), none, none, []⟩, ⟨(some 20), .iarr 256 1 (.t 3) (.t 19), none, none, []⟩, ⟨(some 21), .load none (.t 20), none, none, []⟩, ⟨(some 22), .bin .xor (.t 13) (.t 21), none, none, []⟩, ⟨(some 4), .mv (.t 22), none, none, []⟩])))
  (.reg [⟨(some 23), .bin .add (.t 9) (.v (.int .i64 1)), none, none, []⟩, ⟨(some 9), .mv (.t 23), none, none, []⟩])))))))
  (.seq (.reg [⟨(some 24), .mv (.t 4), none, none, []⟩, ⟨(some 25), .un .xor (.t 24), none, none, []⟩, ⟨(some 2), .mv (.t 25), none, none, []⟩])
  .ret)))))⟩
/-- pochoir/patch.copied -/
def s53 : SFn :=
 ⟨15, [.tmp 4],
  (.seq (.reg [⟨(some 4), .mv (.v (.str ⟨#[]⟩)), none, none, []⟩])
  (.seq (.seq (.reg [⟨(some 5), .mv (.t 1), none, none, []⟩, ⟨(some 6), .bin .eql (.t 5) (.v (.int .i64 0)), none, none, []⟩])
  (.cond (.t 6) (.seq (.reg [⟨(some 4), .mv (.v (.str ⟨#[]⟩)), none, none, []⟩])
  .ret) .skip))
  (.seq (.regd [⟨(some 7), .bsl 5 [(.int .u8 0)] 1 1 [(0, 1, (.v (.int .u8 0)))], none, (some []), []⟩, ⟨(some 8), .b2s (.t 7), none, (some []), []⟩, ⟨(some 9), .mv (.t 0), none, (some [0]), []⟩, ⟨(some 10), .call 50 [(.t 9)], none, (some [0]), []⟩, ⟨(some 11), .bin .add (.t 8) (.t 10), none, (some []), []⟩, ⟨(some 12), .mv (.t 1), none, (some [0, 3]), []⟩, ⟨(some 13), .call 50 [(.t 12)], none, (some [0]), []⟩, ⟨(some 14), .bin .add (.t 11) (.t 13), none, (some []), []⟩, ⟨(some 4), .mv (.t 14), none, (some []), []⟩])
  .ret)))⟩
/-- pochoir/patch.given -/
def s54 : SFn :=
 ⟨13, [.tmp 2],
  (.seq (.reg [⟨(some 2), .mv (.v (.str ⟨#[]⟩)), none, none, []⟩])
  (.seq (.seq (.reg [⟨(some 3), .mv (.t 0), none, none, []⟩, ⟨(some 4), .bin .eql (.t 3) (.v (.str ⟨#[]⟩)), none, none, []⟩])
  (.cond (.t 4) (.seq (.reg [⟨(some 2), .mv (.v (.str ⟨#[]⟩)), none, none, []⟩])
  .ret) .skip))
  (.seq (.regd [⟨(some 5), .bsl 5 [(.int .u8 0)] 1 1 [(0, 1, (.v (.int .u8 1)))], none, (some []), []⟩, ⟨(some 6), .b2s (.t 5), none, (some []), []⟩, ⟨(some 7), .mv (.t 0), none, (some [0]), []⟩, ⟨(some 8), .len true (.t 7), none, (some [0]), []⟩, ⟨(some 9), .call 50 [(.t 8)], none, (some [0]), []⟩, ⟨(some 10), .bin .add (.t 6) (.t 9), none, (some []), []⟩, ⟨(some 11), .mv (.t 0), none, (some [0, 4]), []⟩, ⟨(some 12), .bin .add (.t 10) (.t 11), none, (some []), []⟩, ⟨(some 2), .mv (.t 12), none, (some []), []⟩])
  .ret)))⟩
/-- pochoir/patch.read -/
def s55 : SFn :=
 ⟨50, [.cell 2 (some 4), .tmp 3, .tmp 4, .tmp 5],
  (.seq (.reg [⟨(some 2), .box 92 (.v (.agg [(.int .u32 0), (.int .u32 0), (.int .u32 0), (.int .u32 0)])), none, none, []⟩, ⟨(some 3), .mv (.v .nils), none, none, []⟩, ⟨(some 4), .mv (.v (.int .i64 0)), none, none, []⟩, ⟨(some 5), .mv (.v (.int .i64 0)), none, none, []⟩])
  (.seq (.seq (.reg [⟨(some 11), .mv (.t 0), none, none, []⟩, ⟨(some 12), .len true (.t 11), none, none, []⟩, ⟨(some 13), .bin .lss (.t 12) (.v (.int .i64 16)), none, none, []⟩])
  (.cond (.t 13) (.seq (.reg [⟨(some 14), .build [(.int .u32 0), (.int .u32 0), (.int .u32 0), (.int .u32 0)] [], none, none, []⟩, ⟨none, .store 4 (.t 2) (.t 14), none, none, []⟩, ⟨(some 3), .mv (.v .nils), none, none, []⟩, ⟨(some 4), .mv (.v (.int .i64 3)), none, none, []⟩, ⟨(some 5), .mv (.v (.int .i64 0)), none, none, []⟩])
  .ret) .skip))
  (.seq (.reg [⟨(some 15), .mv (.t 0), none, none, []⟩, ⟨(some 16), .call 83 [(.t 15)], none, none, []⟩, ⟨(some 6), .mv (.t 16), none, none, []⟩])
  (.seq (.reg [⟨(some 17), .mv (.t 6), none, none, []⟩, ⟨(some 18), .call 84 [(.t 17)], none, none, []⟩, ⟨(some 19), .mv (.t 6), none, none, []⟩, ⟨(some 20), .call 84 [(.t 19)], none, none, []⟩, ⟨(some 21), .mv (.t 6), none, none, []⟩, ⟨(some 22), .call 84 [(.t 21)], none, none, []⟩, ⟨(some 23), .mv (.t 6), none, none, []⟩, ⟨(some 24), .call 84 [(.t 23)], none, none, []⟩, ⟨(some 25), .build [(.int .u32 0), (.int .u32 0), (.int .u32 0), (.int .u32 0)] [(0, 1, (.t 18)), (1, 1, (.t 20)), (2, 1, (.t 22)), (3, 1, (.t 24))], none, none, []⟩, ⟨(some 7), .box 92 (.v (.agg [(.int .u32 0), (.int .u32 0), (.int .u32 0), (.int .u32 0)])), none, none, []⟩, ⟨none, .store 4 (.t 7) (.t 25), none, none, []⟩])
  (.seq (.seq (.reg [⟨(some 26), .faddr 2 (.t 7), none, none, []⟩, ⟨(some 27), .load none (.t 26), none, none, []⟩, ⟨(some 28), .bin .gtr (.t 27) (.v (.int .u32 65536)), none, none, []⟩])
  (.cond (.t 28) (.seq (.reg [⟨(some 29), .build [(.int .u32 0), (.int .u32 0), (.int .u32 0), (.int .u32 0)] [], none, none, []⟩, ⟨none, .store 4 (.t 2) (.t 29), none, none, []⟩, ⟨(some 3), .mv (.v .nils), none, none, []⟩, ⟨(some 4), .mv (.v (.int .i64 6)), none, none, []⟩, ⟨(some 5), .mv (.v (.int .i64 0)), none, none, []⟩])
  .ret) .skip))
  (.seq (.reg [⟨(some 8), .mv (.v .nils), none, none, []⟩])
  (.seq (.block 0 (.loop (.seq (.seq (.reg [⟨(some 30), .mv (.t 6), none, none, []⟩, ⟨(some 31), .call 85 [(.t 30)], none, none, []⟩, ⟨(some 32), .bin .gtr (.t 31) (.v (.int .i64 0)), none, none, []⟩])
  (.cond (.t 32) .skip (.exit 0)))
  (.block 1 (.seq (.reg [⟨(some 34), .mv (.t 6), none, none, []⟩, ⟨(some 35), .mv (.t 0), none, none, []⟩, ⟨(some 36), .call 86 [(.t 34), (.t 35)], none, none, []⟩, ⟨(some 33), .mv (.t 36), none, none, []⟩, ⟨(some 37), .extract (.t 33) 0, none, none, []⟩, ⟨(some 38), .extract (.t 33) 1, none, none, []⟩, ⟨(some 9), .box 140 (.v (.agg [(.bool false), (.int .i64 0), (.int .i64 0), (.str ⟨#[]⟩)])), none, none, []⟩, ⟨none, .store 4 (.t 9) (.t 37), none, none, []⟩, ⟨(some 10), .mv (.t 38), none, none, []⟩])
  (.seq (.seq (.reg [⟨(some 39), .mv (.t 10), none, none, []⟩, ⟨(some 40), .bin .neq (.t 39) (.v (.int .i64 0)), none, none, []⟩])
  (.cond (.t 40) (.seq (.reg [⟨(some 41), .load (some 4) (.t 7), none, none, []⟩, ⟨(some 42), .mv (.t 8), none, none, []⟩, ⟨(some 43), .mv (.t 10), none, none, []⟩, ⟨none, .store 4 (.t 2) (.t 41), none, none, []⟩, ⟨(some 3), .mv (.t 42), none, none, []⟩, ⟨(some 4), .mv (.v (.int .i64 0)), none, none, []⟩, ⟨(some 5), .mv (.t 43), none, none, []⟩])
  .ret) .skip))
  (.reg [⟨(some 44), .mv (.t 8), none, none, []⟩, ⟨(some 45), .load (some 4) (.t 9), none, none, []⟩, ⟨(some 46), .bsl 140 [(.bool false), (.int .i64 0), (.int .i64 0), (.str ⟨#[]⟩)] 1 4 [(0, 4, (.t 45))], none, none, []⟩, ⟨(some 47), .app 140 4 (.t 44) (.t 46), none, none, []⟩, ⟨(some 8), .mv (.t 47), none, none, []⟩])))))))
  (.seq (.reg [⟨(some 48), .load (some 4) (.t 7), none, none, []⟩, ⟨(some 49), .mv (.t 8), none, none, []⟩, ⟨none, .store 4 (.t 2) (.t 48), none, none, []⟩, ⟨(some 3), .mv (.t 49), none, none, []⟩, ⟨(some 4), .mv (.v (.int .i64 0)), none, none, []⟩, ⟨(some 5), .mv (.v (.int .i64 0)), none, none, []⟩])
  .ret))))))))⟩
/-- pochoir/patch.made -/
def s56 : SFn :=
 ⟨40, [.tmp 6, .tmp 7],
  (.seq (.reg [⟨(some 6), .mv (.v (.str ⟨#[]⟩)), none, none, []⟩, ⟨(some 7), .mv (.v (.int .i64 0)), none, none, []⟩])
  (.seq (.reg [⟨(some 8), .box 145 (.v (.agg [.nilp, .nils])), none, none, []⟩])
  (.seq (.seq (.reg [⟨(some 13), .mv (.t 1), none, none, []⟩, ⟨(some 14), .len false (.t 13), none, none, []⟩, ⟨(some 15), .mv (.v (.int .i64 0)), none, none, []⟩])
  (.block 0 (.loop (.seq (.reg [⟨(some 16), .bin .lss (.t 15) (.t 14), none, none, []⟩])
  (.seq (.cond (.t 16) .skip (.exit 0))
  (.seq (.block 1 (.seq (.reg [⟨(some 17), .iaddr 4 (.t 13) (.t 15), none, none, []⟩, ⟨(some 18), .load (some 4) (.t 17), none, none, []⟩, ⟨(some 10), .box 140 (.v (.agg [(.bool false), (.int .i64 0), (.int .i64 0), (.str ⟨#[]⟩)])), none, none, []⟩, ⟨none, .store 4 (.t 10) (.t 18), none, none, []⟩])
  (.seq (.reg [⟨(some 20), .load (some 4) (.t 10), none, none, []⟩, ⟨(some 21), .mv (.t 0), none, none, []⟩, ⟨(some 22), .call 87 [(.t 20), (.t 21)], none, none, []⟩, ⟨(some 19), .mv (.t 22), none, none, []⟩, ⟨(some 23), .extract (.t 19) 0, none, none, []⟩, ⟨(some 24), .extract (.t 19) 1, none, none, []⟩, ⟨(some 11), .mv (.t 23), none, none, []⟩, ⟨(some 12), .mv (.t 24), none, none, []⟩])
  (.seq (.block 2 (.seq (.reg [⟨(some 26), .mv (.t 12), none, none, []⟩, ⟨(some 27), .bin .neq (.t 26) (.v (.int .i64 0)), none, none, []⟩, ⟨(some 25), .mv (.t 27), none, none, []⟩])
  (.cond (.t 25) (.seq (.reg [⟨(some 28), .mv (.t 12), none, none, []⟩, ⟨(some 6), .mv (.v (.str ⟨#[]⟩)), none, none, []⟩, ⟨(some 7), .mv (.t 28), none, none, []⟩])
  .ret) (.seq (.reg [⟨(some 30), .call 88 [(.t 8)], none, none, []⟩, ⟨(some 31), .mv (.t 11), none, none, []⟩, ⟨(some 32), .len true (.t 31), none, none, []⟩, ⟨(some 33), .bin .add (.t 30) (.t 32), none, none, []⟩, ⟨(some 34), .mv (.t 2), none, none, []⟩, ⟨(some 35), .bin .gtr (.t 33) (.t 34), none, none, []⟩, ⟨(some 29), .mv (.t 35), none, none, []⟩])
  (.cond (.t 29) (.seq (.reg [⟨(some 6), .mv (.v (.str ⟨#[]⟩)), none, none, []⟩, ⟨(some 7), .mv (.v (.int .i64 6)), none, none, []⟩])
  .ret) .skip)))))
  (.reg [⟨(some 36), .mv (.t 11), none, none, []⟩, ⟨(some 37), .call 89 [(.t 8), (.t 36)], none, none, []⟩])))))
  (.reg [⟨(some 38), .bin .add (.t 15) (.v (.int .i64 1)), none, none, []⟩, ⟨(some 15), .mv (.t 38), none, none, []⟩])))))))
  (.seq (.reg [⟨(some 39), .call 90 [(.t 8)], none, none, []⟩, ⟨(some 6), .mv (.t 39), none, none, []⟩, ⟨(some 7), .mv (.v (.int .i64 0)), none, none, []⟩])
  .ret))))⟩
/-- pochoir/pochoirref42.u32 -/
def s57 : SFn :=
 ⟨15, [.tmp 4],
  (.seq (.reg [⟨(some 4), .mv (.v (.int .i64 0)), none, none, []⟩])
  (.seq (.reg [⟨(some 8), .mv (.t 0), none, none, []⟩, ⟨(some 9), .mv (.t 1), none, none, []⟩, ⟨(some 10), .call 91 [(.t 8), (.t 9)], none, none, []⟩, ⟨(some 7), .mv (.t 10), none, none, []⟩, ⟨(some 11), .extract (.t 7) 0, none, none, []⟩, ⟨(some 12), .extract (.t 7) 1, none, none, []⟩, ⟨(some 5), .mv (.t 11), none, none, []⟩, ⟨(some 6), .mv (.t 12), none, none, []⟩])
  (.seq (.reg [⟨(some 13), .mv (.t 5), none, none, []⟩, ⟨(some 14), .conv .i64 (.t 13), none, none, []⟩, ⟨(some 4), .mv (.t 14), none, none, []⟩])
  .ret)))⟩
/-- pochoir/pochoirref42.Step -/
def s58 : SFn :=
 ⟨61, [.tmp 4, .tmp 5, .tmp 6, .tmp 7, .tmp 8],
  (.seq (.reg [⟨(some 4), .mv (.v (.bool false)), none, none, []⟩, ⟨(some 5), .mv (.v (.int .i64 0)), none, none, []⟩, ⟨(some 6), .mv (.v (.int .i64 0)), none, none, []⟩, ⟨(some 7), .mv (.v (.int .i64 0)), none, none, []⟩, ⟨(some 8), .mv (.v (.int .i64 0)), none, none, []⟩])
  (.seq (.seq (.reg [⟨(some 12), .mv (.t 0), none, none, []⟩, ⟨(some 13), .mv (.t 1), none, none, []⟩, ⟨(some 14), .ixs (.t 12) (.t 13), none, none, []⟩, ⟨(some 15), .bin .gtr (.t 14) (.v (.int .u8 1)), none, none, []⟩])
  (.cond (.t 15) (.seq (.reg [⟨(some 4), .mv (.v (.bool false)), none, none, []⟩, ⟨(some 5), .mv (.v (.int .i64 0)), none, none, []⟩, ⟨(some 6), .mv (.v (.int .i64 0)), none, none, []⟩, ⟨(some 7), .mv (.v (.int .i64 0)), none, none, []⟩, ⟨(some 8), .mv (.v (.int .i64 4)), none, none, []⟩])
  .ret) .skip))
  (.seq (.reg [⟨(some 16), .mv (.t 0), none, none, []⟩, ⟨(some 17), .mv (.t 1), none, none, []⟩, ⟨(some 18), .ixs (.t 16) (.t 17), none, none, []⟩, ⟨(some 19), .bin .eql (.t 18) (.v (.int .u8 0)), none, none, []⟩, ⟨(some 9), .mv (.t 19), none, none, []⟩])
  (.seq (.reg [⟨(some 10), .mv (.v (.int .i64 5)), none, none, []⟩])
  (.seq (.seq (.reg [⟨(some 20), .mv (.t 9), none, none, []⟩])
  (.cond (.t 20) (.reg [⟨(some 10), .mv (.v (.int .i64 9)), none, none, []⟩]) .skip))
  (.seq (.seq (.reg [⟨(some 21), .mv (.t 0), none, none, []⟩, ⟨(some 22), .len true (.t 21), none, none, []⟩, ⟨(some 23), .mv (.t 1), none, none, []⟩, ⟨(some 24), .bin .sub (.t 22) (.t 23), none, none, []⟩, ⟨(some 25), .mv (.t 10), none, none, []⟩, ⟨(some 26), .bin .lss (.t 24) (.t 25), none, none, []⟩])
  (.cond (.t 26) (.seq (.reg [⟨(some 4), .mv (.v (.bool false)), none, none, []⟩, ⟨(some 5), .mv (.v (.int .i64 0)), none, none, []⟩, ⟨(some 6), .mv (.v (.int .i64 0)), none, none, []⟩, ⟨(some 7), .mv (.v (.int .i64 0)), none, none, []⟩, ⟨(some 8), .mv (.v (.int .i64 3)), none, none, []⟩])
  .ret) .skip))
  (.seq (.reg [⟨(some 27), .mv (.t 0), none, none, []⟩, ⟨(some 28), .mv (.t 1), none, none, []⟩, ⟨(some 29), .mv (.t 10), none, none, []⟩, ⟨(some 30), .bin .add (.t 28) (.t 29), none, none, []⟩, ⟨(some 31), .bin .sub (.t 30) (.v (.int .i64 4)), none, none, []⟩, ⟨(some 32), .call 57 [(.t 27), (.t 31)], none, none, []⟩, ⟨(some 11), .mv (.t 32), none, none, []⟩])
  (.seq (.seq (.reg [⟨(some 33), .mv (.t 11), none, none, []⟩, ⟨(some 34), .bin .eql (.t 33) (.v (.int .i64 0)), none, none, []⟩])
  (.cond (.t 34) (.seq (.reg [⟨(some 4), .mv (.v (.bool false)), none, none, []⟩, ⟨(some 5), .mv (.v (.int .i64 0)), none, none, []⟩, ⟨(some 6), .mv (.v (.int .i64 0)), none, none, []⟩, ⟨(some 7), .mv (.v (.int .i64 0)), none, none, []⟩, ⟨(some 8), .mv (.v (.int .i64 4)), none, none, []⟩])
  .ret) .skip))
  (.seq (.seq (.reg [⟨(some 35), .mv (.t 9), none, none, []⟩])
  (.cond (.t 35) (.seq (.reg [⟨(some 36), .mv (.t 0), none, none, []⟩, ⟨(some 37), .mv (.t 1), none, none, []⟩, ⟨(some 38), .bin .add (.t 37) (.v (.int .i64 1)), none, none, []⟩, ⟨(some 39), .call 57 [(.t 36), (.t 38)], none, none, []⟩, ⟨(some 40), .mv (.t 11), none, none, []⟩, ⟨(some 41), .mv (.t 1), none, none, []⟩, ⟨(some 42), .mv (.t 10), none, none, []⟩, ⟨(some 43), .bin .add (.t 41) (.t 42), none, none, []⟩, ⟨(some 4), .mv (.v (.bool true)), none, none, []⟩, ⟨(some 5), .mv (.t 39), none, none, []⟩, ⟨(some 6), .mv (.t 40), none, none, []⟩, ⟨(some 7), .mv (.t 43), none, none, []⟩, ⟨(some 8), .mv (.v (.int .i64 0)), none, none, []⟩])
  .ret) .skip))
  (.seq (.seq (.reg [⟨(some 44), .mv (.t 11), none, none, []⟩, ⟨(some 45), .mv (.t 0), none, none, []⟩, ⟨(some 46), .len true (.t 45), none, none, []⟩, ⟨(some 47), .mv (.t 1), none, none, []⟩, ⟨(some 48), .bin .sub (.t 46) (.t 47), none, none, []⟩, ⟨(some 49), .mv (.t 10), none, none, []⟩, ⟨(some 50), .bin .sub (.t 48) (.t 49), none, none, []⟩, ⟨(some 51), .bin .gtr (.t 44) (.t 50), none, none, []⟩])
  (.cond (.t 51) (.seq (.reg [⟨(some 4), .mv (.v (.bool false)), none, none, []⟩, ⟨(some 5), .mv (.v (.int .i64 0)), none, none, []⟩, ⟨(some 6), .mv (.v (.int .i64 0)), none, none, []⟩, ⟨(some 7), .mv (.v (.int .i64 0)), none, none, []⟩, ⟨(some 8), .mv (.v (.int .i64 3)), none, none, []⟩])
  .ret) .skip))
  (.seq (.reg [⟨(some 52), .mv (.t 1), none, none, []⟩, ⟨(some 53), .mv (.t 10), none, none, []⟩, ⟨(some 54), .bin .add (.t 52) (.t 53), none, none, []⟩, ⟨(some 55), .mv (.t 11), none, none, []⟩, ⟨(some 56), .mv (.t 1), none, none, []⟩, ⟨(some 57), .mv (.t 10), none, none, []⟩, ⟨(some 58), .bin .add (.t 56) (.t 57), none, none, []⟩, ⟨(some 59), .mv (.t 11), none, none, []⟩, ⟨(some 60), .bin .add (.t 58) (.t 59), none, none, []⟩, ⟨(some 4), .mv (.v (.bool false)), none, none, []⟩, ⟨(some 5), .mv (.t 54), none, none, []⟩, ⟨(some 6), .mv (.t 55), none, none, []⟩, ⟨(some 7), .mv (.t 60), none, none, []⟩, ⟨(some 8), .mv (.v (.int .i64 0)), none, none, []⟩])
  .ret)))))))))))⟩
/-- pochoir/pochoirref07.Cut -/
def s59 : SFn :=
 ⟨34, [.tmp 6, .tmp 7],
  (.seq (.reg [⟨(some 6), .mv (.v (.str ⟨#[]⟩)), none, none, []⟩, ⟨(some 7), .mv (.v (.int .i64 0)), none, none, []⟩])
  (.seq (.seq (.reg [⟨(some 8), .mv (.t 1), none, none, []⟩, ⟨(some 9), .bin .lss (.t 8) (.v (.int .i64 0)), none, none, []⟩, ⟨(some 10), .mv (.t 9), none, none, []⟩, ⟨(some 11), .mv (.t 2), (some (10, false)), none, []⟩, ⟨(some 12), .bin .lss (.t 11) (.v (.int .i64 0)), (some (10, false)), none, []⟩, ⟨(some 13), .pick (.t 10) (.v (.bool true)) (.t 12), none, none, []⟩, ⟨(some 14), .mv (.t 13), none, none, []⟩, ⟨(some 15), .mv (.t 1), (some (14, false)), none, []⟩, ⟨(some 16), .mv (.t 0), (some (14, false)), none, []⟩, ⟨(some 17), .len true (.t 16), (some (14, false)), none, []⟩, ⟨(some 18), .bin .gtr (.t 15) (.t 17), (some (14, false)), none, []⟩, ⟨(some 19), .pick (.t 14) (.v (.bool true)) (.t 18), none, none, []⟩, ⟨(some 20), .mv (.t 19), none, none, []⟩, ⟨(some 21), .mv (.t 2), (some (20, false)), none, []⟩, ⟨(some 22), .mv (.t 0), (some (20, false)), none, []⟩, ⟨(some 23), .len true (.t 22), (some (20, false)), none, []⟩, ⟨(some 24), .mv (.t 1), (some (20, false)), none, []⟩, ⟨(some 25), .bin .sub (.t 23) (.t 24), (some (20, false)), none, []⟩, ⟨(some 26), .bin .gtr (.t 21) (.t 25), (some (20, false)), none, []⟩, ⟨(some 27), .pick (.t 20) (.v (.bool true)) (.t 26), none, none, []⟩])
  (.cond (.t 27) (.seq (.reg [⟨(some 6), .mv (.v (.str ⟨#[]⟩)), none, none, []⟩, ⟨(some 7), .mv (.v (.int .i64 3)), none, none, []⟩])
  .ret) .skip))
  (.seq (.reg [⟨(some 28), .mv (.t 0), none, none, []⟩, ⟨(some 29), .mv (.t 1), none, none, []⟩, ⟨(some 30), .mv (.t 1), none, none, []⟩, ⟨(some 31), .mv (.t 2), none, none, []⟩, ⟨(some 32), .bin .add (.t 30) (.t 31), none, none, []⟩, ⟨(some 33), .slstr (.t 28) (some (.t 29)) (some (.t 32)), none, none, []⟩, ⟨(some 6), .mv (.t 33), none, none, []⟩, ⟨(some 7), .mv (.v (.int .i64 0)), none, none, []⟩])
  .ret)))⟩
/-- pochoir/pochoirref08.xor -/
def s60 : SFn :=
 ⟨25, [.tmp 4],
  (.seq (.reg [⟨(some 4), .mv (.v (.int .u32 0)), none, none, []⟩])
  (.seq (.reg [⟨(some 5), .mv (.v (.int .u32 0)), none, none, []⟩])
  (.seq (.seq (.reg [⟨(some 6), .mv (.v (.int .i64 0)), none, none, []⟩])
  (.block 0 (.loop (.seq (.seq (.reg [⟨(some 7), .mv (.t 6), none, none, []⟩, ⟨(some 8), .bin .lss (.t 7) (.v (.int .i64 32)), none, none, []⟩])
  (.cond (.t 8) .skip (.exit 0)))
  (.seq (.block 1 (.seq (.regd [⟨(some 11), .mv (.t 0), none, (some []), []⟩, ⟨(some 12), .mv (.t 6), none, (some []), []⟩, ⟨(some 13), .bin .shr (.t 11) (.t 12), none, (some []), []⟩, ⟨(some 14), .bin .rem (.t 13) (.v (.int .u32 2)), none, (some []), []⟩, ⟨(some 15), .mv (.t 1), none, (some []), []⟩, ⟨(some 16), .mv (.t 6), none, (some []), []⟩, ⟨(some 17), .bin .shr (.t 15) (.t 16), none, (some []), []⟩, ⟨(some 18), .bin .rem (.t 17) (.v (.int .u32 2)), none, (some []), []⟩, ⟨(some 19), .bin .neq (.t 14) (.t 18), none, (some []), []⟩])
  (.cond (.t 19) (.reg [⟨(some 20), .mv (.t 5), none, none, []⟩, ⟨(some 21), .mv (.t 6), none, none, []⟩, ⟨(some 22), .bin .shl (.v (.int .u32 1)) (.t 21), none, none, []⟩, ⟨(some 23), .bin .add (.t 20) (.t 22), none, none, []⟩, ⟨(some 5), .mv (.t 23), none, none, []⟩]) .skip)))
  (.reg [⟨(some 9), .mv (.t 6), none, none, []⟩, ⟨(some 10), .bin .add (.t 9) (.v (.int .i64 1)), none, none, []⟩, ⟨(some 6), .mv (.t 10), none, none, []⟩]))))))
  (.seq (.reg [⟨(some 24), .mv (.t 5), none, none, []⟩, ⟨(some 4), .mv (.t 24), none, none, []⟩])
  .ret))))⟩
/-- pochoir/octet.P16 -/
def s81 : SFn :=
 ⟨10, [.tmp 2],
  (.seq (.reg [⟨(some 2), .mv (.v (.str ⟨#[]⟩)), none, none, []⟩])
  (.seq (.reg [⟨(some 3), .mv (.t 0), none, none, []⟩, ⟨(some 4), .bin .shr (.t 3) (.v (.int .u64 8)), none, none, []⟩, ⟨(some 5), .conv .u8 (.t 4), none, none, []⟩, ⟨(some 6), .mv (.t 0), none, none, []⟩, ⟨(some 7), .conv .u8 (.t 6), none, none, []⟩, ⟨(some 8), .bsl 5 [(.int .u8 0), (.int .u8 0)] 2 1 [(0, 1, (.t 5)), (1, 1, (.t 7))], none, none, []⟩, ⟨(some 9), .b2s (.t 8), none, none, []⟩, ⟨(some 2), .mv (.t 9), none, none, []⟩])
  .ret))⟩
/-- pochoir/sum.table -/
def s82 : SFn :=
 ⟨13, [.cell 0 (some 256)],
  (.seq (.reg [⟨(some 0), .box 133 (.v (.agg (List.replicate 256 (.int .u32 0)))), none, none, []⟩])
  (.seq (.reg [⟨(some 1), .box 133 (.v (.agg (List.replicate 256 (.int .u32 0)))), none, none, []⟩])
  (.seq (.seq (.reg [⟨(some 3), .mv (.v (.int .i64 0)), none, none, []⟩])
  (.block 0 (.loop (.seq (.reg [⟨(some 4), .bin .lss (.t 3) (.v (.int .i64 256)), none, none, []⟩])
  (.seq (.cond (.t 4) .skip (.exit 0))
  (.seq (.block 1 (.seq (.reg [⟨(some 5), .mv (.t 3), none, none, []⟩, ⟨(some 2), .mv (.t 5), none, none, []⟩])
  (.reg [⟨(some 6), .mv (.t 2), none, none, []⟩, ⟨(some 7), .mv (.t 2), none, none, []⟩, ⟨(some 8), .conv .u32 (.t 7), none, none, []⟩, ⟨(some 9), .call 105 [(.t 8), (.v (.int .i64 8))], none, none, []⟩, ⟨(some 10), .iarr 256 1 (.t 1) (.t 6), none, none, []⟩, ⟨none, .store 1 (.t 10) (.t 9), none, none, []⟩])))
  (.reg [⟨(some 11), .bin .add (.t 3) (.v (.int .i64 1)), none, none, []⟩, ⟨(some 3), .mv (.t 11), none, none, []⟩])))))))
  (.seq (.reg [⟨(some 12), .load (some 256) (.t 1), none, none, []⟩, ⟨none, .store 256 (.t 0) (.t 12), none, none, []⟩])
  .ret))))⟩
/-- pochoir/octet.New -/
def s83 : SFn :=
 ⟨6, [.tmp 2],
  (.seq (.reg [⟨(some 2), .mv (.v .nilp), none, none, []⟩])
  (.seq (.reg [⟨(some 3), .mv (.t 0), none, none, []⟩, ⟨(some 4), .build [(.str ⟨#[]⟩), (.int .i64 0), (.bool false)] [(0, 1, (.t 3))], none, none, []⟩, ⟨(some 5), .box 163 (.t 4), none, none, []⟩, ⟨(some 2), .mv (.t 5), none, none, []⟩])
  .ret))⟩
/-- (*pochoir/octet.Reader).U32 -/
def s84 : SFn :=
 ⟨6, [.tmp 2],
  (.seq (.reg [⟨(some 2), .mv (.v (.int .u32 0)), none, none, []⟩])
  (.seq (.reg [⟨(some 3), .mv (.t 0), none, none, []⟩, ⟨(some 4), .call 107 [(.t 3), (.v (.int .i64 4))], none, none, []⟩, ⟨(some 5), .call 106 [(.t 4)], none, none, []⟩, ⟨(some 2), .mv (.t 5), none, none, []⟩])
  .ret))⟩
/-- (*pochoir/octet.Reader).Left -/
def s85 : SFn :=
 ⟨15, [.tmp 2],
  (.seq (.reg [⟨(some 2), .mv (.v (.int .i64 0)), none, none, []⟩])
  (.seq (.seq (.reg [⟨(some 3), .mv (.t 0), none, none, []⟩, ⟨(some 4), .eqs 1 [] false (.t 3) (.v .nilp), none, none, []⟩])
  (.cond (.t 4) (.seq (.reg [⟨(some 2), .mv (.v (.int .i64 0)), none, none, []⟩])
  .ret) .skip))
  (.seq (.regd [⟨(some 5), .mv (.t 0), none, (some []), []⟩, ⟨(some 6), .nilck (.t 5), none, (some []), []⟩, ⟨(some 7), .faddr 0 (.t 6), none, (some []), []⟩, ⟨(some 8), .load none (.t 7), none, (some []), []⟩, ⟨(some 9), .len true (.t 8), none, (some []), []⟩, ⟨(some 10), .mv (.t 0), none, (some []), []⟩, ⟨(some 11), .nilck (.t 10), none, (some []), []⟩, ⟨(some 12), .faddr 1 (.t 11), none, (some []), []⟩, ⟨(some 13), .load none (.t 12), none, (some []), []⟩, ⟨(some 14), .bin .sub (.t 9) (.t 13), none, (some []), []⟩, ⟨(some 2), .mv (.t 14), none, (some []), []⟩])
  .ret)))⟩
/-- pochoir/patch.next -/
def s86 : SFn :=
 ⟨61, [.cell 4 (some 4), .tmp 5],
  (.seq (.reg [⟨(some 4), .box 140 (.v (.agg [(.bool false), (.int .i64 0), (.int .i64 0), (.str ⟨#[]⟩)])), none, none, []⟩, ⟨(some 5), .mv (.v (.int .i64 0)), none, none, []⟩])
  (.seq (.reg [⟨(some 11), .mv (.t 0), none, none, []⟩, ⟨(some 12), .call 108 [(.t 11)], none, none, []⟩, ⟨(some 6), .mv (.t 12), none, none, []⟩])
  (.seq (.seq (.reg [⟨(some 13), .mv (.t 6), none, none, []⟩, ⟨(some 14), .bin .gtr (.t 13) (.v (.int .u8 1)), none, none, []⟩])
  (.cond (.t 14) (.seq (.reg [⟨(some 15), .build [(.bool false), (.int .i64 0), (.int .i64 0), (.str ⟨#[]⟩)] [], none, none, []⟩, ⟨none, .store 4 (.t 4) (.t 15), none, none, []⟩, ⟨(some 5), .mv (.v (.int .i64 4)), none, none, []⟩])
  .ret) .skip))
  (.seq (.reg [⟨(some 16), .mv (.t 6), none, none, []⟩, ⟨(some 17), .bin .eql (.t 16) (.v (.int .u8 0)), none, none, []⟩, ⟨(some 18), .build [(.bool false), (.int .i64 0), (.int .i64 0), (.str ⟨#[]⟩)] [(0, 1, (.t 17))], none, none, []⟩, ⟨(some 7), .box 140 (.v (.agg [(.bool false), (.int .i64 0), (.int .i64 0), (.str ⟨#[]⟩)])), none, none, []⟩, ⟨none, .store 4 (.t 7) (.t 18), none, none, []⟩])
  (.seq (.seq (.reg [⟨(some 19), .faddr 0 (.t 7), none, none, []⟩, ⟨(some 20), .load none (.t 19), none, none, []⟩])
  (.cond (.t 20) (.reg [⟨(some 21), .mv (.t 0), none, none, []⟩, ⟨(some 22), .call 84 [(.t 21)], none, none, []⟩, ⟨(some 23), .conv .i64 (.t 22), none, none, []⟩, ⟨(some 24), .faddr 1 (.t 7), none, none, []⟩, ⟨none, .store 1 (.t 24) (.t 23), none, none, []⟩]) .skip))
  (.seq (.reg [⟨(some 25), .mv (.t 0), none, none, []⟩, ⟨(some 26), .call 84 [(.t 25)], none, none, []⟩, ⟨(some 27), .conv .i64 (.t 26), none, none, []⟩, ⟨(some 28), .faddr 2 (.t 7), none, none, []⟩, ⟨none, .store 1 (.t 28) (.t 27), none, none, []⟩])
  (.seq (.block 0 (.seq (.reg [⟨(some 30), .mv (.t 0), none, none, []⟩, ⟨(some 31), .call 109 [(.t 30)], none, none, []⟩, ⟨(some 32), .bin .neq (.t 31) (.v (.int .i64 0)), none, none, []⟩, ⟨(some 29), .mv (.t 32), none, none, []⟩])
  (.cond (.t 29) (.seq (.reg [⟨(some 33), .build [(.bool false), (.int .i64 0), (.int .i64 0), (.str ⟨#[]⟩)] [], none, none, []⟩, ⟨none, .store 4 (.t 4) (.t 33), none, none, []⟩, ⟨(some 5), .mv (.v (.int .i64 3)), none, none, []⟩])
  .ret) (.seq (.reg [⟨(some 35), .faddr 2 (.t 7), none, none, []⟩, ⟨(some 36), .load none (.t 35), none, none, []⟩, ⟨(some 37), .bin .eql (.t 36) (.v (.int .i64 0)), none, none, []⟩, ⟨(some 34), .mv (.t 37), none, none, []⟩])
  (.cond (.t 34) (.seq (.reg [⟨(some 38), .build [(.bool false), (.int .i64 0), (.int .i64 0), (.str ⟨#[]⟩)] [], none, none, []⟩, ⟨none, .store 4 (.t 4) (.t 38), none, none, []⟩, ⟨(some 5), .mv (.v (.int .i64 4)), none, none, []⟩])
  .ret) (.seq (.reg [⟨(some 40), .faddr 0 (.t 7), none, none, []⟩, ⟨(some 41), .load none (.t 40), none, none, []⟩, ⟨(some 39), .mv (.t 41), none, none, []⟩])
  (.cond (.t 39) (.seq (.reg [⟨(some 42), .load (some 4) (.t 7), none, none, []⟩, ⟨none, .store 4 (.t 4) (.t 42), none, none, []⟩, ⟨(some 5), .mv (.v (.int .i64 0)), none, none, []⟩])
  .ret) .skip)))))))
  (.seq (.reg [⟨(some 43), .mv (.t 0), none, none, []⟩, ⟨(some 44), .call 110 [(.t 43)], none, none, []⟩, ⟨(some 8), .mv (.t 44), none, none, []⟩])
  (.seq (.reg [⟨(some 45), .mv (.t 0), none, none, []⟩, ⟨(some 46), .faddr 2 (.t 7), none, none, []⟩, ⟨(some 47), .load none (.t 46), none, none, []⟩, ⟨(some 48), .call 111 [(.t 45), (.t 47)], none, none, []⟩])
  (.seq (.reg [⟨(some 50), .mv (.t 1), none, none, []⟩, ⟨(some 51), .mv (.t 8), none, none, []⟩, ⟨(some 52), .faddr 2 (.t 7), none, none, []⟩, ⟨(some 53), .load none (.t 52), none, none, []⟩, ⟨(some 54), .call 112 [(.t 50), (.t 51), (.t 53)], none, none, []⟩, ⟨(some 49), .mv (.t 54), none, none, []⟩, ⟨(some 55), .extract (.t 49) 0, none, none, []⟩, ⟨(some 56), .extract (.t 49) 1, none, none, []⟩, ⟨(some 9), .mv (.t 55), none, none, []⟩, ⟨(some 10), .mv (.t 56), none, none, []⟩])
  (.seq (.reg [⟨(some 57), .mv (.t 9), none, none, []⟩, ⟨(some 58), .faddr 3 (.t 7), none, none, []⟩, ⟨none, .store 1 (.t 58) (.t 57), none, none, []⟩])
  (.seq (.reg [⟨(some 59), .load (some 4) (.t 7), none, none, []⟩, ⟨(some 60), .mv (.t 10), none, none, []⟩, ⟨none, .store 4 (.t 4) (.t 59), none, none, []⟩, ⟨(some 5), .mv (.t 60), none, none, []⟩])
  .ret))))))))))))⟩
/-- (pochoir/patch.step).bytes -/
def s87 : SFn :=
 ⟨18, [.tmp 4, .tmp 5],
  (.seq (.reg [⟨(some 2), .box 140 (.t 0), none, none, []⟩, ⟨(some 4), .mv (.v (.str ⟨#[]⟩)), none, none, []⟩, ⟨(some 5), .mv (.v (.int .i64 0)), none, none, []⟩])
  (.seq (.seq (.reg [⟨(some 6), .faddr 0 (.t 2), none, none, []⟩, ⟨(some 7), .load none (.t 6), none, none, []⟩])
  (.cond (.t 7) (.seq (.reg [⟨(some 8), .mv (.t 1), none, none, []⟩, ⟨(some 9), .faddr 1 (.t 2), none, none, []⟩, ⟨(some 10), .load none (.t 9), none, none, []⟩, ⟨(some 11), .faddr 2 (.t 2), none, none, []⟩, ⟨(some 12), .load none (.t 11), none, none, []⟩, ⟨(some 13), .call 112 [(.t 8), (.t 10), (.t 12)], none, none, []⟩, ⟨(some 14), .extract (.t 13) 0, none, none, []⟩, ⟨(some 15), .extract (.t 13) 1, none, none, []⟩, ⟨(some 4), .mv (.t 14), none, none, []⟩, ⟨(some 5), .mv (.t 15), none, none, []⟩])
  .ret) .skip))
  (.seq (.reg [⟨(some 16), .faddr 3 (.t 2), none, none, []⟩, ⟨(some 17), .load none (.t 16), none, none, []⟩, ⟨(some 4), .mv (.t 17), none, none, []⟩, ⟨(some 5), .mv (.v (.int .i64 0)), none, none, []⟩])
  .ret)))⟩
/-- (*strings.Builder).Len -/
def s88 : SFn :=
 ⟨8, [.tmp 2],
  (.seq (.reg [⟨(some 2), .mv (.v (.int .i64 0)), none, none, []⟩])
  (.seq (.reg [⟨(some 3), .mv (.t 0), none, none, []⟩, ⟨(some 4), .nilck (.t 3), none, none, []⟩, ⟨(some 5), .faddr 1 (.t 4), none, none, []⟩, ⟨(some 6), .load none (.t 5), none, none, []⟩, ⟨(some 7), .len false (.t 6), none, none, []⟩, ⟨(some 2), .mv (.t 7), none, none, []⟩])
  .ret))⟩
/-- (*strings.Builder).WriteString -/
def s89 : SFn :=
 ⟨19, [.tmp 4, .tmp 5],
  (.seq (.reg [⟨(some 4), .mv (.v (.int .i64 0)), none, none, []⟩, ⟨(some 5), .mv (.v .nili), none, none, []⟩])
  (.seq (.reg [⟨(some 6), .mv (.t 0), none, none, []⟩, ⟨(some 7), .call 113 [(.t 6)], none, none, []⟩])
  (.seq (.reg [⟨(some 8), .mv (.t 0), none, none, []⟩, ⟨(some 9), .mv (.t 0), none, none, []⟩, ⟨(some 10), .nilck (.t 9), none, none, []⟩, ⟨(some 11), .faddr 1 (.t 10), none, none, []⟩, ⟨(some 12), .load none (.t 11), none, none, []⟩, ⟨(some 13), .mv (.t 1), none, none, []⟩, ⟨(some 14), .app 5 1 (.t 12) (.t 13), none, none, []⟩, ⟨(some 15), .nilck (.t 8), none, none, []⟩, ⟨(some 16), .faddr 1 (.t 15), none, none, []⟩, ⟨none, .store 1 (.t 16) (.t 14), none, none, []⟩])
  (.seq (.reg [⟨(some 17), .mv (.t 1), none, none, []⟩, ⟨(some 18), .len true (.t 17), none, none, []⟩, ⟨(some 4), .mv (.t 18), none, none, []⟩, ⟨(some 5), .mv (.v .nili), none, none, []⟩])
  .ret))))⟩
/-- (*strings.Builder).String -/
def s90 : SFn :=
 ⟨14, [.tmp 2],
  (.seq (.reg [⟨(some 2), .mv (.v (.str ⟨#[]⟩)), none, none, []⟩])
  (.seq (.regd [⟨(some 3), .mv (.t 0), none, (some []), []⟩, ⟨(some 4), .nilck (.t 3), none, (some []), []⟩, ⟨(some 5), .faddr 1 (.t 4), none, (some []), []⟩, ⟨(some 6), .load none (.t 5), none, (some []), []⟩, ⟨(some 7), .sdata (.t 6), none, (some []), []⟩, ⟨(some 8), .mv (.t 0), none, (some []), []⟩, ⟨(some 9), .nilck (.t 8), none, (some []), []⟩, ⟨(some 10), .faddr 1 (.t 9), none, (some []), []⟩, ⟨(some 11), .load none (.t 10), none, (some []), []⟩, ⟨(some 12), .len false (.t 11), none, (some []), []⟩, ⟨(some 13), .ustr 5 (.t 7) (.t 12), none, none, []⟩, ⟨(some 2), .mv (.t 13), none, (some []), []⟩])
  .ret))⟩
/-- pochoir/pochoirref07.U32 -/
def s91 : SFn :=
 ⟨17, [.tmp 4, .tmp 5],
  (.seq (.reg [⟨(some 4), .mv (.v (.int .u32 0)), none, none, []⟩, ⟨(some 5), .mv (.v (.int .i64 0)), none, none, []⟩])
  (.seq (.reg [⟨(some 9), .mv (.t 0), none, none, []⟩, ⟨(some 10), .mv (.t 1), none, none, []⟩, ⟨(some 11), .call 59 [(.t 9), (.t 10), (.v (.int .i64 4))], none, none, []⟩, ⟨(some 8), .mv (.t 11), none, none, []⟩, ⟨(some 12), .extract (.t 8) 0, none, none, []⟩, ⟨(some 13), .extract (.t 8) 1, none, none, []⟩, ⟨(some 6), .mv (.t 12), none, none, []⟩, ⟨(some 7), .mv (.t 13), none, none, []⟩])
  (.seq (.reg [⟨(some 14), .mv (.t 6), none, none, []⟩, ⟨(some 15), .call 114 [(.t 14)], none, none, []⟩, ⟨(some 16), .mv (.t 7), none, none, []⟩, ⟨(some 4), .mv (.t 15), none, none, []⟩, ⟨(some 5), .mv (.t 16), none, none, []⟩])
  .ret)))⟩
/-- pochoir/sum.through -/
def s105 : SFn :=
 ⟨17, [.tmp 4],
  (.seq (.reg [⟨(some 4), .mv (.v (.int .u32 0)), none, none, []⟩])
  (.seq (.seq (.reg [⟨(some 5), .mv (.t 1), none, none, []⟩, ⟨(some 6), .mv (.v (.int .i64 0)), none, none, []⟩])
  (.block 0 (.loop (.seq (.reg [⟨(some 7), .bin .lss (.t 6) (.t 5), none, none, []⟩])
  (.seq (.cond (.t 7) .skip (.exit 0))
  (.seq (.block 1 (.reg [⟨(some 8), .mv (.t 0), none, none, []⟩, ⟨(some 9), .bin .shr (.t 8) (.v (.int .u64 1)), none, none, []⟩, ⟨(some 10), .mv (.t 0), none, none, []⟩, ⟨(some 11), .bin .and (.t 10) (.v (.int .u32 1)), none, none, []⟩, ⟨(some 12), .un .neg (.t 11), none, none, []⟩, ⟨(some 13), .bin .and (.v (.int .u32 3988292384)) (.t 12), none, none, []⟩, ⟨(some 14), .bin .xor (.t 9) (.t 13), none, none, []⟩, ⟨(some 0), .mv (.t 14), none, none, []⟩]))
  (.reg [⟨(some 15), .bin .add (.t 6) (.v (.int .i64 1)), none, none, []⟩, ⟨(some 6), .mv (.t 15), none, none, []⟩])))))))
  (.seq (.reg [⟨(some 16), .mv (.t 0), none, none, []⟩, ⟨(some 4), .mv (.t 16), none, none, []⟩])
  .ret)))⟩
/-- pochoir/octet.number -/
def s106 : SFn :=
 ⟨19, [.tmp 2],
  (.seq (.reg [⟨(some 2), .mv (.v (.int .u32 0)), none, none, []⟩])
  (.seq (.reg [⟨(some 3), .mv (.v (.int .u32 0)), none, none, []⟩])
  (.seq (.seq (.reg [⟨(some 5), .mv (.t 0), none, none, []⟩, ⟨(some 6), .len true (.t 5), none, none, []⟩, ⟨(some 7), .mv (.v (.int .i64 0)), none, none, []⟩])
  (.block 0 (.loop (.seq (.reg [⟨(some 8), .bin .lss (.t 7) (.t 6), none, none, []⟩])
  (.seq (.cond (.t 8) .skip (.exit 0))
  (.seq (.block 1 (.seq (.reg [⟨(some 9), .mv (.t 7), none, none, []⟩, ⟨(some 4), .mv (.t 9), none, none, []⟩])
  (.reg [⟨(some 10), .mv (.t 3), none, none, []⟩, ⟨(some 11), .bin .shl (.t 10) (.v (.int .u64 8)), none, none, []⟩, ⟨(some 12), .mv (.t 0), none, none, []⟩, ⟨(some 13), .mv (.t 4), none, none, []⟩, ⟨(some 14), .ixs (.t 12) (.t 13), none, none, []⟩, ⟨(some 15), .conv .u32 (.t 14), none, none, []⟩, ⟨(some 16), .bin .or (.t 11) (.t 15), none, none, []⟩, ⟨(some 3), .mv (.t 16), none, none, []⟩])))
  (.reg [⟨(some 17), .bin .add (.t 7) (.v (.int .i64 1)), none, none, []⟩, ⟨(some 7), .mv (.t 17), none, none, []⟩])))))))
  (.seq (.reg [⟨(some 18), .mv (.t 3), none, none, []⟩, ⟨(some 2), .mv (.t 18), none, none, []⟩])
  .ret))))⟩
/-- (*pochoir/octet.Reader).take -/
def s107 : SFn :=
 ⟨42, [.tmp 4],
  (.seq (.reg [⟨(some 4), .mv (.v (.str ⟨#[]⟩)), none, none, []⟩])
  (.seq (.seq (.reg [⟨(some 7), .mv (.t 0), none, none, []⟩, ⟨(some 8), .eqs 1 [] false (.t 7) (.v .nilp), none, none, []⟩, ⟨(some 9), .mv (.t 8), none, none, []⟩, ⟨(some 10), .mv (.t 0), (some (9, false)), none, []⟩, ⟨(some 11), .nilck (.t 10), (some (9, false)), none, []⟩, ⟨(some 12), .faddr 2 (.t 11), (some (9, false)), none, []⟩, ⟨(some 13), .load none (.t 12), (some (9, false)), none, []⟩, ⟨(some 14), .pick (.t 9) (.v (.bool true)) (.t 13), none, none, []⟩])
  (.cond (.t 14) (.seq (.reg [⟨(some 4), .mv (.v (.str ⟨#[]⟩)), none, none, []⟩])
  .ret) .skip))
  (.seq (.regd [⟨(some 16), .mv (.t 0), none, (some []), []⟩, ⟨(some 17), .nilck (.t 16), none, (some []), []⟩, ⟨(some 18), .faddr 0 (.t 17), none, (some []), []⟩, ⟨(some 19), .load none (.t 18), none, (some []), []⟩, ⟨(some 20), .mv (.t 0), none, (some []), []⟩, ⟨(some 21), .nilck (.t 20), none, (some []), []⟩, ⟨(some 22), .faddr 1 (.t 21), none, (some []), []⟩, ⟨(some 23), .load none (.t 22), none, (some []), []⟩, ⟨(some 24), .mv (.t 1), none, (some []), []⟩, ⟨(some 25), .call 112 [(.t 19), (.t 23), (.t 24)], none, none, []⟩, ⟨(some 15), .mv (.t 25), none, (some []), []⟩, ⟨(some 26), .extract (.t 15) 0, none, (some []), []⟩, ⟨(some 27), .extract (.t 15) 1, none, (some []), []⟩, ⟨(some 5), .mv (.t 26), none, (some []), []⟩, ⟨(some 6), .mv (.t 27), none, (some []), []⟩])
  (.seq (.seq (.reg [⟨(some 28), .mv (.t 6), none, none, []⟩, ⟨(some 29), .bin .neq (.t 28) (.v (.int .i64 0)), none, none, []⟩])
  (.cond (.t 29) (.seq (.reg [⟨(some 30), .mv (.t 0), none, none, []⟩, ⟨(some 31), .nilck (.t 30), none, none, []⟩, ⟨(some 32), .faddr 2 (.t 31), none, none, []⟩, ⟨none, .store 1 (.t 32) (.v (.bool true)), none, none, []⟩])
  (.seq (.reg [⟨(some 4), .mv (.v (.str ⟨#[]⟩)), none, none, []⟩])
  .ret)) .skip))
  (.seq (.reg [⟨(some 33), .mv (.t 0), none, none, []⟩, ⟨(some 34), .nilck (.t 33), none, none, []⟩, ⟨(some 35), .faddr 1 (.t 34), none, none, []⟩, ⟨(some 36), .load none (.t 35), none, none, []⟩, ⟨(some 37), .mv (.t 1), none, none, []⟩, ⟨(some 38), .bin .add (.t 36) (.t 37), none, none, []⟩, ⟨(some 39), .nilck (.t 33), none, none, []⟩, ⟨(some 40), .faddr 1 (.t 39), none, none, []⟩, ⟨none, .store 1 (.t 40) (.t 38), none, none, []⟩])
  (.seq (.reg [⟨(some 41), .mv (.t 5), none, none, []⟩, ⟨(some 4), .mv (.t 41), none, none, []⟩])
  .ret))))))⟩
/-- (*pochoir/octet.Reader).U8 -/
def s108 : SFn :=
 ⟨7, [.tmp 2],
  (.seq (.reg [⟨(some 2), .mv (.v (.int .u8 0)), none, none, []⟩])
  (.seq (.reg [⟨(some 3), .mv (.t 0), none, none, []⟩, ⟨(some 4), .call 107 [(.t 3), (.v (.int .i64 1))], none, none, []⟩, ⟨(some 5), .call 106 [(.t 4)], none, none, []⟩, ⟨(some 6), .conv .u8 (.t 5), none, none, []⟩, ⟨(some 2), .mv (.t 6), none, none, []⟩])
  .ret))⟩
/-- (*pochoir/octet.Reader).Err -/
def s109 : SFn :=
 ⟨11, [.tmp 2],
  (.seq (.reg [⟨(some 2), .mv (.v (.int .i64 0)), none, none, []⟩])
  (.seq (.seq (.reg [⟨(some 3), .mv (.t 0), none, none, []⟩, ⟨(some 4), .eqs 1 [] false (.t 3) (.v .nilp), none, none, []⟩, ⟨(some 5), .mv (.t 4), none, none, []⟩, ⟨(some 6), .mv (.t 0), (some (5, false)), none, []⟩, ⟨(some 7), .nilck (.t 6), (some (5, false)), none, []⟩, ⟨(some 8), .faddr 2 (.t 7), (some (5, false)), none, []⟩, ⟨(some 9), .load none (.t 8), (some (5, false)), none, []⟩, ⟨(some 10), .pick (.t 5) (.v (.bool true)) (.t 9), none, none, []⟩])
  (.cond (.t 10) (.seq (.reg [⟨(some 2), .mv (.v (.int .i64 3)), none, none, []⟩])
  .ret) .skip))
  (.seq (.reg [⟨(some 2), .mv (.v (.int .i64 0)), none, none, []⟩])
  .ret)))⟩
/-- (*pochoir/octet.Reader).At -/
def s110 : SFn :=
 ⟨9, [.tmp 2],
  (.seq (.reg [⟨(some 2), .mv (.v (.int .i64 0)), none, none, []⟩])
  (.seq (.seq (.reg [⟨(some 3), .mv (.t 0), none, none, []⟩, ⟨(some 4), .eqs 1 [] false (.t 3) (.v .nilp), none, none, []⟩])
  (.cond (.t 4) (.seq (.reg [⟨(some 2), .mv (.v (.int .i64 0)), none, none, []⟩])
  .ret) .skip))
  (.seq (.reg [⟨(some 5), .mv (.t 0), none, none, []⟩, ⟨(some 6), .nilck (.t 5), none, none, []⟩, ⟨(some 7), .faddr 1 (.t 6), none, none, []⟩, ⟨(some 8), .load none (.t 7), none, none, []⟩, ⟨(some 2), .mv (.t 8), none, none, []⟩])
  .ret)))⟩
/-- (*pochoir/octet.Reader).Skip -/
def s111 : SFn :=
 ⟨7, [],
  (.reg [⟨(some 4), .mv (.t 0), none, none, []⟩, ⟨(some 5), .mv (.t 1), none, none, []⟩, ⟨(some 6), .call 107 [(.t 4), (.t 5)], none, none, []⟩])⟩
/-- pochoir/octet.Cut -/
def s112 : SFn :=
 ⟨34, [.tmp 6, .tmp 7],
  (.seq (.reg [⟨(some 6), .mv (.v (.str ⟨#[]⟩)), none, none, []⟩, ⟨(some 7), .mv (.v (.int .i64 0)), none, none, []⟩])
  (.seq (.seq (.reg [⟨(some 8), .mv (.t 1), none, none, []⟩, ⟨(some 9), .bin .lss (.t 8) (.v (.int .i64 0)), none, none, []⟩, ⟨(some 10), .mv (.t 9), none, none, []⟩, ⟨(some 11), .mv (.t 2), (some (10, false)), none, []⟩, ⟨(some 12), .bin .lss (.t 11) (.v (.int .i64 0)), (some (10, false)), none, []⟩, ⟨(some 13), .pick (.t 10) (.v (.bool true)) (.t 12), none, none, []⟩, ⟨(some 14), .mv (.t 13), none, none, []⟩, ⟨(some 15), .mv (.t 1), (some (14, false)), none, []⟩, ⟨(some 16), .mv (.t 0), (some (14, false)), none, []⟩, ⟨(some 17), .len true (.t 16), (some (14, false)), none, []⟩, ⟨(some 18), .bin .gtr (.t 15) (.t 17), (some (14, false)), none, []⟩, ⟨(some 19), .pick (.t 14) (.v (.bool true)) (.t 18), none, none, []⟩, ⟨(some 20), .mv (.t 19), none, none, []⟩, ⟨(some 21), .mv (.t 2), (some (20, false)), none, []⟩, ⟨(some 22), .mv (.t 0), (some (20, false)), none, []⟩, ⟨(some 23), .len true (.t 22), (some (20, false)), none, []⟩, ⟨(some 24), .mv (.t 1), (some (20, false)), none, []⟩, ⟨(some 25), .bin .sub (.t 23) (.t 24), (some (20, false)), none, []⟩, ⟨(some 26), .bin .gtr (.t 21) (.t 25), (some (20, false)), none, []⟩, ⟨(some 27), .pick (.t 20) (.v (.bool true)) (.t 26), none, none, []⟩])
  (.cond (.t 27) (.seq (.reg [⟨(some 6), .mv (.v (.str ⟨#[]⟩)), none, none, []⟩, ⟨(some 7), .mv (.v (.int .i64 3)), none, none, []⟩])
  .ret) .skip))
  (.seq (.reg [⟨(some 28), .mv (.t 0), none, none, []⟩, ⟨(some 29), .mv (.t 1), none, none, []⟩, ⟨(some 30), .mv (.t 1), none, none, []⟩, ⟨(some 31), .mv (.t 2), none, none, []⟩, ⟨(some 32), .bin .add (.t 30) (.t 31), none, none, []⟩, ⟨(some 33), .slstr (.t 28) (some (.t 29)) (some (.t 32)), none, none, []⟩, ⟨(some 6), .mv (.t 33), none, none, []⟩, ⟨(some 7), .mv (.v (.int .i64 0)), none, none, []⟩])
  .ret)))⟩
/-- pochoir/pochoirref07.number -/
def s114 : SFn :=
 ⟨19, [.tmp 2],
  (.seq (.reg [⟨(some 2), .mv (.v (.int .u32 0)), none, none, []⟩])
  (.seq (.reg [⟨(some 3), .mv (.v (.int .u32 0)), none, none, []⟩])
  (.seq (.seq (.reg [⟨(some 4), .mv (.v (.int .i64 0)), none, none, []⟩])
  (.block 0 (.loop (.seq (.seq (.reg [⟨(some 5), .mv (.t 4), none, none, []⟩, ⟨(some 6), .mv (.t 0), none, none, []⟩, ⟨(some 7), .len true (.t 6), none, none, []⟩, ⟨(some 8), .bin .lss (.t 5) (.t 7), none, none, []⟩])
  (.cond (.t 8) .skip (.exit 0)))
  (.seq (.block 1 (.reg [⟨(some 11), .mv (.t 3), none, none, []⟩, ⟨(some 12), .bin .mul (.t 11) (.v (.int .u32 256)), none, none, []⟩, ⟨(some 13), .mv (.t 0), none, none, []⟩, ⟨(some 14), .mv (.t 4), none, none, []⟩, ⟨(some 15), .ixs (.t 13) (.t 14), none, none, []⟩, ⟨(some 16), .conv .u32 (.t 15), none, none, []⟩, ⟨(some 17), .bin .add (.t 12) (.t 16), none, none, []⟩, ⟨(some 3), .mv (.t 17), none, none, []⟩]))
  (.reg [⟨(some 9), .mv (.t 4), none, none, []⟩, ⟨(some 10), .bin .add (.t 9) (.v (.int .i64 1)), none, none, []⟩, ⟨(some 4), .mv (.t 10), none, none, []⟩]))))))
  (.seq (.reg [⟨(some 18), .mv (.t 3), none, none, []⟩, ⟨(some 2), .mv (.t 18), none, none, []⟩])
  .ret))))⟩
def E : Nat → Option SFn
  | 6 => some s6
  | 7 => some s7
  | 8 => some s8
  | 25 => some s25
  | 26 => some s26
  | 27 => some s27
  | 28 => some s28
  | 29 => some s29
  | 30 => some s30
  | 31 => some s31
  | 32 => some s32
  | 49 => some s49
  | 50 => some s50
  | 51 => some s51
  | 52 => some s52
  | 53 => some s53
  | 54 => some s54
  | 55 => some s55
  | 56 => some s56
  | 57 => some s57
  | 58 => some s58
  | 59 => some s59
  | 60 => some s60
  | 81 => some s81
  | 82 => some s82
  | 83 => some s83
  | 84 => some s84
  | 85 => some s85
  | 86 => some s86
  | 87 => some s87
  | 88 => some s88
  | 89 => some s89
  | 90 => some s90
  | 91 => some s91
  | 105 => some s105
  | 106 => some s106
  | 107 => some s107
  | 108 => some s108
  | 109 => some s109
  | 110 => some s110
  | 111 => some s111
  | 112 => some s112
  | 114 => some s114
  | _ => none
def env0 : Env := { E := E, I := fun _ _ _ => none, isI := fun _ => false }
end Go.Proofs.Ytkcbjeenoafbkaa
