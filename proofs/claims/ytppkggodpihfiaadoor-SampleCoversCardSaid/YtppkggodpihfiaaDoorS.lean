/- The slim functions of this seat, and the table of them. -/
import Derived.Test.YtppkggodpihfiaaDoorDen2
set_option linter.unusedVariables false
namespace Go.Proofs.YtppkggodpihfiaaDoor
open Go.Den
/-- pochoir/pochoirlaw32.SampleAt -/
def s3 : SFn :=
 ⟨51, [.tmp 4],
  (.seq (.reg [⟨(some 2), .box 28 (.t 0), none, none, []⟩, ⟨(some 3), .box 29 (.t 1), none, none, []⟩, ⟨(some 4), .mv (.v (.bool false)), none, none, []⟩])
  (.seq (.seq (.reg [⟨(some 9), .call 6 [], none, none, []⟩, ⟨(some 10), .un .not (.t 9), none, none, []⟩])
  (.cond (.t 10) (.seq (.reg [⟨(some 4), .mv (.v (.bool false)), none, none, []⟩])
  .ret) .skip))
  (.seq (.seq (.reg [⟨(some 11), .load (some 11) (.t 2), none, none, []⟩, ⟨(some 12), .call 7 [(.t 11)], none, none, []⟩, ⟨(some 13), .un .not (.t 12), none, none, []⟩])
  (.cond (.t 13) (.seq (.reg [⟨(some 4), .mv (.v (.bool true)), none, none, []⟩])
  .ret) .skip))
  (.seq (.reg [⟨(some 15), .load (some 11) (.t 2), none, none, []⟩, ⟨(some 16), .iarr 3 1 (.t 3) (.v (.int .i64 0)), none, none, []⟩, ⟨(some 17), .load none (.t 16), none, none, []⟩, ⟨(some 18), .iarr 3 1 (.t 3) (.v (.int .i64 1)), none, none, []⟩, ⟨(some 19), .load none (.t 18), none, none, []⟩, ⟨(some 20), .iarr 3 1 (.t 3) (.v (.int .i64 2)), none, none, []⟩, ⟨(some 21), .load none (.t 20), none, none, []⟩, ⟨(some 22), .call 8 [(.t 15), (.t 17), (.t 19), (.t 21)], none, none, []⟩, ⟨(some 14), .mv (.t 22), none, none, []⟩, ⟨(some 23), .extract (.t 14) 0, none, none, []⟩, ⟨(some 24), .extract (.t 14) 1, none, none, []⟩, ⟨(some 5), .box 32 (.v (.agg [(.int .i64 0), (.int .i64 0), (.int .i64 0), (.int .i64 0)])), none, none, []⟩, ⟨none, .store 4 (.t 5) (.t 23), none, none, []⟩, ⟨(some 6), .mv (.t 24), none, none, []⟩])
  (.seq (.reg [⟨(some 26), .load (some 11) (.t 2), none, none, []⟩, ⟨(some 27), .iarr 3 1 (.t 3) (.v (.int .i64 0)), none, none, []⟩, ⟨(some 28), .load none (.t 27), none, none, []⟩, ⟨(some 29), .iarr 3 1 (.t 3) (.v (.int .i64 1)), none, none, []⟩, ⟨(some 30), .load none (.t 29), none, none, []⟩, ⟨(some 31), .iarr 3 1 (.t 3) (.v (.int .i64 2)), none, none, []⟩, ⟨(some 32), .load none (.t 31), none, none, []⟩, ⟨(some 33), .call 9 [(.t 26), (.t 28), (.t 30), (.t 32)], none, none, []⟩, ⟨(some 25), .mv (.t 33), none, none, []⟩, ⟨(some 34), .extract (.t 25) 0, none, none, []⟩, ⟨(some 35), .extract (.t 25) 1, none, none, []⟩, ⟨(some 7), .box 32 (.v (.agg [(.int .i64 0), (.int .i64 0), (.int .i64 0), (.int .i64 0)])), none, none, []⟩, ⟨none, .store 4 (.t 7) (.t 34), none, none, []⟩, ⟨(some 8), .mv (.t 35), none, none, []⟩])
  (.seq (.regd [⟨(some 36), .load (some 4) (.t 5), none, (some []), []⟩, ⟨(some 37), .load (some 4) (.t 7), none, (some []), []⟩, ⟨(some 38), .eqs 4 [1, 1, 1, 1] false (.t 36) (.t 37), none, (some []), []⟩, ⟨(some 39), .mv (.t 38), none, (some []), []⟩, ⟨(some 40), .mv (.t 6), (some (39, true)), (some []), []⟩, ⟨(some 41), .mv (.t 8), (some (39, true)), (some []), []⟩, ⟨(some 42), .bin .eql (.t 40) (.t 41), (some (39, true)), (some []), []⟩, ⟨(some 43), .pick (.t 39) (.t 42) (.v (.bool false)), none, (some []), []⟩, ⟨(some 44), .mv (.t 43), none, (some []), []⟩, ⟨(some 45), .load (some 4) (.t 5), (some (44, true)), (some []), []⟩, ⟨(some 46), .call 10 [(.t 45)], (some (44, true)), none, [(none, (.t 5))]⟩, ⟨(some 47), .load (some 4) (.t 5), (some (44, true)), (some [10]), []⟩, ⟨(some 48), .call 11 [(.t 47)], (some (44, true)), none, []⟩, ⟨(some 49), .bin .eql (.t 46) (.t 48), (some (44, true)), (some []), []⟩, ⟨(some 50), .pick (.t 44) (.t 49) (.v (.bool false)), none, (some []), []⟩, ⟨(some 4), .mv (.t 50), none, (some []), []⟩])
  .ret))))))⟩
/-- pochoir/pochoirlaw32.SampleCovers -/
def s4 : SFn :=
 ⟨58, [.tmp 6],
  (.seq (.reg [⟨(some 3), .box 40 (.t 0), none, none, []⟩, ⟨(some 5), .box 42 (.t 2), none, none, []⟩, ⟨(some 6), .mv (.v (.bool false)), none, none, []⟩])
  (.seq (.seq (.reg [⟨(some 13), .call 6 [], none, none, []⟩, ⟨(some 14), .un .not (.t 13), none, none, []⟩])
  (.cond (.t 14) (.seq (.reg [⟨(some 6), .mv (.v (.bool false)), none, none, []⟩])
  .ret) .skip))
  (.seq (.reg [⟨(some 16), .iarr 2 1 (.t 3) (.v (.int .i64 0)), none, none, []⟩, ⟨(some 17), .load none (.t 16), none, none, []⟩, ⟨(some 18), .mv (.t 1), none, none, []⟩, ⟨(some 19), .load (some 2) (.t 5), none, none, []⟩, ⟨(some 20), .call 12 [(.t 17), (.t 18), (.t 19)], none, none, []⟩, ⟨(some 15), .mv (.t 20), none, none, []⟩, ⟨(some 21), .extract (.t 15) 0, none, none, []⟩, ⟨(some 22), .extract (.t 15) 1, none, none, []⟩, ⟨(some 7), .mv (.t 21), none, none, []⟩, ⟨(some 8), .mv (.t 22), none, none, []⟩])
  (.seq (.reg [⟨(some 24), .iarr 2 1 (.t 3) (.v (.int .i64 0)), none, none, []⟩, ⟨(some 25), .load none (.t 24), none, none, []⟩, ⟨(some 26), .mv (.t 1), none, none, []⟩, ⟨(some 27), .load (some 2) (.t 5), none, none, []⟩, ⟨(some 28), .call 13 [(.t 25), (.t 26), (.t 27)], none, none, []⟩, ⟨(some 23), .mv (.t 28), none, none, []⟩, ⟨(some 29), .extract (.t 23) 0, none, none, []⟩, ⟨(some 30), .extract (.t 23) 1, none, none, []⟩, ⟨(some 9), .mv (.t 29), none, none, []⟩, ⟨(some 10), .mv (.t 30), none, none, []⟩])
  (.seq (.seq (.reg [⟨(some 31), .mv (.t 7), none, none, []⟩, ⟨(some 32), .conv .i64 (.t 31), none, none, []⟩, ⟨(some 33), .mv (.t 9), none, none, []⟩, ⟨(some 34), .bin .neq (.t 32) (.t 33), none, none, []⟩, ⟨(some 35), .mv (.t 34), none, none, []⟩, ⟨(some 36), .mv (.t 8), (some (35, false)), none, []⟩, ⟨(some 37), .mv (.t 10), (some (35, false)), none, []⟩, ⟨(some 38), .bin .neq (.t 36) (.t 37), (some (35, false)), none, []⟩, ⟨(some 39), .pick (.t 35) (.v (.bool true)) (.t 38), none, none, []⟩])
  (.cond (.t 39) (.seq (.reg [⟨(some 6), .mv (.v (.bool false)), none, none, []⟩])
  .ret) .skip))
  (.seq (.reg [⟨(some 41), .iarr 2 1 (.t 3) (.v (.int .i64 1)), none, none, []⟩, ⟨(some 42), .load none (.t 41), none, none, []⟩, ⟨(some 43), .mv (.t 1), none, none, []⟩, ⟨(some 44), .load (some 2) (.t 5), none, none, []⟩, ⟨(some 45), .call 12 [(.t 42), (.t 43), (.t 44)], none, none, []⟩, ⟨(some 40), .mv (.t 45), none, none, []⟩, ⟨(some 46), .extract (.t 40) 0, none, none, []⟩, ⟨(some 47), .extract (.t 40) 1, none, none, []⟩, ⟨(some 11), .mv (.t 46), none, none, []⟩, ⟨(some 12), .mv (.t 47), none, none, []⟩])
  (.seq (.reg [⟨(some 48), .iarr 2 1 (.t 3) (.v (.int .i64 0)), none, none, []⟩, ⟨(some 49), .load none (.t 48), none, none, []⟩, ⟨(some 50), .iarr 2 1 (.t 3) (.v (.int .i64 1)), none, none, []⟩, ⟨(some 51), .load none (.t 50), none, none, []⟩, ⟨(some 52), .bin .gtr (.t 49) (.t 51), none, none, []⟩, ⟨(some 53), .mv (.t 52), none, none, []⟩, ⟨(some 54), .mv (.t 7), (some (53, false)), none, []⟩, ⟨(some 55), .mv (.t 11), (some (53, false)), none, []⟩, ⟨(some 56), .bin .leq (.t 54) (.t 55), (some (53, false)), none, []⟩, ⟨(some 57), .pick (.t 53) (.v (.bool true)) (.t 56), none, none, []⟩, ⟨(some 6), .mv (.t 57), none, none, []⟩])
  .ret)))))))⟩
/-- pochoir/pochoirlaw32.SampleBetween -/
def s5 : SFn :=
 ⟨201, [.tmp 6],
  (.seq (.reg [⟨(some 3), .box 28 (.t 0), none, none, []⟩, ⟨(some 4), .box 29 (.t 1), none, none, []⟩, ⟨(some 5), .box 48 (.t 2), none, none, []⟩, ⟨(some 6), .mv (.v (.bool false)), none, none, []⟩])
  (.seq (.seq (.reg [⟨(some 21), .call 6 [], none, none, []⟩, ⟨(some 22), .un .not (.t 21), none, none, []⟩])
  (.cond (.t 22) (.seq (.reg [⟨(some 6), .mv (.v (.bool false)), none, none, []⟩])
  .ret) .skip))
  (.seq (.seq (.reg [⟨(some 23), .load (some 11) (.t 3), none, none, []⟩, ⟨(some 24), .call 7 [(.t 23)], none, none, []⟩, ⟨(some 25), .un .not (.t 24), none, none, []⟩, ⟨(some 26), .mv (.t 25), none, none, []⟩, ⟨(some 27), .load (some 11) (.t 3), (some (26, false)), none, []⟩, ⟨(some 28), .call 14 [(.t 27)], (some (26, false)), none, []⟩, ⟨(some 29), .un .not (.t 28), (some (26, false)), none, []⟩, ⟨(some 30), .pick (.t 26) (.v (.bool true)) (.t 29), none, none, []⟩, ⟨(some 31), .mv (.t 30), none, none, []⟩, ⟨(some 32), .iarr 3 1 (.t 4) (.v (.int .i64 0)), (some (31, false)), none, []⟩, ⟨(some 33), .load none (.t 32), (some (31, false)), none, []⟩, ⟨(some 34), .bin .lss (.t 33) (.v (.int .i64 0)), (some (31, false)), none, []⟩, ⟨(some 35), .pick (.t 31) (.v (.bool true)) (.t 34), none, none, []⟩, ⟨(some 36), .mv (.t 35), none, none, []⟩, ⟨(some 37), .iarr 3 1 (.t 4) (.v (.int .i64 0)), (some (36, false)), none, []⟩, ⟨(some 38), .load none (.t 37), (some (36, false)), none, []⟩, ⟨(some 39), .faddr 8 (.t 3), (some (36, false)), none, []⟩, ⟨(some 40), .load none (.t 39), (some (36, false)), none, []⟩, ⟨(some 41), .len false (.t 40), (some (36, false)), none, []⟩, ⟨(some 42), .bin .geq (.t 38) (.t 41), (some (36, false)), none, []⟩, ⟨(some 43), .pick (.t 36) (.v (.bool true)) (.t 42), none, none, []⟩, ⟨(some 44), .mv (.t 43), none, none, []⟩, ⟨(some 45), .faddr 8 (.t 3), (some (44, false)), none, []⟩, ⟨(some 46), .load none (.t 45), (some (44, false)), none, []⟩, ⟨(some 47), .iarr 3 1 (.t 4) (.v (.int .i64 0)), (some (44, false)), none, []⟩, ⟨(some 48), .load none (.t 47), (some (44, false)), none, []⟩, ⟨(some 49), .iaddr 8 (.t 46) (.t 48), (some (44, false)), none, []⟩, ⟨(some 50), .faddr 1 (.t 49), (some (44, false)), none, []⟩, ⟨(some 51), .faddr 2 (.t 50), (some (44, false)), none, []⟩, ⟨(some 52), .load none (.t 51), (some (44, false)), none, []⟩, ⟨(some 53), .bin .eql (.t 52) (.v (.int .i64 0)), (some (44, false)), none, []⟩, ⟨(some 54), .pick (.t 44) (.v (.bool true)) (.t 53), none, none, []⟩])
  (.cond (.t 54) (.seq (.reg [⟨(some 6), .mv (.v (.bool true)), none, none, []⟩])
  .ret) .skip))
  (.seq (.reg [⟨(some 55), .faddr 8 (.t 3), none, none, []⟩, ⟨(some 56), .load none (.t 55), none, none, []⟩, ⟨(some 57), .iarr 3 1 (.t 4) (.v (.int .i64 0)), none, none, []⟩, ⟨(some 58), .load none (.t 57), none, none, []⟩, ⟨(some 59), .iaddr 8 (.t 56) (.t 58), none, none, []⟩, ⟨(some 60), .load (some 8) (.t 59), none, none, []⟩, ⟨(some 7), .box 54 (.v (.agg [(.int .i64 0), (.int .i64 0), (.int .i64 0), (.int .i64 0), (.int .i64 0), (.int .i64 0), (.int .i64 0), (.int .i64 0)])), none, none, []⟩, ⟨none, .store 8 (.t 7) (.t 60), none, none, []⟩])
  (.seq (.reg [⟨(some 8), .mv (.v (.int .i64 255)), none, none, []⟩, ⟨(some 9), .mv (.v (.int .i64 0)), none, none, []⟩])
  (.seq (.seq (.reg [⟨(some 61), .faddr 1 (.t 7), none, none, []⟩, ⟨(some 62), .faddr 2 (.t 61), none, none, []⟩, ⟨(some 63), .load none (.t 62), none, none, []⟩, ⟨(some 64), .faddr 1 (.t 7), none, none, []⟩, ⟨(some 65), .faddr 3 (.t 64), none, none, []⟩, ⟨(some 66), .load none (.t 65), none, none, []⟩, ⟨(some 67), .bin .mul (.t 63) (.t 66), none, none, []⟩, ⟨(some 68), .mv (.v (.int .i64 0)), none, none, []⟩])
  (.block 0 (.loop (.seq (.reg [⟨(some 69), .bin .lss (.t 68) (.t 67), none, none, []⟩])
  (.seq (.cond (.t 69) .skip (.exit 0))
  (.seq (.block 1 (.seq (.reg [⟨(some 70), .mv (.t 68), none, none, []⟩, ⟨(some 10), .mv (.t 70), none, none, []⟩])
  (.seq (.regd [⟨(some 72), .load (some 11) (.t 3), none, (some []), []⟩, ⟨(some 73), .faddr 5 (.t 7), none, (some []), []⟩, ⟨(some 74), .faddr 0 (.t 73), none, (some []), []⟩, ⟨(some 75), .load none (.t 74), none, (some []), []⟩, ⟨(some 76), .faddr 5 (.t 7), none, (some []), []⟩, ⟨(some 77), .faddr 1 (.t 76), none, (some []), []⟩, ⟨(some 78), .load none (.t 77), none, (some []), []⟩, ⟨(some 79), .mv (.t 10), none, (some []), []⟩, ⟨(some 80), .faddr 1 (.t 7), none, (some []), []⟩, ⟨(some 81), .faddr 2 (.t 80), none, (some []), []⟩, ⟨(some 82), .load none (.t 81), none, (some []), []⟩, ⟨(some 83), .bin .rem (.t 79) (.t 82), none, (some []), []⟩, ⟨(some 84), .bin .add (.t 78) (.t 83), none, (some []), []⟩, ⟨(some 85), .faddr 5 (.t 7), none, (some []), []⟩, ⟨(some 86), .faddr 2 (.t 85), none, (some []), []⟩, ⟨(some 87), .load none (.t 86), none, (some []), []⟩, ⟨(some 88), .mv (.t 10), none, (some []), []⟩, ⟨(some 89), .faddr 1 (.t 7), none, (some []), []⟩, ⟨(some 90), .faddr 2 (.t 89), none, (some []), []⟩, ⟨(some 91), .load none (.t 90), none, (some []), []⟩, ⟨(some 92), .bin .quo (.t 88) (.t 91), none, (some []), []⟩, ⟨(some 93), .bin .add (.t 87) (.t 92), none, (some []), []⟩, ⟨(some 94), .call 15 [(.t 72), (.t 75), (.t 84), (.t 93)], none, (some []), []⟩, ⟨(some 71), .mv (.t 94), none, (some []), []⟩, ⟨(some 95), .extract (.t 71) 0, none, (some []), []⟩, ⟨(some 96), .extract (.t 71) 1, none, (some []), []⟩, ⟨(some 11), .box 56 (.v (.agg [(.int .u8 0), (.int .u8 0), (.int .u8 0), (.int .u8 0)])), none, (some [22]), []⟩, ⟨none, .store 4 (.t 11) (.t 95), none, none, []⟩, ⟨(some 12), .mv (.t 96), none, (some []), []⟩])
  (.regd [⟨(some 97), .mv (.t 8), none, (some []), []⟩, ⟨(some 98), .faddr 0 (.t 11), none, (some []), []⟩, ⟨(some 99), .load none (.t 98), none, (some []), []⟩, ⟨(some 100), .conv .i64 (.t 99), none, (some []), []⟩, ⟨(some 101), .mnmx false [(.t 97), (.t 100)], none, (some []), []⟩, ⟨(some 102), .mv (.t 9), none, (some []), []⟩, ⟨(some 103), .faddr 0 (.t 11), none, (some []), []⟩, ⟨(some 104), .load none (.t 103), none, (some []), []⟩, ⟨(some 105), .conv .i64 (.t 104), none, (some []), []⟩, ⟨(some 106), .mnmx true [(.t 102), (.t 105)], none, (some []), []⟩, ⟨(some 8), .mv (.t 101), none, (some []), []⟩, ⟨(some 9), .mv (.t 106), none, (some []), []⟩]))))
  (.reg [⟨(some 107), .bin .add (.t 68) (.v (.int .i64 1)), none, none, []⟩, ⟨(some 68), .mv (.t 107), none, none, []⟩])))))))
  (.seq (.seq (.reg [⟨(some 109), .load (some 11) (.t 3), none, none, []⟩, ⟨(some 110), .iarr 3 1 (.t 4) (.v (.int .i64 0)), none, none, []⟩, ⟨(some 111), .load none (.t 110), none, none, []⟩, ⟨(some 112), .iarr 3 1 (.t 4) (.v (.int .i64 1)), none, none, []⟩, ⟨(some 113), .load none (.t 112), none, none, []⟩, ⟨(some 114), .iarr 3 1 (.t 4) (.v (.int .i64 2)), none, none, []⟩, ⟨(some 115), .load none (.t 114), none, none, []⟩, ⟨(some 116), .call 8 [(.t 109), (.t 111), (.t 113), (.t 115)], none, none, []⟩, ⟨(some 108), .mv (.t 116), none, none, []⟩, ⟨(some 117), .extract (.t 108) 0, none, none, []⟩, ⟨(some 118), .extract (.t 108) 1, none, none, []⟩, ⟨(some 13), .box 32 (.v (.agg [(.int .i64 0), (.int .i64 0), (.int .i64 0), (.int .i64 0)])), none, none, []⟩, ⟨none, .store 4 (.t 13) (.t 117), none, none, []⟩, ⟨(some 14), .mv (.t 118), none, none, []⟩])
  (.seq (.reg [⟨(some 119), .mv (.t 14), none, none, []⟩, ⟨(some 120), .bin .eql (.t 119) (.v (.int .i64 0)), none, none, []⟩, ⟨(some 121), .mv (.t 120), none, none, []⟩, ⟨(some 122), .iarr 4 1 (.t 13) (.v (.int .i64 0)), (some (121, true)), none, []⟩, ⟨(some 123), .load none (.t 122), (some (121, true)), none, []⟩, ⟨(some 124), .mv (.t 8), (some (121, true)), none, []⟩, ⟨(some 125), .bin .shl (.t 124) (.v (.int .u64 16)), (some (121, true)), none, []⟩, ⟨(some 126), .bin .lss (.t 123) (.t 125), (some (121, true)), none, []⟩, ⟨(some 127), .mv (.t 126), (some (121, true)), none, []⟩, ⟨(some 128), .iarr 4 1 (.t 13) (.v (.int .i64 0)), (some (127, false)), none, []⟩, ⟨(some 129), .load none (.t 128), (some (127, false)), none, []⟩, ⟨(some 130), .mv (.t 9), (some (127, false)), none, []⟩, ⟨(some 131), .bin .shl (.t 130) (.v (.int .u64 16)), (some (127, false)), none, []⟩, ⟨(some 132), .bin .gtr (.t 129) (.t 131), (some (127, false)), none, []⟩, ⟨(some 133), .pick (.t 127) (.v (.bool true)) (.t 132), (some (121, true)), none, []⟩, ⟨(some 134), .pick (.t 121) (.t 133) (.v (.bool false)), none, none, []⟩])
  (.cond (.t 134) (.seq (.reg [⟨(some 6), .mv (.v (.bool false)), none, none, []⟩])
  .ret) .skip)))
  (.seq (.regd [⟨(some 135), .iarr 2 1 (.t 5) (.v (.int .i64 0)), none, (some []), []⟩, ⟨(some 136), .load none (.t 135), none, (some []), []⟩, ⟨(some 137), .conv .i64 (.t 136), none, (some []), []⟩, ⟨(some 138), .faddr 1 (.t 7), none, (some []), []⟩, ⟨(some 139), .faddr 2 (.t 138), none, (some []), []⟩, ⟨(some 140), .load none (.t 139), none, (some []), []⟩, ⟨(some 141), .bin .rem (.t 137) (.t 140), none, (some []), []⟩, ⟨(some 142), .iarr 2 1 (.t 5) (.v (.int .i64 1)), none, (some []), []⟩, ⟨(some 143), .load none (.t 142), none, (some []), []⟩, ⟨(some 144), .conv .i64 (.t 143), none, (some []), []⟩, ⟨(some 145), .faddr 1 (.t 7), none, (some []), []⟩, ⟨(some 146), .faddr 3 (.t 145), none, (some []), []⟩, ⟨(some 147), .load none (.t 146), none, (some []), []⟩, ⟨(some 148), .bin .rem (.t 144) (.t 147), none, (some []), []⟩, ⟨(some 15), .mv (.t 141), none, (some []), []⟩, ⟨(some 16), .mv (.t 148), none, (some []), []⟩])
  (.seq (.reg [⟨(some 150), .load (some 11) (.t 3), none, none, []⟩, ⟨(some 151), .faddr 5 (.t 7), none, none, []⟩, ⟨(some 152), .faddr 0 (.t 151), none, none, []⟩, ⟨(some 153), .load none (.t 152), none, none, []⟩, ⟨(some 154), .faddr 5 (.t 7), none, none, []⟩, ⟨(some 155), .faddr 1 (.t 154), none, none, []⟩, ⟨(some 156), .load none (.t 155), none, none, []⟩, ⟨(some 157), .mv (.t 15), none, none, []⟩, ⟨(some 158), .bin .add (.t 156) (.t 157), none, none, []⟩, ⟨(some 159), .faddr 5 (.t 7), none, none, []⟩, ⟨(some 160), .faddr 2 (.t 159), none, none, []⟩, ⟨(some 161), .load none (.t 160), none, none, []⟩, ⟨(some 162), .mv (.t 16), none, none, []⟩, ⟨(some 163), .bin .add (.t 161) (.t 162), none, none, []⟩, ⟨(some 164), .call 15 [(.t 150), (.t 153), (.t 158), (.t 163)], none, none, []⟩, ⟨(some 149), .mv (.t 164), none, none, []⟩, ⟨(some 165), .extract (.t 149) 0, none, none, []⟩, ⟨(some 166), .extract (.t 149) 1, none, none, []⟩, ⟨(some 17), .box 56 (.v (.agg [(.int .u8 0), (.int .u8 0), (.int .u8 0), (.int .u8 0)])), none, none, []⟩, ⟨none, .store 4 (.t 17) (.t 165), none, none, []⟩, ⟨(some 18), .mv (.t 166), none, none, []⟩])
  (.seq (.reg [⟨(some 168), .load (some 11) (.t 3), none, none, []⟩, ⟨(some 169), .iarr 3 1 (.t 4) (.v (.int .i64 0)), none, none, []⟩, ⟨(some 170), .load none (.t 169), none, none, []⟩, ⟨(some 171), .mv (.t 15), none, none, []⟩, ⟨(some 172), .bin .mul (.v (.int .i64 256)) (.t 171), none, none, []⟩, ⟨(some 173), .mv (.t 16), none, none, []⟩, ⟨(some 174), .bin .mul (.v (.int .i64 256)) (.t 173), none, none, []⟩, ⟨(some 175), .call 8 [(.t 168), (.t 170), (.t 172), (.t 174)], none, none, []⟩, ⟨(some 167), .mv (.t 175), none, none, []⟩, ⟨(some 176), .extract (.t 167) 0, none, none, []⟩, ⟨(some 177), .extract (.t 167) 1, none, none, []⟩, ⟨(some 19), .box 32 (.v (.agg [(.int .i64 0), (.int .i64 0), (.int .i64 0), (.int .i64 0)])), none, none, []⟩, ⟨none, .store 4 (.t 19) (.t 176), none, none, []⟩, ⟨(some 20), .mv (.t 177), none, none, []⟩])
  (.seq (.reg [⟨(some 178), .mv (.t 20), none, none, []⟩, ⟨(some 179), .bin .eql (.t 178) (.v (.int .i64 0)), none, none, []⟩, ⟨(some 180), .mv (.t 179), none, none, []⟩, ⟨(some 181), .load (some 4) (.t 19), (some (180, true)), none, []⟩, ⟨(some 182), .faddr 0 (.t 17), (some (180, true)), none, []⟩, ⟨(some 183), .load none (.t 182), (some (180, true)), none, []⟩, ⟨(some 184), .conv .i64 (.t 183), (some (180, true)), none, []⟩, ⟨(some 185), .bin .shl (.t 184) (.v (.int .u64 16)), (some (180, true)), none, []⟩, ⟨(some 186), .faddr 1 (.t 17), (some (180, true)), none, []⟩, ⟨(some 187), .load none (.t 186), (some (180, true)), none, []⟩, ⟨(some 188), .conv .i64 (.t 187), (some (180, true)), none, []⟩, ⟨(some 189), .bin .shl (.t 188) (.v (.int .u64 16)), (some (180, true)), none, []⟩, ⟨(some 190), .faddr 2 (.t 17), (some (180, true)), none, []⟩, ⟨(some 191), .load none (.t 190), (some (180, true)), none, []⟩, ⟨(some 192), .conv .i64 (.t 191), (some (180, true)), none, []⟩, ⟨(some 193), .bin .shl (.t 192) (.v (.int .u64 16)), (some (180, true)), none, []⟩, ⟨(some 194), .faddr 3 (.t 17), (some (180, true)), none, []⟩, ⟨(some 195), .load none (.t 194), (some (180, true)), none, []⟩, ⟨(some 196), .conv .i64 (.t 195), (some (180, true)), none, []⟩, ⟨(some 197), .bin .shl (.t 196) (.v (.int .u64 16)), (some (180, true)), none, []⟩, ⟨(some 198), .build [(.int .i64 0), (.int .i64 0), (.int .i64 0), (.int .i64 0)] [(0, 1, (.t 185)), (1, 1, (.t 189)), (2, 1, (.t 193)), (3, 1, (.t 197))], (some (180, true)), none, []⟩, ⟨(some 199), .eqs 4 [1, 1, 1, 1] false (.t 181) (.t 198), (some (180, true)), none, []⟩, ⟨(some 200), .pick (.t 180) (.t 199) (.v (.bool false)), none, none, []⟩, ⟨(some 6), .mv (.t 200), none, none, []⟩])
  .ret)))))))))))⟩
/-- pochoir/pochoirlaw32.awake -/
def s6 : SFn :=
 ⟨42, [.tmp 0],
  (.seq (.reg [⟨(some 0), .mv (.v (.bool false)), none, none, []⟩])
  (.seq (.reg [⟨(some 6), .build [(.int .i64 0), (.int .i64 0)] [(0, 1, (.v (.int .i64 2))), (1, 1, (.v (.int .i64 1)))], none, none, []⟩, ⟨(some 7), .build [(.int .i64 0), (.int .i64 0), (.int .i64 0), (.int .i64 0)] [(2, 1, (.v (.int .i64 2))), (3, 1, (.v (.int .i64 1)))], none, none, []⟩, ⟨(some 8), .build [(.int .i64 0), (.int .i64 0), (.int .i64 0), (.int .i64 0), (.int .i64 0), (.int .i64 0), (.int .i64 0), (.int .i64 0)] [(1, 4, (.t 7))], none, none, []⟩, ⟨(some 9), .bsl 54 [(.int .i64 0), (.int .i64 0), (.int .i64 0), (.int .i64 0), (.int .i64 0), (.int .i64 0), (.int .i64 0), (.int .i64 0)] 1 8 [(0, 8, (.t 8))], none, none, []⟩, ⟨(some 10), .bsl 9 [(.str ⟨#[]⟩)] 1 1 [(0, 1, (.v (.str ⟨#[0, 2, 4, 6, 100, 2, 8, 6]⟩)))], none, none, []⟩, ⟨(some 11), .build [(.int .i64 0), (.int .i64 0), (.int .i64 0), (.int .i64 0), (.int .i64 0), (.int .i64 0), (.int .i64 0), (.int .i64 0), .nils, .nils, .nils] [(0, 1, (.v (.int .i64 16))), (1, 1, (.v (.int .i64 1))), (2, 1, (.v (.int .i64 1))), (6, 2, (.t 6)), (8, 1, (.t 9)), (10, 1, (.t 10))], none, none, []⟩, ⟨(some 1), .box 28 (.v (.agg [(.int .i64 0), (.int .i64 0), (.int .i64 0), (.int .i64 0), (.int .i64 0), (.int .i64 0), (.int .i64 0), (.int .i64 0), .nils, .nils, .nils])), none, none, []⟩, ⟨none, .store 11 (.t 1) (.t 11), none, none, []⟩])
  (.seq (.reg [⟨(some 13), .load (some 11) (.t 1), none, none, []⟩, ⟨(some 14), .call 8 [(.t 13), (.v (.int .i64 0)), (.v (.int .i64 128)), (.v (.int .i64 0))], none, none, []⟩, ⟨(some 12), .mv (.t 14), none, none, []⟩, ⟨(some 15), .extract (.t 12) 0, none, none, []⟩, ⟨(some 16), .extract (.t 12) 1, none, none, []⟩, ⟨(some 2), .box 32 (.v (.agg [(.int .i64 0), (.int .i64 0), (.int .i64 0), (.int .i64 0)])), none, none, []⟩, ⟨none, .store 4 (.t 2) (.t 15), none, none, []⟩, ⟨(some 3), .mv (.t 16), none, none, []⟩])
  (.seq (.reg [⟨(some 18), .build [(.int .i64 0), (.int .i64 0)] [(0, 1, (.v (.int .i64 1))), (1, 1, (.v (.int .i64 1)))], none, none, []⟩, ⟨(some 19), .call 12 [(.v (.int .i64 8388608)), (.v (.int .i64 1)), (.t 18)], none, none, []⟩, ⟨(some 17), .mv (.t 19), none, none, []⟩, ⟨(some 20), .extract (.t 17) 0, none, none, []⟩, ⟨(some 21), .extract (.t 17) 1, none, none, []⟩, ⟨(some 4), .mv (.t 20), none, none, []⟩, ⟨(some 5), .mv (.t 21), none, none, []⟩])
  (.seq (.reg [⟨(some 22), .load (some 4) (.t 2), none, none, []⟩, ⟨(some 23), .build [(.int .i64 0), (.int .i64 0), (.int .i64 0), (.int .i64 0)] [(0, 1, (.v (.int .i64 3276800))), (1, 1, (.v (.int .i64 131072))), (2, 1, (.v (.int .i64 393216))), (3, 1, (.v (.int .i64 393216)))], none, none, []⟩, ⟨(some 24), .eqs 4 [1, 1, 1, 1] false (.t 22) (.t 23), none, none, []⟩, ⟨(some 25), .mv (.t 24), none, none, []⟩, ⟨(some 26), .mv (.t 3), (some (25, true)), none, []⟩, ⟨(some 27), .bin .eql (.t 26) (.v (.int .i64 0)), (some (25, true)), none, []⟩, ⟨(some 28), .pick (.t 25) (.t 27) (.v (.bool false)), none, none, []⟩, ⟨(some 29), .mv (.t 28), none, none, []⟩, ⟨(some 30), .load (some 4) (.t 2), (some (29, true)), none, []⟩, ⟨(some 31), .call 10 [(.t 30)], (some (29, true)), none, []⟩, ⟨(some 32), .bin .eql (.t 31) (.v (.int .i64 393216)), (some (29, true)), none, []⟩, ⟨(some 33), .pick (.t 29) (.t 32) (.v (.bool false)), none, none, []⟩, ⟨(some 34), .mv (.t 33), none, none, []⟩, ⟨(some 35), .mv (.t 4), (some (34, true)), none, []⟩, ⟨(some 36), .bin .eql (.t 35) (.v (.int .u8 128)), (some (34, true)), none, []⟩, ⟨(some 37), .pick (.t 34) (.t 36) (.v (.bool false)), none, none, []⟩, ⟨(some 38), .mv (.t 37), none, none, []⟩, ⟨(some 39), .mv (.t 5), (some (38, true)), none, []⟩, ⟨(some 40), .bin .eql (.t 39) (.v (.int .i64 0)), (some (38, true)), none, []⟩, ⟨(some 41), .pick (.t 38) (.t 40) (.v (.bool false)), none, none, []⟩, ⟨(some 0), .mv (.t 41), none, none, []⟩])
  .ret)))))⟩
/-- pochoir/pochoirlaw30.Few -/
def s7 : SFn :=
 ⟨32, [.tmp 2],
  (.seq (.reg [⟨(some 1), .box 28 (.t 0), none, none, []⟩, ⟨(some 2), .mv (.v (.bool false)), none, none, []⟩])
  (.seq (.seq (.reg [⟨(some 5), .faddr 10 (.t 1), none, none, []⟩, ⟨(some 6), .load none (.t 5), none, none, []⟩, ⟨(some 7), .len false (.t 6), none, none, []⟩, ⟨(some 8), .mv (.v (.int .i64 0)), none, none, []⟩])
  (.block 0 (.loop (.seq (.reg [⟨(some 9), .bin .lss (.t 8) (.t 7), none, none, []⟩])
  (.seq (.cond (.t 9) .skip (.exit 0))
  (.seq (.block 1 (.seq (.reg [⟨(some 10), .iaddr 1 (.t 6) (.t 8), none, none, []⟩, ⟨(some 11), .load none (.t 10), none, none, []⟩, ⟨(some 4), .mv (.t 11), none, none, []⟩])
  (.seq (.reg [⟨(some 12), .mv (.t 4), none, none, []⟩, ⟨(some 13), .len true (.t 12), none, none, []⟩, ⟨(some 14), .bin .gtr (.t 13) (.v (.int .i64 2000)), none, none, []⟩])
  (.cond (.t 14) (.seq (.reg [⟨(some 2), .mv (.v (.bool false)), none, none, []⟩])
  .ret) .skip))))
  (.reg [⟨(some 15), .bin .add (.t 8) (.v (.int .i64 1)), none, none, []⟩, ⟨(some 8), .mv (.t 15), none, none, []⟩])))))))
  (.seq (.reg [⟨(some 16), .faddr 8 (.t 1), none, none, []⟩, ⟨(some 17), .load none (.t 16), none, none, []⟩, ⟨(some 18), .len false (.t 17), none, none, []⟩, ⟨(some 19), .bin .leq (.t 18) (.v (.int .i64 10)), none, none, []⟩, ⟨(some 20), .mv (.t 19), none, none, []⟩, ⟨(some 21), .faddr 9 (.t 1), (some (20, true)), none, []⟩, ⟨(some 22), .load none (.t 21), (some (20, true)), none, []⟩, ⟨(some 23), .len false (.t 22), (some (20, true)), none, []⟩, ⟨(some 24), .bin .leq (.t 23) (.v (.int .i64 20)), (some (20, true)), none, []⟩, ⟨(some 25), .pick (.t 20) (.t 24) (.v (.bool false)), none, none, []⟩, ⟨(some 26), .mv (.t 25), none, none, []⟩, ⟨(some 27), .faddr 10 (.t 1), (some (26, true)), none, []⟩, ⟨(some 28), .load none (.t 27), (some (26, true)), none, []⟩, ⟨(some 29), .len false (.t 28), (some (26, true)), none, []⟩, ⟨(some 30), .bin .leq (.t 29) (.v (.int .i64 4)), (some (26, true)), none, []⟩, ⟨(some 31), .pick (.t 26) (.t 30) (.v (.bool false)), none, none, []⟩, ⟨(some 2), .mv (.t 31), none, none, []⟩])
  .ret)))⟩
/-- pochoir/sample.At -/
def s8 : SFn :=
 ⟨116, [.cell 8 (some 4), .tmp 9],
  (.seq (.reg [⟨(some 4), .box 28 (.t 0), none, none, []⟩, ⟨(some 8), .box 32 (.v (.agg [(.int .i64 0), (.int .i64 0), (.int .i64 0), (.int .i64 0)])), none, none, []⟩, ⟨(some 9), .mv (.v (.int .i64 0)), none, none, []⟩])
  (.seq (.seq (.reg [⟨(some 17), .load (some 11) (.t 4), none, none, []⟩, ⟨(some 18), .call 16 [(.t 17)], none, none, []⟩, ⟨(some 19), .un .not (.t 18), none, none, []⟩, ⟨(some 20), .mv (.t 19), none, none, []⟩, ⟨(some 21), .mv (.t 1), (some (20, false)), none, []⟩, ⟨(some 22), .bin .lss (.t 21) (.v (.int .i64 0)), (some (20, false)), none, []⟩, ⟨(some 23), .pick (.t 20) (.v (.bool true)) (.t 22), none, none, []⟩, ⟨(some 24), .mv (.t 23), none, none, []⟩, ⟨(some 25), .mv (.t 1), (some (24, false)), none, []⟩, ⟨(some 26), .faddr 8 (.t 4), (some (24, false)), none, []⟩, ⟨(some 27), .load none (.t 26), (some (24, false)), none, []⟩, ⟨(some 28), .len false (.t 27), (some (24, false)), none, []⟩, ⟨(some 29), .bin .geq (.t 25) (.t 28), (some (24, false)), none, []⟩, ⟨(some 30), .pick (.t 24) (.v (.bool true)) (.t 29), none, none, []⟩])
  (.cond (.t 30) (.seq (.reg [⟨(some 31), .build [(.int .i64 0), (.int .i64 0), (.int .i64 0), (.int .i64 0)] [], none, none, []⟩, ⟨none, .store 4 (.t 8) (.t 31), none, none, []⟩, ⟨(some 9), .mv (.v (.int .i64 1)), none, none, []⟩])
  .ret) .skip))
  (.seq (.reg [⟨(some 32), .faddr 8 (.t 4), none, none, []⟩, ⟨(some 33), .load none (.t 32), none, none, []⟩, ⟨(some 34), .mv (.t 1), none, none, []⟩, ⟨(some 35), .iaddr 8 (.t 33) (.t 34), none, none, []⟩, ⟨(some 36), .load (some 8) (.t 35), none, none, []⟩, ⟨(some 10), .box 54 (.v (.agg [(.int .i64 0), (.int .i64 0), (.int .i64 0), (.int .i64 0), (.int .i64 0), (.int .i64 0), (.int .i64 0), (.int .i64 0)])), none, none, []⟩, ⟨none, .store 8 (.t 10) (.t 36), none, none, []⟩])
  (.seq (.seq (.reg [⟨(some 37), .faddr 1 (.t 10), none, none, []⟩, ⟨(some 38), .faddr 2 (.t 37), none, none, []⟩, ⟨(some 39), .load none (.t 38), none, none, []⟩, ⟨(some 40), .bin .eql (.t 39) (.v (.int .i64 0)), none, none, []⟩, ⟨(some 41), .mv (.t 40), none, none, []⟩, ⟨(some 42), .mv (.t 2), (some (41, false)), none, []⟩, ⟨(some 43), .bin .lss (.t 42) (.v (.int .i64 0)), (some (41, false)), none, []⟩, ⟨(some 44), .pick (.t 41) (.v (.bool true)) (.t 43), none, none, []⟩, ⟨(some 45), .mv (.t 44), none, none, []⟩, ⟨(some 46), .mv (.t 2), (some (45, false)), none, []⟩, ⟨(some 47), .faddr 1 (.t 10), (some (45, false)), none, []⟩, ⟨(some 48), .faddr 2 (.t 47), (some (45, false)), none, []⟩, ⟨(some 49), .load none (.t 48), (some (45, false)), none, []⟩, ⟨(some 50), .bin .sub (.t 49) (.v (.int .i64 1)), (some (45, false)), none, []⟩, ⟨(some 51), .bin .mul (.v (.int .i64 256)) (.t 50), (some (45, false)), none, []⟩, ⟨(some 52), .bin .gtr (.t 46) (.t 51), (some (45, false)), none, []⟩, ⟨(some 53), .pick (.t 45) (.v (.bool true)) (.t 52), none, none, []⟩, ⟨(some 54), .mv (.t 53), none, none, []⟩, ⟨(some 55), .mv (.t 3), (some (54, false)), none, []⟩, ⟨(some 56), .bin .lss (.t 55) (.v (.int .i64 0)), (some (54, false)), none, []⟩, ⟨(some 57), .pick (.t 54) (.v (.bool true)) (.t 56), none, none, []⟩, ⟨(some 58), .mv (.t 57), none, none, []⟩, ⟨(some 59), .mv (.t 3), (some (58, false)), none, []⟩, ⟨(some 60), .faddr 1 (.t 10), (some (58, false)), none, []⟩, ⟨(some 61), .faddr 3 (.t 60), (some (58, false)), none, []⟩, ⟨(some 62), .load none (.t 61), (some (58, false)), none, []⟩, ⟨(some 63), .bin .sub (.t 62) (.v (.int .i64 1)), (some (58, false)), none, []⟩, ⟨(some 64), .bin .mul (.v (.int .i64 256)) (.t 63), (some (58, false)), none, []⟩, ⟨(some 65), .bin .gtr (.t 59) (.t 64), (some (58, false)), none, []⟩, ⟨(some 66), .pick (.t 58) (.v (.bool true)) (.t 65), none, none, []⟩])
  (.cond (.t 66) (.seq (.reg [⟨(some 67), .build [(.int .i64 0), (.int .i64 0), (.int .i64 0), (.int .i64 0)] [], none, none, []⟩, ⟨none, .store 4 (.t 8) (.t 67), none, none, []⟩, ⟨(some 9), .mv (.v (.int .i64 7)), none, none, []⟩])
  .ret) .skip))
  (.seq (.regd [⟨(some 68), .faddr 10 (.t 4), none, (some []), []⟩, ⟨(some 69), .load none (.t 68), none, (some []), []⟩, ⟨(some 70), .faddr 5 (.t 10), none, (some []), []⟩, ⟨(some 71), .faddr 0 (.t 70), none, (some []), []⟩, ⟨(some 72), .load none (.t 71), none, (some []), []⟩, ⟨(some 73), .iaddr 1 (.t 69) (.t 72), none, (some []), []⟩, ⟨(some 74), .load none (.t 73), none, (some []), []⟩, ⟨(some 75), .faddr 6 (.t 4), none, (some []), []⟩, ⟨(some 76), .faddr 0 (.t 75), none, (some []), []⟩, ⟨(some 77), .load none (.t 76), none, (some []), []⟩, ⟨(some 78), .faddr 5 (.t 10), none, (some []), []⟩, ⟨(some 79), .load (some 3) (.t 78), none, (some []), []⟩, ⟨(some 80), .build [(.str ⟨#[]⟩), (.int .i64 0), (.int .i64 0), (.int .i64 0), (.int .i64 0)] [(0, 1, (.t 74)), (1, 1, (.t 77)), (2, 3, (.t 79))], none, (some []), []⟩, ⟨(some 11), .box 62 (.v (.agg [(.str ⟨#[]⟩), (.int .i64 0), (.int .i64 0), (.int .i64 0), (.int .i64 0)])), none, none, [(none, (.t 68)), (none, (.t 71)), (none, (.t 73)), (none, (.t 76)), (none, (.t 78))]⟩, ⟨none, .store 5 (.t 11) (.t 80), none, none, []⟩])
  (.seq (.reg [⟨(some 82), .mv (.t 2), none, none, []⟩, ⟨(some 83), .faddr 1 (.t 10), none, none, []⟩, ⟨(some 84), .faddr 2 (.t 83), none, none, []⟩, ⟨(some 85), .load none (.t 84), none, none, []⟩, ⟨(some 86), .call 17 [(.t 82), (.t 85)], none, none, []⟩, ⟨(some 81), .mv (.t 86), none, none, []⟩, ⟨(some 87), .extract (.t 81) 0, none, none, []⟩, ⟨(some 88), .extract (.t 81) 1, none, none, []⟩, ⟨(some 12), .mv (.t 87), none, none, []⟩, ⟨(some 13), .mv (.t 88), none, none, []⟩])
  (.seq (.reg [⟨(some 90), .mv (.t 3), none, none, []⟩, ⟨(some 91), .faddr 1 (.t 10), none, none, []⟩, ⟨(some 92), .faddr 3 (.t 91), none, none, []⟩, ⟨(some 93), .load none (.t 92), none, none, []⟩, ⟨(some 94), .call 17 [(.t 90), (.t 93)], none, none, []⟩, ⟨(some 89), .mv (.t 94), none, none, []⟩, ⟨(some 95), .extract (.t 89) 0, none, none, []⟩, ⟨(some 96), .extract (.t 89) 1, none, none, []⟩, ⟨(some 14), .mv (.t 95), none, none, []⟩, ⟨(some 15), .mv (.t 96), none, none, []⟩])
  (.seq (.reg [⟨(some 97), .load (some 5) (.t 11), none, none, []⟩, ⟨(some 98), .mv (.t 12), none, none, []⟩, ⟨(some 99), .mv (.t 14), none, none, []⟩, ⟨(some 100), .mv (.t 13), none, none, []⟩, ⟨(some 101), .call 18 [(.t 97), (.t 98), (.t 99), (.t 100)], none, none, []⟩, ⟨(some 16), .box 32 (.v (.agg [(.int .i64 0), (.int .i64 0), (.int .i64 0), (.int .i64 0)])), none, none, []⟩, ⟨none, .store 4 (.t 16) (.t 101), none, none, []⟩])
  (.seq (.seq (.reg [⟨(some 102), .mv (.t 15), none, none, []⟩, ⟨(some 103), .bin .eql (.t 102) (.v (.int .i64 0)), none, none, []⟩])
  (.cond (.t 103) (.seq (.reg [⟨(some 104), .load (some 4) (.t 16), none, none, []⟩, ⟨(some 105), .load (some 4) (.t 16), none, none, []⟩, ⟨(some 106), .call 19 [(.t 104), (.t 105), (.v (.int .i64 0))], none, none, []⟩, ⟨none, .store 4 (.t 8) (.t 106), none, none, []⟩, ⟨(some 9), .mv (.v (.int .i64 0)), none, none, []⟩])
  .ret) .skip))
  (.seq (.regd [⟨(some 107), .load (some 4) (.t 16), none, (some []), []⟩, ⟨(some 108), .load (some 5) (.t 11), none, (some []), []⟩, ⟨(some 109), .mv (.t 12), none, (some []), []⟩, ⟨(some 110), .mv (.t 14), none, (some []), []⟩, ⟨(some 111), .bin .add (.t 110) (.v (.int .i64 1)), none, (some []), []⟩, ⟨(some 112), .mv (.t 13), none, (some []), []⟩, ⟨(some 113), .call 18 [(.t 108), (.t 109), (.t 111), (.t 112)], none, none, [(none, (.t 16))]⟩, ⟨(some 114), .mv (.t 15), none, (some [6]), []⟩, ⟨(some 115), .call 19 [(.t 107), (.t 113), (.t 114)], none, none, []⟩, ⟨none, .store 4 (.t 8) (.t 115), none, none, []⟩, ⟨(some 9), .mv (.v (.int .i64 0)), none, (some []), []⟩])
  .ret))))))))))⟩
/-- pochoir/pochoirref32.At -/
def s9 : SFn :=
 ⟨172, [.cell 8 (some 4), .tmp 9],
  (.seq (.reg [⟨(some 4), .box 28 (.t 0), none, none, []⟩, ⟨(some 8), .box 32 (.v (.agg [(.int .i64 0), (.int .i64 0), (.int .i64 0), (.int .i64 0)])), none, none, []⟩, ⟨(some 9), .mv (.v (.int .i64 0)), none, none, []⟩])
  (.seq (.seq (.reg [⟨(some 20), .load (some 11) (.t 4), none, none, []⟩, ⟨(some 21), .call 14 [(.t 20)], none, none, []⟩, ⟨(some 22), .un .not (.t 21), none, none, []⟩, ⟨(some 23), .mv (.t 22), none, none, []⟩, ⟨(some 24), .mv (.t 1), (some (23, false)), none, []⟩, ⟨(some 25), .bin .lss (.t 24) (.v (.int .i64 0)), (some (23, false)), none, []⟩, ⟨(some 26), .pick (.t 23) (.v (.bool true)) (.t 25), none, none, []⟩, ⟨(some 27), .mv (.t 26), none, none, []⟩, ⟨(some 28), .mv (.t 1), (some (27, false)), none, []⟩, ⟨(some 29), .faddr 8 (.t 4), (some (27, false)), none, []⟩, ⟨(some 30), .load none (.t 29), (some (27, false)), none, []⟩, ⟨(some 31), .len false (.t 30), (some (27, false)), none, []⟩, ⟨(some 32), .bin .geq (.t 28) (.t 31), (some (27, false)), none, []⟩, ⟨(some 33), .pick (.t 27) (.v (.bool true)) (.t 32), none, none, []⟩])
  (.cond (.t 33) (.seq (.reg [⟨(some 34), .build [(.int .i64 0), (.int .i64 0), (.int .i64 0), (.int .i64 0)] [], none, none, []⟩, ⟨none, .store 4 (.t 8) (.t 34), none, none, []⟩, ⟨(some 9), .mv (.v (.int .i64 1)), none, none, []⟩])
  .ret) .skip))
  (.seq (.reg [⟨(some 35), .faddr 8 (.t 4), none, none, []⟩, ⟨(some 36), .load none (.t 35), none, none, []⟩, ⟨(some 37), .mv (.t 1), none, none, []⟩, ⟨(some 38), .iaddr 8 (.t 36) (.t 37), none, none, []⟩, ⟨(some 39), .load (some 8) (.t 38), none, none, []⟩, ⟨(some 10), .box 54 (.v (.agg [(.int .i64 0), (.int .i64 0), (.int .i64 0), (.int .i64 0), (.int .i64 0), (.int .i64 0), (.int .i64 0), (.int .i64 0)])), none, none, []⟩, ⟨none, .store 8 (.t 10) (.t 39), none, none, []⟩])
  (.seq (.seq (.reg [⟨(some 40), .faddr 1 (.t 10), none, none, []⟩, ⟨(some 41), .faddr 2 (.t 40), none, none, []⟩, ⟨(some 42), .load none (.t 41), none, none, []⟩, ⟨(some 43), .bin .eql (.t 42) (.v (.int .i64 0)), none, none, []⟩, ⟨(some 44), .mv (.t 43), none, none, []⟩, ⟨(some 45), .mv (.t 2), (some (44, false)), none, []⟩, ⟨(some 46), .bin .lss (.t 45) (.v (.int .i64 0)), (some (44, false)), none, []⟩, ⟨(some 47), .pick (.t 44) (.v (.bool true)) (.t 46), none, none, []⟩, ⟨(some 48), .mv (.t 47), none, none, []⟩, ⟨(some 49), .mv (.t 3), (some (48, false)), none, []⟩, ⟨(some 50), .bin .lss (.t 49) (.v (.int .i64 0)), (some (48, false)), none, []⟩, ⟨(some 51), .pick (.t 48) (.v (.bool true)) (.t 50), none, none, []⟩, ⟨(some 52), .mv (.t 51), none, none, []⟩, ⟨(some 53), .mv (.t 2), (some (52, false)), none, []⟩, ⟨(some 54), .faddr 1 (.t 10), (some (52, false)), none, []⟩, ⟨(some 55), .faddr 2 (.t 54), (some (52, false)), none, []⟩, ⟨(some 56), .load none (.t 55), (some (52, false)), none, []⟩, ⟨(some 57), .bin .sub (.t 56) (.v (.int .i64 1)), (some (52, false)), none, []⟩, ⟨(some 58), .bin .mul (.v (.int .i64 256)) (.t 57), (some (52, false)), none, []⟩, ⟨(some 59), .bin .gtr (.t 53) (.t 58), (some (52, false)), none, []⟩, ⟨(some 60), .pick (.t 52) (.v (.bool true)) (.t 59), none, none, []⟩, ⟨(some 61), .mv (.t 60), none, none, []⟩, ⟨(some 62), .mv (.t 3), (some (61, false)), none, []⟩, ⟨(some 63), .faddr 1 (.t 10), (some (61, false)), none, []⟩, ⟨(some 64), .faddr 3 (.t 63), (some (61, false)), none, []⟩, ⟨(some 65), .load none (.t 64), (some (61, false)), none, []⟩, ⟨(some 66), .bin .sub (.t 65) (.v (.int .i64 1)), (some (61, false)), none, []⟩, ⟨(some 67), .bin .mul (.v (.int .i64 256)) (.t 66), (some (61, false)), none, []⟩, ⟨(some 68), .bin .gtr (.t 62) (.t 67), (some (61, false)), none, []⟩, ⟨(some 69), .pick (.t 61) (.v (.bool true)) (.t 68), none, none, []⟩])
  (.cond (.t 69) (.seq (.reg [⟨(some 70), .build [(.int .i64 0), (.int .i64 0), (.int .i64 0), (.int .i64 0)] [], none, none, []⟩, ⟨none, .store 4 (.t 8) (.t 70), none, none, []⟩, ⟨(some 9), .mv (.v (.int .i64 7)), none, none, []⟩])
  .ret) .skip))
  (.seq (.reg [⟨(some 72), .mv (.t 2), none, none, []⟩, ⟨(some 73), .faddr 1 (.t 10), none, none, []⟩, ⟨(some 74), .faddr 2 (.t 73), none, none, []⟩, ⟨(some 75), .load none (.t 74), none, none, []⟩, ⟨(some 76), .call 20 [(.t 72), (.t 75)], none, none, []⟩, ⟨(some 71), .mv (.t 76), none, none, []⟩, ⟨(some 77), .extract (.t 71) 0, none, none, []⟩, ⟨(some 78), .extract (.t 71) 1, none, none, []⟩, ⟨(some 11), .mv (.t 77), none, none, []⟩, ⟨(some 12), .mv (.t 78), none, none, []⟩])
  (.seq (.reg [⟨(some 80), .mv (.t 3), none, none, []⟩, ⟨(some 81), .faddr 1 (.t 10), none, none, []⟩, ⟨(some 82), .faddr 3 (.t 81), none, none, []⟩, ⟨(some 83), .load none (.t 82), none, none, []⟩, ⟨(some 84), .call 20 [(.t 80), (.t 83)], none, none, []⟩, ⟨(some 79), .mv (.t 84), none, none, []⟩, ⟨(some 85), .extract (.t 79) 0, none, none, []⟩, ⟨(some 86), .extract (.t 79) 1, none, none, []⟩, ⟨(some 13), .mv (.t 85), none, none, []⟩, ⟨(some 14), .mv (.t 86), none, none, []⟩])
  (.seq (.reg [⟨(some 87), .build [(.int .i64 0), (.int .i64 0), (.int .i64 0), (.int .i64 0)] [], none, none, []⟩, ⟨(some 15), .box 32 (.v (.agg [(.int .i64 0), (.int .i64 0), (.int .i64 0), (.int .i64 0)])), none, none, []⟩, ⟨none, .store 4 (.t 15) (.t 87), none, none, []⟩])
  (.seq (.seq (.reg [⟨(some 16), .mv (.v (.int .i64 0)), none, none, []⟩])
  (.block 0 (.loop (.seq (.seq (.reg [⟨(some 88), .mv (.t 16), none, none, []⟩, ⟨(some 89), .bin .lss (.t 88) (.v (.int .i64 4)), none, none, []⟩])
  (.cond (.t 89) .skip (.exit 0)))
  (.seq (.block 1 (.seq (.regd [⟨(some 92), .mv (.t 12), none, (some []), []⟩, ⟨(some 93), .bin .sub (.v (.int .i64 256)) (.t 92), none, (some []), []⟩, ⟨(some 94), .mv (.t 12), none, (some []), []⟩, ⟨(some 95), .bsl 3 [(.int .i64 0), (.int .i64 0)] 2 1 [(0, 1, (.t 93)), (1, 1, (.t 94))], none, (some []), []⟩, ⟨(some 96), .mv (.t 16), none, (some [3]), []⟩, ⟨(some 97), .bin .rem (.t 96) (.v (.int .i64 2)), none, (some [3]), []⟩, ⟨(some 98), .iaddr 1 (.t 95) (.t 97), none, (some []), []⟩, ⟨(some 99), .load none (.t 98), none, (some []), []⟩, ⟨(some 100), .mv (.t 14), none, (some [3]), []⟩, ⟨(some 101), .bin .sub (.v (.int .i64 256)) (.t 100), none, (some [3]), []⟩, ⟨(some 102), .mv (.t 14), none, (some [3]), []⟩, ⟨(some 103), .bsl 3 [(.int .i64 0), (.int .i64 0)] 2 1 [(0, 1, (.t 101)), (1, 1, (.t 102))], none, (some [3]), []⟩, ⟨(some 104), .mv (.t 16), none, (some [3, 11]), []⟩, ⟨(some 105), .bin .quo (.t 104) (.v (.int .i64 2)), none, (some [3, 11]), []⟩, ⟨(some 106), .iaddr 1 (.t 103) (.t 105), none, (some [3]), []⟩, ⟨(some 107), .load none (.t 106), none, (some [3]), []⟩, ⟨(some 108), .bin .mul (.t 99) (.t 107), none, (some []), []⟩, ⟨(some 17), .mv (.t 108), none, (some []), []⟩])
  (.seq (.seq (.reg [⟨(some 109), .mv (.t 17), none, none, []⟩, ⟨(some 110), .bin .eql (.t 109) (.v (.int .i64 0)), none, none, []⟩])
  (.cond (.t 110) (.exit 1) .skip))
  (.seq (.reg [⟨(some 112), .load (some 11) (.t 4), none, none, []⟩, ⟨(some 113), .faddr 5 (.t 10), none, none, []⟩, ⟨(some 114), .faddr 0 (.t 113), none, none, []⟩, ⟨(some 115), .load none (.t 114), none, none, []⟩, ⟨(some 116), .faddr 5 (.t 10), none, none, []⟩, ⟨(some 117), .faddr 1 (.t 116), none, none, []⟩, ⟨(some 118), .load none (.t 117), none, none, []⟩, ⟨(some 119), .mv (.t 11), none, none, []⟩, ⟨(some 120), .bin .add (.t 118) (.t 119), none, none, []⟩, ⟨(some 121), .mv (.t 16), none, none, []⟩, ⟨(some 122), .bin .rem (.t 121) (.v (.int .i64 2)), none, none, []⟩, ⟨(some 123), .bin .add (.t 120) (.t 122), none, none, []⟩, ⟨(some 124), .faddr 5 (.t 10), none, none, []⟩, ⟨(some 125), .faddr 2 (.t 124), none, none, []⟩, ⟨(some 126), .load none (.t 125), none, none, []⟩, ⟨(some 127), .mv (.t 13), none, none, []⟩, ⟨(some 128), .bin .add (.t 126) (.t 127), none, none, []⟩, ⟨(some 129), .mv (.t 16), none, none, []⟩, ⟨(some 130), .bin .quo (.t 129) (.v (.int .i64 2)), none, none, []⟩, ⟨(some 131), .bin .add (.t 128) (.t 130), none, none, []⟩, ⟨(some 132), .call 15 [(.t 112), (.t 115), (.t 123), (.t 131)], none, none, []⟩, ⟨(some 111), .mv (.t 132), none, none, []⟩, ⟨(some 133), .extract (.t 111) 0, none, none, []⟩, ⟨(some 134), .extract (.t 111) 1, none, none, []⟩, ⟨(some 18), .box 56 (.v (.agg [(.int .u8 0), (.int .u8 0), (.int .u8 0), (.int .u8 0)])), none, none, []⟩, ⟨none, .store 4 (.t 18) (.t 133), none, none, []⟩, ⟨(some 19), .mv (.t 134), none, none, []⟩])
  (.seq (.reg [⟨(some 135), .iarr 4 1 (.t 15) (.v (.int .i64 0)), none, none, []⟩, ⟨(some 136), .load none (.t 135), none, none, []⟩, ⟨(some 137), .mv (.t 17), none, none, []⟩, ⟨(some 138), .faddr 0 (.t 18), none, none, []⟩, ⟨(some 139), .load none (.t 138), none, none, []⟩, ⟨(some 140), .conv .i64 (.t 139), none, none, []⟩, ⟨(some 141), .bin .mul (.t 137) (.t 140), none, none, []⟩, ⟨(some 142), .bin .add (.t 136) (.t 141), none, none, []⟩, ⟨(some 143), .iarr 4 1 (.t 15) (.v (.int .i64 0)), none, none, []⟩, ⟨none, .store 1 (.t 143) (.t 142), none, none, []⟩])
  (.seq (.reg [⟨(some 144), .iarr 4 1 (.t 15) (.v (.int .i64 1)), none, none, []⟩, ⟨(some 145), .load none (.t 144), none, none, []⟩, ⟨(some 146), .mv (.t 17), none, none, []⟩, ⟨(some 147), .faddr 1 (.t 18), none, none, []⟩, ⟨(some 148), .load none (.t 147), none, none, []⟩, ⟨(some 149), .conv .i64 (.t 148), none, none, []⟩, ⟨(some 150), .bin .mul (.t 146) (.t 149), none, none, []⟩, ⟨(some 151), .bin .add (.t 145) (.t 150), none, none, []⟩, ⟨(some 152), .iarr 4 1 (.t 15) (.v (.int .i64 1)), none, none, []⟩, ⟨none, .store 1 (.t 152) (.t 151), none, none, []⟩])
  (.seq (.reg [⟨(some 153), .iarr 4 1 (.t 15) (.v (.int .i64 2)), none, none, []⟩, ⟨(some 154), .load none (.t 153), none, none, []⟩, ⟨(some 155), .mv (.t 17), none, none, []⟩, ⟨(some 156), .faddr 2 (.t 18), none, none, []⟩, ⟨(some 157), .load none (.t 156), none, none, []⟩, ⟨(some 158), .conv .i64 (.t 157), none, none, []⟩, ⟨(some 159), .bin .mul (.t 155) (.t 158), none, none, []⟩, ⟨(some 160), .bin .add (.t 154) (.t 159), none, none, []⟩, ⟨(some 161), .iarr 4 1 (.t 15) (.v (.int .i64 2)), none, none, []⟩, ⟨none, .store 1 (.t 161) (.t 160), none, none, []⟩])
  (.reg [⟨(some 162), .iarr 4 1 (.t 15) (.v (.int .i64 3)), none, none, []⟩, ⟨(some 163), .load none (.t 162), none, none, []⟩, ⟨(some 164), .mv (.t 17), none, none, []⟩, ⟨(some 165), .faddr 3 (.t 18), none, none, []⟩, ⟨(some 166), .load none (.t 165), none, none, []⟩, ⟨(some 167), .conv .i64 (.t 166), none, none, []⟩, ⟨(some 168), .bin .mul (.t 164) (.t 167), none, none, []⟩, ⟨(some 169), .bin .add (.t 163) (.t 168), none, none, []⟩, ⟨(some 170), .iarr 4 1 (.t 15) (.v (.int .i64 3)), none, none, []⟩, ⟨none, .store 1 (.t 170) (.t 169), none, none, []⟩]))))))))
  (.reg [⟨(some 90), .mv (.t 16), none, none, []⟩, ⟨(some 91), .bin .add (.t 90) (.v (.int .i64 1)), none, none, []⟩, ⟨(some 16), .mv (.t 91), none, none, []⟩]))))))
  (.seq (.reg [⟨(some 171), .load (some 4) (.t 15), none, none, []⟩, ⟨none, .store 4 (.t 8) (.t 171), none, none, []⟩, ⟨(some 9), .mv (.v (.int .i64 0)), none, none, []⟩])
  .ret)))))))))⟩
/-- pochoir/sample.Median -/
def s10 : SFn :=
 ⟨17, [.tmp 2],
  (.seq (.reg [⟨(some 1), .box 32 (.t 0), none, none, []⟩, ⟨(some 2), .mv (.v (.int .i64 0)), none, none, []⟩])
  (.seq (.reg [⟨(some 3), .iarr 4 1 (.t 1) (.v (.int .i64 1)), none, none, []⟩, ⟨(some 4), .load none (.t 3), none, none, []⟩, ⟨(some 5), .iarr 4 1 (.t 1) (.v (.int .i64 2)), none, none, []⟩, ⟨(some 6), .load none (.t 5), none, none, []⟩, ⟨(some 7), .mnmx false [(.t 4), (.t 6)], none, none, []⟩, ⟨(some 8), .iarr 4 1 (.t 1) (.v (.int .i64 1)), none, none, []⟩, ⟨(some 9), .load none (.t 8), none, none, []⟩, ⟨(some 10), .iarr 4 1 (.t 1) (.v (.int .i64 2)), none, none, []⟩, ⟨(some 11), .load none (.t 10), none, none, []⟩, ⟨(some 12), .mnmx true [(.t 9), (.t 11)], none, none, []⟩, ⟨(some 13), .iarr 4 1 (.t 1) (.v (.int .i64 3)), none, none, []⟩, ⟨(some 14), .load none (.t 13), none, none, []⟩, ⟨(some 15), .mnmx false [(.t 12), (.t 14)], none, none, []⟩, ⟨(some 16), .mnmx true [(.t 7), (.t 15)], none, none, []⟩, ⟨(some 2), .mv (.t 16), none, none, []⟩])
  .ret))⟩
/-- pochoir/pochoirref32.Median -/
def s11 : SFn :=
 ⟨10, [.tmp 2],
  (.seq (.reg [⟨(some 1), .box 32 (.t 0), none, none, []⟩, ⟨(some 2), .mv (.v (.int .i64 0)), none, none, []⟩])
  (.seq (.reg [⟨(some 3), .iarr 4 1 (.t 1) (.v (.int .i64 1)), none, none, []⟩, ⟨(some 4), .load none (.t 3), none, none, []⟩, ⟨(some 5), .iarr 4 1 (.t 1) (.v (.int .i64 2)), none, none, []⟩, ⟨(some 6), .load none (.t 5), none, none, []⟩, ⟨(some 7), .iarr 4 1 (.t 1) (.v (.int .i64 3)), none, none, []⟩, ⟨(some 8), .load none (.t 7), none, none, []⟩, ⟨(some 9), .call 21 [(.t 4), (.t 6), (.t 8)], none, none, []⟩, ⟨(some 2), .mv (.t 9), none, none, []⟩])
  .ret))⟩
/-- pochoir/sample.Cover -/
def s12 : SFn :=
 ⟨61, [.tmp 6, .tmp 7],
  (.seq (.reg [⟨(some 5), .box 42 (.t 2), none, none, []⟩, ⟨(some 6), .mv (.v (.int .u8 0)), none, none, []⟩, ⟨(some 7), .mv (.v (.int .i64 0)), none, none, []⟩])
  (.seq (.seq (.reg [⟨(some 10), .mv (.t 1), none, none, []⟩, ⟨(some 11), .bin .lss (.t 10) (.v (.int .i64 1)), none, none, []⟩, ⟨(some 12), .mv (.t 11), none, none, []⟩, ⟨(some 13), .mv (.t 1), (some (12, false)), none, []⟩, ⟨(some 14), .bin .gtr (.t 13) (.v (.int .i64 16)), (some (12, false)), none, []⟩, ⟨(some 15), .pick (.t 12) (.v (.bool true)) (.t 14), none, none, []⟩, ⟨(some 16), .mv (.t 15), none, none, []⟩, ⟨(some 17), .load (some 2) (.t 5), (some (16, false)), none, []⟩, ⟨(some 18), .call 22 [(.t 17)], (some (16, false)), none, []⟩, ⟨(some 19), .un .not (.t 18), (some (16, false)), none, []⟩, ⟨(some 20), .pick (.t 16) (.v (.bool true)) (.t 19), none, none, []⟩, ⟨(some 21), .mv (.t 20), none, none, []⟩, ⟨(some 22), .faddr 0 (.t 5), (some (21, false)), none, []⟩, ⟨(some 23), .load none (.t 22), (some (21, false)), none, []⟩, ⟨(some 24), .bin .leq (.t 23) (.v (.int .i64 0)), (some (21, false)), none, []⟩, ⟨(some 25), .pick (.t 21) (.v (.bool true)) (.t 24), none, none, []⟩, ⟨(some 26), .mv (.t 25), none, none, []⟩, ⟨(some 27), .faddr 0 (.t 5), (some (26, false)), none, []⟩, ⟨(some 28), .load none (.t 27), (some (26, false)), none, []⟩, ⟨(some 29), .bin .gtr (.t 28) (.v (.int .i64 1073741824)), (some (26, false)), none, []⟩, ⟨(some 30), .pick (.t 26) (.v (.bool true)) (.t 29), none, none, []⟩, ⟨(some 31), .mv (.t 30), none, none, []⟩, ⟨(some 32), .faddr 1 (.t 5), (some (31, false)), none, []⟩, ⟨(some 33), .load none (.t 32), (some (31, false)), none, []⟩, ⟨(some 34), .bin .gtr (.t 33) (.v (.int .i64 1073741824)), (some (31, false)), none, []⟩, ⟨(some 35), .pick (.t 31) (.v (.bool true)) (.t 34), none, none, []⟩])
  (.cond (.t 35) (.seq (.reg [⟨(some 6), .mv (.v (.int .u8 0)), none, none, []⟩, ⟨(some 7), .mv (.v (.int .i64 1)), none, none, []⟩])
  .ret) .skip))
  (.seq (.reg [⟨(some 36), .mv (.t 0), none, none, []⟩, ⟨(some 37), .mnmx true [(.t 36), (.v (.int .i64 0))], none, none, []⟩, ⟨(some 38), .mnmx false [(.t 37), (.v (.int .i64 16711680))], none, none, []⟩, ⟨(some 0), .mv (.t 38), none, none, []⟩])
  (.seq (.reg [⟨(some 39), .faddr 1 (.t 5), none, none, []⟩, ⟨(some 40), .load none (.t 39), none, none, []⟩, ⟨(some 41), .bin .mul (.v (.int .i64 65536)) (.t 40), none, none, []⟩, ⟨(some 8), .mv (.t 41), none, none, []⟩])
  (.seq (.reg [⟨(some 42), .mv (.t 8), none, none, []⟩, ⟨(some 43), .bin .mul (.v (.int .i64 255)) (.t 42), none, none, []⟩, ⟨(some 44), .bin .quo (.t 43) (.v (.int .i64 2)), none, none, []⟩, ⟨(some 45), .mv (.t 0), none, none, []⟩, ⟨(some 46), .bin .mul (.v (.int .i64 2)) (.t 45), none, none, []⟩, ⟨(some 47), .bin .sub (.t 46) (.v (.int .i64 16711680)), none, none, []⟩, ⟨(some 48), .mv (.t 1), none, none, []⟩, ⟨(some 49), .bin .mul (.t 47) (.t 48), none, none, []⟩, ⟨(some 50), .faddr 0 (.t 5), none, none, []⟩, ⟨(some 51), .load none (.t 50), none, none, []⟩, ⟨(some 52), .bin .mul (.t 49) (.t 51), none, none, []⟩, ⟨(some 53), .bin .add (.t 44) (.t 52), none, none, []⟩, ⟨(some 9), .mv (.t 53), none, none, []⟩])
  (.seq (.seq (.reg [⟨(some 54), .mv (.t 9), none, none, []⟩, ⟨(some 55), .bin .lss (.t 54) (.v (.int .i64 0)), none, none, []⟩])
  (.cond (.t 55) (.seq (.reg [⟨(some 6), .mv (.v (.int .u8 0)), none, none, []⟩, ⟨(some 7), .mv (.v (.int .i64 0)), none, none, []⟩])
  .ret) .skip))
  (.seq (.reg [⟨(some 56), .mv (.t 9), none, none, []⟩, ⟨(some 57), .mv (.t 8), none, none, []⟩, ⟨(some 58), .bin .quo (.t 56) (.t 57), none, none, []⟩, ⟨(some 59), .mnmx false [(.t 58), (.v (.int .i64 255))], none, none, []⟩, ⟨(some 60), .conv .u8 (.t 59), none, none, []⟩, ⟨(some 6), .mv (.t 60), none, none, []⟩, ⟨(some 7), .mv (.v (.int .i64 0)), none, none, []⟩])
  .ret)))))))⟩
/-- pochoir/pochoirref32.Cover -/
def s13 : SFn :=
 ⟨61, [.tmp 6, .tmp 7],
  (.seq (.reg [⟨(some 5), .box 42 (.t 2), none, none, []⟩, ⟨(some 6), .mv (.v (.int .i64 0)), none, none, []⟩, ⟨(some 7), .mv (.v (.int .i64 0)), none, none, []⟩])
  (.seq (.seq (.reg [⟨(some 11), .mv (.t 1), none, none, []⟩, ⟨(some 12), .bin .lss (.t 11) (.v (.int .i64 1)), none, none, []⟩, ⟨(some 13), .mv (.t 12), none, none, []⟩, ⟨(some 14), .mv (.t 1), (some (13, false)), none, []⟩, ⟨(some 15), .bin .gtr (.t 14) (.v (.int .i64 16)), (some (13, false)), none, []⟩, ⟨(some 16), .pick (.t 13) (.v (.bool true)) (.t 15), none, none, []⟩, ⟨(some 17), .mv (.t 16), none, none, []⟩, ⟨(some 18), .load (some 2) (.t 5), (some (17, false)), none, []⟩, ⟨(some 19), .call 23 [(.t 18)], (some (17, false)), none, []⟩, ⟨(some 20), .un .not (.t 19), (some (17, false)), none, []⟩, ⟨(some 21), .pick (.t 17) (.v (.bool true)) (.t 20), none, none, []⟩, ⟨(some 22), .mv (.t 21), none, none, []⟩, ⟨(some 23), .faddr 0 (.t 5), (some (22, false)), none, []⟩, ⟨(some 24), .load none (.t 23), (some (22, false)), none, []⟩, ⟨(some 25), .bin .leq (.t 24) (.v (.int .i64 0)), (some (22, false)), none, []⟩, ⟨(some 26), .pick (.t 22) (.v (.bool true)) (.t 25), none, none, []⟩, ⟨(some 27), .mv (.t 26), none, none, []⟩, ⟨(some 28), .faddr 0 (.t 5), (some (27, false)), none, []⟩, ⟨(some 29), .load none (.t 28), (some (27, false)), none, []⟩, ⟨(some 30), .bin .gtr (.t 29) (.v (.int .i64 1073741824)), (some (27, false)), none, []⟩, ⟨(some 31), .pick (.t 27) (.v (.bool true)) (.t 30), none, none, []⟩, ⟨(some 32), .mv (.t 31), none, none, []⟩, ⟨(some 33), .faddr 1 (.t 5), (some (32, false)), none, []⟩, ⟨(some 34), .load none (.t 33), (some (32, false)), none, []⟩, ⟨(some 35), .bin .gtr (.t 34) (.v (.int .i64 1073741824)), (some (32, false)), none, []⟩, ⟨(some 36), .pick (.t 32) (.v (.bool true)) (.t 35), none, none, []⟩])
  (.cond (.t 36) (.seq (.reg [⟨(some 6), .mv (.v (.int .i64 0)), none, none, []⟩, ⟨(some 7), .mv (.v (.int .i64 1)), none, none, []⟩])
  .ret) .skip))
  (.seq (.reg [⟨(some 37), .mv (.t 0), none, none, []⟩, ⟨(some 38), .mnmx true [(.t 37), (.v (.int .i64 0))], none, none, []⟩, ⟨(some 39), .mnmx false [(.t 38), (.v (.int .i64 16711680))], none, none, []⟩, ⟨(some 0), .mv (.t 39), none, none, []⟩])
  (.seq (.reg [⟨(some 40), .faddr 1 (.t 5), none, none, []⟩, ⟨(some 41), .load none (.t 40), none, none, []⟩, ⟨(some 8), .mv (.t 41), none, none, []⟩])
  (.seq (.reg [⟨(some 42), .mv (.t 8), none, none, []⟩, ⟨(some 43), .bin .mul (.v (.int .i64 8355840)) (.t 42), none, none, []⟩, ⟨(some 44), .mv (.t 0), none, none, []⟩, ⟨(some 45), .bin .mul (.v (.int .i64 2)) (.t 44), none, none, []⟩, ⟨(some 46), .bin .sub (.t 45) (.v (.int .i64 16711680)), none, none, []⟩, ⟨(some 47), .mv (.t 1), none, none, []⟩, ⟨(some 48), .bin .mul (.t 46) (.t 47), none, none, []⟩, ⟨(some 49), .faddr 0 (.t 5), none, none, []⟩, ⟨(some 50), .load none (.t 49), none, none, []⟩, ⟨(some 51), .bin .mul (.t 48) (.t 50), none, none, []⟩, ⟨(some 52), .bin .add (.t 43) (.t 51), none, none, []⟩, ⟨(some 9), .mv (.t 52), none, none, []⟩])
  (.seq (.reg [⟨(some 53), .mv (.t 9), none, none, []⟩, ⟨(some 54), .mv (.t 8), none, none, []⟩, ⟨(some 55), .bin .mul (.v (.int .i64 65536)) (.t 54), none, none, []⟩, ⟨(some 56), .build [(.int .i64 0), (.int .i64 0)] [(0, 1, (.t 53)), (1, 1, (.t 55))], none, none, []⟩, ⟨(some 57), .call 24 [(.t 56)], none, none, []⟩, ⟨(some 10), .mv (.t 57), none, none, []⟩])
  (.seq (.reg [⟨(some 58), .mv (.t 10), none, none, []⟩, ⟨(some 59), .mnmx true [(.t 58), (.v (.int .i64 0))], none, none, []⟩, ⟨(some 60), .mnmx false [(.t 59), (.v (.int .i64 255))], none, none, []⟩, ⟨(some 6), .mv (.t 60), none, none, []⟩, ⟨(some 7), .mv (.v (.int .i64 0)), none, none, []⟩])
  .ret)))))))⟩
/-- pochoir/pochoirref30.May -/
def s14 : SFn :=
 ⟨113, [.tmp 2],
  (.seq (.reg [⟨(some 1), .box 28 (.t 0), none, none, []⟩, ⟨(some 2), .mv (.v (.bool false)), none, none, []⟩])
  (.seq (.seq (.reg [⟨(some 5), .faddr 0 (.t 1), none, none, []⟩, ⟨(some 6), .load none (.t 5), none, none, []⟩, ⟨(some 7), .call 25 [(.t 6), (.v (.int .i64 16)), (.v (.int .i64 16384))], none, none, []⟩, ⟨(some 8), .un .not (.t 7), none, none, []⟩, ⟨(some 9), .mv (.t 8), none, none, []⟩, ⟨(some 10), .faddr 1 (.t 1), (some (9, false)), none, []⟩, ⟨(some 11), .load none (.t 10), (some (9, false)), none, []⟩, ⟨(some 12), .call 25 [(.t 11), (.v (.int .i64 1)), (.v (.int .i64 128))], (some (9, false)), none, []⟩, ⟨(some 13), .un .not (.t 12), (some (9, false)), none, []⟩, ⟨(some 14), .pick (.t 9) (.v (.bool true)) (.t 13), none, none, []⟩, ⟨(some 15), .mv (.t 14), none, none, []⟩, ⟨(some 16), .faddr 2 (.t 1), (some (15, false)), none, []⟩, ⟨(some 17), .load none (.t 16), (some (15, false)), none, []⟩, ⟨(some 18), .call 25 [(.t 17), (.v (.int .i64 1)), (.v (.int .i64 16))], (some (15, false)), none, []⟩, ⟨(some 19), .un .not (.t 18), (some (15, false)), none, []⟩, ⟨(some 20), .pick (.t 15) (.v (.bool true)) (.t 19), none, none, []⟩, ⟨(some 21), .mv (.t 20), none, none, []⟩, ⟨(some 22), .faddr 3 (.t 1), (some (21, false)), none, []⟩, ⟨(some 23), .load none (.t 22), (some (21, false)), none, []⟩, ⟨(some 24), .call 26 [(.t 23)], (some (21, false)), none, []⟩, ⟨(some 25), .un .not (.t 24), (some (21, false)), none, []⟩, ⟨(some 26), .pick (.t 21) (.v (.bool true)) (.t 25), none, none, []⟩, ⟨(some 27), .mv (.t 26), none, none, []⟩, ⟨(some 28), .faddr 4 (.t 1), (some (27, false)), none, []⟩, ⟨(some 29), .load none (.t 28), (some (27, false)), none, []⟩, ⟨(some 30), .call 26 [(.t 29)], (some (27, false)), none, []⟩, ⟨(some 31), .un .not (.t 30), (some (27, false)), none, []⟩, ⟨(some 32), .pick (.t 27) (.v (.bool true)) (.t 31), none, none, []⟩, ⟨(some 33), .mv (.t 32), none, none, []⟩, ⟨(some 34), .faddr 5 (.t 1), (some (33, false)), none, []⟩, ⟨(some 35), .load none (.t 34), (some (33, false)), none, []⟩, ⟨(some 36), .call 26 [(.t 35)], (some (33, false)), none, []⟩, ⟨(some 37), .un .not (.t 36), (some (33, false)), none, []⟩, ⟨(some 38), .pick (.t 33) (.v (.bool true)) (.t 37), none, none, []⟩, ⟨(some 39), .mv (.t 38), none, none, []⟩, ⟨(some 40), .faddr 6 (.t 1), (some (39, false)), none, []⟩, ⟨(some 41), .faddr 0 (.t 40), (some (39, false)), none, []⟩, ⟨(some 42), .load none (.t 41), (some (39, false)), none, []⟩, ⟨(some 43), .call 25 [(.t 42), (.v (.int .i64 1)), (.v (.int .i64 1024))], (some (39, false)), none, []⟩, ⟨(some 44), .un .not (.t 43), (some (39, false)), none, []⟩, ⟨(some 45), .pick (.t 39) (.v (.bool true)) (.t 44), none, none, []⟩, ⟨(some 46), .mv (.t 45), none, none, []⟩, ⟨(some 47), .faddr 6 (.t 1), (some (46, false)), none, []⟩, ⟨(some 48), .faddr 1 (.t 47), (some (46, false)), none, []⟩, ⟨(some 49), .load none (.t 48), (some (46, false)), none, []⟩, ⟨(some 50), .call 25 [(.t 49), (.v (.int .i64 1)), (.v (.int .i64 1024))], (some (46, false)), none, []⟩, ⟨(some 51), .un .not (.t 50), (some (46, false)), none, []⟩, ⟨(some 52), .pick (.t 46) (.v (.bool true)) (.t 51), none, none, []⟩, ⟨(some 53), .mv (.t 52), none, none, []⟩, ⟨(some 54), .faddr 10 (.t 1), (some (53, false)), none, []⟩, ⟨(some 55), .load none (.t 54), (some (53, false)), none, []⟩, ⟨(some 56), .len false (.t 55), (some (53, false)), none, []⟩, ⟨(some 57), .bin .gtr (.t 56) (.v (.int .i64 16)), (some (53, false)), none, []⟩, ⟨(some 58), .pick (.t 53) (.v (.bool true)) (.t 57), none, none, []⟩, ⟨(some 59), .mv (.t 58), none, none, []⟩, ⟨(some 60), .faddr 8 (.t 1), (some (59, false)), none, []⟩, ⟨(some 61), .load none (.t 60), (some (59, false)), none, []⟩, ⟨(some 62), .len false (.t 61), (some (59, false)), none, []⟩, ⟨(some 63), .call 25 [(.t 62), (.v (.int .i64 1)), (.v (.int .i64 1024))], (some (59, false)), none, []⟩, ⟨(some 64), .un .not (.t 63), (some (59, false)), none, []⟩, ⟨(some 65), .pick (.t 59) (.v (.bool true)) (.t 64), none, none, []⟩])
  (.cond (.t 65) (.seq (.reg [⟨(some 2), .mv (.v (.bool false)), none, none, []⟩])
  .ret) .skip))
  (.seq (.seq (.reg [⟨(some 3), .mv (.v (.int .i64 0)), none, none, []⟩])
  (.block 0 (.loop (.seq (.seq (.reg [⟨(some 66), .mv (.t 3), none, none, []⟩, ⟨(some 67), .faddr 10 (.t 1), none, none, []⟩, ⟨(some 68), .load none (.t 67), none, none, []⟩, ⟨(some 69), .len false (.t 68), none, none, []⟩, ⟨(some 70), .bin .lss (.t 66) (.t 69), none, none, []⟩])
  (.cond (.t 70) .skip (.exit 0)))
  (.seq (.block 1 (.seq (.regd [⟨(some 73), .faddr 10 (.t 1), none, (some []), []⟩, ⟨(some 74), .load none (.t 73), none, (some []), []⟩, ⟨(some 75), .mv (.t 3), none, (some []), []⟩, ⟨(some 76), .iaddr 1 (.t 74) (.t 75), none, (some []), []⟩, ⟨(some 77), .load none (.t 76), none, (some []), []⟩, ⟨(some 78), .len true (.t 77), none, (some []), []⟩, ⟨(some 79), .faddr 6 (.t 1), none, (some []), []⟩, ⟨(some 80), .faddr 0 (.t 79), none, (some []), []⟩, ⟨(some 81), .load none (.t 80), none, (some []), []⟩, ⟨(some 82), .bin .mul (.v (.int .i64 4)) (.t 81), none, (some []), []⟩, ⟨(some 83), .faddr 6 (.t 1), none, (some []), []⟩, ⟨(some 84), .faddr 1 (.t 83), none, (some []), []⟩, ⟨(some 85), .load none (.t 84), none, (some []), []⟩, ⟨(some 86), .bin .mul (.t 82) (.t 85), none, (some []), []⟩, ⟨(some 87), .bin .neq (.t 78) (.t 86), none, (some []), []⟩])
  (.cond (.t 87) (.seq (.reg [⟨(some 2), .mv (.v (.bool false)), none, none, []⟩])
  .ret) .skip)))
  (.reg [⟨(some 71), .mv (.t 3), none, none, []⟩, ⟨(some 72), .bin .add (.t 71) (.v (.int .i64 1)), none, none, []⟩, ⟨(some 3), .mv (.t 72), none, none, []⟩]))))))
  (.seq (.seq (.reg [⟨(some 4), .mv (.v (.int .i64 0)), none, none, []⟩])
  (.block 2 (.loop (.seq (.seq (.reg [⟨(some 88), .mv (.t 4), none, none, []⟩, ⟨(some 89), .faddr 8 (.t 1), none, none, []⟩, ⟨(some 90), .load none (.t 89), none, none, []⟩, ⟨(some 91), .len false (.t 90), none, none, []⟩, ⟨(some 92), .bin .lss (.t 88) (.t 91), none, none, []⟩])
  (.cond (.t 92) .skip (.exit 2)))
  (.seq (.block 3 (.seq (.regd [⟨(some 95), .faddr 8 (.t 1), none, (some []), []⟩, ⟨(some 96), .load none (.t 95), none, (some []), []⟩, ⟨(some 97), .mv (.t 4), none, (some []), []⟩, ⟨(some 98), .iaddr 8 (.t 96) (.t 97), none, (some []), []⟩, ⟨(some 99), .load (some 8) (.t 98), none, (some []), []⟩, ⟨(some 100), .faddr 6 (.t 1), none, (some []), []⟩, ⟨(some 101), .load (some 2) (.t 100), none, (some []), []⟩, ⟨(some 102), .faddr 10 (.t 1), none, (some []), []⟩, ⟨(some 103), .load none (.t 102), none, (some []), []⟩, ⟨(some 104), .len false (.t 103), none, (some []), []⟩, ⟨(some 105), .call 27 [(.t 99), (.t 101), (.t 104)], none, none, []⟩, ⟨(some 106), .un .not (.t 105), none, (some []), []⟩])
  (.cond (.t 106) (.seq (.reg [⟨(some 2), .mv (.v (.bool false)), none, none, []⟩])
  .ret) .skip)))
  (.reg [⟨(some 93), .mv (.t 4), none, none, []⟩, ⟨(some 94), .bin .add (.t 93) (.v (.int .i64 1)), none, none, []⟩, ⟨(some 4), .mv (.t 94), none, none, []⟩]))))))
  (.seq (.reg [⟨(some 107), .faddr 9 (.t 1), none, none, []⟩, ⟨(some 108), .load none (.t 107), none, none, []⟩, ⟨(some 109), .faddr 8 (.t 1), none, none, []⟩, ⟨(some 110), .load none (.t 109), none, none, []⟩, ⟨(some 111), .len false (.t 110), none, none, []⟩, ⟨(some 112), .call 28 [(.t 108), (.t 111)], none, none, []⟩, ⟨(some 2), .mv (.t 112), none, none, []⟩])
  .ret)))))⟩
/-- pochoir/pochoirref30.Texel -/
def s15 : SFn :=
 ⟨72, [.cell 8 (some 4), .tmp 9],
  (.seq (.reg [⟨(some 4), .box 28 (.t 0), none, none, []⟩, ⟨(some 8), .box 56 (.v (.agg [(.int .u8 0), (.int .u8 0), (.int .u8 0), (.int .u8 0)])), none, none, []⟩, ⟨(some 9), .mv (.v (.int .i64 0)), none, none, []⟩])
  (.seq (.seq (.reg [⟨(some 12), .load (some 11) (.t 4), none, none, []⟩, ⟨(some 13), .call 14 [(.t 12)], none, none, []⟩, ⟨(some 14), .un .not (.t 13), none, none, []⟩, ⟨(some 15), .mv (.t 14), none, none, []⟩, ⟨(some 16), .mv (.t 1), (some (15, false)), none, []⟩, ⟨(some 17), .faddr 10 (.t 4), (some (15, false)), none, []⟩, ⟨(some 18), .load none (.t 17), (some (15, false)), none, []⟩, ⟨(some 19), .len false (.t 18), (some (15, false)), none, []⟩, ⟨(some 20), .bin .sub (.t 19) (.v (.int .i64 1)), (some (15, false)), none, []⟩, ⟨(some 21), .call 25 [(.t 16), (.v (.int .i64 0)), (.t 20)], (some (15, false)), none, []⟩, ⟨(some 22), .un .not (.t 21), (some (15, false)), none, []⟩, ⟨(some 23), .pick (.t 15) (.v (.bool true)) (.t 22), none, none, []⟩, ⟨(some 24), .mv (.t 23), none, none, []⟩, ⟨(some 25), .mv (.t 2), (some (24, false)), none, []⟩, ⟨(some 26), .faddr 6 (.t 4), (some (24, false)), none, []⟩, ⟨(some 27), .faddr 0 (.t 26), (some (24, false)), none, []⟩, ⟨(some 28), .load none (.t 27), (some (24, false)), none, []⟩, ⟨(some 29), .bin .sub (.t 28) (.v (.int .i64 1)), (some (24, false)), none, []⟩, ⟨(some 30), .call 25 [(.t 25), (.v (.int .i64 0)), (.t 29)], (some (24, false)), none, []⟩, ⟨(some 31), .un .not (.t 30), (some (24, false)), none, []⟩, ⟨(some 32), .pick (.t 24) (.v (.bool true)) (.t 31), none, none, []⟩, ⟨(some 33), .mv (.t 32), none, none, []⟩, ⟨(some 34), .mv (.t 3), (some (33, false)), none, []⟩, ⟨(some 35), .faddr 6 (.t 4), (some (33, false)), none, []⟩, ⟨(some 36), .faddr 1 (.t 35), (some (33, false)), none, []⟩, ⟨(some 37), .load none (.t 36), (some (33, false)), none, []⟩, ⟨(some 38), .bin .sub (.t 37) (.v (.int .i64 1)), (some (33, false)), none, []⟩, ⟨(some 39), .call 25 [(.t 34), (.v (.int .i64 0)), (.t 38)], (some (33, false)), none, []⟩, ⟨(some 40), .un .not (.t 39), (some (33, false)), none, []⟩, ⟨(some 41), .pick (.t 33) (.v (.bool true)) (.t 40), none, none, []⟩])
  (.cond (.t 41) (.seq (.reg [⟨(some 42), .build [(.int .u8 0), (.int .u8 0), (.int .u8 0), (.int .u8 0)] [], none, none, []⟩, ⟨none, .store 4 (.t 8) (.t 42), none, none, []⟩, ⟨(some 9), .mv (.v (.int .i64 1)), none, none, []⟩])
  .ret) .skip))
  (.seq (.reg [⟨(some 43), .mv (.t 3), none, none, []⟩, ⟨(some 44), .faddr 6 (.t 4), none, none, []⟩, ⟨(some 45), .faddr 0 (.t 44), none, none, []⟩, ⟨(some 46), .load none (.t 45), none, none, []⟩, ⟨(some 47), .bin .mul (.t 43) (.t 46), none, none, []⟩, ⟨(some 48), .mv (.t 2), none, none, []⟩, ⟨(some 49), .bin .add (.t 47) (.t 48), none, none, []⟩, ⟨(some 50), .bin .mul (.v (.int .i64 4)) (.t 49), none, none, []⟩, ⟨(some 10), .mv (.t 50), none, none, []⟩])
  (.seq (.reg [⟨(some 51), .faddr 10 (.t 4), none, none, []⟩, ⟨(some 52), .load none (.t 51), none, none, []⟩, ⟨(some 53), .mv (.t 1), none, none, []⟩, ⟨(some 54), .iaddr 1 (.t 52) (.t 53), none, none, []⟩, ⟨(some 55), .load none (.t 54), none, none, []⟩, ⟨(some 11), .mv (.t 55), none, none, []⟩])
  (.seq (.regd [⟨(some 56), .mv (.t 11), none, (some []), []⟩, ⟨(some 57), .mv (.t 10), none, (some []), []⟩, ⟨(some 58), .ixs (.t 56) (.t 57), none, (some []), []⟩, ⟨(some 59), .mv (.t 11), none, (some []), []⟩, ⟨(some 60), .mv (.t 10), none, (some []), []⟩, ⟨(some 61), .bin .add (.t 60) (.v (.int .i64 1)), none, (some []), []⟩, ⟨(some 62), .ixs (.t 59) (.t 61), none, (some []), []⟩, ⟨(some 63), .mv (.t 11), none, (some []), []⟩, ⟨(some 64), .mv (.t 10), none, (some []), []⟩, ⟨(some 65), .bin .add (.t 64) (.v (.int .i64 2)), none, (some []), []⟩, ⟨(some 66), .ixs (.t 63) (.t 65), none, (some []), []⟩, ⟨(some 67), .mv (.t 11), none, (some []), []⟩, ⟨(some 68), .mv (.t 10), none, (some []), []⟩, ⟨(some 69), .bin .add (.t 68) (.v (.int .i64 3)), none, (some []), []⟩, ⟨(some 70), .ixs (.t 67) (.t 69), none, (some []), []⟩, ⟨(some 71), .build [(.int .u8 0), (.int .u8 0), (.int .u8 0), (.int .u8 0)] [(0, 1, (.t 58)), (1, 1, (.t 62)), (2, 1, (.t 66)), (3, 1, (.t 70))], none, (some []), []⟩, ⟨none, .store 4 (.t 8) (.t 71), none, none, []⟩, ⟨(some 9), .mv (.v (.int .i64 0)), none, (some []), []⟩])
  .ret)))))⟩
/-- pochoir/atlas.May -/
def s16 : SFn :=
 ⟨51, [.tmp 2],
  (.seq (.reg [⟨(some 1), .box 28 (.t 0), none, none, []⟩, ⟨(some 2), .mv (.v (.bool false)), none, none, []⟩])
  (.seq (.seq (.reg [⟨(some 7), .load (some 11) (.t 1), none, none, []⟩, ⟨(some 8), .call 29 [(.t 7)], none, none, []⟩, ⟨(some 9), .un .not (.t 8), none, none, []⟩])
  (.cond (.t 9) (.seq (.reg [⟨(some 2), .mv (.v (.bool false)), none, none, []⟩])
  .ret) .skip))
  (.seq (.seq (.reg [⟨(some 10), .faddr 10 (.t 1), none, none, []⟩, ⟨(some 11), .load none (.t 10), none, none, []⟩, ⟨(some 12), .len false (.t 11), none, none, []⟩, ⟨(some 13), .mv (.v (.int .i64 0)), none, none, []⟩])
  (.block 0 (.loop (.seq (.reg [⟨(some 14), .bin .lss (.t 13) (.t 12), none, none, []⟩])
  (.seq (.cond (.t 14) .skip (.exit 0))
  (.seq (.block 1 (.seq (.reg [⟨(some 15), .iaddr 1 (.t 11) (.t 13), none, none, []⟩, ⟨(some 16), .load none (.t 15), none, none, []⟩, ⟨(some 4), .mv (.t 16), none, none, []⟩])
  (.seq (.reg [⟨(some 17), .mv (.t 4), none, none, []⟩, ⟨(some 18), .len true (.t 17), none, none, []⟩, ⟨(some 19), .faddr 6 (.t 1), none, none, []⟩, ⟨(some 20), .faddr 0 (.t 19), none, none, []⟩, ⟨(some 21), .load none (.t 20), none, none, []⟩, ⟨(some 22), .bin .mul (.v (.int .i64 4)) (.t 21), none, none, []⟩, ⟨(some 23), .faddr 6 (.t 1), none, none, []⟩, ⟨(some 24), .faddr 1 (.t 23), none, none, []⟩, ⟨(some 25), .load none (.t 24), none, none, []⟩, ⟨(some 26), .bin .mul (.t 22) (.t 25), none, none, []⟩, ⟨(some 27), .bin .neq (.t 18) (.t 26), none, none, []⟩])
  (.cond (.t 27) (.seq (.reg [⟨(some 2), .mv (.v (.bool false)), none, none, []⟩])
  .ret) .skip))))
  (.reg [⟨(some 28), .bin .add (.t 13) (.v (.int .i64 1)), none, none, []⟩, ⟨(some 13), .mv (.t 28), none, none, []⟩])))))))
  (.seq (.seq (.reg [⟨(some 29), .faddr 8 (.t 1), none, none, []⟩, ⟨(some 30), .load none (.t 29), none, none, []⟩, ⟨(some 31), .len false (.t 30), none, none, []⟩, ⟨(some 32), .mv (.v (.int .i64 0)), none, none, []⟩])
  (.block 2 (.loop (.seq (.reg [⟨(some 33), .bin .lss (.t 32) (.t 31), none, none, []⟩])
  (.seq (.cond (.t 33) .skip (.exit 2))
  (.seq (.block 3 (.seq (.reg [⟨(some 34), .iaddr 8 (.t 30) (.t 32), none, none, []⟩, ⟨(some 35), .load (some 8) (.t 34), none, none, []⟩, ⟨(some 6), .box 54 (.v (.agg [(.int .i64 0), (.int .i64 0), (.int .i64 0), (.int .i64 0), (.int .i64 0), (.int .i64 0), (.int .i64 0), (.int .i64 0)])), none, none, []⟩, ⟨none, .store 8 (.t 6) (.t 35), none, none, []⟩])
  (.seq (.reg [⟨(some 36), .load (some 8) (.t 6), none, none, []⟩, ⟨(some 37), .faddr 6 (.t 1), none, none, []⟩, ⟨(some 38), .load (some 2) (.t 37), none, none, []⟩, ⟨(some 39), .faddr 10 (.t 1), none, none, []⟩, ⟨(some 40), .load none (.t 39), none, none, []⟩, ⟨(some 41), .len false (.t 40), none, none, []⟩, ⟨(some 42), .call 30 [(.t 36), (.t 38), (.t 41)], none, none, []⟩, ⟨(some 43), .un .not (.t 42), none, none, []⟩])
  (.cond (.t 43) (.seq (.reg [⟨(some 2), .mv (.v (.bool false)), none, none, []⟩])
  .ret) .skip))))
  (.reg [⟨(some 44), .bin .add (.t 32) (.v (.int .i64 1)), none, none, []⟩, ⟨(some 32), .mv (.t 44), none, none, []⟩])))))))
  (.seq (.reg [⟨(some 45), .faddr 9 (.t 1), none, none, []⟩, ⟨(some 46), .load none (.t 45), none, none, []⟩, ⟨(some 47), .faddr 8 (.t 1), none, none, []⟩, ⟨(some 48), .load none (.t 47), none, none, []⟩, ⟨(some 49), .len false (.t 48), none, none, []⟩, ⟨(some 50), .call 31 [(.t 46), (.t 49)], none, none, []⟩, ⟨(some 2), .mv (.t 50), none, none, []⟩])
  .ret)))))⟩
/-- pochoir/sample.part -/
def s17 : SFn :=
 ⟨18, [.tmp 4, .tmp 5],
  (.seq (.reg [⟨(some 4), .mv (.v (.int .i64 0)), none, none, []⟩, ⟨(some 5), .mv (.v (.int .i64 0)), none, none, []⟩])
  (.seq (.reg [⟨(some 7), .mv (.t 0), none, none, []⟩, ⟨(some 8), .bin .quo (.t 7) (.v (.int .i64 256)), none, none, []⟩, ⟨(some 9), .mv (.t 1), none, none, []⟩, ⟨(some 10), .bin .sub (.t 9) (.v (.int .i64 2)), none, none, []⟩, ⟨(some 11), .mnmx true [(.t 10), (.v (.int .i64 0))], none, none, []⟩, ⟨(some 12), .mnmx false [(.t 8), (.t 11)], none, none, []⟩, ⟨(some 6), .mv (.t 12), none, none, []⟩])
  (.seq (.reg [⟨(some 13), .mv (.t 6), none, none, []⟩, ⟨(some 14), .mv (.t 0), none, none, []⟩, ⟨(some 15), .mv (.t 6), none, none, []⟩, ⟨(some 16), .bin .mul (.v (.int .i64 256)) (.t 15), none, none, []⟩, ⟨(some 17), .bin .sub (.t 14) (.t 16), none, none, []⟩, ⟨(some 4), .mv (.t 13), none, none, []⟩, ⟨(some 5), .mv (.t 17), none, none, []⟩])
  .ret)))⟩
/-- (pochoir/sample.sampler).row -/
def s18 : SFn :=
 ⟨27, [.cell 8 (some 4)],
  (.seq (.reg [⟨(some 4), .box 62 (.t 0), none, none, []⟩, ⟨(some 8), .box 32 (.v (.agg [(.int .i64 0), (.int .i64 0), (.int .i64 0), (.int .i64 0)])), none, none, []⟩])
  (.seq (.reg [⟨(some 10), .load (some 5) (.t 4), none, none, []⟩, ⟨(some 11), .mv (.t 1), none, none, []⟩, ⟨(some 12), .mv (.t 2), none, none, []⟩, ⟨(some 13), .call 32 [(.t 10), (.t 11), (.t 12)], none, none, []⟩, ⟨(some 9), .box 32 (.v (.agg [(.int .i64 0), (.int .i64 0), (.int .i64 0), (.int .i64 0)])), none, none, []⟩, ⟨none, .store 4 (.t 9) (.t 13), none, none, []⟩])
  (.seq (.seq (.reg [⟨(some 14), .mv (.t 3), none, none, []⟩, ⟨(some 15), .bin .eql (.t 14) (.v (.int .i64 0)), none, none, []⟩])
  (.cond (.t 15) (.seq (.reg [⟨(some 16), .load (some 4) (.t 9), none, none, []⟩, ⟨(some 17), .load (some 4) (.t 9), none, none, []⟩, ⟨(some 18), .call 19 [(.t 16), (.t 17), (.v (.int .i64 0))], none, none, []⟩, ⟨none, .store 4 (.t 8) (.t 18), none, none, []⟩])
  .ret) .skip))
  (.seq (.regd [⟨(some 19), .load (some 4) (.t 9), none, (some []), []⟩, ⟨(some 20), .load (some 5) (.t 4), none, (some []), []⟩, ⟨(some 21), .mv (.t 1), none, (some []), []⟩, ⟨(some 22), .bin .add (.t 21) (.v (.int .i64 1)), none, (some []), []⟩, ⟨(some 23), .mv (.t 2), none, (some []), []⟩, ⟨(some 24), .call 32 [(.t 20), (.t 22), (.t 23)], none, none, [(none, (.t 9))]⟩, ⟨(some 25), .mv (.t 3), none, (some [5]), []⟩, ⟨(some 26), .call 19 [(.t 19), (.t 24), (.t 25)], none, none, []⟩, ⟨none, .store 4 (.t 8) (.t 26), none, none, []⟩])
  .ret))))⟩
/-- pochoir/sample.mixed -/
def s19 : SFn :=
 ⟨27, [.cell 6 (some 4)],
  (.seq (.reg [⟨(some 3), .box 32 (.t 0), none, none, []⟩, ⟨(some 4), .box 32 (.t 1), none, none, []⟩, ⟨(some 6), .box 32 (.v (.agg [(.int .i64 0), (.int .i64 0), (.int .i64 0), (.int .i64 0)])), none, none, []⟩])
  (.seq (.seq (.reg [⟨(some 8), .mv (.v (.int .i64 0)), none, none, []⟩])
  (.block 0 (.loop (.seq (.reg [⟨(some 9), .bin .lss (.t 8) (.v (.int .i64 4)), none, none, []⟩])
  (.seq (.cond (.t 9) .skip (.exit 0))
  (.seq (.block 1 (.seq (.reg [⟨(some 10), .mv (.t 8), none, none, []⟩, ⟨(some 7), .mv (.t 10), none, none, []⟩])
  (.regd [⟨(some 11), .mv (.t 7), none, (some []), []⟩, ⟨(some 12), .mv (.t 7), none, (some []), []⟩, ⟨(some 13), .iarr 4 1 (.t 3) (.t 12), none, (some []), []⟩, ⟨(some 14), .load none (.t 13), none, (some []), []⟩, ⟨(some 15), .mv (.t 2), none, (some []), []⟩, ⟨(some 16), .bin .sub (.v (.int .i64 256)) (.t 15), none, (some []), []⟩, ⟨(some 17), .bin .mul (.t 14) (.t 16), none, (some []), []⟩, ⟨(some 18), .mv (.t 7), none, (some []), []⟩, ⟨(some 19), .iarr 4 1 (.t 4) (.t 18), none, (some []), []⟩, ⟨(some 20), .load none (.t 19), none, (some []), []⟩, ⟨(some 21), .mv (.t 2), none, (some []), []⟩, ⟨(some 22), .bin .mul (.t 20) (.t 21), none, (some []), []⟩, ⟨(some 23), .bin .add (.t 17) (.t 22), none, (some []), []⟩, ⟨(some 24), .iarr 4 1 (.t 3) (.t 11), none, (some []), []⟩, ⟨none, .store 1 (.t 24) (.t 23), none, none, []⟩])))
  (.reg [⟨(some 25), .bin .add (.t 8) (.v (.int .i64 1)), none, none, []⟩, ⟨(some 8), .mv (.t 25), none, none, []⟩])))))))
  (.seq (.reg [⟨(some 26), .load (some 4) (.t 3), none, none, []⟩, ⟨none, .store 4 (.t 6) (.t 26), none, none, []⟩])
  .ret)))⟩
/-- pochoir/pochoirref32.cut -/
def s20 : SFn :=
 ⟨18, [.tmp 4, .tmp 5],
  (.seq (.reg [⟨(some 4), .mv (.v (.int .i64 0)), none, none, []⟩, ⟨(some 5), .mv (.v (.int .i64 0)), none, none, []⟩])
  (.seq (.reg [⟨(some 7), .mv (.t 0), none, none, []⟩, ⟨(some 8), .bin .quo (.t 7) (.v (.int .i64 256)), none, none, []⟩, ⟨(some 9), .mv (.t 1), none, none, []⟩, ⟨(some 10), .bin .sub (.t 9) (.v (.int .i64 2)), none, none, []⟩, ⟨(some 11), .mnmx false [(.t 8), (.t 10)], none, none, []⟩, ⟨(some 12), .mnmx true [(.t 11), (.v (.int .i64 0))], none, none, []⟩, ⟨(some 6), .mv (.t 12), none, none, []⟩])
  (.seq (.reg [⟨(some 13), .mv (.t 6), none, none, []⟩, ⟨(some 14), .mv (.t 0), none, none, []⟩, ⟨(some 15), .mv (.t 6), none, none, []⟩, ⟨(some 16), .bin .mul (.v (.int .i64 256)) (.t 15), none, none, []⟩, ⟨(some 17), .bin .sub (.t 14) (.t 16), none, none, []⟩, ⟨(some 4), .mv (.t 13), none, none, []⟩, ⟨(some 5), .mv (.t 17), none, none, []⟩])
  .ret)))⟩
/-- pochoir/pochoirref27.Median -/
def s21 : SFn :=
 ⟨22, [.tmp 6],
  (.seq (.reg [⟨(some 6), .mv (.v (.int .i64 0)), none, none, []⟩])
  (.seq (.reg [⟨(some 7), .mv (.t 0), none, none, []⟩, ⟨(some 8), .mv (.t 1), none, none, []⟩, ⟨(some 9), .bin .add (.t 7) (.t 8), none, none, []⟩, ⟨(some 10), .mv (.t 2), none, none, []⟩, ⟨(some 11), .bin .add (.t 9) (.t 10), none, none, []⟩, ⟨(some 12), .mv (.t 0), none, none, []⟩, ⟨(some 13), .mv (.t 1), none, none, []⟩, ⟨(some 14), .mv (.t 2), none, none, []⟩, ⟨(some 15), .mnmx false [(.t 12), (.t 13), (.t 14)], none, none, []⟩, ⟨(some 16), .bin .sub (.t 11) (.t 15), none, none, []⟩, ⟨(some 17), .mv (.t 0), none, none, []⟩, ⟨(some 18), .mv (.t 1), none, none, []⟩, ⟨(some 19), .mv (.t 2), none, none, []⟩, ⟨(some 20), .mnmx true [(.t 17), (.t 18), (.t 19)], none, none, []⟩, ⟨(some 21), .bin .sub (.t 16) (.t 20), none, none, []⟩, ⟨(some 6), .mv (.t 21), none, none, []⟩])
  .ret))⟩
/-- pochoir/ratio.May -/
def s22 : SFn :=
 ⟨19, [.tmp 2],
  (.seq (.reg [⟨(some 1), .box 42 (.t 0), none, none, []⟩, ⟨(some 2), .mv (.v (.bool false)), none, none, []⟩])
  (.seq (.regd [⟨(some 3), .faddr 1 (.t 1), none, (some []), []⟩, ⟨(some 4), .load none (.t 3), none, none, []⟩, ⟨(some 5), .bin .gtr (.t 4) (.v (.int .i64 0)), none, (some []), []⟩, ⟨(some 6), .mv (.t 5), none, (some []), []⟩, ⟨(some 7), .faddr 0 (.t 1), (some (6, true)), (some []), []⟩, ⟨(some 8), .load none (.t 7), (some (6, true)), (some []), []⟩, ⟨(some 9), .call 35 [(.t 8)], (some (6, true)), none, [(none, (.t 1))]⟩, ⟨(some 10), .call 34 [(.t 9)], (some (6, true)), none, [(none, (.t 1))]⟩, ⟨(some 11), .faddr 1 (.t 1), (some (6, true)), (some [6, 7]), []⟩, ⟨(some 12), .load none (.t 11), (some (6, true)), (some [6, 7]), []⟩, ⟨(some 13), .call 35 [(.t 12)], (some (6, true)), none, []⟩, ⟨(some 14), .call 34 [(.t 13)], (some (6, true)), none, []⟩, ⟨(some 15), .call 33 [(.t 10), (.t 14)], (some (6, true)), none, []⟩, ⟨(some 16), .build [(.int .u64 0), (.int .u64 0)] [(1, 1, (.v (.int .u64 1)))], (some (6, true)), (some [6, 7, 10, 11, 12]), []⟩, ⟨(some 17), .eqs 4 [1, 1] false (.t 15) (.t 16), (some (6, true)), (some []), []⟩, ⟨(some 18), .pick (.t 6) (.t 17) (.v (.bool false)), none, (some []), []⟩, ⟨(some 2), .mv (.t 18), none, (some []), []⟩])
  .ret))⟩
/-- pochoir/pochoirref03.May -/
def s23 : SFn :=
 ⟨16, [.tmp 2],
  (.seq (.reg [⟨(some 1), .box 42 (.t 0), none, none, []⟩, ⟨(some 2), .mv (.v (.bool false)), none, none, []⟩])
  (.seq (.regd [⟨(some 3), .faddr 1 (.t 1), none, (some []), []⟩, ⟨(some 4), .load none (.t 3), none, none, []⟩, ⟨(some 5), .bin .gtr (.t 4) (.v (.int .i64 0)), none, (some []), []⟩, ⟨(some 6), .mv (.t 5), none, (some []), []⟩, ⟨(some 7), .faddr 0 (.t 1), (some (6, true)), (some []), []⟩, ⟨(some 8), .load none (.t 7), (some (6, true)), (some []), []⟩, ⟨(some 9), .call 37 [(.t 8)], (some (6, true)), none, [(none, (.t 1))]⟩, ⟨(some 10), .faddr 1 (.t 1), (some (6, true)), (some [6]), []⟩, ⟨(some 11), .load none (.t 10), (some (6, true)), (some [6]), []⟩, ⟨(some 12), .call 37 [(.t 11)], (some (6, true)), none, []⟩, ⟨(some 13), .call 36 [(.t 9), (.t 12)], (some (6, true)), none, []⟩, ⟨(some 14), .bin .eql (.t 13) (.v (.int .u64 1)), (some (6, true)), (some []), []⟩, ⟨(some 15), .pick (.t 6) (.t 14) (.v (.bool false)), none, (some []), []⟩, ⟨(some 2), .mv (.t 15), none, (some []), []⟩])
  .ret))⟩
/-- pochoir/pochoirref03.Floor -/
def s24 : SFn :=
 ⟨18, [.tmp 2],
  (.seq (.reg [⟨(some 1), .box 42 (.t 0), none, none, []⟩, ⟨(some 2), .mv (.v (.int .i64 0)), none, none, []⟩])
  (.seq (.reg [⟨(some 4), .faddr 0 (.t 1), none, none, []⟩, ⟨(some 5), .load none (.t 4), none, none, []⟩, ⟨(some 6), .faddr 1 (.t 1), none, none, []⟩, ⟨(some 7), .load none (.t 6), none, none, []⟩, ⟨(some 8), .bin .quo (.t 5) (.t 7), none, none, []⟩, ⟨(some 3), .mv (.t 8), none, none, []⟩])
  (.seq (.seq (.reg [⟨(some 9), .faddr 0 (.t 1), none, none, []⟩, ⟨(some 10), .load none (.t 9), none, none, []⟩, ⟨(some 11), .faddr 1 (.t 1), none, none, []⟩, ⟨(some 12), .load none (.t 11), none, none, []⟩, ⟨(some 13), .bin .rem (.t 10) (.t 12), none, none, []⟩, ⟨(some 14), .bin .lss (.t 13) (.v (.int .i64 0)), none, none, []⟩])
  (.cond (.t 14) (.seq (.reg [⟨(some 15), .mv (.t 3), none, none, []⟩, ⟨(some 16), .bin .sub (.t 15) (.v (.int .i64 1)), none, none, []⟩, ⟨(some 2), .mv (.t 16), none, none, []⟩])
  .ret) .skip))
  (.seq (.reg [⟨(some 17), .mv (.t 3), none, none, []⟩, ⟨(some 2), .mv (.t 17), none, none, []⟩])
  .ret))))⟩
/-- pochoir/pochoirref30.in -/
def s25 : SFn :=
 ⟨15, [.tmp 6],
  (.seq (.reg [⟨(some 6), .mv (.v (.bool false)), none, none, []⟩])
  (.seq (.reg [⟨(some 7), .mv (.t 0), none, none, []⟩, ⟨(some 8), .mv (.t 1), none, none, []⟩, ⟨(some 9), .bin .geq (.t 7) (.t 8), none, none, []⟩, ⟨(some 10), .mv (.t 9), none, none, []⟩, ⟨(some 11), .mv (.t 0), (some (10, true)), none, []⟩, ⟨(some 12), .mv (.t 2), (some (10, true)), none, []⟩, ⟨(some 13), .bin .leq (.t 11) (.t 12), (some (10, true)), none, []⟩, ⟨(some 14), .pick (.t 10) (.t 13) (.v (.bool false)), none, none, []⟩, ⟨(some 6), .mv (.t 14), none, none, []⟩])
  .ret))⟩
/-- pochoir/pochoirref30.short -/
def s26 : SFn :=
 ⟨9, [.tmp 2],
  (.seq (.reg [⟨(some 2), .mv (.v (.bool false)), none, none, []⟩])
  (.seq (.reg [⟨(some 3), .mv (.t 0), none, none, []⟩, ⟨(some 4), .bin .geq (.t 3) (.v (.int .i64 (-32768))), none, none, []⟩, ⟨(some 5), .mv (.t 4), none, none, []⟩, ⟨(some 6), .mv (.t 0), (some (5, true)), none, []⟩, ⟨(some 7), .bin .leq (.t 6) (.v (.int .i64 32767)), (some (5, true)), none, []⟩, ⟨(some 8), .pick (.t 5) (.t 7) (.v (.bool false)), none, none, []⟩, ⟨(some 2), .mv (.t 8), none, none, []⟩])
  .ret))⟩
/-- pochoir/pochoirref30.entry -/
def s27 : SFn :=
 ⟨55, [.tmp 6],
  (.seq (.reg [⟨(some 3), .box 54 (.t 0), none, none, []⟩, ⟨(some 4), .box 23 (.t 1), none, none, []⟩, ⟨(some 6), .mv (.v (.bool false)), none, none, []⟩])
  (.seq (.seq (.reg [⟨(some 7), .faddr 0 (.t 3), none, none, []⟩, ⟨(some 8), .load none (.t 7), none, none, []⟩, ⟨(some 9), .call 25 [(.t 8), (.v (.int .i64 0)), (.v (.int .i64 65535))], none, none, []⟩, ⟨(some 10), .un .not (.t 9), none, none, []⟩, ⟨(some 11), .mv (.t 10), none, none, []⟩, ⟨(some 12), .faddr 1 (.t 3), (some (11, false)), none, []⟩, ⟨(some 13), .load (some 4) (.t 12), (some (11, false)), none, []⟩, ⟨(some 14), .call 38 [(.t 13)], (some (11, false)), none, []⟩, ⟨(some 15), .un .not (.t 14), (some (11, false)), none, []⟩, ⟨(some 16), .pick (.t 11) (.v (.bool true)) (.t 15), none, none, []⟩])
  (.cond (.t 16) (.seq (.reg [⟨(some 6), .mv (.v (.bool false)), none, none, []⟩])
  .ret) .skip))
  (.seq (.seq (.reg [⟨(some 17), .faddr 1 (.t 3), none, none, []⟩, ⟨(some 18), .load (some 4) (.t 17), none, none, []⟩, ⟨(some 19), .build [(.int .i64 0), (.int .i64 0), (.int .i64 0), (.int .i64 0)] [], none, none, []⟩, ⟨(some 20), .eqs 4 [1, 1, 1, 1] false (.t 18) (.t 19), none, none, []⟩])
  (.cond (.t 20) (.seq (.reg [⟨(some 21), .faddr 5 (.t 3), none, none, []⟩, ⟨(some 22), .load (some 3) (.t 21), none, none, []⟩, ⟨(some 23), .build [(.int .i64 0), (.int .i64 0), (.int .i64 0)] [], none, none, []⟩, ⟨(some 24), .eqs 4 [1, 1, 1] false (.t 22) (.t 23), none, none, []⟩, ⟨(some 6), .mv (.t 24), none, none, []⟩])
  .ret) .skip))
  (.seq (.reg [⟨(some 25), .faddr 5 (.t 3), none, none, []⟩, ⟨(some 26), .faddr 0 (.t 25), none, none, []⟩, ⟨(some 27), .load none (.t 26), none, none, []⟩, ⟨(some 28), .mv (.t 2), none, none, []⟩, ⟨(some 29), .bin .sub (.t 28) (.v (.int .i64 1)), none, none, []⟩, ⟨(some 30), .call 25 [(.t 27), (.v (.int .i64 0)), (.t 29)], none, none, []⟩, ⟨(some 31), .mv (.t 30), none, none, []⟩, ⟨(some 32), .faddr 5 (.t 3), (some (31, true)), none, []⟩, ⟨(some 33), .faddr 1 (.t 32), (some (31, true)), none, []⟩, ⟨(some 34), .load none (.t 33), (some (31, true)), none, []⟩, ⟨(some 35), .faddr 0 (.t 4), (some (31, true)), none, []⟩, ⟨(some 36), .load none (.t 35), (some (31, true)), none, []⟩, ⟨(some 37), .faddr 1 (.t 3), (some (31, true)), none, []⟩, ⟨(some 38), .faddr 2 (.t 37), (some (31, true)), none, []⟩, ⟨(some 39), .load none (.t 38), (some (31, true)), none, []⟩, ⟨(some 40), .bin .sub (.t 36) (.t 39), (some (31, true)), none, []⟩, ⟨(some 41), .call 25 [(.t 34), (.v (.int .i64 0)), (.t 40)], (some (31, true)), none, []⟩, ⟨(some 42), .pick (.t 31) (.t 41) (.v (.bool false)), none, none, []⟩, ⟨(some 43), .mv (.t 42), none, none, []⟩, ⟨(some 44), .faddr 5 (.t 3), (some (43, true)), none, []⟩, ⟨(some 45), .faddr 2 (.t 44), (some (43, true)), none, []⟩, ⟨(some 46), .load none (.t 45), (some (43, true)), none, []⟩, ⟨(some 47), .faddr 1 (.t 4), (some (43, true)), none, []⟩, ⟨(some 48), .load none (.t 47), (some (43, true)), none, []⟩, ⟨(some 49), .faddr 1 (.t 3), (some (43, true)), none, []⟩, ⟨(some 50), .faddr 3 (.t 49), (some (43, true)), none, []⟩, ⟨(some 51), .load none (.t 50), (some (43, true)), none, []⟩, ⟨(some 52), .bin .sub (.t 48) (.t 51), (some (43, true)), none, []⟩, ⟨(some 53), .call 25 [(.t 46), (.v (.int .i64 0)), (.t 52)], (some (43, true)), none, []⟩, ⟨(some 54), .pick (.t 43) (.t 53) (.v (.bool false)), none, none, []⟩, ⟨(some 6), .mv (.t 54), none, none, []⟩])
  .ret))))⟩
/-- pochoir/pochoirref12.May -/
def s28 : SFn :=
 ⟨61, [.tmp 4],
  (.seq (.reg [⟨(some 4), .mv (.v (.bool false)), none, none, []⟩])
  (.seq (.seq (.reg [⟨(some 7), .mv (.t 1), none, none, []⟩, ⟨(some 8), .bin .lss (.t 7) (.v (.int .i64 1)), none, none, []⟩, ⟨(some 9), .mv (.t 8), none, none, []⟩, ⟨(some 10), .mv (.t 1), (some (9, false)), none, []⟩, ⟨(some 11), .bin .gtr (.t 10) (.v (.int .i64 1024)), (some (9, false)), none, []⟩, ⟨(some 12), .pick (.t 9) (.v (.bool true)) (.t 11), none, none, []⟩, ⟨(some 13), .mv (.t 12), none, none, []⟩, ⟨(some 14), .mv (.t 0), (some (13, false)), none, []⟩, ⟨(some 15), .len false (.t 14), (some (13, false)), none, []⟩, ⟨(some 16), .bin .gtr (.t 15) (.v (.int .i64 4096)), (some (13, false)), none, []⟩, ⟨(some 17), .pick (.t 13) (.v (.bool true)) (.t 16), none, none, []⟩])
  (.cond (.t 17) (.seq (.reg [⟨(some 4), .mv (.v (.bool false)), none, none, []⟩])
  .ret) .skip))
  (.seq (.reg [⟨(some 5), .mv (.v (.int .i64 (-1))), none, none, []⟩])
  (.seq (.seq (.reg [⟨(some 6), .mv (.v (.int .i64 0)), none, none, []⟩])
  (.block 0 (.loop (.seq (.seq (.reg [⟨(some 18), .mv (.t 6), none, none, []⟩, ⟨(some 19), .mv (.t 0), none, none, []⟩, ⟨(some 20), .len false (.t 19), none, none, []⟩, ⟨(some 21), .bin .lss (.t 18) (.t 20), none, none, []⟩])
  (.cond (.t 21) .skip (.exit 0)))
  (.seq (.block 1 (.seq (.seq (.reg [⟨(some 24), .mv (.t 0), none, none, []⟩, ⟨(some 25), .mv (.t 6), none, none, []⟩, ⟨(some 26), .iaddr 2 (.t 24) (.t 25), none, none, []⟩, ⟨(some 27), .faddr 0 (.t 26), none, none, []⟩, ⟨(some 28), .load none (.t 27), none, none, []⟩, ⟨(some 29), .mv (.t 5), none, none, []⟩, ⟨(some 30), .bin .leq (.t 28) (.t 29), none, none, []⟩, ⟨(some 31), .mv (.t 30), none, none, []⟩, ⟨(some 32), .mv (.t 0), (some (31, false)), none, []⟩, ⟨(some 33), .mv (.t 6), (some (31, false)), none, []⟩, ⟨(some 34), .iaddr 2 (.t 32) (.t 33), (some (31, false)), none, []⟩, ⟨(some 35), .faddr 0 (.t 34), (some (31, false)), none, []⟩, ⟨(some 36), .load none (.t 35), (some (31, false)), none, []⟩, ⟨(some 37), .bin .gtr (.t 36) (.v (.int .i64 1114111)), (some (31, false)), none, []⟩, ⟨(some 38), .pick (.t 31) (.v (.bool true)) (.t 37), none, none, []⟩, ⟨(some 39), .mv (.t 38), none, none, []⟩, ⟨(some 40), .mv (.t 0), (some (39, false)), none, []⟩, ⟨(some 41), .mv (.t 6), (some (39, false)), none, []⟩, ⟨(some 42), .iaddr 2 (.t 40) (.t 41), (some (39, false)), none, []⟩, ⟨(some 43), .faddr 1 (.t 42), (some (39, false)), none, []⟩, ⟨(some 44), .load none (.t 43), (some (39, false)), none, []⟩, ⟨(some 45), .bin .lss (.t 44) (.v (.int .i64 1)), (some (39, false)), none, []⟩, ⟨(some 46), .pick (.t 39) (.v (.bool true)) (.t 45), none, none, []⟩, ⟨(some 47), .mv (.t 46), none, none, []⟩, ⟨(some 48), .mv (.t 0), (some (47, false)), none, []⟩, ⟨(some 49), .mv (.t 6), (some (47, false)), none, []⟩, ⟨(some 50), .iaddr 2 (.t 48) (.t 49), (some (47, false)), none, []⟩, ⟨(some 51), .faddr 1 (.t 50), (some (47, false)), none, []⟩, ⟨(some 52), .load none (.t 51), (some (47, false)), none, []⟩, ⟨(some 53), .mv (.t 1), (some (47, false)), none, []⟩, ⟨(some 54), .bin .geq (.t 52) (.t 53), (some (47, false)), none, []⟩, ⟨(some 55), .pick (.t 47) (.v (.bool true)) (.t 54), none, none, []⟩])
  (.cond (.t 55) (.seq (.reg [⟨(some 4), .mv (.v (.bool false)), none, none, []⟩])
  .ret) .skip))
  (.reg [⟨(some 56), .mv (.t 0), none, none, []⟩, ⟨(some 57), .mv (.t 6), none, none, []⟩, ⟨(some 58), .iaddr 2 (.t 56) (.t 57), none, none, []⟩, ⟨(some 59), .faddr 0 (.t 58), none, none, []⟩, ⟨(some 60), .load none (.t 59), none, none, []⟩, ⟨(some 5), .mv (.t 60), none, none, []⟩])))
  (.reg [⟨(some 22), .mv (.t 6), none, none, []⟩, ⟨(some 23), .bin .add (.t 22) (.v (.int .i64 1)), none, none, []⟩, ⟨(some 6), .mv (.t 23), none, none, []⟩]))))))
  (.seq (.reg [⟨(some 4), .mv (.v (.bool true)), none, none, []⟩])
  .ret)))))⟩
/-- pochoir/atlas.numbers -/
def s29 : SFn :=
 ⟨55, [.tmp 2],
  (.seq (.reg [⟨(some 1), .box 28 (.t 0), none, none, []⟩, ⟨(some 2), .mv (.v (.bool false)), none, none, []⟩])
  (.seq (.reg [⟨(some 3), .faddr 0 (.t 1), none, none, []⟩, ⟨(some 4), .load none (.t 3), none, none, []⟩, ⟨(some 5), .call 39 [(.t 4), (.v (.int .i64 16)), (.v (.int .i64 16384))], none, none, []⟩, ⟨(some 6), .mv (.t 5), none, none, []⟩, ⟨(some 7), .faddr 1 (.t 1), (some (6, true)), none, []⟩, ⟨(some 8), .load none (.t 7), (some (6, true)), none, []⟩, ⟨(some 9), .call 39 [(.t 8), (.v (.int .i64 1)), (.v (.int .i64 128))], (some (6, true)), none, []⟩, ⟨(some 10), .pick (.t 6) (.t 9) (.v (.bool false)), none, none, []⟩, ⟨(some 11), .mv (.t 10), none, none, []⟩, ⟨(some 12), .faddr 2 (.t 1), (some (11, true)), none, []⟩, ⟨(some 13), .load none (.t 12), (some (11, true)), none, []⟩, ⟨(some 14), .call 39 [(.t 13), (.v (.int .i64 1)), (.v (.int .i64 16))], (some (11, true)), none, []⟩, ⟨(some 15), .pick (.t 11) (.t 14) (.v (.bool false)), none, none, []⟩, ⟨(some 16), .mv (.t 15), none, none, []⟩, ⟨(some 17), .faddr 3 (.t 1), (some (16, true)), none, []⟩, ⟨(some 18), .load none (.t 17), (some (16, true)), none, []⟩, ⟨(some 19), .call 40 [(.t 18)], (some (16, true)), none, []⟩, ⟨(some 20), .pick (.t 16) (.t 19) (.v (.bool false)), none, none, []⟩, ⟨(some 21), .mv (.t 20), none, none, []⟩, ⟨(some 22), .faddr 4 (.t 1), (some (21, true)), none, []⟩, ⟨(some 23), .load none (.t 22), (some (21, true)), none, []⟩, ⟨(some 24), .call 40 [(.t 23)], (some (21, true)), none, []⟩, ⟨(some 25), .pick (.t 21) (.t 24) (.v (.bool false)), none, none, []⟩, ⟨(some 26), .mv (.t 25), none, none, []⟩, ⟨(some 27), .faddr 5 (.t 1), (some (26, true)), none, []⟩, ⟨(some 28), .load none (.t 27), (some (26, true)), none, []⟩, ⟨(some 29), .call 40 [(.t 28)], (some (26, true)), none, []⟩, ⟨(some 30), .pick (.t 26) (.t 29) (.v (.bool false)), none, none, []⟩, ⟨(some 31), .mv (.t 30), none, none, []⟩, ⟨(some 32), .faddr 6 (.t 1), (some (31, true)), none, []⟩, ⟨(some 33), .faddr 0 (.t 32), (some (31, true)), none, []⟩, ⟨(some 34), .load none (.t 33), (some (31, true)), none, []⟩, ⟨(some 35), .call 39 [(.t 34), (.v (.int .i64 1)), (.v (.int .i64 1024))], (some (31, true)), none, []⟩, ⟨(some 36), .pick (.t 31) (.t 35) (.v (.bool false)), none, none, []⟩, ⟨(some 37), .mv (.t 36), none, none, []⟩, ⟨(some 38), .faddr 6 (.t 1), (some (37, true)), none, []⟩, ⟨(some 39), .faddr 1 (.t 38), (some (37, true)), none, []⟩, ⟨(some 40), .load none (.t 39), (some (37, true)), none, []⟩, ⟨(some 41), .call 39 [(.t 40), (.v (.int .i64 1)), (.v (.int .i64 1024))], (some (37, true)), none, []⟩, ⟨(some 42), .pick (.t 37) (.t 41) (.v (.bool false)), none, none, []⟩, ⟨(some 43), .mv (.t 42), none, none, []⟩, ⟨(some 44), .faddr 10 (.t 1), (some (43, true)), none, []⟩, ⟨(some 45), .load none (.t 44), (some (43, true)), none, []⟩, ⟨(some 46), .len false (.t 45), (some (43, true)), none, []⟩, ⟨(some 47), .bin .leq (.t 46) (.v (.int .i64 16)), (some (43, true)), none, []⟩, ⟨(some 48), .pick (.t 43) (.t 47) (.v (.bool false)), none, none, []⟩, ⟨(some 49), .mv (.t 48), none, none, []⟩, ⟨(some 50), .faddr 8 (.t 1), (some (49, true)), none, []⟩, ⟨(some 51), .load none (.t 50), (some (49, true)), none, []⟩, ⟨(some 52), .len false (.t 51), (some (49, true)), none, []⟩, ⟨(some 53), .call 39 [(.t 52), (.v (.int .i64 1)), (.v (.int .i64 1024))], (some (49, true)), none, []⟩, ⟨(some 54), .pick (.t 49) (.t 53) (.v (.bool false)), none, none, []⟩, ⟨(some 2), .mv (.t 54), none, none, []⟩])
  .ret))⟩
/-- pochoir/atlas.entry -/
def s30 : SFn :=
 ⟨57, [.tmp 6],
  (.seq (.reg [⟨(some 3), .box 54 (.t 0), none, none, []⟩, ⟨(some 4), .box 23 (.t 1), none, none, []⟩, ⟨(some 6), .mv (.v (.bool false)), none, none, []⟩])
  (.seq (.block 0 (.seq (.reg [⟨(some 8), .faddr 0 (.t 3), none, none, []⟩, ⟨(some 9), .load none (.t 8), none, none, []⟩, ⟨(some 10), .call 39 [(.t 9), (.v (.int .i64 0)), (.v (.int .i64 65535))], none, none, []⟩, ⟨(some 11), .un .not (.t 10), none, none, []⟩, ⟨(some 12), .mv (.t 11), none, none, []⟩, ⟨(some 13), .faddr 1 (.t 3), (some (12, false)), none, []⟩, ⟨(some 14), .load (some 4) (.t 13), (some (12, false)), none, []⟩, ⟨(some 15), .call 41 [(.t 14)], (some (12, false)), none, []⟩, ⟨(some 16), .un .not (.t 15), (some (12, false)), none, []⟩, ⟨(some 17), .pick (.t 12) (.v (.bool true)) (.t 16), none, none, []⟩, ⟨(some 7), .mv (.t 17), none, none, []⟩])
  (.cond (.t 7) (.seq (.reg [⟨(some 6), .mv (.v (.bool false)), none, none, []⟩])
  .ret) (.seq (.reg [⟨(some 19), .faddr 1 (.t 3), none, none, []⟩, ⟨(some 20), .load (some 4) (.t 19), none, none, []⟩, ⟨(some 21), .build [(.int .i64 0), (.int .i64 0), (.int .i64 0), (.int .i64 0)] [], none, none, []⟩, ⟨(some 22), .eqs 4 [1, 1, 1, 1] false (.t 20) (.t 21), none, none, []⟩, ⟨(some 18), .mv (.t 22), none, none, []⟩])
  (.cond (.t 18) (.seq (.reg [⟨(some 23), .faddr 5 (.t 3), none, none, []⟩, ⟨(some 24), .load (some 3) (.t 23), none, none, []⟩, ⟨(some 25), .build [(.int .i64 0), (.int .i64 0), (.int .i64 0)] [], none, none, []⟩, ⟨(some 26), .eqs 4 [1, 1, 1] false (.t 24) (.t 25), none, none, []⟩, ⟨(some 6), .mv (.t 26), none, none, []⟩])
  .ret) .skip)))))
  (.seq (.reg [⟨(some 27), .faddr 5 (.t 3), none, none, []⟩, ⟨(some 28), .faddr 0 (.t 27), none, none, []⟩, ⟨(some 29), .load none (.t 28), none, none, []⟩, ⟨(some 30), .mv (.t 2), none, none, []⟩, ⟨(some 31), .bin .sub (.t 30) (.v (.int .i64 1)), none, none, []⟩, ⟨(some 32), .call 39 [(.t 29), (.v (.int .i64 0)), (.t 31)], none, none, []⟩, ⟨(some 33), .mv (.t 32), none, none, []⟩, ⟨(some 34), .faddr 5 (.t 3), (some (33, true)), none, []⟩, ⟨(some 35), .faddr 1 (.t 34), (some (33, true)), none, []⟩, ⟨(some 36), .load none (.t 35), (some (33, true)), none, []⟩, ⟨(some 37), .faddr 0 (.t 4), (some (33, true)), none, []⟩, ⟨(some 38), .load none (.t 37), (some (33, true)), none, []⟩, ⟨(some 39), .faddr 1 (.t 3), (some (33, true)), none, []⟩, ⟨(some 40), .faddr 2 (.t 39), (some (33, true)), none, []⟩, ⟨(some 41), .load none (.t 40), (some (33, true)), none, []⟩, ⟨(some 42), .bin .sub (.t 38) (.t 41), (some (33, true)), none, []⟩, ⟨(some 43), .call 39 [(.t 36), (.v (.int .i64 0)), (.t 42)], (some (33, true)), none, []⟩, ⟨(some 44), .pick (.t 33) (.t 43) (.v (.bool false)), none, none, []⟩, ⟨(some 45), .mv (.t 44), none, none, []⟩, ⟨(some 46), .faddr 5 (.t 3), (some (45, true)), none, []⟩, ⟨(some 47), .faddr 2 (.t 46), (some (45, true)), none, []⟩, ⟨(some 48), .load none (.t 47), (some (45, true)), none, []⟩, ⟨(some 49), .faddr 1 (.t 4), (some (45, true)), none, []⟩, ⟨(some 50), .load none (.t 49), (some (45, true)), none, []⟩, ⟨(some 51), .faddr 1 (.t 3), (some (45, true)), none, []⟩, ⟨(some 52), .faddr 3 (.t 51), (some (45, true)), none, []⟩, ⟨(some 53), .load none (.t 52), (some (45, true)), none, []⟩, ⟨(some 54), .bin .sub (.t 50) (.t 53), (some (45, true)), none, []⟩, ⟨(some 55), .call 39 [(.t 48), (.v (.int .i64 0)), (.t 54)], (some (45, true)), none, []⟩, ⟨(some 56), .pick (.t 45) (.t 55) (.v (.bool false)), none, none, []⟩, ⟨(some 6), .mv (.t 56), none, none, []⟩])
  .ret)))⟩
/-- pochoir/cmap.May -/
def s31 : SFn :=
 ⟨48, [.tmp 4],
  (.seq (.reg [⟨(some 4), .mv (.v (.bool false)), none, none, []⟩])
  (.seq (.seq (.reg [⟨(some 8), .mv (.t 1), none, none, []⟩, ⟨(some 9), .bin .lss (.t 8) (.v (.int .i64 1)), none, none, []⟩, ⟨(some 10), .mv (.t 9), none, none, []⟩, ⟨(some 11), .mv (.t 1), (some (10, false)), none, []⟩, ⟨(some 12), .bin .gtr (.t 11) (.v (.int .i64 1024)), (some (10, false)), none, []⟩, ⟨(some 13), .pick (.t 10) (.v (.bool true)) (.t 12), none, none, []⟩, ⟨(some 14), .mv (.t 13), none, none, []⟩, ⟨(some 15), .mv (.t 0), (some (14, false)), none, []⟩, ⟨(some 16), .len false (.t 15), (some (14, false)), none, []⟩, ⟨(some 17), .bin .gtr (.t 16) (.v (.int .i64 4096)), (some (14, false)), none, []⟩, ⟨(some 18), .pick (.t 14) (.v (.bool true)) (.t 17), none, none, []⟩])
  (.cond (.t 18) (.seq (.reg [⟨(some 4), .mv (.v (.bool false)), none, none, []⟩])
  .ret) .skip))
  (.seq (.reg [⟨(some 5), .mv (.v (.int .i64 (-1))), none, none, []⟩])
  (.seq (.seq (.reg [⟨(some 19), .mv (.t 0), none, none, []⟩, ⟨(some 20), .len false (.t 19), none, none, []⟩, ⟨(some 21), .mv (.v (.int .i64 0)), none, none, []⟩])
  (.block 0 (.loop (.seq (.reg [⟨(some 22), .bin .lss (.t 21) (.t 20), none, none, []⟩])
  (.seq (.cond (.t 22) .skip (.exit 0))
  (.seq (.block 1 (.seq (.reg [⟨(some 23), .iaddr 2 (.t 19) (.t 21), none, none, []⟩, ⟨(some 24), .load (some 2) (.t 23), none, none, []⟩, ⟨(some 7), .box 84 (.v (.agg [(.int .i64 0), (.int .i64 0)])), none, none, []⟩, ⟨none, .store 2 (.t 7) (.t 24), none, none, []⟩])
  (.seq (.seq (.reg [⟨(some 25), .faddr 0 (.t 7), none, none, []⟩, ⟨(some 26), .load none (.t 25), none, none, []⟩, ⟨(some 27), .mv (.t 5), none, none, []⟩, ⟨(some 28), .bin .leq (.t 26) (.t 27), none, none, []⟩, ⟨(some 29), .mv (.t 28), none, none, []⟩, ⟨(some 30), .faddr 0 (.t 7), (some (29, false)), none, []⟩, ⟨(some 31), .load none (.t 30), (some (29, false)), none, []⟩, ⟨(some 32), .bin .gtr (.t 31) (.v (.int .i64 1114111)), (some (29, false)), none, []⟩, ⟨(some 33), .pick (.t 29) (.v (.bool true)) (.t 32), none, none, []⟩, ⟨(some 34), .mv (.t 33), none, none, []⟩, ⟨(some 35), .faddr 1 (.t 7), (some (34, false)), none, []⟩, ⟨(some 36), .load none (.t 35), (some (34, false)), none, []⟩, ⟨(some 37), .bin .lss (.t 36) (.v (.int .i64 1)), (some (34, false)), none, []⟩, ⟨(some 38), .pick (.t 34) (.v (.bool true)) (.t 37), none, none, []⟩, ⟨(some 39), .mv (.t 38), none, none, []⟩, ⟨(some 40), .faddr 1 (.t 7), (some (39, false)), none, []⟩, ⟨(some 41), .load none (.t 40), (some (39, false)), none, []⟩, ⟨(some 42), .mv (.t 1), (some (39, false)), none, []⟩, ⟨(some 43), .bin .geq (.t 41) (.t 42), (some (39, false)), none, []⟩, ⟨(some 44), .pick (.t 39) (.v (.bool true)) (.t 43), none, none, []⟩])
  (.cond (.t 44) (.seq (.reg [⟨(some 4), .mv (.v (.bool false)), none, none, []⟩])
  .ret) .skip))
  (.reg [⟨(some 45), .faddr 0 (.t 7), none, none, []⟩, ⟨(some 46), .load none (.t 45), none, none, []⟩, ⟨(some 5), .mv (.t 46), none, none, []⟩]))))
  (.reg [⟨(some 47), .bin .add (.t 21) (.v (.int .i64 1)), none, none, []⟩, ⟨(some 21), .mv (.t 47), none, none, []⟩])))))))
  (.seq (.reg [⟨(some 4), .mv (.v (.bool true)), none, none, []⟩])
  .ret)))))⟩
/-- (pochoir/sample.sampler).texel -/
def s32 : SFn :=
 ⟨47, [.cell 6 (some 4)],
  (.seq (.reg [⟨(some 3), .box 62 (.t 0), none, none, []⟩, ⟨(some 6), .box 32 (.v (.agg [(.int .i64 0), (.int .i64 0), (.int .i64 0), (.int .i64 0)])), none, none, []⟩])
  (.seq (.reg [⟨(some 8), .faddr 2 (.t 3), none, none, []⟩, ⟨(some 9), .faddr 2 (.t 8), none, none, []⟩, ⟨(some 10), .load none (.t 9), none, none, []⟩, ⟨(some 11), .mv (.t 2), none, none, []⟩, ⟨(some 12), .bin .add (.t 10) (.t 11), none, none, []⟩, ⟨(some 13), .faddr 1 (.t 3), none, none, []⟩, ⟨(some 14), .load none (.t 13), none, none, []⟩, ⟨(some 15), .bin .mul (.t 12) (.t 14), none, none, []⟩, ⟨(some 16), .faddr 2 (.t 3), none, none, []⟩, ⟨(some 17), .faddr 1 (.t 16), none, none, []⟩, ⟨(some 18), .load none (.t 17), none, none, []⟩, ⟨(some 19), .bin .add (.t 15) (.t 18), none, none, []⟩, ⟨(some 20), .mv (.t 1), none, none, []⟩, ⟨(some 21), .bin .add (.t 19) (.t 20), none, none, []⟩, ⟨(some 22), .bin .mul (.v (.int .i64 4)) (.t 21), none, none, []⟩, ⟨(some 7), .mv (.t 22), none, none, []⟩])
  (.seq (.regd [⟨(some 23), .faddr 0 (.t 3), none, (some []), []⟩, ⟨(some 24), .load none (.t 23), none, (some []), []⟩, ⟨(some 25), .mv (.t 7), none, (some []), []⟩, ⟨(some 26), .ixs (.t 24) (.t 25), none, (some []), []⟩, ⟨(some 27), .conv .i64 (.t 26), none, (some []), []⟩, ⟨(some 28), .faddr 0 (.t 3), none, (some []), []⟩, ⟨(some 29), .load none (.t 28), none, (some []), []⟩, ⟨(some 30), .mv (.t 7), none, (some []), []⟩, ⟨(some 31), .bin .add (.t 30) (.v (.int .i64 1)), none, (some []), []⟩, ⟨(some 32), .ixs (.t 29) (.t 31), none, (some []), []⟩, ⟨(some 33), .conv .i64 (.t 32), none, (some []), []⟩, ⟨(some 34), .faddr 0 (.t 3), none, (some []), []⟩, ⟨(some 35), .load none (.t 34), none, (some []), []⟩, ⟨(some 36), .mv (.t 7), none, (some []), []⟩, ⟨(some 37), .bin .add (.t 36) (.v (.int .i64 2)), none, (some []), []⟩, ⟨(some 38), .ixs (.t 35) (.t 37), none, (some []), []⟩, ⟨(some 39), .conv .i64 (.t 38), none, (some []), []⟩, ⟨(some 40), .faddr 0 (.t 3), none, (some []), []⟩, ⟨(some 41), .load none (.t 40), none, (some []), []⟩, ⟨(some 42), .mv (.t 7), none, (some []), []⟩, ⟨(some 43), .bin .add (.t 42) (.v (.int .i64 3)), none, (some []), []⟩, ⟨(some 44), .ixs (.t 41) (.t 43), none, (some []), []⟩, ⟨(some 45), .conv .i64 (.t 44), none, (some []), []⟩, ⟨(some 46), .build [(.int .i64 0), (.int .i64 0), (.int .i64 0), (.int .i64 0)] [(0, 1, (.t 27)), (1, 1, (.t 33)), (2, 1, (.t 39)), (3, 1, (.t 45))], none, (some []), []⟩, ⟨none, .store 4 (.t 6) (.t 46), none, none, []⟩])
  .ret)))⟩
/-- pochoir/ratio.common -/
def s33 : SFn :=
 ⟨57, [.cell 4 (some 2)],
  (.seq (.reg [⟨(some 2), .box 77 (.t 0), none, none, []⟩, ⟨(some 3), .box 77 (.t 1), none, none, []⟩, ⟨(some 4), .box 77 (.v (.agg [(.int .u64 0), (.int .u64 0)])), none, none, []⟩])
  (.seq (.seq (.reg [⟨(some 6), .load (some 2) (.t 2), none, none, []⟩, ⟨(some 7), .build [(.int .u64 0), (.int .u64 0)] [], none, none, []⟩, ⟨(some 8), .eqs 4 [1, 1] false (.t 6) (.t 7), none, none, []⟩])
  (.cond (.t 8) (.seq (.reg [⟨(some 9), .load (some 2) (.t 3), none, none, []⟩, ⟨none, .store 2 (.t 4) (.t 9), none, none, []⟩])
  .ret) .skip))
  (.seq (.seq (.reg [⟨(some 10), .load (some 2) (.t 3), none, none, []⟩, ⟨(some 11), .build [(.int .u64 0), (.int .u64 0)] [], none, none, []⟩, ⟨(some 12), .eqs 4 [1, 1] false (.t 10) (.t 11), none, none, []⟩])
  (.cond (.t 12) (.seq (.reg [⟨(some 13), .load (some 2) (.t 2), none, none, []⟩, ⟨none, .store 2 (.t 4) (.t 13), none, none, []⟩])
  .ret) .skip))
  (.seq (.regd [⟨(some 14), .load (some 2) (.t 2), none, (some []), []⟩, ⟨(some 15), .call 42 [(.t 14)], none, none, [(none, (.t 3))]⟩, ⟨(some 16), .load (some 2) (.t 3), none, (some [1]), []⟩, ⟨(some 17), .call 42 [(.t 16)], none, none, []⟩, ⟨(some 18), .mnmx false [(.t 15), (.t 17)], none, (some []), []⟩, ⟨(some 5), .mv (.t 18), none, (some []), []⟩])
  (.seq (.regd [⟨(some 20), .load (some 2) (.t 2), none, (some []), []⟩, ⟨(some 21), .load (some 2) (.t 2), none, (some []), []⟩, ⟨(some 22), .call 42 [(.t 21)], none, none, [(none, (.t 2))]⟩, ⟨(some 23), .un .neg (.t 22), none, (some []), []⟩, ⟨(some 24), .call 43 [(.t 20), (.t 23)], none, none, []⟩, ⟨(some 19), .mv (.t 24), none, (some []), []⟩, ⟨(some 25), .extract (.t 19) 0, none, (some []), []⟩, ⟨(some 26), .extract (.t 19) 1, none, (some []), []⟩, ⟨none, .store 2 (.t 2) (.t 25), none, none, []⟩])
  (.seq (.block 0 (.loop (.seq (.seq (.reg [⟨(some 27), .load (some 2) (.t 3), none, none, []⟩, ⟨(some 28), .build [(.int .u64 0), (.int .u64 0)] [], none, none, []⟩, ⟨(some 29), .eqs 4 [1, 1] true (.t 27) (.t 28), none, none, []⟩])
  (.cond (.t 29) .skip (.exit 0)))
  (.block 1 (.seq (.regd [⟨(some 31), .load (some 2) (.t 3), none, (some []), []⟩, ⟨(some 32), .load (some 2) (.t 3), none, (some []), []⟩, ⟨(some 33), .call 42 [(.t 32)], none, none, [(none, (.t 3))]⟩, ⟨(some 34), .un .neg (.t 33), none, (some []), []⟩, ⟨(some 35), .call 43 [(.t 31), (.t 34)], none, none, []⟩, ⟨(some 30), .mv (.t 35), none, (some []), []⟩, ⟨(some 36), .extract (.t 30) 0, none, (some []), []⟩, ⟨(some 37), .extract (.t 30) 1, none, (some []), []⟩, ⟨none, .store 2 (.t 3) (.t 36), none, none, []⟩])
  (.seq (.seq (.reg [⟨(some 38), .load (some 2) (.t 2), none, none, []⟩, ⟨(some 39), .load (some 2) (.t 3), none, none, []⟩, ⟨(some 40), .call 44 [(.t 38), (.t 39)], none, none, []⟩, ⟨(some 41), .bin .gtr (.t 40) (.v (.int .i64 0)), none, none, []⟩])
  (.cond (.t 41) (.reg [⟨(some 42), .load (some 2) (.t 3), none, none, []⟩, ⟨(some 43), .load (some 2) (.t 2), none, none, []⟩, ⟨none, .store 2 (.t 2) (.t 42), none, none, []⟩, ⟨none, .store 2 (.t 3) (.t 43), none, none, []⟩]) .skip))
  (.reg [⟨(some 45), .load (some 2) (.t 3), none, none, []⟩, ⟨(some 46), .load (some 2) (.t 2), none, none, []⟩, ⟨(some 47), .call 45 [(.t 45), (.t 46)], none, none, []⟩, ⟨(some 44), .mv (.t 47), none, none, []⟩, ⟨(some 48), .extract (.t 44) 0, none, none, []⟩, ⟨(some 49), .extract (.t 44) 1, none, none, []⟩, ⟨none, .store 2 (.t 3) (.t 48), none, none, []⟩])))))))
  (.seq (.reg [⟨(some 51), .load (some 2) (.t 2), none, none, []⟩, ⟨(some 52), .mv (.t 5), none, none, []⟩, ⟨(some 53), .call 43 [(.t 51), (.t 52)], none, none, []⟩, ⟨(some 50), .mv (.t 53), none, none, []⟩, ⟨(some 54), .extract (.t 50) 0, none, none, []⟩, ⟨(some 55), .extract (.t 50) 1, none, none, []⟩, ⟨none, .store 2 (.t 2) (.t 54), none, none, []⟩])
  (.seq (.reg [⟨(some 56), .load (some 2) (.t 2), none, none, []⟩, ⟨none, .store 2 (.t 4) (.t 56), none, none, []⟩])
  .ret))))))))⟩
/-- pochoir/wide.Of -/
def s34 : SFn :=
 ⟨5, [.cell 2 (some 2)],
  (.seq (.reg [⟨(some 2), .box 77 (.v (.agg [(.int .u64 0), (.int .u64 0)])), none, none, []⟩])
  (.seq (.reg [⟨(some 3), .mv (.t 0), none, none, []⟩, ⟨(some 4), .build [(.int .u64 0), (.int .u64 0)] [(1, 1, (.t 3))], none, none, []⟩, ⟨none, .store 2 (.t 2) (.t 4), none, none, []⟩])
  .ret))⟩
/-- pochoir/ratio.size -/
def s35 : SFn :=
 ⟨10, [.tmp 2],
  (.seq (.reg [⟨(some 2), .mv (.v (.int .u64 0)), none, none, []⟩])
  (.seq (.seq (.reg [⟨(some 3), .mv (.t 0), none, none, []⟩, ⟨(some 4), .bin .lss (.t 3) (.v (.int .i64 0)), none, none, []⟩])
  (.cond (.t 4) (.seq (.reg [⟨(some 5), .mv (.t 0), none, none, []⟩, ⟨(some 6), .conv .u64 (.t 5), none, none, []⟩, ⟨(some 7), .un .neg (.t 6), none, none, []⟩, ⟨(some 2), .mv (.t 7), none, none, []⟩])
  .ret) .skip))
  (.seq (.reg [⟨(some 8), .mv (.t 0), none, none, []⟩, ⟨(some 9), .conv .u64 (.t 8), none, none, []⟩, ⟨(some 2), .mv (.t 9), none, none, []⟩])
  .ret)))⟩
/-- pochoir/pochoirref03.common -/
def s36 : SFn :=
 ⟨14, [.tmp 4],
  (.seq (.reg [⟨(some 4), .mv (.v (.int .u64 0)), none, none, []⟩])
  (.seq (.block 0 (.loop (.seq (.seq (.reg [⟨(some 6), .mv (.t 1), none, none, []⟩, ⟨(some 7), .bin .gtr (.t 6) (.v (.int .u64 0)), none, none, []⟩])
  (.cond (.t 7) .skip (.exit 0)))
  (.block 1 (.seq (.reg [⟨(some 8), .mv (.t 0), none, none, []⟩, ⟨(some 9), .mv (.t 1), none, none, []⟩, ⟨(some 10), .bin .rem (.t 8) (.t 9), none, none, []⟩, ⟨(some 5), .mv (.t 10), none, none, []⟩])
  (.seq (.reg [⟨(some 11), .mv (.t 1), none, none, []⟩, ⟨(some 0), .mv (.t 11), none, none, []⟩])
  (.reg [⟨(some 12), .mv (.t 5), none, none, []⟩, ⟨(some 1), .mv (.t 12), none, none, []⟩])))))))
  (.seq (.reg [⟨(some 13), .mv (.t 0), none, none, []⟩, ⟨(some 4), .mv (.t 13), none, none, []⟩])
  .ret)))⟩
/-- pochoir/pochoirref03.size -/
def s37 : SFn :=
 ⟨10, [.tmp 2],
  (.seq (.reg [⟨(some 2), .mv (.v (.int .u64 0)), none, none, []⟩])
  (.seq (.seq (.reg [⟨(some 3), .mv (.t 0), none, none, []⟩, ⟨(some 4), .bin .lss (.t 3) (.v (.int .i64 0)), none, none, []⟩])
  (.cond (.t 4) (.seq (.reg [⟨(some 5), .mv (.t 0), none, none, []⟩, ⟨(some 6), .conv .u64 (.t 5), none, none, []⟩, ⟨(some 7), .bin .sub (.v (.int .u64 0)) (.t 6), none, none, []⟩, ⟨(some 2), .mv (.t 7), none, none, []⟩])
  .ret) .skip))
  (.seq (.reg [⟨(some 8), .mv (.t 0), none, none, []⟩, ⟨(some 9), .conv .u64 (.t 8), none, none, []⟩, ⟨(some 2), .mv (.t 9), none, none, []⟩])
  .ret)))⟩
/-- pochoir/pochoirref25.May -/
def s38 : SFn :=
 ⟨44, [.tmp 2],
  (.seq (.reg [⟨(some 1), .box 50 (.t 0), none, none, []⟩, ⟨(some 2), .mv (.v (.bool false)), none, none, []⟩])
  (.seq (.seq (.reg [⟨(some 3), .load (some 4) (.t 1), none, none, []⟩, ⟨(some 4), .build [(.int .i64 0), (.int .i64 0), (.int .i64 0), (.int .i64 0)] [], none, none, []⟩, ⟨(some 5), .eqs 4 [1, 1, 1, 1] false (.t 3) (.t 4), none, none, []⟩])
  (.cond (.t 5) (.seq (.reg [⟨(some 2), .mv (.v (.bool true)), none, none, []⟩])
  .ret) .skip))
  (.seq (.reg [⟨(some 6), .faddr 2 (.t 1), none, none, []⟩, ⟨(some 7), .load none (.t 6), none, none, []⟩, ⟨(some 8), .bin .geq (.t 7) (.v (.int .i64 1)), none, none, []⟩, ⟨(some 9), .mv (.t 8), none, none, []⟩, ⟨(some 10), .faddr 2 (.t 1), (some (9, true)), none, []⟩, ⟨(some 11), .load none (.t 10), (some (9, true)), none, []⟩, ⟨(some 12), .bin .leq (.t 11) (.v (.int .i64 256)), (some (9, true)), none, []⟩, ⟨(some 13), .pick (.t 9) (.t 12) (.v (.bool false)), none, none, []⟩, ⟨(some 14), .mv (.t 13), none, none, []⟩, ⟨(some 15), .faddr 3 (.t 1), (some (14, true)), none, []⟩, ⟨(some 16), .load none (.t 15), (some (14, true)), none, []⟩, ⟨(some 17), .bin .geq (.t 16) (.v (.int .i64 1)), (some (14, true)), none, []⟩, ⟨(some 18), .pick (.t 14) (.t 17) (.v (.bool false)), none, none, []⟩, ⟨(some 19), .mv (.t 18), none, none, []⟩, ⟨(some 20), .faddr 3 (.t 1), (some (19, true)), none, []⟩, ⟨(some 21), .load none (.t 20), (some (19, true)), none, []⟩, ⟨(some 22), .bin .leq (.t 21) (.v (.int .i64 256)), (some (19, true)), none, []⟩, ⟨(some 23), .pick (.t 19) (.t 22) (.v (.bool false)), none, none, []⟩, ⟨(some 24), .mv (.t 23), none, none, []⟩, ⟨(some 25), .faddr 0 (.t 1), (some (24, true)), none, []⟩, ⟨(some 26), .load none (.t 25), (some (24, true)), none, []⟩, ⟨(some 27), .bin .geq (.t 26) (.v (.int .i64 (-1048576))), (some (24, true)), none, []⟩, ⟨(some 28), .pick (.t 24) (.t 27) (.v (.bool false)), none, none, []⟩, ⟨(some 29), .mv (.t 28), none, none, []⟩, ⟨(some 30), .faddr 0 (.t 1), (some (29, true)), none, []⟩, ⟨(some 31), .load none (.t 30), (some (29, true)), none, []⟩, ⟨(some 32), .bin .leq (.t 31) (.v (.int .i64 1048576)), (some (29, true)), none, []⟩, ⟨(some 33), .pick (.t 29) (.t 32) (.v (.bool false)), none, none, []⟩, ⟨(some 34), .mv (.t 33), none, none, []⟩, ⟨(some 35), .faddr 1 (.t 1), (some (34, true)), none, []⟩, ⟨(some 36), .load none (.t 35), (some (34, true)), none, []⟩, ⟨(some 37), .bin .geq (.t 36) (.v (.int .i64 (-1048576))), (some (34, true)), none, []⟩, ⟨(some 38), .pick (.t 34) (.t 37) (.v (.bool false)), none, none, []⟩, ⟨(some 39), .mv (.t 38), none, none, []⟩, ⟨(some 40), .faddr 1 (.t 1), (some (39, true)), none, []⟩, ⟨(some 41), .load none (.t 40), (some (39, true)), none, []⟩, ⟨(some 42), .bin .leq (.t 41) (.v (.int .i64 1048576)), (some (39, true)), none, []⟩, ⟨(some 43), .pick (.t 39) (.t 42) (.v (.bool false)), none, none, []⟩, ⟨(some 2), .mv (.t 43), none, none, []⟩])
  .ret)))⟩
/-- pochoir/atlas.within -/
def s39 : SFn :=
 ⟨15, [.tmp 6],
  (.seq (.reg [⟨(some 6), .mv (.v (.bool false)), none, none, []⟩])
  (.seq (.reg [⟨(some 7), .mv (.t 0), none, none, []⟩, ⟨(some 8), .mv (.t 1), none, none, []⟩, ⟨(some 9), .bin .geq (.t 7) (.t 8), none, none, []⟩, ⟨(some 10), .mv (.t 9), none, none, []⟩, ⟨(some 11), .mv (.t 0), (some (10, true)), none, []⟩, ⟨(some 12), .mv (.t 2), (some (10, true)), none, []⟩, ⟨(some 13), .bin .leq (.t 11) (.t 12), (some (10, true)), none, []⟩, ⟨(some 14), .pick (.t 10) (.t 13) (.v (.bool false)), none, none, []⟩, ⟨(some 6), .mv (.t 14), none, none, []⟩])
  .ret))⟩
/-- pochoir/atlas.short -/
def s40 : SFn :=
 ⟨5, [.tmp 2],
  (.seq (.reg [⟨(some 2), .mv (.v (.bool false)), none, none, []⟩])
  (.seq (.reg [⟨(some 3), .mv (.t 0), none, none, []⟩, ⟨(some 4), .call 39 [(.t 3), (.v (.int .i64 (-32768))), (.v (.int .i64 32767))], none, none, []⟩, ⟨(some 2), .mv (.t 4), none, none, []⟩])
  .ret))⟩
/-- pochoir/cell.May -/
def s41 : SFn :=
 ⟨24, [.tmp 2],
  (.seq (.reg [⟨(some 1), .box 50 (.t 0), none, none, []⟩, ⟨(some 2), .mv (.v (.bool false)), none, none, []⟩])
  (.seq (.seq (.reg [⟨(some 3), .load (some 4) (.t 1), none, none, []⟩, ⟨(some 4), .build [(.int .i64 0), (.int .i64 0), (.int .i64 0), (.int .i64 0)] [], none, none, []⟩, ⟨(some 5), .eqs 4 [1, 1, 1, 1] false (.t 3) (.t 4), none, none, []⟩])
  (.cond (.t 5) (.seq (.reg [⟨(some 2), .mv (.v (.bool true)), none, none, []⟩])
  .ret) .skip))
  (.seq (.reg [⟨(some 6), .faddr 2 (.t 1), none, none, []⟩, ⟨(some 7), .load none (.t 6), none, none, []⟩, ⟨(some 8), .call 46 [(.t 7), (.v (.int .i64 1)), (.v (.int .i64 256))], none, none, []⟩, ⟨(some 9), .mv (.t 8), none, none, []⟩, ⟨(some 10), .faddr 3 (.t 1), (some (9, true)), none, []⟩, ⟨(some 11), .load none (.t 10), (some (9, true)), none, []⟩, ⟨(some 12), .call 46 [(.t 11), (.v (.int .i64 1)), (.v (.int .i64 256))], (some (9, true)), none, []⟩, ⟨(some 13), .pick (.t 9) (.t 12) (.v (.bool false)), none, none, []⟩, ⟨(some 14), .mv (.t 13), none, none, []⟩, ⟨(some 15), .faddr 0 (.t 1), (some (14, true)), none, []⟩, ⟨(some 16), .load none (.t 15), (some (14, true)), none, []⟩, ⟨(some 17), .call 46 [(.t 16), (.v (.int .i64 (-1048576))), (.v (.int .i64 1048576))], (some (14, true)), none, []⟩, ⟨(some 18), .pick (.t 14) (.t 17) (.v (.bool false)), none, none, []⟩, ⟨(some 19), .mv (.t 18), none, none, []⟩, ⟨(some 20), .faddr 1 (.t 1), (some (19, true)), none, []⟩, ⟨(some 21), .load none (.t 20), (some (19, true)), none, []⟩, ⟨(some 22), .call 46 [(.t 21), (.v (.int .i64 (-1048576))), (.v (.int .i64 1048576))], (some (19, true)), none, []⟩, ⟨(some 23), .pick (.t 19) (.t 22) (.v (.bool false)), none, none, []⟩, ⟨(some 2), .mv (.t 23), none, none, []⟩])
  .ret)))⟩
/-- pochoir/ratio.twos -/
def s42 : SFn :=
 ⟨13, [.tmp 2],
  (.seq (.reg [⟨(some 1), .box 77 (.t 0), none, none, []⟩, ⟨(some 2), .mv (.v (.int .i64 0)), none, none, []⟩])
  (.seq (.seq (.reg [⟨(some 3), .faddr 1 (.t 1), none, none, []⟩, ⟨(some 4), .load none (.t 3), none, none, []⟩, ⟨(some 5), .bin .neq (.t 4) (.v (.int .u64 0)), none, none, []⟩])
  (.cond (.t 5) (.seq (.reg [⟨(some 6), .faddr 1 (.t 1), none, none, []⟩, ⟨(some 7), .load none (.t 6), none, none, []⟩, ⟨(some 8), .call 47 [(.t 7)], none, none, []⟩, ⟨(some 2), .mv (.t 8), none, none, []⟩])
  .ret) .skip))
  (.seq (.reg [⟨(some 9), .faddr 0 (.t 1), none, none, []⟩, ⟨(some 10), .load none (.t 9), none, none, []⟩, ⟨(some 11), .call 47 [(.t 10)], none, none, []⟩, ⟨(some 12), .bin .add (.v (.int .i64 64)) (.t 11), none, none, []⟩, ⟨(some 2), .mv (.t 12), none, none, []⟩])
  .ret)))⟩
/-- pochoir/wide.Shift -/
def s43 : SFn :=
 ⟨34, [.cell 4 (some 2), .tmp 5],
  (.seq (.reg [⟨(some 2), .box 77 (.t 0), none, none, []⟩, ⟨(some 4), .box 77 (.v (.agg [(.int .u64 0), (.int .u64 0)])), none, none, []⟩, ⟨(some 5), .mv (.v (.int .i64 0)), none, none, []⟩])
  (.seq (.block 0 (.seq (.reg [⟨(some 7), .load (some 2) (.t 2), none, none, []⟩, ⟨(some 8), .build [(.int .u64 0), (.int .u64 0)] [], none, none, []⟩, ⟨(some 9), .eqs 4 [1, 1] false (.t 7) (.t 8), none, none, []⟩, ⟨(some 10), .mv (.t 9), none, none, []⟩, ⟨(some 11), .mv (.t 1), (some (10, false)), none, []⟩, ⟨(some 12), .bin .leq (.t 11) (.v (.int .i64 (-128))), (some (10, false)), none, []⟩, ⟨(some 13), .pick (.t 10) (.v (.bool true)) (.t 12), none, none, []⟩, ⟨(some 6), .mv (.t 13), none, none, []⟩])
  (.cond (.t 6) (.seq (.reg [⟨(some 14), .build [(.int .u64 0), (.int .u64 0)] [], none, none, []⟩, ⟨none, .store 2 (.t 4) (.t 14), none, none, []⟩, ⟨(some 5), .mv (.v (.int .i64 0)), none, none, []⟩])
  .ret) (.seq (.reg [⟨(some 16), .mv (.t 1), none, none, []⟩, ⟨(some 17), .bin .lss (.t 16) (.v (.int .i64 0)), none, none, []⟩, ⟨(some 15), .mv (.t 17), none, none, []⟩])
  (.cond (.t 15) (.seq (.reg [⟨(some 18), .load (some 2) (.t 2), none, none, []⟩, ⟨(some 19), .mv (.t 1), none, none, []⟩, ⟨(some 20), .un .neg (.t 19), none, none, []⟩, ⟨(some 21), .conv .u64 (.t 20), none, none, []⟩, ⟨(some 22), .call 48 [(.t 18), (.t 21)], none, none, []⟩, ⟨none, .store 2 (.t 4) (.t 22), none, none, []⟩, ⟨(some 5), .mv (.v (.int .i64 0)), none, none, []⟩])
  .ret) (.seq (.reg [⟨(some 24), .mv (.t 1), none, none, []⟩, ⟨(some 25), .load (some 2) (.t 2), none, none, []⟩, ⟨(some 26), .call 49 [(.t 25)], none, none, []⟩, ⟨(some 27), .bin .sub (.v (.int .i64 128)) (.t 26), none, none, []⟩, ⟨(some 28), .bin .gtr (.t 24) (.t 27), none, none, []⟩, ⟨(some 23), .mv (.t 28), none, none, []⟩])
  (.cond (.t 23) (.seq (.reg [⟨(some 29), .build [(.int .u64 0), (.int .u64 0)] [], none, none, []⟩, ⟨none, .store 2 (.t 4) (.t 29), none, none, []⟩, ⟨(some 5), .mv (.v (.int .i64 2)), none, none, []⟩])
  .ret) .skip)))))))
  (.seq (.reg [⟨(some 30), .load (some 2) (.t 2), none, none, []⟩, ⟨(some 31), .mv (.t 1), none, none, []⟩, ⟨(some 32), .conv .u64 (.t 31), none, none, []⟩, ⟨(some 33), .call 50 [(.t 30), (.t 32)], none, none, []⟩, ⟨none, .store 2 (.t 4) (.t 33), none, none, []⟩, ⟨(some 5), .mv (.v (.int .i64 0)), none, none, []⟩])
  .ret)))⟩
/-- pochoir/wide.Cmp -/
def s44 : SFn :=
 ⟨17, [.tmp 4],
  (.seq (.reg [⟨(some 2), .box 77 (.t 0), none, none, []⟩, ⟨(some 3), .box 77 (.t 1), none, none, []⟩, ⟨(some 4), .mv (.v (.int .i64 0)), none, none, []⟩])
  (.seq (.regd [⟨(some 5), .faddr 0 (.t 2), none, (some []), []⟩, ⟨(some 6), .load none (.t 5), none, (some []), []⟩, ⟨(some 7), .faddr 0 (.t 3), none, (some []), []⟩, ⟨(some 8), .load none (.t 7), none, (some []), []⟩, ⟨(some 9), .call 52 [(.t 6), (.t 8)], none, none, [(none, (.t 2)), (none, (.t 3))]⟩, ⟨(some 10), .faddr 1 (.t 2), none, (some [4]), []⟩, ⟨(some 11), .load none (.t 10), none, (some [4]), []⟩, ⟨(some 12), .faddr 1 (.t 3), none, (some [4]), []⟩, ⟨(some 13), .load none (.t 12), none, (some [4]), []⟩, ⟨(some 14), .call 52 [(.t 11), (.t 13)], none, none, []⟩, ⟨(some 15), .bsl 3 [(.int .i64 0), (.int .i64 0)] 2 1 [(0, 1, (.t 9)), (1, 1, (.t 14))], none, none, []⟩, ⟨(some 16), .call 51 [(.t 15)], none, none, []⟩, ⟨(some 4), .mv (.t 16), none, (some []), []⟩])
  .ret))⟩
/-- pochoir/wide.Sub -/
def s45 : SFn :=
 ⟨32, [.cell 4 (some 2), .tmp 5],
  (.seq (.reg [⟨(some 2), .box 77 (.t 0), none, none, []⟩, ⟨(some 3), .box 77 (.t 1), none, none, []⟩, ⟨(some 4), .box 77 (.v (.agg [(.int .u64 0), (.int .u64 0)])), none, none, []⟩, ⟨(some 5), .mv (.v (.int .i64 0)), none, none, []⟩])
  (.seq (.reg [⟨(some 10), .faddr 1 (.t 2), none, none, []⟩, ⟨(some 11), .load none (.t 10), none, none, []⟩, ⟨(some 12), .faddr 1 (.t 3), none, none, []⟩, ⟨(some 13), .load none (.t 12), none, none, []⟩, ⟨(some 14), .call 53 [(.t 11), (.t 13), (.v (.int .u64 0))], none, none, []⟩, ⟨(some 9), .mv (.t 14), none, none, []⟩, ⟨(some 15), .extract (.t 9) 0, none, none, []⟩, ⟨(some 16), .extract (.t 9) 1, none, none, []⟩, ⟨(some 6), .mv (.t 15), none, none, []⟩, ⟨(some 7), .mv (.t 16), none, none, []⟩])
  (.seq (.reg [⟨(some 18), .faddr 0 (.t 2), none, none, []⟩, ⟨(some 19), .load none (.t 18), none, none, []⟩, ⟨(some 20), .faddr 0 (.t 3), none, none, []⟩, ⟨(some 21), .load none (.t 20), none, none, []⟩, ⟨(some 22), .mv (.t 7), none, none, []⟩, ⟨(some 23), .call 53 [(.t 19), (.t 21), (.t 22)], none, none, []⟩, ⟨(some 17), .mv (.t 23), none, none, []⟩, ⟨(some 24), .extract (.t 17) 0, none, none, []⟩, ⟨(some 25), .extract (.t 17) 1, none, none, []⟩, ⟨(some 8), .mv (.t 24), none, none, []⟩, ⟨(some 7), .mv (.t 25), none, none, []⟩])
  (.seq (.seq (.reg [⟨(some 26), .mv (.t 7), none, none, []⟩, ⟨(some 27), .bin .neq (.t 26) (.v (.int .u64 0)), none, none, []⟩])
  (.cond (.t 27) (.seq (.reg [⟨(some 28), .build [(.int .u64 0), (.int .u64 0)] [], none, none, []⟩, ⟨none, .store 2 (.t 4) (.t 28), none, none, []⟩, ⟨(some 5), .mv (.v (.int .i64 2)), none, none, []⟩])
  .ret) .skip))
  (.seq (.reg [⟨(some 29), .mv (.t 8), none, none, []⟩, ⟨(some 30), .mv (.t 6), none, none, []⟩, ⟨(some 31), .build [(.int .u64 0), (.int .u64 0)] [(0, 1, (.t 29)), (1, 1, (.t 30))], none, none, []⟩, ⟨none, .store 2 (.t 4) (.t 31), none, none, []⟩, ⟨(some 5), .mv (.v (.int .i64 0)), none, none, []⟩])
  .ret)))))⟩
/-- pochoir/cell.within -/
def s46 : SFn :=
 ⟨15, [.tmp 6],
  (.seq (.reg [⟨(some 6), .mv (.v (.bool false)), none, none, []⟩])
  (.seq (.reg [⟨(some 7), .mv (.t 0), none, none, []⟩, ⟨(some 8), .mv (.t 1), none, none, []⟩, ⟨(some 9), .bin .geq (.t 7) (.t 8), none, none, []⟩, ⟨(some 10), .mv (.t 9), none, none, []⟩, ⟨(some 11), .mv (.t 0), (some (10, true)), none, []⟩, ⟨(some 12), .mv (.t 2), (some (10, true)), none, []⟩, ⟨(some 13), .bin .leq (.t 11) (.t 12), (some (10, true)), none, []⟩, ⟨(some 14), .pick (.t 10) (.t 13) (.v (.bool false)), none, none, []⟩, ⟨(some 6), .mv (.t 14), none, none, []⟩])
  .ret))⟩
/-- math/bits.TrailingZeros64 -/
def s47 : SFn :=
 ⟨14, [.tmp 2],
  (.seq (.reg [⟨(some 2), .mv (.v (.int .i64 0)), none, none, []⟩])
  (.seq (.seq (.reg [⟨(some 3), .mv (.t 0), none, none, []⟩, ⟨(some 4), .bin .eql (.t 3) (.v (.int .u64 0)), none, none, []⟩])
  (.cond (.t 4) (.seq (.reg [⟨(some 2), .mv (.v (.int .i64 64)), none, none, []⟩])
  .ret) .skip))
  (.seq (.reg [⟨(some 5), .mv (.t 0), none, none, []⟩, ⟨(some 6), .mv (.t 0), none, none, []⟩, ⟨(some 7), .un .neg (.t 6), none, none, []⟩, ⟨(some 8), .bin .and (.t 5) (.t 7), none, none, []⟩, ⟨(some 9), .bin .mul (.t 8) (.v (.int .u64 285870213051353865)), none, none, []⟩, ⟨(some 10), .bin .shr (.t 9) (.v (.int .u64 58)), none, none, []⟩, ⟨(some 11), .iarr 64 1 (.v (.pv [(.int .u8 0), (.int .u8 1), (.int .u8 56), (.int .u8 2), (.int .u8 57), (.int .u8 49), (.int .u8 28), (.int .u8 3), (.int .u8 61), (.int .u8 58), (.int .u8 42), (.int .u8 50), (.int .u8 38), (.int .u8 29), (.int .u8 17), (.int .u8 4), (.int .u8 62), (.int .u8 47), (.int .u8 59), (.int .u8 36), (.int .u8 45), (.int .u8 43), (.int .u8 51), (.int .u8 22), (.int .u8 53), (.int .u8 39), (.int .u8 33), (.int .u8 30), (.int .u8 24), (.int .u8 18), (.int .u8 12), (.int .u8 5), (.int .u8 63), (.int .u8 55), (.int .u8 48), (.int .u8 27), (.int .u8 60), (.int .u8 41), (.int .u8 37), (.int .u8 16), (.int .u8 46), (.int .u8 35), (.int .u8 44), (.int .u8 21), (.int .u8 52), (.int .u8 32), (.int .u8 23), (.int .u8 11), (.int .u8 54), (.int .u8 26), (.int .u8 40), (.int .u8 15), (.int .u8 34), (.int .u8 20), (.int .u8 31), (.int .u8 10), (.int .u8 25), (.int .u8 14), (.int .u8 19), (.int .u8 9), (.int .u8 13), (.int .u8 8), (.int .u8 7), (.int .u8 6)])) (.t 10), none, none, []⟩, ⟨(some 12), .load none (.t 11), none, none, []⟩, ⟨(some 13), .conv .i64 (.t 12), none, none, []⟩, ⟨(some 2), .mv (.t 13), none, none, []⟩])
  .ret)))⟩
/-- pochoir/wide.right -/
def s48 : SFn :=
 ⟨28, [.cell 4 (some 2)],
  (.seq (.reg [⟨(some 2), .box 77 (.t 0), none, none, []⟩, ⟨(some 4), .box 77 (.v (.agg [(.int .u64 0), (.int .u64 0)])), none, none, []⟩])
  (.seq (.seq (.reg [⟨(some 5), .mv (.t 1), none, none, []⟩, ⟨(some 6), .bin .geq (.t 5) (.v (.int .u64 64)), none, none, []⟩])
  (.cond (.t 6) (.seq (.reg [⟨(some 7), .faddr 0 (.t 2), none, none, []⟩, ⟨(some 8), .load none (.t 7), none, none, []⟩, ⟨(some 9), .mv (.t 1), none, none, []⟩, ⟨(some 10), .bin .sub (.t 9) (.v (.int .u64 64)), none, none, []⟩, ⟨(some 11), .bin .shr (.t 8) (.t 10), none, none, []⟩, ⟨(some 12), .build [(.int .u64 0), (.int .u64 0)] [(1, 1, (.t 11))], none, none, []⟩, ⟨none, .store 2 (.t 4) (.t 12), none, none, []⟩])
  .ret) .skip))
  (.seq (.reg [⟨(some 13), .faddr 0 (.t 2), none, none, []⟩, ⟨(some 14), .load none (.t 13), none, none, []⟩, ⟨(some 15), .mv (.t 1), none, none, []⟩, ⟨(some 16), .bin .shr (.t 14) (.t 15), none, none, []⟩, ⟨(some 17), .faddr 1 (.t 2), none, none, []⟩, ⟨(some 18), .load none (.t 17), none, none, []⟩, ⟨(some 19), .mv (.t 1), none, none, []⟩, ⟨(some 20), .bin .shr (.t 18) (.t 19), none, none, []⟩, ⟨(some 21), .faddr 0 (.t 2), none, none, []⟩, ⟨(some 22), .load none (.t 21), none, none, []⟩, ⟨(some 23), .mv (.t 1), none, none, []⟩, ⟨(some 24), .bin .sub (.v (.int .u64 64)) (.t 23), none, none, []⟩, ⟨(some 25), .bin .shl (.t 22) (.t 24), none, none, []⟩, ⟨(some 26), .bin .or (.t 20) (.t 25), none, none, []⟩, ⟨(some 27), .build [(.int .u64 0), (.int .u64 0)] [(0, 1, (.t 16)), (1, 1, (.t 26))], none, none, []⟩, ⟨none, .store 2 (.t 4) (.t 27), none, none, []⟩])
  .ret)))⟩
/-- pochoir/wide.Bits -/
def s49 : SFn :=
 ⟨13, [.tmp 2],
  (.seq (.reg [⟨(some 1), .box 77 (.t 0), none, none, []⟩, ⟨(some 2), .mv (.v (.int .i64 0)), none, none, []⟩])
  (.seq (.seq (.reg [⟨(some 3), .faddr 0 (.t 1), none, none, []⟩, ⟨(some 4), .load none (.t 3), none, none, []⟩, ⟨(some 5), .bin .neq (.t 4) (.v (.int .u64 0)), none, none, []⟩])
  (.cond (.t 5) (.seq (.reg [⟨(some 6), .faddr 0 (.t 1), none, none, []⟩, ⟨(some 7), .load none (.t 6), none, none, []⟩, ⟨(some 8), .call 54 [(.t 7)], none, none, []⟩, ⟨(some 9), .bin .add (.v (.int .i64 64)) (.t 8), none, none, []⟩, ⟨(some 2), .mv (.t 9), none, none, []⟩])
  .ret) .skip))
  (.seq (.reg [⟨(some 10), .faddr 1 (.t 1), none, none, []⟩, ⟨(some 11), .load none (.t 10), none, none, []⟩, ⟨(some 12), .call 54 [(.t 11)], none, none, []⟩, ⟨(some 2), .mv (.t 12), none, none, []⟩])
  .ret)))⟩
/-- pochoir/wide.left -/
def s50 : SFn :=
 ⟨28, [.cell 4 (some 2)],
  (.seq (.reg [⟨(some 2), .box 77 (.t 0), none, none, []⟩, ⟨(some 4), .box 77 (.v (.agg [(.int .u64 0), (.int .u64 0)])), none, none, []⟩])
  (.seq (.seq (.reg [⟨(some 5), .mv (.t 1), none, none, []⟩, ⟨(some 6), .bin .geq (.t 5) (.v (.int .u64 64)), none, none, []⟩])
  (.cond (.t 6) (.seq (.reg [⟨(some 7), .faddr 1 (.t 2), none, none, []⟩, ⟨(some 8), .load none (.t 7), none, none, []⟩, ⟨(some 9), .mv (.t 1), none, none, []⟩, ⟨(some 10), .bin .sub (.t 9) (.v (.int .u64 64)), none, none, []⟩, ⟨(some 11), .bin .shl (.t 8) (.t 10), none, none, []⟩, ⟨(some 12), .build [(.int .u64 0), (.int .u64 0)] [(0, 1, (.t 11))], none, none, []⟩, ⟨none, .store 2 (.t 4) (.t 12), none, none, []⟩])
  .ret) .skip))
  (.seq (.reg [⟨(some 13), .faddr 0 (.t 2), none, none, []⟩, ⟨(some 14), .load none (.t 13), none, none, []⟩, ⟨(some 15), .mv (.t 1), none, none, []⟩, ⟨(some 16), .bin .shl (.t 14) (.t 15), none, none, []⟩, ⟨(some 17), .faddr 1 (.t 2), none, none, []⟩, ⟨(some 18), .load none (.t 17), none, none, []⟩, ⟨(some 19), .mv (.t 1), none, none, []⟩, ⟨(some 20), .bin .sub (.v (.int .u64 64)) (.t 19), none, none, []⟩, ⟨(some 21), .bin .shr (.t 18) (.t 20), none, none, []⟩, ⟨(some 22), .bin .or (.t 16) (.t 21), none, none, []⟩, ⟨(some 23), .faddr 1 (.t 2), none, none, []⟩, ⟨(some 24), .load none (.t 23), none, none, []⟩, ⟨(some 25), .mv (.t 1), none, none, []⟩, ⟨(some 26), .bin .shl (.t 24) (.t 25), none, none, []⟩, ⟨(some 27), .build [(.int .u64 0), (.int .u64 0)] [(0, 1, (.t 22)), (1, 1, (.t 26))], none, none, []⟩, ⟨none, .store 2 (.t 4) (.t 27), none, none, []⟩])
  .ret)))⟩
/-- cmp.Or[int] -/
def s51 : SFn :=
 ⟨18, [.tmp 2],
  (.seq (.reg [⟨(some 2), .mv (.v (.int .i64 0)), none, none, []⟩])
  (.seq (.reg [⟨(some 3), .mv (.v (.int .i64 0)), none, none, []⟩])
  (.seq (.seq (.reg [⟨(some 6), .mv (.t 0), none, none, []⟩, ⟨(some 7), .len false (.t 6), none, none, []⟩, ⟨(some 8), .mv (.v (.int .i64 0)), none, none, []⟩])
  (.block 0 (.loop (.seq (.reg [⟨(some 9), .bin .lss (.t 8) (.t 7), none, none, []⟩])
  (.seq (.cond (.t 9) .skip (.exit 0))
  (.seq (.block 1 (.seq (.reg [⟨(some 10), .iaddr 1 (.t 6) (.t 8), none, none, []⟩, ⟨(some 11), .load none (.t 10), none, none, []⟩, ⟨(some 5), .mv (.t 11), none, none, []⟩])
  (.seq (.reg [⟨(some 12), .mv (.t 5), none, none, []⟩, ⟨(some 13), .mv (.t 3), none, none, []⟩, ⟨(some 14), .bin .neq (.t 12) (.t 13), none, none, []⟩])
  (.cond (.t 14) (.seq (.reg [⟨(some 15), .mv (.t 5), none, none, []⟩, ⟨(some 2), .mv (.t 15), none, none, []⟩])
  .ret) .skip))))
  (.reg [⟨(some 16), .bin .add (.t 8) (.v (.int .i64 1)), none, none, []⟩, ⟨(some 8), .mv (.t 16), none, none, []⟩])))))))
  (.seq (.reg [⟨(some 17), .mv (.t 3), none, none, []⟩, ⟨(some 2), .mv (.t 17), none, none, []⟩])
  .ret))))⟩
/-- cmp.Compare[uint64] -/
def s52 : SFn :=
 ⟨20, [.tmp 4],
  (.seq (.reg [⟨(some 4), .mv (.v (.int .i64 0)), none, none, []⟩])
  (.seq (.reg [⟨(some 7), .mv (.t 0), none, none, []⟩, ⟨(some 8), .call 55 [(.t 7)], none, none, []⟩, ⟨(some 5), .mv (.t 8), none, none, []⟩])
  (.seq (.reg [⟨(some 9), .mv (.t 1), none, none, []⟩, ⟨(some 10), .call 55 [(.t 9)], none, none, []⟩, ⟨(some 6), .mv (.t 10), none, none, []⟩])
  (.seq (.seq (.reg [⟨(some 11), .mv (.t 5), none, none, []⟩])
  (.cond (.t 11) (.seq (.seq (.reg [⟨(some 12), .mv (.t 6), none, none, []⟩])
  (.cond (.t 12) (.seq (.reg [⟨(some 4), .mv (.v (.int .i64 0)), none, none, []⟩])
  .ret) .skip))
  (.seq (.reg [⟨(some 4), .mv (.v (.int .i64 (-1))), none, none, []⟩])
  .ret)) .skip))
  (.seq (.seq (.reg [⟨(some 13), .mv (.t 6), none, none, []⟩])
  (.cond (.t 13) (.seq (.reg [⟨(some 4), .mv (.v (.int .i64 1)), none, none, []⟩])
  .ret) .skip))
  (.seq (.seq (.reg [⟨(some 14), .mv (.t 0), none, none, []⟩, ⟨(some 15), .mv (.t 1), none, none, []⟩, ⟨(some 16), .bin .lss (.t 14) (.t 15), none, none, []⟩])
  (.cond (.t 16) (.seq (.reg [⟨(some 4), .mv (.v (.int .i64 (-1))), none, none, []⟩])
  .ret) .skip))
  (.seq (.seq (.reg [⟨(some 17), .mv (.t 0), none, none, []⟩, ⟨(some 18), .mv (.t 1), none, none, []⟩, ⟨(some 19), .bin .gtr (.t 17) (.t 18), none, none, []⟩])
  (.cond (.t 19) (.seq (.reg [⟨(some 4), .mv (.v (.int .i64 1)), none, none, []⟩])
  .ret) .skip))
  (.seq (.reg [⟨(some 4), .mv (.v (.int .i64 0)), none, none, []⟩])
  .ret))))))))⟩
/-- math/bits.Len64 -/
def s54 : SFn :=
 ⟨25, [.tmp 2],
  (.seq (.reg [⟨(some 2), .mv (.v (.int .i64 0)), none, none, []⟩])
  (.seq (.seq (.reg [⟨(some 3), .mv (.t 0), none, none, []⟩, ⟨(some 4), .bin .geq (.t 3) (.v (.int .u64 4294967296)), none, none, []⟩])
  (.cond (.t 4) (.seq (.reg [⟨(some 5), .mv (.t 0), none, none, []⟩, ⟨(some 6), .bin .shr (.t 5) (.v (.int .u64 32)), none, none, []⟩, ⟨(some 0), .mv (.t 6), none, none, []⟩])
  (.reg [⟨(some 2), .mv (.v (.int .i64 32)), none, none, []⟩])) .skip))
  (.seq (.seq (.reg [⟨(some 7), .mv (.t 0), none, none, []⟩, ⟨(some 8), .bin .geq (.t 7) (.v (.int .u64 65536)), none, none, []⟩])
  (.cond (.t 8) (.seq (.reg [⟨(some 9), .mv (.t 0), none, none, []⟩, ⟨(some 10), .bin .shr (.t 9) (.v (.int .u64 16)), none, none, []⟩, ⟨(some 0), .mv (.t 10), none, none, []⟩])
  (.reg [⟨(some 11), .mv (.t 2), none, none, []⟩, ⟨(some 12), .bin .add (.t 11) (.v (.int .i64 16)), none, none, []⟩, ⟨(some 2), .mv (.t 12), none, none, []⟩])) .skip))
  (.seq (.seq (.reg [⟨(some 13), .mv (.t 0), none, none, []⟩, ⟨(some 14), .bin .geq (.t 13) (.v (.int .u64 256)), none, none, []⟩])
  (.cond (.t 14) (.seq (.reg [⟨(some 15), .mv (.t 0), none, none, []⟩, ⟨(some 16), .bin .shr (.t 15) (.v (.int .u64 8)), none, none, []⟩, ⟨(some 0), .mv (.t 16), none, none, []⟩])
  (.reg [⟨(some 17), .mv (.t 2), none, none, []⟩, ⟨(some 18), .bin .add (.t 17) (.v (.int .i64 8)), none, none, []⟩, ⟨(some 2), .mv (.t 18), none, none, []⟩])) .skip))
  (.seq (.reg [⟨(some 19), .mv (.t 2), none, none, []⟩, ⟨(some 20), .mv (.t 0), none, none, []⟩, ⟨(some 21), .conv .u8 (.t 20), none, none, []⟩, ⟨(some 22), .ixs (.v (.str ⟨#[0, 1, 2, 2, 3, 3, 3, 3, 4, 4, 4, 4, 4, 4, 4, 4, 5, 5, 5, 5, 5, 5, 5, 5, 5, 5, 5, 5, 5, 5, 5, 5, 6, 6, 6, 6, 6, 6, 6, 6, 6, 6, 6, 6, 6, 6, 6, 6, 6, 6, 6, 6, 6, 6, 6, 6, 6, 6, 6, 6, 6, 6, 6, 6, 7, 7, 7, 7, 7, 7, 7, 7, 7, 7, 7, 7, 7, 7, 7, 7, 7, 7, 7, 7, 7, 7, 7, 7, 7, 7, 7, 7, 7, 7, 7, 7, 7, 7, 7, 7, 7, 7, 7, 7, 7, 7, 7, 7, 7, 7, 7, 7, 7, 7, 7, 7, 7, 7, 7, 7, 7, 7, 7, 7, 7, 7, 7, 7, 8, 8, 8, 8, 8, 8, 8, 8, 8, 8, 8, 8, 8, 8, 8, 8, 8, 8, 8, 8, 8, 8, 8, 8, 8, 8, 8, 8, 8, 8, 8, 8, 8, 8, 8, 8, 8, 8, 8, 8, 8, 8, 8, 8, 8, 8, 8, 8, 8, 8, 8, 8, 8, 8, 8, 8, 8, 8, 8, 8, 8, 8, 8, 8, 8, 8, 8, 8, 8, 8, 8, 8, 8, 8, 8, 8, 8, 8, 8, 8, 8, 8, 8, 8, 8, 8, 8, 8, 8, 8, 8, 8, 8, 8, 8, 8, 8, 8, 8, 8, 8, 8, 8, 8, 8, 8, 8, 8, 8, 8, 8, 8, 8, 8, 8, 8, 8, 8, 8, 8, 8, 8, 8, 8, 8, 8, 8, 8]⟩)) (.t 21), none, none, []⟩, ⟨(some 23), .conv .i64 (.t 22), none, none, []⟩, ⟨(some 24), .bin .add (.t 19) (.t 23), none, none, []⟩, ⟨(some 2), .mv (.t 24), none, none, []⟩])
  .ret)))))⟩
/-- cmp.isNaN[uint64] -/
def s55 : SFn :=
 ⟨6, [.tmp 2],
  (.seq (.reg [⟨(some 2), .mv (.v (.bool false)), none, none, []⟩])
  (.seq (.reg [⟨(some 3), .mv (.t 0), none, none, []⟩, ⟨(some 4), .mv (.t 0), none, none, []⟩, ⟨(some 5), .bin .neq (.t 3) (.t 4), none, none, []⟩, ⟨(some 2), .mv (.t 5), none, none, []⟩])
  .ret))⟩
def E : Nat → Option SFn
  | 3 => some s3
  | 4 => some s4
  | 5 => some s5
  | 6 => some s6
  | 7 => some s7
  | 8 => some s8
  | 9 => some s9
  | 10 => some s10
  | 11 => some s11
  | 12 => some s12
  | 13 => some s13
  | 14 => some s14
  | 15 => some s15
  | 16 => some s16
  | 17 => some s17
  | 18 => some s18
  | 19 => some s19
  | 20 => some s20
  | 21 => some s21
  | 22 => some s22
  | 23 => some s23
  | 24 => some s24
  | 25 => some s25
  | 26 => some s26
  | 27 => some s27
  | 28 => some s28
  | 29 => some s29
  | 30 => some s30
  | 31 => some s31
  | 32 => some s32
  | 33 => some s33
  | 34 => some s34
  | 35 => some s35
  | 36 => some s36
  | 37 => some s37
  | 38 => some s38
  | 39 => some s39
  | 40 => some s40
  | 41 => some s41
  | 42 => some s42
  | 43 => some s43
  | 44 => some s44
  | 45 => some s45
  | 46 => some s46
  | 47 => some s47
  | 48 => some s48
  | 49 => some s49
  | 50 => some s50
  | 51 => some s51
  | 52 => some s52
  | 54 => some s54
  | 55 => some s55
  | _ => none
def env0 : Env := { E := E, I := fun _ _ _ => none, isI := fun _ => false }
end Go.Proofs.YtppkggodpihfiaaDoor
