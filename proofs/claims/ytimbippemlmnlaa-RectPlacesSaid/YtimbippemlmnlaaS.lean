/- The slim functions of this seat, and the table of them. -/
import Derived.Test.YtimbippemlmnlaaDen2
set_option linter.unusedVariables false
namespace Go.Proofs.Ytimbippemlmnlaa
open Go.Den
/-- pochoir/pochoirlaw27.FixMedians -/
def s3 : SFn :=
 ⟨48, [.tmp 6],
  (.seq (.reg [⟨(some 6), .mv (.v (.bool false)), none, none⟩])
  (.seq (.seq (.reg [⟨(some 8), .call 14 [], none, none⟩, ⟨(some 9), .un .not (.t 8), none, none⟩])
  (.cond (.t 9) (.seq (.reg [⟨(some 6), .mv (.v (.bool false)), none, none⟩])
  .ret) .skip))
  (.seq (.reg [⟨(some 10), .mv (.t 0), none, none⟩, ⟨(some 11), .mv (.t 1), none, none⟩, ⟨(some 12), .mv (.t 2), none, none⟩, ⟨(some 13), .call 15 [(.t 10), (.t 11), (.t 12)], none, none⟩, ⟨(some 7), .mv (.t 13), none, none⟩])
  (.seq (.reg [⟨(some 14), .mv (.t 7), none, none⟩, ⟨(some 15), .conv .i64 (.t 14), none, none⟩, ⟨(some 16), .mv (.t 0), none, none⟩, ⟨(some 17), .conv .i64 (.t 16), none, none⟩, ⟨(some 18), .mv (.t 1), none, none⟩, ⟨(some 19), .conv .i64 (.t 18), none, none⟩, ⟨(some 20), .mv (.t 2), none, none⟩, ⟨(some 21), .conv .i64 (.t 20), none, none⟩, ⟨(some 22), .call 16 [(.t 17), (.t 19), (.t 21)], none, none⟩, ⟨(some 23), .bin .eql (.t 15) (.t 22), none, none⟩, ⟨(some 24), .mv (.t 23), none, none⟩, ⟨(some 25), .mv (.t 7), (some (24, true)), none⟩, ⟨(some 26), .mv (.t 2), (some (24, true)), none⟩, ⟨(some 27), .mv (.t 0), (some (24, true)), none⟩, ⟨(some 28), .mv (.t 1), (some (24, true)), none⟩, ⟨(some 29), .call 15 [(.t 26), (.t 27), (.t 28)], (some (24, true)), none⟩, ⟨(some 30), .bin .eql (.t 25) (.t 29), (some (24, true)), none⟩, ⟨(some 31), .pick (.t 24) (.t 30) (.v (.bool false)), none, none⟩, ⟨(some 32), .mv (.t 31), none, none⟩, ⟨(some 33), .mv (.t 7), (some (32, true)), none⟩, ⟨(some 34), .mv (.t 1), (some (32, true)), none⟩, ⟨(some 35), .mv (.t 0), (some (32, true)), none⟩, ⟨(some 36), .mv (.t 2), (some (32, true)), none⟩, ⟨(some 37), .call 15 [(.t 34), (.t 35), (.t 36)], (some (32, true)), none⟩, ⟨(some 38), .bin .eql (.t 33) (.t 37), (some (32, true)), none⟩, ⟨(some 39), .pick (.t 32) (.t 38) (.v (.bool false)), none, none⟩, ⟨(some 40), .mv (.t 39), none, none⟩, ⟨(some 41), .mv (.t 0), (some (40, true)), none⟩, ⟨(some 42), .mv (.t 0), (some (40, true)), none⟩, ⟨(some 43), .mv (.t 2), (some (40, true)), none⟩, ⟨(some 44), .call 15 [(.t 41), (.t 42), (.t 43)], (some (40, true)), none⟩, ⟨(some 45), .mv (.t 0), (some (40, true)), none⟩, ⟨(some 46), .bin .eql (.t 44) (.t 45), (some (40, true)), none⟩, ⟨(some 47), .pick (.t 40) (.t 46) (.v (.bool false)), none, none⟩, ⟨(some 6), .mv (.t 47), none, none⟩])
  .ret))))⟩
/-- pochoir/pochoirlaw27.FixAll -/
def s4 : SFn :=
 ⟨88, [.tmp 4],
  (.seq (.reg [⟨(some 4), .mv (.v (.bool false)), none, none⟩])
  (.seq (.seq (.reg [⟨(some 13), .call 14 [], none, none⟩, ⟨(some 14), .un .not (.t 13), none, none⟩])
  (.cond (.t 14) (.seq (.reg [⟨(some 4), .mv (.v (.bool false)), none, none⟩])
  .ret) .skip))
  (.seq (.seq (.reg [⟨(some 15), .mv (.t 0), none, none⟩, ⟨(some 16), .len false (.t 15), none, none⟩, ⟨(some 17), .bin .gtr (.t 16) (.v (.int .i64 100)), none, none⟩])
  (.cond (.t 17) (.seq (.reg [⟨(some 4), .mv (.v (.bool true)), none, none⟩])
  .ret) .skip))
  (.seq (.reg [⟨(some 19), .mv (.t 0), none, none⟩, ⟨(some 20), .mv (.t 1), none, none⟩, ⟨(some 21), .call 17 [(.t 19), (.t 20)], none, none⟩, ⟨(some 18), .mv (.t 21), none, none⟩, ⟨(some 22), .extract (.t 18) 0, none, none⟩, ⟨(some 23), .extract (.t 18) 1, none, none⟩, ⟨(some 5), .mv (.t 22), none, none⟩, ⟨(some 6), .mv (.t 23), none, none⟩])
  (.seq (.reg [⟨(some 25), .mv (.t 0), none, none⟩, ⟨(some 26), .mv (.t 1), none, none⟩, ⟨(some 27), .call 18 [(.t 25), (.t 26)], none, none⟩, ⟨(some 24), .mv (.t 27), none, none⟩, ⟨(some 28), .extract (.t 24) 0, none, none⟩, ⟨(some 29), .extract (.t 24) 1, none, none⟩, ⟨(some 7), .mv (.t 28), none, none⟩, ⟨(some 8), .mv (.t 29), none, none⟩])
  (.seq (.reg [⟨(some 31), .mv (.t 5), none, none⟩, ⟨(some 32), .mv (.t 1), none, none⟩, ⟨(some 33), .call 17 [(.t 31), (.t 32)], none, none⟩, ⟨(some 30), .mv (.t 33), none, none⟩, ⟨(some 34), .extract (.t 30) 0, none, none⟩, ⟨(some 35), .extract (.t 30) 1, none, none⟩, ⟨(some 9), .mv (.t 34), none, none⟩, ⟨(some 10), .mv (.t 35), none, none⟩])
  (.seq (.seq (.reg [⟨(some 36), .mv (.t 5), none, none⟩, ⟨(some 37), .mv (.t 7), none, none⟩, ⟨(some 38), .call 19 [(.t 36), (.t 37)], none, none⟩, ⟨(some 39), .un .not (.t 38), none, none⟩, ⟨(some 40), .mv (.t 39), none, none⟩, ⟨(some 41), .mv (.t 6), (some (40, false)), none⟩, ⟨(some 42), .mv (.t 8), (some (40, false)), none⟩, ⟨(some 43), .bin .neq (.t 41) (.t 42), (some (40, false)), none⟩, ⟨(some 44), .pick (.t 40) (.v (.bool true)) (.t 43), none, none⟩, ⟨(some 45), .mv (.t 44), none, none⟩, ⟨(some 46), .mv (.t 10), (some (45, false)), none⟩, ⟨(some 47), .bin .neq (.t 46) (.v (.int .i64 0)), (some (45, false)), none⟩, ⟨(some 48), .pick (.t 45) (.v (.bool true)) (.t 47), none, none⟩, ⟨(some 49), .mv (.t 48), none, none⟩, ⟨(some 50), .mv (.t 9), (some (49, false)), none⟩, ⟨(some 51), .mv (.t 5), (some (49, false)), none⟩, ⟨(some 52), .call 19 [(.t 50), (.t 51)], (some (49, false)), none⟩, ⟨(some 53), .un .not (.t 52), (some (49, false)), none⟩, ⟨(some 54), .pick (.t 49) (.v (.bool true)) (.t 53), none, none⟩])
  (.cond (.t 54) (.seq (.reg [⟨(some 4), .mv (.v (.bool false)), none, none⟩])
  .ret) .skip))
  (.seq (.seq (.reg [⟨(some 55), .mv (.t 0), none, none⟩, ⟨(some 56), .len false (.t 55), none, none⟩, ⟨(some 57), .mv (.v (.int .i64 0)), none, none⟩])
  (.block 0 (.loop (.seq (.reg [⟨(some 58), .bin .lss (.t 57) (.t 56), none, none⟩])
  (.seq (.cond (.t 58) .skip (.exit 0))
  (.seq (.block 1 (.seq (.reg [⟨(some 59), .mv (.t 57), none, none⟩, ⟨(some 60), .iaddr 4 (.t 55) (.t 57), none, none⟩, ⟨(some 61), .load (some 4) (.t 60), none, none⟩, ⟨(some 12), .box 31 (.v (.agg [(.int .u8 0), (.int .u8 0), (.int .u8 0), (.int .u8 0)])), none, none⟩, ⟨(some 11), .mv (.t 59), none, none⟩, ⟨none, .store 4 (.t 12) (.t 61), none, none⟩])
  (.seq (.regd [⟨(some 62), .load (some 4) (.t 12), none, (some [])⟩, ⟨(some 63), .mv (.t 1), none, (some [])⟩, ⟨(some 64), .call 20 [(.t 62), (.t 63)], none, (some [])⟩, ⟨(some 65), .load (some 4) (.t 12), none, (some [2])⟩, ⟨(some 66), .mv (.t 1), none, (some [2])⟩, ⟨(some 67), .call 21 [(.t 65), (.t 66)], none, (some [])⟩, ⟨(some 68), .eqs 0 [] true (.t 64) (.t 67), none, (some [])⟩, ⟨(some 69), .mv (.t 68), none, (some [])⟩, ⟨(some 70), .load (some 4) (.t 12), (some (69, false)), (some [])⟩, ⟨(some 71), .mv (.t 1), (some (69, false)), (some [])⟩, ⟨(some 72), .call 22 [(.t 70), (.t 71)], (some (69, false)), (some [])⟩, ⟨(some 73), .mv (.t 5), (some (69, false)), (some [10])⟩, ⟨(some 74), .mv (.t 11), (some (69, false)), (some [10])⟩, ⟨(some 75), .iaddr 4 (.t 73) (.t 74), (some (69, false)), (some [10])⟩, ⟨(some 76), .load (some 4) (.t 75), (some (69, false)), (some [10])⟩, ⟨(some 77), .eqs 4 [1, 1, 1, 1] true (.t 72) (.t 76), (some (69, false)), (some [])⟩, ⟨(some 78), .pick (.t 69) (.v (.bool true)) (.t 77), none, (some [])⟩, ⟨(some 79), .mv (.t 78), none, (some [])⟩, ⟨(some 80), .mv (.t 5), (some (79, false)), (some [])⟩, ⟨(some 81), .mv (.t 11), (some (79, false)), (some [])⟩, ⟨(some 82), .iaddr 4 (.t 80) (.t 81), (some (79, false)), (some [])⟩, ⟨(some 83), .load (some 4) (.t 82), (some (79, false)), none⟩, ⟨(some 84), .mv (.t 1), (some (79, false)), (some [])⟩, ⟨(some 85), .call 20 [(.t 83), (.t 84)], (some (79, false)), none⟩, ⟨(some 86), .pick (.t 79) (.v (.bool true)) (.t 85), none, (some [])⟩])
  (.cond (.t 86) (.seq (.reg [⟨(some 4), .mv (.v (.bool false)), none, none⟩])
  .ret) .skip))))
  (.reg [⟨(some 87), .bin .add (.t 57) (.v (.int .i64 1)), none, none⟩, ⟨(some 57), .mv (.t 87), none, none⟩])))))))
  (.seq (.reg [⟨(some 4), .mv (.v (.bool true)), none, none⟩])
  .ret)))))))))⟩
/-- pochoir/pochoirlaw27.FixLimits -/
def s5 : SFn :=
 ⟨78, [.tmp 6],
  (.seq (.reg [⟨(some 6), .mv (.v (.bool false)), none, none⟩])
  (.seq (.seq (.reg [⟨(some 14), .call 14 [], none, none⟩, ⟨(some 15), .un .not (.t 14), none, none⟩])
  (.cond (.t 15) (.seq (.reg [⟨(some 6), .mv (.v (.bool false)), none, none⟩])
  .ret) .skip))
  (.seq (.seq (.reg [⟨(some 16), .mv (.t 0), none, none⟩, ⟨(some 17), .len false (.t 16), none, none⟩, ⟨(some 18), .bin .gtr (.t 17) (.v (.int .i64 100)), none, none⟩, ⟨(some 19), .mv (.t 18), none, none⟩, ⟨(some 20), .mv (.t 1), (some (19, false)), none⟩, ⟨(some 21), .mv (.t 2), (some (19, false)), none⟩, ⟨(some 22), .bin .gtr (.t 20) (.t 21), (some (19, false)), none⟩, ⟨(some 23), .pick (.t 19) (.v (.bool true)) (.t 22), none, none⟩])
  (.cond (.t 23) (.seq (.reg [⟨(some 6), .mv (.v (.bool true)), none, none⟩])
  .ret) .skip))
  (.seq (.reg [⟨(some 25), .mv (.t 0), none, none⟩, ⟨(some 26), .mv (.t 1), none, none⟩, ⟨(some 27), .call 17 [(.t 25), (.t 26)], none, none⟩, ⟨(some 24), .mv (.t 27), none, none⟩, ⟨(some 28), .extract (.t 24) 0, none, none⟩, ⟨(some 29), .extract (.t 24) 1, none, none⟩, ⟨(some 7), .mv (.t 28), none, none⟩, ⟨(some 8), .mv (.t 29), none, none⟩])
  (.seq (.reg [⟨(some 31), .mv (.t 0), none, none⟩, ⟨(some 32), .mv (.t 2), none, none⟩, ⟨(some 33), .call 17 [(.t 31), (.t 32)], none, none⟩, ⟨(some 30), .mv (.t 33), none, none⟩, ⟨(some 34), .extract (.t 30) 0, none, none⟩, ⟨(some 35), .extract (.t 30) 1, none, none⟩, ⟨(some 9), .mv (.t 34), none, none⟩, ⟨(some 10), .mv (.t 35), none, none⟩])
  (.seq (.reg [⟨(some 37), .mv (.t 0), none, none⟩, ⟨(some 38), .call 17 [(.t 37), (.v (.int .i64 255))], none, none⟩, ⟨(some 36), .mv (.t 38), none, none⟩, ⟨(some 39), .extract (.t 36) 0, none, none⟩, ⟨(some 40), .extract (.t 36) 1, none, none⟩, ⟨(some 11), .mv (.t 39), none, none⟩, ⟨(some 12), .mv (.t 40), none, none⟩])
  (.seq (.seq (.reg [⟨(some 41), .mv (.t 7), none, none⟩, ⟨(some 42), .len false (.t 41), none, none⟩, ⟨(some 43), .mv (.v (.int .i64 0)), none, none⟩])
  (.block 0 (.loop (.seq (.reg [⟨(some 44), .bin .lss (.t 43) (.t 42), none, none⟩])
  (.seq (.cond (.t 44) .skip (.exit 0))
  (.seq (.block 1 (.seq (.reg [⟨(some 45), .mv (.t 43), none, none⟩, ⟨(some 13), .mv (.t 45), none, none⟩])
  (.seq (.regd [⟨(some 46), .mv (.t 13), none, (some [])⟩, ⟨(some 47), .mv (.t 0), none, (some [])⟩, ⟨(some 48), .len false (.t 47), none, (some [])⟩, ⟨(some 49), .bin .geq (.t 46) (.t 48), none, (some [])⟩, ⟨(some 50), .mv (.t 49), none, (some [])⟩, ⟨(some 51), .mv (.t 7), (some (50, false)), (some [])⟩, ⟨(some 52), .mv (.t 13), (some (50, false)), (some [])⟩, ⟨(some 53), .iaddr 4 (.t 51) (.t 52), (some (50, false)), (some [])⟩, ⟨(some 54), .faddr 0 (.t 53), (some (50, false)), (some [])⟩, ⟨(some 55), .load none (.t 54), (some (50, false)), (some [])⟩, ⟨(some 56), .mv (.t 0), (some (50, false)), (some [])⟩, ⟨(some 57), .mv (.t 13), (some (50, false)), (some [])⟩, ⟨(some 58), .iaddr 4 (.t 56) (.t 57), (some (50, false)), (some [])⟩, ⟨(some 59), .faddr 0 (.t 58), (some (50, false)), (some [])⟩, ⟨(some 60), .load none (.t 59), (some (50, false)), (some [])⟩, ⟨(some 61), .bin .neq (.t 55) (.t 60), (some (50, false)), (some [])⟩, ⟨(some 62), .pick (.t 50) (.v (.bool true)) (.t 61), none, (some [])⟩])
  (.cond (.t 62) (.seq (.reg [⟨(some 6), .mv (.v (.bool false)), none, none⟩])
  .ret) .skip))))
  (.reg [⟨(some 63), .bin .add (.t 43) (.v (.int .i64 1)), none, none⟩, ⟨(some 43), .mv (.t 63), none, none⟩])))))))
  (.seq (.reg [⟨(some 64), .mv (.t 8), none, none⟩, ⟨(some 65), .mv (.t 10), none, none⟩, ⟨(some 66), .bin .geq (.t 64) (.t 65), none, none⟩, ⟨(some 67), .mv (.t 66), none, none⟩, ⟨(some 68), .mv (.t 12), (some (67, true)), none⟩, ⟨(some 69), .bin .eql (.t 68) (.v (.int .i64 0)), (some (67, true)), none⟩, ⟨(some 70), .pick (.t 67) (.t 69) (.v (.bool false)), none, none⟩, ⟨(some 71), .mv (.t 70), none, none⟩, ⟨(some 72), .mv (.t 7), (some (71, true)), none⟩, ⟨(some 73), .len false (.t 72), (some (71, true)), none⟩, ⟨(some 74), .mv (.t 0), (some (71, true)), none⟩, ⟨(some 75), .len false (.t 74), (some (71, true)), none⟩, ⟨(some 76), .bin .eql (.t 73) (.t 75), (some (71, true)), none⟩, ⟨(some 77), .pick (.t 71) (.t 76) (.v (.bool false)), none, none⟩, ⟨(some 6), .mv (.t 77), none, none⟩])
  .ret))))))))⟩
/-- pochoir/pochoirlaw08.SumCrcs -/
def s6 : SFn :=
 ⟨20, [.tmp 2],
  (.seq (.reg [⟨(some 2), .mv (.v (.bool false)), none, none⟩])
  (.seq (.seq (.reg [⟨(some 3), .call 23 [], none, none⟩, ⟨(some 4), .un .not (.t 3), none, none⟩])
  (.cond (.t 4) (.seq (.reg [⟨(some 2), .mv (.v (.bool false)), none, none⟩])
  .ret) .skip))
  (.seq (.seq (.reg [⟨(some 5), .mv (.t 0), none, none⟩, ⟨(some 6), .len true (.t 5), none, none⟩, ⟨(some 7), .bin .gtr (.t 6) (.v (.int .i64 300)), none, none⟩])
  (.cond (.t 7) (.seq (.reg [⟨(some 2), .mv (.v (.bool true)), none, none⟩])
  .ret) .skip))
  (.seq (.reg [⟨(some 8), .mv (.t 0), none, none⟩, ⟨(some 9), .call 24 [(.t 8)], none, none⟩, ⟨(some 10), .mv (.t 0), none, none⟩, ⟨(some 11), .call 25 [(.t 10)], none, none⟩, ⟨(some 12), .bin .eql (.t 9) (.t 11), none, none⟩, ⟨(some 13), .mv (.t 12), none, none⟩, ⟨(some 14), .mv (.t 0), (some (13, true)), none⟩, ⟨(some 15), .call 26 [(.t 14)], (some (13, true)), none⟩, ⟨(some 16), .mv (.t 0), (some (13, true)), none⟩, ⟨(some 17), .call 27 [(.t 16)], (some (13, true)), none⟩, ⟨(some 18), .bin .eql (.t 15) (.t 17), (some (13, true)), none⟩, ⟨(some 19), .pick (.t 13) (.t 18) (.v (.bool false)), none, none⟩, ⟨(some 2), .mv (.t 19), none, none⟩])
  .ret))))⟩
/-- pochoir/pochoirlaw08.SumTurned -/
def s7 : SFn :=
 ⟨53, [.tmp 6],
  (.seq (.reg [⟨(some 6), .mv (.v (.bool false)), none, none⟩])
  (.seq (.seq (.reg [⟨(some 9), .call 23 [], none, none⟩, ⟨(some 10), .un .not (.t 9), none, none⟩])
  (.cond (.t 10) (.seq (.reg [⟨(some 6), .mv (.v (.bool false)), none, none⟩])
  .ret) .skip))
  (.seq (.seq (.reg [⟨(some 11), .mv (.t 0), none, none⟩, ⟨(some 12), .len true (.t 11), none, none⟩, ⟨(some 13), .bin .gtr (.t 12) (.v (.int .i64 300)), none, none⟩, ⟨(some 14), .mv (.t 13), none, none⟩, ⟨(some 15), .mv (.t 1), (some (14, false)), none⟩, ⟨(some 16), .bin .lss (.t 15) (.v (.int .i64 0)), (some (14, false)), none⟩, ⟨(some 17), .pick (.t 14) (.v (.bool true)) (.t 16), none, none⟩, ⟨(some 18), .mv (.t 17), none, none⟩, ⟨(some 19), .mv (.t 1), (some (18, false)), none⟩, ⟨(some 20), .mv (.t 0), (some (18, false)), none⟩, ⟨(some 21), .len true (.t 20), (some (18, false)), none⟩, ⟨(some 22), .bin .geq (.t 19) (.t 21), (some (18, false)), none⟩, ⟨(some 23), .pick (.t 18) (.v (.bool true)) (.t 22), none, none⟩])
  (.cond (.t 23) (.seq (.reg [⟨(some 6), .mv (.v (.bool true)), none, none⟩])
  .ret) .skip))
  (.seq (.reg [⟨(some 24), .mv (.t 0), none, none⟩, ⟨(some 25), .s2b 5 (.t 24), none, none⟩, ⟨(some 7), .mv (.t 25), none, none⟩])
  (.seq (.reg [⟨(some 26), .mv (.t 7), none, none⟩, ⟨(some 27), .mv (.t 1), none, none⟩, ⟨(some 28), .mv (.t 2), none, none⟩, ⟨(some 29), .iaddr 1 (.t 26) (.t 27), none, none⟩, ⟨none, .store 1 (.t 29) (.t 28), none, none⟩])
  (.seq (.reg [⟨(some 30), .mv (.t 0), none, none⟩, ⟨(some 31), .mv (.t 1), none, none⟩, ⟨(some 32), .ixs (.t 30) (.t 31), none, none⟩, ⟨(some 33), .mv (.t 2), none, none⟩, ⟨(some 34), .bin .eql (.t 32) (.t 33), none, none⟩, ⟨(some 8), .mv (.t 34), none, none⟩])
  (.seq (.reg [⟨(some 35), .mv (.t 7), none, none⟩, ⟨(some 36), .b2s (.t 35), none, none⟩, ⟨(some 37), .call 24 [(.t 36)], none, none⟩, ⟨(some 38), .mv (.t 0), none, none⟩, ⟨(some 39), .call 24 [(.t 38)], none, none⟩, ⟨(some 40), .bin .eql (.t 37) (.t 39), none, none⟩, ⟨(some 41), .mv (.t 8), none, none⟩, ⟨(some 42), .eqs 0 [] false (.t 40) (.t 41), none, none⟩, ⟨(some 43), .mv (.t 42), none, none⟩, ⟨(some 44), .mv (.t 7), (some (43, true)), none⟩, ⟨(some 45), .b2s (.t 44), (some (43, true)), none⟩, ⟨(some 46), .call 26 [(.t 45)], (some (43, true)), none⟩, ⟨(some 47), .mv (.t 0), (some (43, true)), none⟩, ⟨(some 48), .call 26 [(.t 47)], (some (43, true)), none⟩, ⟨(some 49), .bin .eql (.t 46) (.t 48), (some (43, true)), none⟩, ⟨(some 50), .mv (.t 8), (some (43, true)), none⟩, ⟨(some 51), .eqs 0 [] false (.t 49) (.t 50), (some (43, true)), none⟩, ⟨(some 52), .pick (.t 43) (.t 51) (.v (.bool false)), none, none⟩, ⟨(some 6), .mv (.t 52), none, none⟩])
  .ret)))))))⟩
/-- pochoir/pochoirlaw07.OctetNumbers -/
def s8 : SFn :=
 ⟨141, [.tmp 6],
  (.seq (.reg [⟨(some 6), .mv (.v (.bool false)), none, none⟩])
  (.seq (.seq (.reg [⟨(some 23), .call 28 [], none, none⟩, ⟨(some 24), .un .not (.t 23), none, none⟩])
  (.cond (.t 24) (.seq (.reg [⟨(some 6), .mv (.v (.bool false)), none, none⟩])
  .ret) .skip))
  (.seq (.seq (.reg [⟨(some 25), .mv (.t 0), none, none⟩, ⟨(some 26), .len true (.t 25), none, none⟩, ⟨(some 27), .bin .gtr (.t 26) (.v (.int .i64 100)), none, none⟩])
  (.cond (.t 27) (.seq (.reg [⟨(some 6), .mv (.v (.bool true)), none, none⟩])
  .ret) .skip))
  (.seq (.reg [⟨(some 29), .mv (.t 0), none, none⟩, ⟨(some 30), .mv (.t 1), none, none⟩, ⟨(some 31), .call 29 [(.t 29), (.t 30)], none, none⟩, ⟨(some 28), .mv (.t 31), none, none⟩, ⟨(some 32), .extract (.t 28) 0, none, none⟩, ⟨(some 33), .extract (.t 28) 1, none, none⟩, ⟨(some 7), .mv (.t 32), none, none⟩, ⟨(some 8), .mv (.t 33), none, none⟩])
  (.seq (.reg [⟨(some 35), .mv (.t 0), none, none⟩, ⟨(some 36), .mv (.t 1), none, none⟩, ⟨(some 37), .call 30 [(.t 35), (.t 36)], none, none⟩, ⟨(some 34), .mv (.t 37), none, none⟩, ⟨(some 38), .extract (.t 34) 0, none, none⟩, ⟨(some 39), .extract (.t 34) 1, none, none⟩, ⟨(some 9), .mv (.t 38), none, none⟩, ⟨(some 10), .mv (.t 39), none, none⟩])
  (.seq (.reg [⟨(some 41), .mv (.t 0), none, none⟩, ⟨(some 42), .mv (.t 1), none, none⟩, ⟨(some 43), .call 31 [(.t 41), (.t 42)], none, none⟩, ⟨(some 40), .mv (.t 43), none, none⟩, ⟨(some 44), .extract (.t 40) 0, none, none⟩, ⟨(some 45), .extract (.t 40) 1, none, none⟩, ⟨(some 11), .mv (.t 44), none, none⟩, ⟨(some 12), .mv (.t 45), none, none⟩])
  (.seq (.reg [⟨(some 47), .mv (.t 0), none, none⟩, ⟨(some 48), .mv (.t 1), none, none⟩, ⟨(some 49), .call 32 [(.t 47), (.t 48)], none, none⟩, ⟨(some 46), .mv (.t 49), none, none⟩, ⟨(some 50), .extract (.t 46) 0, none, none⟩, ⟨(some 51), .extract (.t 46) 1, none, none⟩, ⟨(some 13), .mv (.t 50), none, none⟩, ⟨(some 14), .mv (.t 51), none, none⟩])
  (.seq (.reg [⟨(some 53), .mv (.t 0), none, none⟩, ⟨(some 54), .mv (.t 1), none, none⟩, ⟨(some 55), .mv (.t 2), none, none⟩, ⟨(some 56), .call 33 [(.t 53), (.t 54), (.t 55)], none, none⟩, ⟨(some 52), .mv (.t 56), none, none⟩, ⟨(some 57), .extract (.t 52) 0, none, none⟩, ⟨(some 58), .extract (.t 52) 1, none, none⟩, ⟨(some 15), .mv (.t 57), none, none⟩, ⟨(some 16), .mv (.t 58), none, none⟩])
  (.seq (.reg [⟨(some 60), .mv (.t 0), none, none⟩, ⟨(some 61), .mv (.t 1), none, none⟩, ⟨(some 62), .mv (.t 2), none, none⟩, ⟨(some 63), .call 34 [(.t 60), (.t 61), (.t 62)], none, none⟩, ⟨(some 59), .mv (.t 63), none, none⟩, ⟨(some 64), .extract (.t 59) 0, none, none⟩, ⟨(some 65), .extract (.t 59) 1, none, none⟩, ⟨(some 17), .mv (.t 64), none, none⟩, ⟨(some 18), .mv (.t 65), none, none⟩])
  (.seq (.seq (.reg [⟨(some 66), .mv (.t 7), none, none⟩, ⟨(some 67), .mv (.t 9), none, none⟩, ⟨(some 68), .bin .neq (.t 66) (.t 67), none, none⟩, ⟨(some 69), .mv (.t 68), none, none⟩, ⟨(some 70), .mv (.t 8), (some (69, false)), none⟩, ⟨(some 71), .mv (.t 10), (some (69, false)), none⟩, ⟨(some 72), .bin .neq (.t 70) (.t 71), (some (69, false)), none⟩, ⟨(some 73), .pick (.t 69) (.v (.bool true)) (.t 72), none, none⟩, ⟨(some 74), .mv (.t 73), none, none⟩, ⟨(some 75), .mv (.t 11), (some (74, false)), none⟩, ⟨(some 76), .mv (.t 13), (some (74, false)), none⟩, ⟨(some 77), .bin .neq (.t 75) (.t 76), (some (74, false)), none⟩, ⟨(some 78), .pick (.t 74) (.v (.bool true)) (.t 77), none, none⟩, ⟨(some 79), .mv (.t 78), none, none⟩, ⟨(some 80), .mv (.t 12), (some (79, false)), none⟩, ⟨(some 81), .mv (.t 14), (some (79, false)), none⟩, ⟨(some 82), .bin .neq (.t 80) (.t 81), (some (79, false)), none⟩, ⟨(some 83), .pick (.t 79) (.v (.bool true)) (.t 82), none, none⟩, ⟨(some 84), .mv (.t 83), none, none⟩, ⟨(some 85), .mv (.t 15), (some (84, false)), none⟩, ⟨(some 86), .mv (.t 17), (some (84, false)), none⟩, ⟨(some 87), .bin .neq (.t 85) (.t 86), (some (84, false)), none⟩, ⟨(some 88), .pick (.t 84) (.v (.bool true)) (.t 87), none, none⟩, ⟨(some 89), .mv (.t 88), none, none⟩, ⟨(some 90), .mv (.t 16), (some (89, false)), none⟩, ⟨(some 91), .mv (.t 18), (some (89, false)), none⟩, ⟨(some 92), .bin .neq (.t 90) (.t 91), (some (89, false)), none⟩, ⟨(some 93), .pick (.t 89) (.v (.bool true)) (.t 92), none, none⟩])
  (.cond (.t 93) (.seq (.reg [⟨(some 6), .mv (.v (.bool false)), none, none⟩])
  .ret) .skip))
  (.seq (.reg [⟨(some 95), .mv (.t 11), none, none⟩, ⟨(some 96), .call 35 [(.t 95)], none, none⟩, ⟨(some 97), .call 31 [(.t 96), (.v (.int .i64 0))], none, none⟩, ⟨(some 94), .mv (.t 97), none, none⟩, ⟨(some 98), .extract (.t 94) 0, none, none⟩, ⟨(some 99), .extract (.t 94) 1, none, none⟩, ⟨(some 19), .mv (.t 98), none, none⟩, ⟨(some 20), .mv (.t 99), none, none⟩])
  (.seq (.reg [⟨(some 101), .mv (.t 7), none, none⟩, ⟨(some 102), .call 36 [(.t 101)], none, none⟩, ⟨(some 103), .call 29 [(.t 102), (.v (.int .i64 0))], none, none⟩, ⟨(some 100), .mv (.t 103), none, none⟩, ⟨(some 104), .extract (.t 100) 0, none, none⟩, ⟨(some 105), .extract (.t 100) 1, none, none⟩, ⟨(some 21), .mv (.t 104), none, none⟩, ⟨(some 22), .mv (.t 105), none, none⟩])
  (.seq (.reg [⟨(some 106), .mv (.t 19), none, none⟩, ⟨(some 107), .mv (.t 11), none, none⟩, ⟨(some 108), .bin .eql (.t 106) (.t 107), none, none⟩, ⟨(some 109), .mv (.t 108), none, none⟩, ⟨(some 110), .mv (.t 20), (some (109, true)), none⟩, ⟨(some 111), .bin .eql (.t 110) (.v (.int .i64 0)), (some (109, true)), none⟩, ⟨(some 112), .pick (.t 109) (.t 111) (.v (.bool false)), none, none⟩, ⟨(some 113), .mv (.t 112), none, none⟩, ⟨(some 114), .mv (.t 21), (some (113, true)), none⟩, ⟨(some 115), .mv (.t 7), (some (113, true)), none⟩, ⟨(some 116), .bin .eql (.t 114) (.t 115), (some (113, true)), none⟩, ⟨(some 117), .pick (.t 113) (.t 116) (.v (.bool false)), none, none⟩, ⟨(some 118), .mv (.t 117), none, none⟩, ⟨(some 119), .mv (.t 22), (some (118, true)), none⟩, ⟨(some 120), .bin .eql (.t 119) (.v (.int .i64 0)), (some (118, true)), none⟩, ⟨(some 121), .pick (.t 118) (.t 120) (.v (.bool false)), none, none⟩, ⟨(some 122), .mv (.t 121), none, none⟩, ⟨(some 123), .mv (.t 2), (some (122, true)), none⟩, ⟨(some 124), .conv .u32 (.t 123), (some (122, true)), none⟩, ⟨(some 125), .call 35 [(.t 124)], (some (122, true)), none⟩, ⟨(some 126), .mv (.t 2), (some (122, true)), none⟩, ⟨(some 127), .conv .u32 (.t 126), (some (122, true)), none⟩, ⟨(some 128), .call 37 [(.t 127), (.v (.int .i64 4))], (some (122, true)), none⟩, ⟨(some 129), .bin .eql (.t 125) (.t 128), (some (122, true)), none⟩, ⟨(some 130), .pick (.t 122) (.t 129) (.v (.bool false)), none, none⟩, ⟨(some 131), .mv (.t 130), none, none⟩, ⟨(some 132), .mv (.t 2), (some (131, true)), none⟩, ⟨(some 133), .conv .u16 (.t 132), (some (131, true)), none⟩, ⟨(some 134), .call 36 [(.t 133)], (some (131, true)), none⟩, ⟨(some 135), .mv (.t 2), (some (131, true)), none⟩, ⟨(some 136), .conv .u16 (.t 135), (some (131, true)), none⟩, ⟨(some 137), .conv .u32 (.t 136), (some (131, true)), none⟩, ⟨(some 138), .call 37 [(.t 137), (.v (.int .i64 2))], (some (131, true)), none⟩, ⟨(some 139), .bin .eql (.t 134) (.t 138), (some (131, true)), none⟩, ⟨(some 140), .pick (.t 131) (.t 139) (.v (.bool false)), none, none⟩, ⟨(some 6), .mv (.t 140), none, none⟩])
  .ret)))))))))))))⟩
/-- pochoir/pochoirlaw07.OctetReads -/
def s9 : SFn :=
 ⟨155, [.tmp 4],
  (.seq (.reg [⟨(some 4), .mv (.v (.bool false)), none, none⟩])
  (.seq (.seq (.reg [⟨(some 11), .call 28 [], none, none⟩, ⟨(some 12), .un .not (.t 11), none, none⟩])
  (.cond (.t 12) (.seq (.reg [⟨(some 4), .mv (.v (.bool false)), none, none⟩])
  .ret) .skip))
  (.seq (.seq (.reg [⟨(some 13), .mv (.t 0), none, none⟩, ⟨(some 14), .len true (.t 13), none, none⟩, ⟨(some 15), .bin .gtr (.t 14) (.v (.int .i64 100)), none, none⟩, ⟨(some 16), .mv (.t 15), none, none⟩, ⟨(some 17), .mv (.t 1), (some (16, false)), none⟩, ⟨(some 18), .len false (.t 17), (some (16, false)), none⟩, ⟨(some 19), .bin .gtr (.t 18) (.v (.int .i64 40)), (some (16, false)), none⟩, ⟨(some 20), .pick (.t 16) (.v (.bool true)) (.t 19), none, none⟩])
  (.cond (.t 20) (.seq (.reg [⟨(some 4), .mv (.v (.bool true)), none, none⟩])
  .ret) .skip))
  (.seq (.reg [⟨(some 21), .mv (.t 0), none, none⟩, ⟨(some 22), .call 38 [(.t 21)], none, none⟩, ⟨(some 23), .mv (.t 0), none, none⟩, ⟨(some 24), .build [(.str ⟨#[]⟩), (.int .i64 0), (.bool false)] [(0, 1, (.t 23))], none, none⟩, ⟨(some 25), .box 64 (.t 24), none, none⟩, ⟨(some 5), .mv (.t 22), none, none⟩, ⟨(some 6), .mv (.t 25), none, none⟩])
  (.seq (.seq (.reg [⟨(some 26), .mv (.t 1), none, none⟩, ⟨(some 27), .len false (.t 26), none, none⟩, ⟨(some 28), .mv (.v (.int .i64 0)), none, none⟩])
  (.block 0 (.loop (.seq (.reg [⟨(some 29), .bin .lss (.t 28) (.t 27), none, none⟩])
  (.seq (.cond (.t 29) .skip (.exit 0))
  (.seq (.block 1 (.seq (.reg [⟨(some 30), .iaddr 2 (.t 26) (.t 28), none, none⟩, ⟨(some 31), .load (some 2) (.t 30), none, none⟩, ⟨(some 8), .box 66 (.v (.agg [(.int .u8 0), (.int .i64 0)])), none, none⟩, ⟨none, .store 2 (.t 8) (.t 31), none, none⟩])
  (.seq (.reg [⟨(some 9), .mv (.v (.bool true)), none, none⟩])
  (.seq (.seq (.reg [⟨(some 32), .faddr 0 (.t 8), none, none⟩, ⟨(some 33), .load none (.t 32), none, none⟩, ⟨(some 34), .bin .rem (.t 33) (.v (.int .u8 5)), none, none⟩])
  (.block 2 (.seq (.reg [⟨(some 36), .bin .eql (.t 34) (.v (.int .u8 0)), none, none⟩, ⟨(some 35), .mv (.t 36), none, none⟩])
  (.cond (.t 35) (.reg [⟨(some 37), .mv (.t 5), none, none⟩, ⟨(some 38), .call 39 [(.t 37)], none, none⟩, ⟨(some 39), .conv .u32 (.t 38), none, none⟩, ⟨(some 40), .mv (.t 6), none, none⟩, ⟨(some 41), .call 40 [(.t 40), (.v (.int .i64 1))], none, none⟩, ⟨(some 42), .bin .eql (.t 39) (.t 41), none, none⟩, ⟨(some 9), .mv (.t 42), none, none⟩]) (.seq (.reg [⟨(some 44), .bin .eql (.t 34) (.v (.int .u8 1)), none, none⟩, ⟨(some 43), .mv (.t 44), none, none⟩])
  (.cond (.t 43) (.reg [⟨(some 45), .mv (.t 5), none, none⟩, ⟨(some 46), .call 41 [(.t 45)], none, none⟩, ⟨(some 47), .conv .u32 (.t 46), none, none⟩, ⟨(some 48), .mv (.t 6), none, none⟩, ⟨(some 49), .call 40 [(.t 48), (.v (.int .i64 2))], none, none⟩, ⟨(some 50), .bin .eql (.t 47) (.t 49), none, none⟩, ⟨(some 9), .mv (.t 50), none, none⟩]) (.seq (.reg [⟨(some 52), .bin .eql (.t 34) (.v (.int .u8 2)), none, none⟩, ⟨(some 51), .mv (.t 52), none, none⟩])
  (.cond (.t 51) (.reg [⟨(some 53), .mv (.t 5), none, none⟩, ⟨(some 54), .call 42 [(.t 53)], none, none⟩, ⟨(some 55), .conv .i64 (.t 54), none, none⟩, ⟨(some 56), .mv (.t 6), none, none⟩, ⟨(some 57), .call 43 [(.t 56)], none, none⟩, ⟨(some 58), .bin .eql (.t 55) (.t 57), none, none⟩, ⟨(some 9), .mv (.t 58), none, none⟩]) (.seq (.reg [⟨(some 60), .bin .eql (.t 34) (.v (.int .u8 3)), none, none⟩, ⟨(some 59), .mv (.t 60), none, none⟩])
  (.cond (.t 59) (.reg [⟨(some 61), .mv (.t 5), none, none⟩, ⟨(some 62), .call 44 [(.t 61)], none, none⟩, ⟨(some 63), .mv (.t 6), none, none⟩, ⟨(some 64), .call 40 [(.t 63), (.v (.int .i64 4))], none, none⟩, ⟨(some 65), .bin .eql (.t 62) (.t 64), none, none⟩, ⟨(some 9), .mv (.t 65), none, none⟩]) (.seq (.reg [⟨(some 67), .bin .eql (.t 34) (.v (.int .u8 4)), none, none⟩, ⟨(some 66), .mv (.t 67), none, none⟩])
  (.cond (.t 66) (.seq (.reg [⟨(some 68), .mv (.t 5), none, none⟩, ⟨(some 69), .faddr 1 (.t 8), none, none⟩, ⟨(some 70), .load none (.t 69), none, none⟩, ⟨(some 71), .call 45 [(.t 68), (.t 70)], none, none⟩])
  (.reg [⟨(some 72), .mv (.t 6), none, none⟩, ⟨(some 73), .faddr 1 (.t 8), none, none⟩, ⟨(some 74), .load none (.t 73), none, none⟩, ⟨(some 75), .call 46 [(.t 72), (.t 74)], none, none⟩])) .skip))))))))))))
  (.seq (.regd [⟨(some 76), .mv (.t 9), none, (some [])⟩, ⟨(some 77), .un .not (.t 76), none, (some [])⟩, ⟨(some 78), .mv (.t 77), none, (some [])⟩, ⟨(some 79), .mv (.t 5), (some (78, false)), (some [])⟩, ⟨(some 80), .call 47 [(.t 79)], (some (78, false)), (some [])⟩, ⟨(some 81), .mv (.t 6), (some (78, false)), (some [4])⟩, ⟨(some 82), .nilck (.t 81), (some (78, false)), (some [4])⟩, ⟨(some 83), .faddr 1 (.t 82), (some (78, false)), (some [4])⟩, ⟨(some 84), .load none (.t 83), (some (78, false)), (some [4])⟩, ⟨(some 85), .bin .neq (.t 80) (.t 84), (some (78, false)), (some [])⟩, ⟨(some 86), .pick (.t 78) (.v (.bool true)) (.t 85), none, (some [])⟩, ⟨(some 87), .mv (.t 86), none, (some [])⟩, ⟨(some 88), .mv (.t 5), (some (87, false)), (some [])⟩, ⟨(some 89), .call 48 [(.t 88)], (some (87, false)), (some [])⟩, ⟨(some 90), .mv (.t 0), (some (87, false)), (some [13])⟩, ⟨(some 91), .len true (.t 90), (some (87, false)), (some [13])⟩, ⟨(some 92), .mv (.t 6), (some (87, false)), (some [13])⟩, ⟨(some 93), .nilck (.t 92), (some (87, false)), (some [13])⟩, ⟨(some 94), .faddr 1 (.t 93), (some (87, false)), (some [13])⟩, ⟨(some 95), .load none (.t 94), (some (87, false)), (some [13])⟩, ⟨(some 96), .bin .sub (.t 91) (.t 95), (some (87, false)), (some [13])⟩, ⟨(some 97), .bin .neq (.t 89) (.t 96), (some (87, false)), (some [])⟩, ⟨(some 98), .pick (.t 87) (.v (.bool true)) (.t 97), none, (some [])⟩, ⟨(some 99), .mv (.t 98), none, (some [])⟩, ⟨(some 100), .mv (.t 5), (some (99, false)), (some [])⟩, ⟨(some 101), .call 49 [(.t 100)], (some (99, false)), (some [])⟩, ⟨(some 102), .bin .eql (.t 101) (.v (.int .i64 3)), (some (99, false)), (some [])⟩, ⟨(some 103), .mv (.t 6), (some (99, false)), (some [25])⟩, ⟨(some 104), .nilck (.t 103), (some (99, false)), (some [25])⟩, ⟨(some 105), .faddr 2 (.t 104), (some (99, false)), (some [25])⟩, ⟨(some 106), .load none (.t 105), (some (99, false)), (some [25])⟩, ⟨(some 107), .eqs 0 [] true (.t 102) (.t 106), (some (99, false)), (some [])⟩, ⟨(some 108), .pick (.t 99) (.v (.bool true)) (.t 107), none, (some [])⟩, ⟨(some 109), .mv (.t 108), none, (some [])⟩, ⟨(some 110), .mv (.t 5), (some (109, false)), (some [])⟩, ⟨(some 111), .call 49 [(.t 110)], (some (109, false)), (some [])⟩, ⟨(some 112), .bin .eql (.t 111) (.v (.int .i64 0)), (some (109, false)), (some [])⟩, ⟨(some 113), .mv (.t 6), (some (109, false)), (some [35])⟩, ⟨(some 114), .nilck (.t 113), (some (109, false)), (some [35])⟩, ⟨(some 115), .faddr 2 (.t 114), (some (109, false)), (some [35])⟩, ⟨(some 116), .load none (.t 115), (some (109, false)), (some [35])⟩, ⟨(some 117), .eqs 0 [] false (.t 112) (.t 116), (some (109, false)), (some [])⟩, ⟨(some 118), .pick (.t 109) (.v (.bool true)) (.t 117), none, (some [])⟩])
  (.cond (.t 118) (.seq (.reg [⟨(some 4), .mv (.v (.bool false)), none, none⟩])
  .ret) .skip))))))
  (.reg [⟨(some 119), .bin .add (.t 28) (.v (.int .i64 1)), none, none⟩, ⟨(some 28), .mv (.t 119), none, none⟩])))))))
  (.seq (.reg [⟨(some 10), .mv (.v .nilp), none, none⟩])
  (.seq (.reg [⟨(some 120), .mv (.t 10), none, none⟩, ⟨(some 121), .call 45 [(.t 120), (.v (.int .i64 1))], none, none⟩])
  (.seq (.reg [⟨(some 122), .mv (.t 10), none, none⟩, ⟨(some 123), .call 39 [(.t 122)], none, none⟩, ⟨(some 124), .bin .eql (.t 123) (.v (.int .u8 0)), none, none⟩, ⟨(some 125), .mv (.t 124), none, none⟩, ⟨(some 126), .mv (.t 10), (some (125, true)), none⟩, ⟨(some 127), .call 41 [(.t 126)], (some (125, true)), none⟩, ⟨(some 128), .bin .eql (.t 127) (.v (.int .u16 0)), (some (125, true)), none⟩, ⟨(some 129), .pick (.t 125) (.t 128) (.v (.bool false)), none, none⟩, ⟨(some 130), .mv (.t 129), none, none⟩, ⟨(some 131), .mv (.t 10), (some (130, true)), none⟩, ⟨(some 132), .call 42 [(.t 131)], (some (130, true)), none⟩, ⟨(some 133), .bin .eql (.t 132) (.v (.int .i16 0)), (some (130, true)), none⟩, ⟨(some 134), .pick (.t 130) (.t 133) (.v (.bool false)), none, none⟩, ⟨(some 135), .mv (.t 134), none, none⟩, ⟨(some 136), .mv (.t 10), (some (135, true)), none⟩, ⟨(some 137), .call 44 [(.t 136)], (some (135, true)), none⟩, ⟨(some 138), .bin .eql (.t 137) (.v (.int .u32 0)), (some (135, true)), none⟩, ⟨(some 139), .pick (.t 135) (.t 138) (.v (.bool false)), none, none⟩, ⟨(some 140), .mv (.t 139), none, none⟩, ⟨(some 141), .mv (.t 10), (some (140, true)), none⟩, ⟨(some 142), .call 47 [(.t 141)], (some (140, true)), none⟩, ⟨(some 143), .bin .eql (.t 142) (.v (.int .i64 0)), (some (140, true)), none⟩, ⟨(some 144), .pick (.t 140) (.t 143) (.v (.bool false)), none, none⟩, ⟨(some 145), .mv (.t 144), none, none⟩, ⟨(some 146), .mv (.t 10), (some (145, true)), none⟩, ⟨(some 147), .call 48 [(.t 146)], (some (145, true)), none⟩, ⟨(some 148), .bin .eql (.t 147) (.v (.int .i64 0)), (some (145, true)), none⟩, ⟨(some 149), .pick (.t 145) (.t 148) (.v (.bool false)), none, none⟩, ⟨(some 150), .mv (.t 149), none, none⟩, ⟨(some 151), .mv (.t 10), (some (150, true)), none⟩, ⟨(some 152), .call 49 [(.t 151)], (some (150, true)), none⟩, ⟨(some 153), .bin .eql (.t 152) (.v (.int .i64 3)), (some (150, true)), none⟩, ⟨(some 154), .pick (.t 150) (.t 153) (.v (.bool false)), none, none⟩, ⟨(some 4), .mv (.t 154), none, none⟩])
  .ret))))))))⟩
/-- pochoir/pochoirlaw08.SumJoins -/
def s10 : SFn :=
 ⟨47, [.tmp 6],
  (.seq (.reg [⟨(some 6), .mv (.v (.bool false)), none, none⟩])
  (.seq (.seq (.reg [⟨(some 9), .call 23 [], none, none⟩, ⟨(some 10), .un .not (.t 9), none, none⟩])
  (.cond (.t 10) (.seq (.reg [⟨(some 6), .mv (.v (.bool false)), none, none⟩])
  .ret) .skip))
  (.seq (.seq (.reg [⟨(some 11), .mv (.t 0), none, none⟩, ⟨(some 12), .len true (.t 11), none, none⟩, ⟨(some 13), .bin .gtr (.t 12) (.v (.int .i64 300)), none, none⟩, ⟨(some 14), .mv (.t 13), none, none⟩, ⟨(some 15), .mv (.t 1), (some (14, false)), none⟩, ⟨(some 16), .len true (.t 15), (some (14, false)), none⟩, ⟨(some 17), .bin .gtr (.t 16) (.v (.int .i64 300)), (some (14, false)), none⟩, ⟨(some 18), .pick (.t 14) (.v (.bool true)) (.t 17), none, none⟩])
  (.cond (.t 18) (.seq (.reg [⟨(some 6), .mv (.v (.bool true)), none, none⟩])
  .ret) .skip))
  (.seq (.reg [⟨(some 19), .mv (.t 0), none, none⟩, ⟨(some 20), .call 24 [(.t 19)], none, none⟩, ⟨(some 21), .mv (.t 1), none, none⟩, ⟨(some 22), .call 24 [(.t 21)], none, none⟩, ⟨(some 7), .mv (.t 20), none, none⟩, ⟨(some 8), .mv (.t 22), none, none⟩])
  (.seq (.seq (.reg [⟨(some 23), .mv (.t 2), none, none⟩, ⟨(some 24), .bin .lss (.t 23) (.v (.int .i64 0)), none, none⟩, ⟨(some 25), .mv (.t 24), none, none⟩, ⟨(some 26), .mv (.t 2), (some (25, false)), none⟩, ⟨(some 27), .bin .gtr (.t 26) (.v (.int .i64 1048576)), (some (25, false)), none⟩, ⟨(some 28), .pick (.t 25) (.v (.bool true)) (.t 27), none, none⟩, ⟨(some 29), .mv (.t 28), none, none⟩, ⟨(some 30), .mv (.t 7), (some (29, true)), none⟩, ⟨(some 31), .mv (.t 8), (some (29, true)), none⟩, ⟨(some 32), .mv (.t 2), (some (29, true)), none⟩, ⟨(some 33), .call 50 [(.t 30), (.t 31), (.t 32)], (some (29, true)), none⟩, ⟨(some 34), .mv (.t 7), (some (29, true)), none⟩, ⟨(some 35), .bin .neq (.t 33) (.t 34), (some (29, true)), none⟩, ⟨(some 36), .pick (.t 29) (.t 35) (.v (.bool false)), none, none⟩])
  (.cond (.t 36) (.seq (.reg [⟨(some 6), .mv (.v (.bool false)), none, none⟩])
  .ret) .skip))
  (.seq (.reg [⟨(some 37), .mv (.t 7), none, none⟩, ⟨(some 38), .mv (.t 8), none, none⟩, ⟨(some 39), .mv (.t 1), none, none⟩, ⟨(some 40), .len true (.t 39), none, none⟩, ⟨(some 41), .call 50 [(.t 37), (.t 38), (.t 40)], none, none⟩, ⟨(some 42), .mv (.t 0), none, none⟩, ⟨(some 43), .mv (.t 1), none, none⟩, ⟨(some 44), .bin .add (.t 42) (.t 43), none, none⟩, ⟨(some 45), .call 25 [(.t 44)], none, none⟩, ⟨(some 46), .bin .eql (.t 41) (.t 45), none, none⟩, ⟨(some 6), .mv (.t 46), none, none⟩])
  .ret))))))⟩
/-- pochoir/pochoirlaw28.RectTwo -/
def s11 : SFn :=
 ⟨62, [.tmp 4],
  (.seq (.reg [⟨(some 2), .box 81 (.t 0), none, none⟩, ⟨(some 3), .box 81 (.t 1), none, none⟩, ⟨(some 4), .mv (.v (.bool false)), none, none⟩])
  (.seq (.seq (.reg [⟨(some 5), .call 51 [], none, none⟩, ⟨(some 6), .un .not (.t 5), none, none⟩])
  (.cond (.t 6) (.seq (.reg [⟨(some 4), .mv (.v (.bool false)), none, none⟩])
  .ret) .skip))
  (.seq (.seq (.regd [⟨(some 7), .load (some 4) (.t 2), none, (some [])⟩, ⟨(some 8), .call 52 [(.t 7)], none, (some [])⟩, ⟨(some 9), .load (some 4) (.t 2), none, (some [1])⟩, ⟨(some 10), .call 53 [(.t 9)], none, none⟩, ⟨(some 11), .eqs 0 [] true (.t 8) (.t 10), none, (some [])⟩])
  (.cond (.t 11) (.seq (.reg [⟨(some 4), .mv (.v (.bool false)), none, none⟩])
  .ret) .skip))
  (.seq (.seq (.reg [⟨(some 12), .load (some 4) (.t 2), none, none⟩, ⟨(some 13), .call 53 [(.t 12)], none, none⟩, ⟨(some 14), .un .not (.t 13), none, none⟩, ⟨(some 15), .mv (.t 14), none, none⟩, ⟨(some 16), .load (some 4) (.t 3), (some (15, false)), none⟩, ⟨(some 17), .call 53 [(.t 16)], (some (15, false)), none⟩, ⟨(some 18), .un .not (.t 17), (some (15, false)), none⟩, ⟨(some 19), .pick (.t 15) (.v (.bool true)) (.t 18), none, none⟩])
  (.cond (.t 19) (.seq (.reg [⟨(some 20), .load (some 4) (.t 2), none, none⟩, ⟨(some 21), .load (some 4) (.t 3), none, none⟩, ⟨(some 22), .call 54 [(.t 20), (.t 21)], none, none⟩, ⟨(some 23), .un .not (.t 22), none, none⟩, ⟨(some 24), .mv (.t 23), none, none⟩, ⟨(some 25), .load (some 4) (.t 2), (some (24, true)), none⟩, ⟨(some 26), .load (some 4) (.t 3), (some (24, true)), none⟩, ⟨(some 27), .call 55 [(.t 25), (.t 26)], (some (24, true)), none⟩, ⟨(some 28), .un .not (.t 27), (some (24, true)), none⟩, ⟨(some 29), .pick (.t 24) (.t 28) (.v (.bool false)), none, none⟩, ⟨(some 30), .mv (.t 29), none, none⟩, ⟨(some 31), .load (some 4) (.t 2), (some (30, true)), none⟩, ⟨(some 32), .load (some 4) (.t 3), (some (30, true)), none⟩, ⟨(some 33), .call 56 [(.t 31), (.t 32)], (some (30, true)), none⟩, ⟨(some 34), .len false (.t 33), (some (30, true)), none⟩, ⟨(some 35), .bin .eql (.t 34) (.v (.int .i64 0)), (some (30, true)), none⟩, ⟨(some 36), .pick (.t 30) (.t 35) (.v (.bool false)), none, none⟩, ⟨(some 4), .mv (.t 36), none, none⟩])
  .ret) .skip))
  (.seq (.regd [⟨(some 37), .load (some 4) (.t 2), none, (some [])⟩, ⟨(some 38), .load (some 4) (.t 3), none, (some [])⟩, ⟨(some 39), .call 54 [(.t 37), (.t 38)], none, (some [])⟩, ⟨(some 40), .load (some 4) (.t 2), none, (some [2])⟩, ⟨(some 41), .load (some 4) (.t 3), none, (some [2])⟩, ⟨(some 42), .call 57 [(.t 40), (.t 41)], none, (some [])⟩, ⟨(some 43), .eqs 0 [] false (.t 39) (.t 42), none, (some [])⟩, ⟨(some 44), .mv (.t 43), none, (some [])⟩, ⟨(some 45), .load (some 4) (.t 2), (some (44, true)), (some [])⟩, ⟨(some 46), .load (some 4) (.t 3), (some (44, true)), (some [])⟩, ⟨(some 47), .call 55 [(.t 45), (.t 46)], (some (44, true)), (some [])⟩, ⟨(some 48), .load (some 4) (.t 2), (some (44, true)), (some [10])⟩, ⟨(some 49), .load (some 4) (.t 3), (some (44, true)), (some [10])⟩, ⟨(some 50), .call 58 [(.t 48), (.t 49)], (some (44, true)), (some [])⟩, ⟨(some 51), .eqs 0 [] false (.t 47) (.t 50), (some (44, true)), (some [])⟩, ⟨(some 52), .pick (.t 44) (.t 51) (.v (.bool false)), none, (some [])⟩, ⟨(some 53), .mv (.t 52), none, (some [])⟩, ⟨(some 54), .load (some 4) (.t 2), (some (53, true)), (some [])⟩, ⟨(some 55), .load (some 4) (.t 3), (some (53, true)), (some [])⟩, ⟨(some 56), .call 56 [(.t 54), (.t 55)], (some (53, true)), (some [])⟩, ⟨(some 57), .load (some 4) (.t 2), (some (53, true)), (some [19])⟩, ⟨(some 58), .load (some 4) (.t 3), (some (53, true)), (some [19])⟩, ⟨(some 59), .call 60 [(.t 57), (.t 58)], (some (53, true)), none⟩, ⟨(some 60), .call 59 [(.t 56), (.t 59)], (some (53, true)), none⟩, ⟨(some 61), .pick (.t 53) (.t 60) (.v (.bool false)), none, (some [])⟩, ⟨(some 4), .mv (.t 61), none, (some [])⟩])
  .ret)))))⟩
/-- pochoir/pochoirlaw28.RectLists -/
def s12 : SFn :=
 ⟨24, [.tmp 4],
  (.seq (.reg [⟨(some 3), .box 81 (.t 1), none, none⟩, ⟨(some 4), .mv (.v (.bool false)), none, none⟩])
  (.seq (.seq (.reg [⟨(some 5), .call 51 [], none, none⟩, ⟨(some 6), .un .not (.t 5), none, none⟩])
  (.cond (.t 6) (.seq (.reg [⟨(some 4), .mv (.v (.bool false)), none, none⟩])
  .ret) .skip))
  (.seq (.seq (.reg [⟨(some 7), .mv (.t 0), none, none⟩, ⟨(some 8), .len false (.t 7), none, none⟩, ⟨(some 9), .bin .gtr (.t 8) (.v (.int .i64 40)), none, none⟩])
  (.cond (.t 9) (.seq (.reg [⟨(some 4), .mv (.v (.bool true)), none, none⟩])
  .ret) .skip))
  (.seq (.regd [⟨(some 10), .mv (.t 0), none, (some [])⟩, ⟨(some 11), .load (some 4) (.t 3), none, (some [])⟩, ⟨(some 12), .call 61 [(.t 10), (.t 11)], none, (some [])⟩, ⟨(some 13), .mv (.t 0), none, (some [2])⟩, ⟨(some 14), .load (some 4) (.t 3), none, (some [2])⟩, ⟨(some 15), .call 62 [(.t 13), (.t 14)], none, none⟩, ⟨(some 16), .call 59 [(.t 12), (.t 15)], none, none⟩, ⟨(some 17), .mv (.t 16), none, (some [])⟩, ⟨(some 18), .mv (.t 0), (some (17, true)), (some [])⟩, ⟨(some 19), .call 63 [(.t 18)], (some (17, true)), none⟩, ⟨(some 20), .mv (.t 0), (some (17, true)), (some [9])⟩, ⟨(some 21), .call 64 [(.t 20)], (some (17, true)), none⟩, ⟨(some 22), .call 59 [(.t 19), (.t 21)], (some (17, true)), none⟩, ⟨(some 23), .pick (.t 17) (.t 22) (.v (.bool false)), none, (some [])⟩, ⟨(some 4), .mv (.t 23), none, (some [])⟩])
  .ret))))⟩
/-- pochoir/pochoirlaw28.RectPlaces -/
def s13 : SFn :=
 ⟨83, [.tmp 6],
  (.seq (.reg [⟨(some 4), .box 81 (.t 1), none, none⟩, ⟨(some 5), .box 90 (.t 2), none, none⟩, ⟨(some 6), .mv (.v (.bool false)), none, none⟩])
  (.seq (.seq (.reg [⟨(some 13), .call 51 [], none, none⟩, ⟨(some 14), .un .not (.t 13), none, none⟩])
  (.cond (.t 14) (.seq (.reg [⟨(some 6), .mv (.v (.bool false)), none, none⟩])
  .ret) .skip))
  (.seq (.seq (.reg [⟨(some 15), .mv (.t 0), none, none⟩, ⟨(some 16), .len false (.t 15), none, none⟩, ⟨(some 17), .bin .gtr (.t 16) (.v (.int .i64 40)), none, none⟩, ⟨(some 18), .mv (.t 17), none, none⟩, ⟨(some 19), .load (some 4) (.t 4), (some (18, false)), none⟩, ⟨(some 20), .call 53 [(.t 19)], (some (18, false)), none⟩, ⟨(some 21), .un .not (.t 20), (some (18, false)), none⟩, ⟨(some 22), .pick (.t 18) (.v (.bool true)) (.t 21), none, none⟩])
  (.cond (.t 22) (.seq (.reg [⟨(some 6), .mv (.v (.bool true)), none, none⟩])
  .ret) .skip))
  (.seq (.reg [⟨(some 23), .mv (.t 0), none, none⟩, ⟨(some 24), .load (some 4) (.t 4), none, none⟩, ⟨(some 25), .call 61 [(.t 23), (.t 24)], none, none⟩, ⟨(some 26), .call 63 [(.t 25)], none, none⟩, ⟨(some 7), .mv (.t 26), none, none⟩])
  (.seq (.seq (.reg [⟨(some 27), .mv (.t 7), none, none⟩, ⟨(some 28), .len false (.t 27), none, none⟩, ⟨(some 29), .mv (.v (.int .i64 0)), none, none⟩])
  (.block 0 (.loop (.seq (.reg [⟨(some 30), .bin .lss (.t 29) (.t 28), none, none⟩])
  (.seq (.cond (.t 30) .skip (.exit 0))
  (.seq (.block 1 (.seq (.reg [⟨(some 31), .mv (.t 29), none, none⟩, ⟨(some 32), .iaddr 4 (.t 27) (.t 29), none, none⟩, ⟨(some 33), .load (some 4) (.t 32), none, none⟩, ⟨(some 9), .box 81 (.v (.agg [(.int .i64 0), (.int .i64 0), (.int .i64 0), (.int .i64 0)])), none, none⟩, ⟨(some 8), .mv (.t 31), none, none⟩, ⟨none, .store 4 (.t 9) (.t 33), none, none⟩])
  (.seq (.seq (.reg [⟨(some 34), .load (some 4) (.t 9), none, none⟩, ⟨(some 35), .load (some 4) (.t 4), none, none⟩, ⟨(some 36), .call 58 [(.t 34), (.t 35)], none, none⟩, ⟨(some 37), .mv (.t 36), none, none⟩, ⟨(some 38), .load (some 4) (.t 9), (some (37, false)), none⟩, ⟨(some 39), .call 53 [(.t 38)], (some (37, false)), none⟩, ⟨(some 40), .un .not (.t 39), (some (37, false)), none⟩, ⟨(some 41), .pick (.t 37) (.v (.bool true)) (.t 40), none, none⟩])
  (.cond (.t 41) (.seq (.reg [⟨(some 6), .mv (.v (.bool false)), none, none⟩])
  .ret) .skip))
  (.seq (.reg [⟨(some 42), .mv (.t 7), none, none⟩, ⟨(some 43), .len false (.t 42), none, none⟩, ⟨(some 44), .mv (.v (.int .i64 0)), none, none⟩])
  (.block 2 (.loop (.seq (.reg [⟨(some 45), .bin .lss (.t 44) (.t 43), none, none⟩])
  (.seq (.cond (.t 45) .skip (.exit 2))
  (.seq (.block 3 (.seq (.reg [⟨(some 46), .mv (.t 44), none, none⟩, ⟨(some 47), .iaddr 4 (.t 42) (.t 44), none, none⟩, ⟨(some 48), .load (some 4) (.t 47), none, none⟩, ⟨(some 11), .box 81 (.v (.agg [(.int .i64 0), (.int .i64 0), (.int .i64 0), (.int .i64 0)])), none, none⟩, ⟨(some 10), .mv (.t 46), none, none⟩, ⟨none, .store 4 (.t 11) (.t 48), none, none⟩])
  (.seq (.reg [⟨(some 49), .mv (.t 8), none, none⟩, ⟨(some 50), .mv (.t 10), none, none⟩, ⟨(some 51), .bin .neq (.t 49) (.t 50), none, none⟩, ⟨(some 52), .mv (.t 51), none, none⟩, ⟨(some 53), .load (some 4) (.t 9), (some (52, true)), none⟩, ⟨(some 54), .load (some 4) (.t 11), (some (52, true)), none⟩, ⟨(some 55), .call 57 [(.t 53), (.t 54)], (some (52, true)), none⟩, ⟨(some 56), .pick (.t 52) (.t 55) (.v (.bool false)), none, none⟩])
  (.cond (.t 56) (.seq (.reg [⟨(some 6), .mv (.v (.bool false)), none, none⟩])
  .ret) .skip))))
  (.reg [⟨(some 57), .bin .add (.t 44) (.v (.int .i64 1)), none, none⟩, ⟨(some 44), .mv (.t 57), none, none⟩]))))))))))
  (.reg [⟨(some 58), .bin .add (.t 29) (.v (.int .i64 1)), none, none⟩, ⟨(some 29), .mv (.t 58), none, none⟩])))))))
  (.seq (.reg [⟨(some 59), .mv (.t 0), none, none⟩, ⟨(some 60), .iarr 2 1 (.t 5) (.v (.int .i64 0)), none, none⟩, ⟨(some 61), .load none (.t 60), none, none⟩, ⟨(some 62), .iarr 2 1 (.t 5) (.v (.int .i64 1)), none, none⟩, ⟨(some 63), .load none (.t 62), none, none⟩, ⟨(some 64), .call 65 [(.t 59), (.t 61), (.t 63)], none, none⟩, ⟨(some 65), .mv (.t 64), none, none⟩, ⟨(some 66), .load (some 4) (.t 4), (some (65, true)), none⟩, ⟨(some 67), .bsl 81 [(.int .i64 0), (.int .i64 0), (.int .i64 0), (.int .i64 0)] 1 4 [(0, 4, (.t 66))], (some (65, true)), none⟩, ⟨(some 68), .iarr 2 1 (.t 5) (.v (.int .i64 0)), (some (65, true)), none⟩, ⟨(some 69), .load none (.t 68), (some (65, true)), none⟩, ⟨(some 70), .iarr 2 1 (.t 5) (.v (.int .i64 1)), (some (65, true)), none⟩, ⟨(some 71), .load none (.t 70), (some (65, true)), none⟩, ⟨(some 72), .call 65 [(.t 67), (.t 69), (.t 71)], (some (65, true)), none⟩, ⟨(some 73), .un .not (.t 72), (some (65, true)), none⟩, ⟨(some 74), .pick (.t 65) (.t 73) (.v (.bool false)), none, none⟩, ⟨(some 12), .mv (.t 74), none, none⟩])
  (.seq (.reg [⟨(some 75), .mv (.t 7), none, none⟩, ⟨(some 76), .iarr 2 1 (.t 5) (.v (.int .i64 0)), none, none⟩, ⟨(some 77), .load none (.t 76), none, none⟩, ⟨(some 78), .iarr 2 1 (.t 5) (.v (.int .i64 1)), none, none⟩, ⟨(some 79), .load none (.t 78), none, none⟩, ⟨(some 80), .call 65 [(.t 75), (.t 77), (.t 79)], none, none⟩, ⟨(some 81), .mv (.t 12), none, none⟩, ⟨(some 82), .eqs 0 [] false (.t 80) (.t 81), none, none⟩, ⟨(some 6), .mv (.t 82), none, none⟩])
  .ret)))))))⟩
/-- pochoir/pochoirlaw27.awake -/
def s14 : SFn :=
 ⟨46, [.tmp 0],
  (.seq (.reg [⟨(some 0), .mv (.v (.bool false)), none, none⟩])
  (.seq (.reg [⟨(some 4), .build [(.int .u8 0), (.int .u8 0), (.int .u8 0), (.int .u8 0)] [(0, 1, (.v (.int .u8 100))), (1, 1, (.v (.int .u8 10))), (2, 1, (.v (.int .u8 20))), (3, 1, (.v (.int .u8 100)))], none, none⟩, ⟨(some 1), .box 31 (.v (.agg [(.int .u8 0), (.int .u8 0), (.int .u8 0), (.int .u8 0)])), none, none⟩, ⟨none, .store 4 (.t 1) (.t 4), none, none⟩])
  (.seq (.reg [⟨(some 6), .load (some 4) (.t 1), none, none⟩, ⟨(some 7), .build [(.int .u8 0), (.int .u8 0), (.int .u8 0), (.int .u8 0)] [(0, 1, (.v (.int .u8 5))), (1, 1, (.v (.int .u8 5))), (2, 1, (.v (.int .u8 9))), (3, 1, (.v (.int .u8 1)))], none, none⟩, ⟨(some 8), .bsl 31 [(.int .u8 0), (.int .u8 0), (.int .u8 0), (.int .u8 0), (.int .u8 0), (.int .u8 0), (.int .u8 0), (.int .u8 0)] 2 4 [(0, 4, (.t 6)), (4, 4, (.t 7))], none, none⟩, ⟨(some 9), .call 17 [(.t 8), (.v (.int .i64 50))], none, none⟩, ⟨(some 5), .mv (.t 9), none, none⟩, ⟨(some 10), .extract (.t 5) 0, none, none⟩, ⟨(some 11), .extract (.t 5) 1, none, none⟩, ⟨(some 2), .mv (.t 10), none, none⟩, ⟨(some 3), .mv (.t 11), none, none⟩])
  (.seq (.reg [⟨(some 12), .call 15 [(.v (.int .u8 3)), (.v (.int .u8 1)), (.v (.int .u8 2))], none, none⟩, ⟨(some 13), .bin .eql (.t 12) (.v (.int .u8 2)), none, none⟩, ⟨(some 14), .mv (.t 13), none, none⟩, ⟨(some 15), .load (some 4) (.t 1), (some (14, true)), none⟩, ⟨(some 16), .call 20 [(.t 15), (.v (.int .i64 50))], (some (14, true)), none⟩, ⟨(some 17), .pick (.t 14) (.t 16) (.v (.bool false)), none, none⟩, ⟨(some 18), .mv (.t 17), none, none⟩, ⟨(some 19), .load (some 4) (.t 1), (some (18, true)), none⟩, ⟨(some 20), .call 20 [(.t 19), (.v (.int .i64 80))], (some (18, true)), none⟩, ⟨(some 21), .un .not (.t 20), (some (18, true)), none⟩, ⟨(some 22), .pick (.t 18) (.t 21) (.v (.bool false)), none, none⟩, ⟨(some 23), .mv (.t 22), none, none⟩, ⟨(some 24), .mv (.t 3), (some (23, true)), none⟩, ⟨(some 25), .bin .eql (.t 24) (.v (.int .i64 1)), (some (23, true)), none⟩, ⟨(some 26), .pick (.t 23) (.t 25) (.v (.bool false)), none, none⟩, ⟨(some 27), .mv (.t 26), none, none⟩, ⟨(some 28), .mv (.t 2), (some (27, true)), none⟩, ⟨(some 29), .len false (.t 28), (some (27, true)), none⟩, ⟨(some 30), .bin .eql (.t 29) (.v (.int .i64 2)), (some (27, true)), none⟩, ⟨(some 31), .pick (.t 27) (.t 30) (.v (.bool false)), none, none⟩, ⟨(some 32), .mv (.t 31), none, none⟩, ⟨(some 33), .mv (.t 2), (some (32, true)), none⟩, ⟨(some 34), .iaddr 4 (.t 33) (.v (.int .i64 0)), (some (32, true)), none⟩, ⟨(some 35), .faddr 1 (.t 34), (some (32, true)), none⟩, ⟨(some 36), .load none (.t 35), (some (32, true)), none⟩, ⟨(some 37), .bin .eql (.t 36) (.v (.int .u8 100)), (some (32, true)), none⟩, ⟨(some 38), .pick (.t 32) (.t 37) (.v (.bool false)), none, none⟩, ⟨(some 39), .mv (.t 38), none, none⟩, ⟨(some 40), .mv (.t 2), (some (39, true)), none⟩, ⟨(some 41), .iaddr 4 (.t 40) (.v (.int .i64 1)), (some (39, true)), none⟩, ⟨(some 42), .faddr 2 (.t 41), (some (39, true)), none⟩, ⟨(some 43), .load none (.t 42), (some (39, true)), none⟩, ⟨(some 44), .bin .eql (.t 43) (.v (.int .u8 9)), (some (39, true)), none⟩, ⟨(some 45), .pick (.t 39) (.t 44) (.v (.bool false)), none, none⟩, ⟨(some 0), .mv (.t 45), none, none⟩])
  .ret))))⟩
/-- pochoir/fix.Median -/
def s15 : SFn :=
 ⟨16, [.tmp 6],
  (.seq (.reg [⟨(some 6), .mv (.v (.int .u8 0)), none, none⟩])
  (.seq (.reg [⟨(some 7), .mv (.t 0), none, none⟩, ⟨(some 8), .mv (.t 1), none, none⟩, ⟨(some 9), .mnmx false [(.t 7), (.t 8)], none, none⟩, ⟨(some 10), .mv (.t 0), none, none⟩, ⟨(some 11), .mv (.t 1), none, none⟩, ⟨(some 12), .mnmx true [(.t 10), (.t 11)], none, none⟩, ⟨(some 13), .mv (.t 2), none, none⟩, ⟨(some 14), .mnmx false [(.t 12), (.t 13)], none, none⟩, ⟨(some 15), .mnmx true [(.t 9), (.t 14)], none, none⟩, ⟨(some 6), .mv (.t 15), none, none⟩])
  .ret))⟩
/-- pochoir/pochoirref27.Median -/
def s16 : SFn :=
 ⟨22, [.tmp 6],
  (.seq (.reg [⟨(some 6), .mv (.v (.int .i64 0)), none, none⟩])
  (.seq (.reg [⟨(some 7), .mv (.t 0), none, none⟩, ⟨(some 8), .mv (.t 1), none, none⟩, ⟨(some 9), .bin .add (.t 7) (.t 8), none, none⟩, ⟨(some 10), .mv (.t 2), none, none⟩, ⟨(some 11), .bin .add (.t 9) (.t 10), none, none⟩, ⟨(some 12), .mv (.t 0), none, none⟩, ⟨(some 13), .mv (.t 1), none, none⟩, ⟨(some 14), .mv (.t 2), none, none⟩, ⟨(some 15), .mnmx false [(.t 12), (.t 13), (.t 14)], none, none⟩, ⟨(some 16), .bin .sub (.t 11) (.t 15), none, none⟩, ⟨(some 17), .mv (.t 0), none, none⟩, ⟨(some 18), .mv (.t 1), none, none⟩, ⟨(some 19), .mv (.t 2), none, none⟩, ⟨(some 20), .mnmx true [(.t 17), (.t 18), (.t 19)], none, none⟩, ⟨(some 21), .bin .sub (.t 16) (.t 20), none, none⟩, ⟨(some 6), .mv (.t 21), none, none⟩])
  .ret))⟩
/-- pochoir/fix.All -/
def s17 : SFn :=
 ⟨30, [.tmp 4, .tmp 5],
  (.seq (.reg [⟨(some 4), .mv (.v .nils), none, none⟩, ⟨(some 5), .mv (.v (.int .i64 0)), none, none⟩])
  (.seq (.reg [⟨(some 6), .mv (.v .nils), none, none⟩])
  (.seq (.reg [⟨(some 7), .mv (.v (.int .i64 0)), none, none⟩])
  (.seq (.seq (.reg [⟨(some 10), .mv (.t 0), none, none⟩, ⟨(some 11), .len false (.t 10), none, none⟩, ⟨(some 12), .mv (.v (.int .i64 0)), none, none⟩])
  (.block 0 (.loop (.seq (.reg [⟨(some 13), .bin .lss (.t 12) (.t 11), none, none⟩])
  (.seq (.cond (.t 13) .skip (.exit 0))
  (.seq (.block 1 (.seq (.reg [⟨(some 14), .iaddr 4 (.t 10) (.t 12), none, none⟩, ⟨(some 15), .load (some 4) (.t 14), none, none⟩, ⟨(some 9), .box 31 (.v (.agg [(.int .u8 0), (.int .u8 0), (.int .u8 0), (.int .u8 0)])), none, none⟩, ⟨none, .store 4 (.t 9) (.t 15), none, none⟩])
  (.seq (.seq (.reg [⟨(some 16), .load (some 4) (.t 9), none, none⟩, ⟨(some 17), .mv (.t 1), none, none⟩, ⟨(some 18), .call 20 [(.t 16), (.t 17)], none, none⟩])
  (.cond (.t 18) (.reg [⟨(some 19), .mv (.t 7), none, none⟩, ⟨(some 20), .bin .add (.t 19) (.v (.int .i64 1)), none, none⟩, ⟨(some 7), .mv (.t 20), none, none⟩]) .skip))
  (.reg [⟨(some 21), .mv (.t 6), none, none⟩, ⟨(some 22), .load (some 4) (.t 9), none, none⟩, ⟨(some 23), .mv (.t 1), none, none⟩, ⟨(some 24), .call 22 [(.t 22), (.t 23)], none, none⟩, ⟨(some 25), .bsl 31 [(.int .u8 0), (.int .u8 0), (.int .u8 0), (.int .u8 0)] 1 4 [(0, 4, (.t 24))], none, none⟩, ⟨(some 26), .app 31 4 (.t 21) (.t 25), none, none⟩, ⟨(some 6), .mv (.t 26), none, none⟩]))))
  (.reg [⟨(some 27), .bin .add (.t 12) (.v (.int .i64 1)), none, none⟩, ⟨(some 12), .mv (.t 27), none, none⟩])))))))
  (.seq (.reg [⟨(some 28), .mv (.t 6), none, none⟩, ⟨(some 29), .mv (.t 7), none, none⟩, ⟨(some 4), .mv (.t 28), none, none⟩, ⟨(some 5), .mv (.t 29), none, none⟩])
  .ret)))))⟩
/-- pochoir/pochoirref27.All -/
def s18 : SFn :=
 ⟨34, [.tmp 4, .tmp 5],
  (.seq (.reg [⟨(some 4), .mv (.v .nils), none, none⟩, ⟨(some 5), .mv (.v (.int .i64 0)), none, none⟩])
  (.seq (.reg [⟨(some 6), .mv (.v (.int .i64 0)), none, none⟩])
  (.seq (.reg [⟨(some 7), .mv (.v .nils), none, none⟩])
  (.seq (.seq (.reg [⟨(some 8), .mv (.v (.int .i64 0)), none, none⟩])
  (.block 0 (.loop (.seq (.seq (.reg [⟨(some 9), .mv (.t 8), none, none⟩, ⟨(some 10), .mv (.t 0), none, none⟩, ⟨(some 11), .len false (.t 10), none, none⟩, ⟨(some 12), .bin .lss (.t 9) (.t 11), none, none⟩])
  (.cond (.t 12) .skip (.exit 0)))
  (.seq (.block 1 (.seq (.seq (.reg [⟨(some 15), .mv (.t 0), none, none⟩, ⟨(some 16), .mv (.t 8), none, none⟩, ⟨(some 17), .iaddr 4 (.t 15) (.t 16), none, none⟩, ⟨(some 18), .load (some 4) (.t 17), none, none⟩, ⟨(some 19), .mv (.t 1), none, none⟩, ⟨(some 20), .call 21 [(.t 18), (.t 19)], none, none⟩])
  (.cond (.t 20) (.reg [⟨(some 21), .mv (.t 6), none, none⟩, ⟨(some 22), .bin .add (.t 21) (.v (.int .i64 1)), none, none⟩, ⟨(some 6), .mv (.t 22), none, none⟩]) .skip))
  (.reg [⟨(some 23), .mv (.t 7), none, none⟩, ⟨(some 24), .mv (.t 0), none, none⟩, ⟨(some 25), .mv (.t 8), none, none⟩, ⟨(some 26), .iaddr 4 (.t 24) (.t 25), none, none⟩, ⟨(some 27), .load (some 4) (.t 26), none, none⟩, ⟨(some 28), .mv (.t 1), none, none⟩, ⟨(some 29), .call 66 [(.t 27), (.t 28)], none, none⟩, ⟨(some 30), .bsl 31 [(.int .u8 0), (.int .u8 0), (.int .u8 0), (.int .u8 0)] 1 4 [(0, 4, (.t 29))], none, none⟩, ⟨(some 31), .app 31 4 (.t 23) (.t 30), none, none⟩, ⟨(some 7), .mv (.t 31), none, none⟩])))
  (.reg [⟨(some 13), .mv (.t 8), none, none⟩, ⟨(some 14), .bin .add (.t 13) (.v (.int .i64 1)), none, none⟩, ⟨(some 8), .mv (.t 14), none, none⟩]))))))
  (.seq (.reg [⟨(some 32), .mv (.t 7), none, none⟩, ⟨(some 33), .mv (.t 6), none, none⟩, ⟨(some 4), .mv (.t 32), none, none⟩, ⟨(some 5), .mv (.t 33), none, none⟩])
  .ret)))))⟩
/-- pochoir/pochoirref26.Same -/
def s19 : SFn :=
 ⟨26, [.tmp 4],
  (.seq (.reg [⟨(some 4), .mv (.v (.bool false)), none, none⟩])
  (.seq (.seq (.reg [⟨(some 6), .mv (.t 0), none, none⟩, ⟨(some 7), .len false (.t 6), none, none⟩, ⟨(some 8), .mv (.t 1), none, none⟩, ⟨(some 9), .len false (.t 8), none, none⟩, ⟨(some 10), .bin .neq (.t 7) (.t 9), none, none⟩])
  (.cond (.t 10) (.seq (.reg [⟨(some 4), .mv (.v (.bool false)), none, none⟩])
  .ret) .skip))
  (.seq (.seq (.reg [⟨(some 5), .mv (.v (.int .i64 0)), none, none⟩])
  (.block 0 (.loop (.seq (.seq (.reg [⟨(some 11), .mv (.t 5), none, none⟩, ⟨(some 12), .mv (.t 0), none, none⟩, ⟨(some 13), .len false (.t 12), none, none⟩, ⟨(some 14), .bin .lss (.t 11) (.t 13), none, none⟩])
  (.cond (.t 14) .skip (.exit 0)))
  (.seq (.block 1 (.seq (.regd [⟨(some 17), .mv (.t 0), none, (some [])⟩, ⟨(some 18), .mv (.t 5), none, (some [])⟩, ⟨(some 19), .iaddr 4 (.t 17) (.t 18), none, (some [])⟩, ⟨(some 20), .load (some 4) (.t 19), none, (some [])⟩, ⟨(some 21), .mv (.t 1), none, (some [])⟩, ⟨(some 22), .mv (.t 5), none, (some [])⟩, ⟨(some 23), .iaddr 4 (.t 21) (.t 22), none, (some [])⟩, ⟨(some 24), .load (some 4) (.t 23), none, (some [])⟩, ⟨(some 25), .eqs 4 [1, 1, 1, 1] true (.t 20) (.t 24), none, (some [])⟩])
  (.cond (.t 25) (.seq (.reg [⟨(some 4), .mv (.v (.bool false)), none, none⟩])
  .ret) .skip)))
  (.reg [⟨(some 15), .mv (.t 5), none, none⟩, ⟨(some 16), .bin .add (.t 15) (.v (.int .i64 1)), none, none⟩, ⟨(some 5), .mv (.t 16), none, none⟩]))))))
  (.seq (.reg [⟨(some 4), .mv (.v (.bool true)), none, none⟩])
  .ret))))⟩
/-- pochoir/fix.Misleads -/
def s20 : SFn :=
 ⟨18, [.tmp 4],
  (.seq (.reg [⟨(some 2), .box 31 (.t 0), none, none⟩, ⟨(some 4), .mv (.v (.bool false)), none, none⟩])
  (.seq (.regd [⟨(some 5), .faddr 1 (.t 2), none, (some [])⟩, ⟨(some 6), .load none (.t 5), none, (some [])⟩, ⟨(some 7), .faddr 2 (.t 2), none, (some [])⟩, ⟨(some 8), .load none (.t 7), none, (some [])⟩, ⟨(some 9), .faddr 3 (.t 2), none, (some [])⟩, ⟨(some 10), .load none (.t 9), none, (some [])⟩, ⟨(some 11), .call 15 [(.t 6), (.t 8), (.t 10)], none, (some [])⟩, ⟨(some 12), .faddr 0 (.t 2), none, (some [6])⟩, ⟨(some 13), .load none (.t 12), none, (some [6])⟩, ⟨(some 14), .call 67 [(.t 11), (.t 13)], none, none⟩, ⟨(some 15), .mv (.t 1), none, (some [6, 9])⟩, ⟨(some 16), .mnmx true [(.t 15), (.v (.int .i64 0))], none, (some [6, 9])⟩, ⟨(some 17), .bin .gtr (.t 14) (.t 16), none, (some [])⟩, ⟨(some 4), .mv (.t 17), none, (some [])⟩])
  .ret))⟩
/-- pochoir/pochoirref27.Misleads -/
def s21 : SFn :=
 ⟨28, [.tmp 4],
  (.seq (.reg [⟨(some 2), .box 31 (.t 0), none, none⟩, ⟨(some 4), .mv (.v (.bool false)), none, none⟩])
  (.seq (.regd [⟨(some 6), .faddr 1 (.t 2), none, (some [])⟩, ⟨(some 7), .load none (.t 6), none, (some [])⟩, ⟨(some 8), .conv .i64 (.t 7), none, (some [])⟩, ⟨(some 9), .faddr 2 (.t 2), none, (some [])⟩, ⟨(some 10), .load none (.t 9), none, (some [])⟩, ⟨(some 11), .conv .i64 (.t 10), none, (some [])⟩, ⟨(some 12), .faddr 3 (.t 2), none, (some [])⟩, ⟨(some 13), .load none (.t 12), none, (some [])⟩, ⟨(some 14), .conv .i64 (.t 13), none, (some [])⟩, ⟨(some 15), .call 16 [(.t 8), (.t 11), (.t 14)], none, (some [])⟩, ⟨(some 16), .faddr 0 (.t 2), none, (some [9])⟩, ⟨(some 17), .load none (.t 16), none, (some [9])⟩, ⟨(some 18), .conv .i64 (.t 17), none, (some [9])⟩, ⟨(some 19), .bin .sub (.t 15) (.t 18), none, (some [])⟩, ⟨(some 5), .mv (.t 19), none, (some [])⟩])
  (.seq (.reg [⟨(some 20), .mv (.t 5), none, none⟩, ⟨(some 21), .mv (.t 5), none, none⟩, ⟨(some 22), .un .neg (.t 21), none, none⟩, ⟨(some 23), .mnmx true [(.t 20), (.t 22)], none, none⟩, ⟨(some 24), .mv (.t 1), none, none⟩, ⟨(some 25), .mnmx true [(.t 24), (.v (.int .i64 0))], none, none⟩, ⟨(some 26), .mnmx false [(.t 25), (.v (.int .i64 255))], none, none⟩, ⟨(some 27), .bin .gtr (.t 23) (.t 26), none, none⟩, ⟨(some 4), .mv (.t 27), none, none⟩])
  .ret)))⟩
/-- pochoir/fix.One -/
def s22 : SFn :=
 ⟨18, [.cell 4 (some 4)],
  (.seq (.reg [⟨(some 2), .box 31 (.t 0), none, none⟩, ⟨(some 4), .box 31 (.v (.agg [(.int .u8 0), (.int .u8 0), (.int .u8 0), (.int .u8 0)])), none, none⟩])
  (.seq (.seq (.reg [⟨(some 5), .load (some 4) (.t 2), none, none⟩, ⟨(some 6), .mv (.t 1), none, none⟩, ⟨(some 7), .call 20 [(.t 5), (.t 6)], none, none⟩])
  (.cond (.t 7) (.reg [⟨(some 8), .faddr 0 (.t 2), none, none⟩, ⟨(some 9), .load none (.t 8), none, none⟩, ⟨(some 10), .faddr 0 (.t 2), none, none⟩, ⟨(some 11), .load none (.t 10), none, none⟩, ⟨(some 12), .faddr 0 (.t 2), none, none⟩, ⟨(some 13), .load none (.t 12), none, none⟩, ⟨(some 14), .faddr 1 (.t 2), none, none⟩, ⟨none, .store 1 (.t 14) (.t 9), none, none⟩, ⟨(some 15), .faddr 2 (.t 2), none, none⟩, ⟨none, .store 1 (.t 15) (.t 11), none, none⟩, ⟨(some 16), .faddr 3 (.t 2), none, none⟩, ⟨none, .store 1 (.t 16) (.t 13), none, none⟩]) .skip))
  (.seq (.reg [⟨(some 17), .load (some 4) (.t 2), none, none⟩, ⟨none, .store 4 (.t 4) (.t 17), none, none⟩])
  .ret)))⟩
/-- pochoir/pochoirlaw08.awake -/
def s23 : SFn :=
 ⟨12, [.tmp 0],
  (.seq (.reg [⟨(some 0), .mv (.v (.bool false)), none, none⟩])
  (.seq (.reg [⟨(some 1), .call 24 [(.v (.str ⟨#[49, 50, 51, 52, 53, 54, 55, 56, 57]⟩))], none, none⟩, ⟨(some 2), .call 25 [(.v (.str ⟨#[49, 50, 51, 52, 53, 54, 55, 56, 57]⟩))], none, none⟩, ⟨(some 3), .bin .eql (.t 1) (.t 2), none, none⟩, ⟨(some 4), .mv (.t 3), none, none⟩, ⟨(some 5), .call 24 [(.v (.str ⟨#[97]⟩))], (some (4, true)), none⟩, ⟨(some 6), .bin .neq (.t 5) (.v (.int .u32 0)), (some (4, true)), none⟩, ⟨(some 7), .pick (.t 4) (.t 6) (.v (.bool false)), none, none⟩, ⟨(some 8), .mv (.t 7), none, none⟩, ⟨(some 9), .call 26 [(.v (.str ⟨#[1, 0, 0, 0, 2]⟩))], (some (8, true)), none⟩, ⟨(some 10), .bin .eql (.t 9) (.v (.int .u32 50331648)), (some (8, true)), none⟩, ⟨(some 11), .pick (.t 8) (.t 10) (.v (.bool false)), none, none⟩, ⟨(some 0), .mv (.t 11), none, none⟩])
  .ret))⟩
/-- pochoir/sum.Crc -/
def s24 : SFn :=
 ⟨26, [.tmp 2],
  (.seq (.reg [⟨(some 2), .mv (.v (.int .u32 0)), none, none⟩])
  (.seq (.reg [⟨(some 6), .call 68 [], none, none⟩, ⟨(some 3), .box 94 (.v (.agg (List.replicate 256 (.int .u32 0)))), none, none⟩, ⟨none, .store 256 (.t 3) (.t 6), none, none⟩])
  (.seq (.reg [⟨(some 4), .mv (.v (.int .u32 4294967295)), none, none⟩])
  (.seq (.seq (.reg [⟨(some 7), .mv (.t 0), none, none⟩, ⟨(some 8), .len true (.t 7), none, none⟩, ⟨(some 9), .mv (.v (.int .i64 0)), none, none⟩])
  (.block 0 (.loop (.seq (.reg [⟨(some 10), .bin .lss (.t 9) (.t 8), none, none⟩])
  (.seq (.cond (.t 10) .skip (.exit 0))
  (.seq (.block 1 (.seq (.reg [⟨(some 11), .mv (.t 9), none, none⟩, ⟨(some 5), .mv (.t 11), none, none⟩])
  (.reg [⟨(some 12), .mv (.t 4), none, none⟩, ⟨(some 13), .bin .shr (.t 12) (.v (.int .u64 8)), none, none⟩, ⟨(some 14), .mv (.t 4), none, none⟩, ⟨(some 15), .conv .u8 (.t 14), none, none⟩, ⟨(some 16), .mv (.t 0), none, none⟩, ⟨(some 17), .mv (.t 5), none, none⟩, ⟨(some 18), .ixs (.t 16) (.t 17), none, none⟩, ⟨(some 19), .bin .xor (.t 15) (.t 18), none, none⟩, ⟨(some 20), .iarr 256 1 (.t 3) (.t 19), none, none⟩, ⟨(some 21), .load none (.t 20), none, none⟩, ⟨(some 22), .bin .xor (.t 13) (.t 21), none, none⟩, ⟨(some 4), .mv (.t 22), none, none⟩])))
  (.reg [⟨(some 23), .bin .add (.t 9) (.v (.int .i64 1)), none, none⟩, ⟨(some 9), .mv (.t 23), none, none⟩])))))))
  (.seq (.reg [⟨(some 24), .mv (.t 4), none, none⟩, ⟨(some 25), .un .xor (.t 24), none, none⟩, ⟨(some 2), .mv (.t 25), none, none⟩])
  .ret)))))⟩
/-- pochoir/pochoirref08.Crc -/
def s25 : SFn :=
 ⟨33, [.tmp 2],
  (.seq (.reg [⟨(some 2), .mv (.v (.int .u32 0)), none, none⟩])
  (.seq (.reg [⟨(some 3), .mv (.v (.int .u32 4294967295)), none, none⟩])
  (.seq (.seq (.reg [⟨(some 4), .mv (.v (.int .i64 0)), none, none⟩])
  (.block 0 (.loop (.seq (.seq (.reg [⟨(some 7), .mv (.t 4), none, none⟩, ⟨(some 8), .mv (.t 0), none, none⟩, ⟨(some 9), .len true (.t 8), none, none⟩, ⟨(some 10), .bin .lss (.t 7) (.t 9), none, none⟩])
  (.cond (.t 10) .skip (.exit 0)))
  (.seq (.block 1 (.seq (.reg [⟨(some 13), .mv (.t 3), none, none⟩, ⟨(some 14), .mv (.t 0), none, none⟩, ⟨(some 15), .mv (.t 4), none, none⟩, ⟨(some 16), .ixs (.t 14) (.t 15), none, none⟩, ⟨(some 17), .conv .u32 (.t 16), none, none⟩, ⟨(some 18), .call 69 [(.t 13), (.t 17)], none, none⟩, ⟨(some 3), .mv (.t 18), none, none⟩])
  (.seq (.reg [⟨(some 5), .mv (.v (.int .i64 0)), none, none⟩])
  (.block 2 (.loop (.seq (.seq (.reg [⟨(some 19), .mv (.t 5), none, none⟩, ⟨(some 20), .bin .lss (.t 19) (.v (.int .i64 8)), none, none⟩])
  (.cond (.t 20) .skip (.exit 2)))
  (.seq (.block 3 (.seq (.reg [⟨(some 23), .mv (.t 3), none, none⟩, ⟨(some 24), .bin .rem (.t 23) (.v (.int .u32 2)), none, none⟩, ⟨(some 6), .mv (.t 24), none, none⟩])
  (.seq (.reg [⟨(some 25), .mv (.t 3), none, none⟩, ⟨(some 26), .bin .quo (.t 25) (.v (.int .u32 2)), none, none⟩, ⟨(some 3), .mv (.t 26), none, none⟩])
  (.seq (.reg [⟨(some 27), .mv (.t 6), none, none⟩, ⟨(some 28), .bin .eql (.t 27) (.v (.int .u32 1)), none, none⟩])
  (.cond (.t 28) (.reg [⟨(some 29), .mv (.t 3), none, none⟩, ⟨(some 30), .call 69 [(.t 29), (.v (.int .u32 3988292384))], none, none⟩, ⟨(some 3), .mv (.t 30), none, none⟩]) .skip)))))
  (.reg [⟨(some 21), .mv (.t 5), none, none⟩, ⟨(some 22), .bin .add (.t 21) (.v (.int .i64 1)), none, none⟩, ⟨(some 5), .mv (.t 22), none, none⟩]))))))))
  (.reg [⟨(some 11), .mv (.t 4), none, none⟩, ⟨(some 12), .bin .add (.t 11) (.v (.int .i64 1)), none, none⟩, ⟨(some 4), .mv (.t 12), none, none⟩]))))))
  (.seq (.reg [⟨(some 31), .mv (.t 3), none, none⟩, ⟨(some 32), .call 69 [(.t 31), (.v (.int .u32 4294967295))], none, none⟩, ⟨(some 2), .mv (.t 32), none, none⟩])
  .ret))))⟩
/-- pochoir/sum.Table -/
def s26 : SFn :=
 ⟨23, [.tmp 2],
  (.seq (.reg [⟨(some 2), .mv (.v (.int .u32 0)), none, none⟩])
  (.seq (.reg [⟨(some 3), .mv (.v (.int .u32 0)), none, none⟩])
  (.seq (.seq (.reg [⟨(some 5), .mv (.t 0), none, none⟩, ⟨(some 6), .len true (.t 5), none, none⟩, ⟨(some 7), .mv (.v (.int .i64 0)), none, none⟩])
  (.block 0 (.loop (.seq (.reg [⟨(some 8), .bin .lss (.t 7) (.t 6), none, none⟩])
  (.seq (.cond (.t 8) .skip (.exit 0))
  (.seq (.block 1 (.seq (.reg [⟨(some 9), .mv (.t 7), none, none⟩, ⟨(some 4), .mv (.t 9), none, none⟩])
  (.reg [⟨(some 10), .mv (.t 3), none, none⟩, ⟨(some 11), .mv (.t 0), none, none⟩, ⟨(some 12), .mv (.t 4), none, none⟩, ⟨(some 13), .ixs (.t 11) (.t 12), none, none⟩, ⟨(some 14), .conv .u32 (.t 13), none, none⟩, ⟨(some 15), .mv (.t 4), none, none⟩, ⟨(some 16), .bin .rem (.t 15) (.v (.int .i64 4)), none, none⟩, ⟨(some 17), .bin .mul (.v (.int .i64 8)) (.t 16), none, none⟩, ⟨(some 18), .bin .sub (.v (.int .i64 24)) (.t 17), none, none⟩, ⟨(some 19), .bin .shl (.t 14) (.t 18), none, none⟩, ⟨(some 20), .bin .add (.t 10) (.t 19), none, none⟩, ⟨(some 3), .mv (.t 20), none, none⟩])))
  (.reg [⟨(some 21), .bin .add (.t 7) (.v (.int .i64 1)), none, none⟩, ⟨(some 7), .mv (.t 21), none, none⟩])))))))
  (.seq (.reg [⟨(some 22), .mv (.t 3), none, none⟩, ⟨(some 2), .mv (.t 22), none, none⟩])
  .ret))))⟩
/-- pochoir/pochoirref08.Table -/
def s27 : SFn :=
 ⟨29, [.tmp 2],
  (.seq (.reg [⟨(some 2), .mv (.v (.int .u32 0)), none, none⟩])
  (.seq (.reg [⟨(some 3), .mv (.v (.int .u32 0)), none, none⟩])
  (.seq (.seq (.reg [⟨(some 4), .mv (.v (.int .i64 0)), none, none⟩])
  (.block 0 (.loop (.seq (.seq (.reg [⟨(some 7), .mv (.t 4), none, none⟩, ⟨(some 8), .mv (.t 0), none, none⟩, ⟨(some 9), .len true (.t 8), none, none⟩, ⟨(some 10), .bin .lss (.t 7) (.t 9), none, none⟩])
  (.cond (.t 10) .skip (.exit 0)))
  (.seq (.block 1 (.seq (.reg [⟨(some 13), .mv (.t 0), none, none⟩, ⟨(some 14), .mv (.t 4), none, none⟩, ⟨(some 15), .ixs (.t 13) (.t 14), none, none⟩, ⟨(some 16), .conv .u32 (.t 15), none, none⟩, ⟨(some 5), .mv (.t 16), none, none⟩])
  (.seq (.seq (.reg [⟨(some 17), .mv (.t 4), none, none⟩, ⟨(some 18), .bin .rem (.t 17) (.v (.int .i64 4)), none, none⟩, ⟨(some 6), .mv (.t 18), none, none⟩])
  (.block 2 (.loop (.seq (.seq (.reg [⟨(some 19), .mv (.t 6), none, none⟩, ⟨(some 20), .bin .lss (.t 19) (.v (.int .i64 3)), none, none⟩])
  (.cond (.t 20) .skip (.exit 2)))
  (.seq (.block 3 (.reg [⟨(some 23), .mv (.t 5), none, none⟩, ⟨(some 24), .bin .mul (.t 23) (.v (.int .u32 256)), none, none⟩, ⟨(some 5), .mv (.t 24), none, none⟩]))
  (.reg [⟨(some 21), .mv (.t 6), none, none⟩, ⟨(some 22), .bin .add (.t 21) (.v (.int .i64 1)), none, none⟩, ⟨(some 6), .mv (.t 22), none, none⟩]))))))
  (.reg [⟨(some 25), .mv (.t 3), none, none⟩, ⟨(some 26), .mv (.t 5), none, none⟩, ⟨(some 27), .bin .add (.t 25) (.t 26), none, none⟩, ⟨(some 3), .mv (.t 27), none, none⟩]))))
  (.reg [⟨(some 11), .mv (.t 4), none, none⟩, ⟨(some 12), .bin .add (.t 11) (.v (.int .i64 1)), none, none⟩, ⟨(some 4), .mv (.t 12), none, none⟩]))))))
  (.seq (.reg [⟨(some 28), .mv (.t 3), none, none⟩, ⟨(some 2), .mv (.t 28), none, none⟩])
  .ret))))⟩
/-- pochoir/pochoirlaw07.awake -/
def s28 : SFn :=
 ⟨54, [.tmp 0],
  (.seq (.reg [⟨(some 0), .mv (.v (.bool false)), none, none⟩])
  (.seq (.reg [⟨(some 7), .call 29 [(.v (.str ⟨#[1, 2]⟩)), (.v (.int .i64 0))], none, none⟩, ⟨(some 6), .mv (.t 7), none, none⟩, ⟨(some 8), .extract (.t 6) 0, none, none⟩, ⟨(some 9), .extract (.t 6) 1, none, none⟩, ⟨(some 1), .mv (.t 8), none, none⟩, ⟨(some 2), .mv (.t 9), none, none⟩])
  (.seq (.reg [⟨(some 11), .call 29 [(.v (.str ⟨#[1, 2]⟩)), (.v (.int .i64 1))], none, none⟩, ⟨(some 10), .mv (.t 11), none, none⟩, ⟨(some 12), .extract (.t 10) 0, none, none⟩, ⟨(some 13), .extract (.t 10) 1, none, none⟩, ⟨(some 3), .mv (.t 12), none, none⟩, ⟨(some 4), .mv (.t 13), none, none⟩])
  (.seq (.reg [⟨(some 14), .call 38 [(.v (.str ⟨#[255, 254, 7]⟩))], none, none⟩, ⟨(some 5), .mv (.t 14), none, none⟩])
  (.seq (.reg [⟨(some 15), .mv (.t 1), none, none⟩, ⟨(some 16), .bin .eql (.t 15) (.v (.int .u16 258)), none, none⟩, ⟨(some 17), .mv (.t 16), none, none⟩, ⟨(some 18), .mv (.t 2), (some (17, true)), none⟩, ⟨(some 19), .bin .eql (.t 18) (.v (.int .i64 0)), (some (17, true)), none⟩, ⟨(some 20), .pick (.t 17) (.t 19) (.v (.bool false)), none, none⟩, ⟨(some 21), .mv (.t 20), none, none⟩, ⟨(some 22), .mv (.t 4), (some (21, true)), none⟩, ⟨(some 23), .bin .eql (.t 22) (.v (.int .i64 3)), (some (21, true)), none⟩, ⟨(some 24), .pick (.t 21) (.t 23) (.v (.bool false)), none, none⟩, ⟨(some 25), .mv (.t 24), none, none⟩, ⟨(some 26), .call 36 [(.v (.int .u16 258))], (some (25, true)), none⟩, ⟨(some 27), .bin .eql (.t 26) (.v (.str ⟨#[1, 2]⟩)), (some (25, true)), none⟩, ⟨(some 28), .pick (.t 25) (.t 27) (.v (.bool false)), none, none⟩, ⟨(some 29), .mv (.t 28), none, none⟩, ⟨(some 30), .mv (.t 5), (some (29, true)), none⟩, ⟨(some 31), .call 42 [(.t 30)], (some (29, true)), none⟩, ⟨(some 32), .bin .eql (.t 31) (.v (.int .i16 (-2))), (some (29, true)), none⟩, ⟨(some 33), .pick (.t 29) (.t 32) (.v (.bool false)), none, none⟩, ⟨(some 34), .mv (.t 33), none, none⟩, ⟨(some 35), .mv (.t 5), (some (34, true)), none⟩, ⟨(some 36), .call 39 [(.t 35)], (some (34, true)), none⟩, ⟨(some 37), .bin .eql (.t 36) (.v (.int .u8 7)), (some (34, true)), none⟩, ⟨(some 38), .pick (.t 34) (.t 37) (.v (.bool false)), none, none⟩, ⟨(some 39), .mv (.t 38), none, none⟩, ⟨(some 40), .mv (.t 5), (some (39, true)), none⟩, ⟨(some 41), .call 39 [(.t 40)], (some (39, true)), none⟩, ⟨(some 42), .bin .eql (.t 41) (.v (.int .u8 0)), (some (39, true)), none⟩, ⟨(some 43), .pick (.t 39) (.t 42) (.v (.bool false)), none, none⟩, ⟨(some 44), .mv (.t 43), none, none⟩, ⟨(some 45), .mv (.t 5), (some (44, true)), none⟩, ⟨(some 46), .call 49 [(.t 45)], (some (44, true)), none⟩, ⟨(some 47), .bin .eql (.t 46) (.v (.int .i64 3)), (some (44, true)), none⟩, ⟨(some 48), .pick (.t 44) (.t 47) (.v (.bool false)), none, none⟩, ⟨(some 49), .mv (.t 48), none, none⟩, ⟨(some 50), .mv (.t 5), (some (49, true)), none⟩, ⟨(some 51), .call 47 [(.t 50)], (some (49, true)), none⟩, ⟨(some 52), .bin .eql (.t 51) (.v (.int .i64 3)), (some (49, true)), none⟩, ⟨(some 53), .pick (.t 49) (.t 52) (.v (.bool false)), none, none⟩, ⟨(some 0), .mv (.t 53), none, none⟩])
  .ret)))))⟩
/-- pochoir/octet.U16 -/
def s29 : SFn :=
 ⟨18, [.tmp 4, .tmp 5],
  (.seq (.reg [⟨(some 4), .mv (.v (.int .u16 0)), none, none⟩, ⟨(some 5), .mv (.v (.int .i64 0)), none, none⟩])
  (.seq (.reg [⟨(some 9), .mv (.t 0), none, none⟩, ⟨(some 10), .mv (.t 1), none, none⟩, ⟨(some 11), .call 33 [(.t 9), (.t 10), (.v (.int .i64 2))], none, none⟩, ⟨(some 8), .mv (.t 11), none, none⟩, ⟨(some 12), .extract (.t 8) 0, none, none⟩, ⟨(some 13), .extract (.t 8) 1, none, none⟩, ⟨(some 6), .mv (.t 12), none, none⟩, ⟨(some 7), .mv (.t 13), none, none⟩])
  (.seq (.reg [⟨(some 14), .mv (.t 6), none, none⟩, ⟨(some 15), .call 70 [(.t 14)], none, none⟩, ⟨(some 16), .conv .u16 (.t 15), none, none⟩, ⟨(some 17), .mv (.t 7), none, none⟩, ⟨(some 4), .mv (.t 16), none, none⟩, ⟨(some 5), .mv (.t 17), none, none⟩])
  .ret)))⟩
/-- pochoir/pochoirref07.U16 -/
def s30 : SFn :=
 ⟨18, [.tmp 4, .tmp 5],
  (.seq (.reg [⟨(some 4), .mv (.v (.int .u16 0)), none, none⟩, ⟨(some 5), .mv (.v (.int .i64 0)), none, none⟩])
  (.seq (.reg [⟨(some 9), .mv (.t 0), none, none⟩, ⟨(some 10), .mv (.t 1), none, none⟩, ⟨(some 11), .call 34 [(.t 9), (.t 10), (.v (.int .i64 2))], none, none⟩, ⟨(some 8), .mv (.t 11), none, none⟩, ⟨(some 12), .extract (.t 8) 0, none, none⟩, ⟨(some 13), .extract (.t 8) 1, none, none⟩, ⟨(some 6), .mv (.t 12), none, none⟩, ⟨(some 7), .mv (.t 13), none, none⟩])
  (.seq (.reg [⟨(some 14), .mv (.t 6), none, none⟩, ⟨(some 15), .call 71 [(.t 14)], none, none⟩, ⟨(some 16), .conv .u16 (.t 15), none, none⟩, ⟨(some 17), .mv (.t 7), none, none⟩, ⟨(some 4), .mv (.t 16), none, none⟩, ⟨(some 5), .mv (.t 17), none, none⟩])
  .ret)))⟩
/-- pochoir/octet.U32 -/
def s31 : SFn :=
 ⟨17, [.tmp 4, .tmp 5],
  (.seq (.reg [⟨(some 4), .mv (.v (.int .u32 0)), none, none⟩, ⟨(some 5), .mv (.v (.int .i64 0)), none, none⟩])
  (.seq (.reg [⟨(some 9), .mv (.t 0), none, none⟩, ⟨(some 10), .mv (.t 1), none, none⟩, ⟨(some 11), .call 33 [(.t 9), (.t 10), (.v (.int .i64 4))], none, none⟩, ⟨(some 8), .mv (.t 11), none, none⟩, ⟨(some 12), .extract (.t 8) 0, none, none⟩, ⟨(some 13), .extract (.t 8) 1, none, none⟩, ⟨(some 6), .mv (.t 12), none, none⟩, ⟨(some 7), .mv (.t 13), none, none⟩])
  (.seq (.reg [⟨(some 14), .mv (.t 6), none, none⟩, ⟨(some 15), .call 70 [(.t 14)], none, none⟩, ⟨(some 16), .mv (.t 7), none, none⟩, ⟨(some 4), .mv (.t 15), none, none⟩, ⟨(some 5), .mv (.t 16), none, none⟩])
  .ret)))⟩
/-- pochoir/pochoirref07.U32 -/
def s32 : SFn :=
 ⟨17, [.tmp 4, .tmp 5],
  (.seq (.reg [⟨(some 4), .mv (.v (.int .u32 0)), none, none⟩, ⟨(some 5), .mv (.v (.int .i64 0)), none, none⟩])
  (.seq (.reg [⟨(some 9), .mv (.t 0), none, none⟩, ⟨(some 10), .mv (.t 1), none, none⟩, ⟨(some 11), .call 34 [(.t 9), (.t 10), (.v (.int .i64 4))], none, none⟩, ⟨(some 8), .mv (.t 11), none, none⟩, ⟨(some 12), .extract (.t 8) 0, none, none⟩, ⟨(some 13), .extract (.t 8) 1, none, none⟩, ⟨(some 6), .mv (.t 12), none, none⟩, ⟨(some 7), .mv (.t 13), none, none⟩])
  (.seq (.reg [⟨(some 14), .mv (.t 6), none, none⟩, ⟨(some 15), .call 71 [(.t 14)], none, none⟩, ⟨(some 16), .mv (.t 7), none, none⟩, ⟨(some 4), .mv (.t 15), none, none⟩, ⟨(some 5), .mv (.t 16), none, none⟩])
  .ret)))⟩
/-- pochoir/octet.Cut -/
def s33 : SFn :=
 ⟨34, [.tmp 6, .tmp 7],
  (.seq (.reg [⟨(some 6), .mv (.v (.str ⟨#[]⟩)), none, none⟩, ⟨(some 7), .mv (.v (.int .i64 0)), none, none⟩])
  (.seq (.seq (.reg [⟨(some 8), .mv (.t 1), none, none⟩, ⟨(some 9), .bin .lss (.t 8) (.v (.int .i64 0)), none, none⟩, ⟨(some 10), .mv (.t 9), none, none⟩, ⟨(some 11), .mv (.t 2), (some (10, false)), none⟩, ⟨(some 12), .bin .lss (.t 11) (.v (.int .i64 0)), (some (10, false)), none⟩, ⟨(some 13), .pick (.t 10) (.v (.bool true)) (.t 12), none, none⟩, ⟨(some 14), .mv (.t 13), none, none⟩, ⟨(some 15), .mv (.t 1), (some (14, false)), none⟩, ⟨(some 16), .mv (.t 0), (some (14, false)), none⟩, ⟨(some 17), .len true (.t 16), (some (14, false)), none⟩, ⟨(some 18), .bin .gtr (.t 15) (.t 17), (some (14, false)), none⟩, ⟨(some 19), .pick (.t 14) (.v (.bool true)) (.t 18), none, none⟩, ⟨(some 20), .mv (.t 19), none, none⟩, ⟨(some 21), .mv (.t 2), (some (20, false)), none⟩, ⟨(some 22), .mv (.t 0), (some (20, false)), none⟩, ⟨(some 23), .len true (.t 22), (some (20, false)), none⟩, ⟨(some 24), .mv (.t 1), (some (20, false)), none⟩, ⟨(some 25), .bin .sub (.t 23) (.t 24), (some (20, false)), none⟩, ⟨(some 26), .bin .gtr (.t 21) (.t 25), (some (20, false)), none⟩, ⟨(some 27), .pick (.t 20) (.v (.bool true)) (.t 26), none, none⟩])
  (.cond (.t 27) (.seq (.reg [⟨(some 6), .mv (.v (.str ⟨#[]⟩)), none, none⟩, ⟨(some 7), .mv (.v (.int .i64 3)), none, none⟩])
  .ret) .skip))
  (.seq (.reg [⟨(some 28), .mv (.t 0), none, none⟩, ⟨(some 29), .mv (.t 1), none, none⟩, ⟨(some 30), .mv (.t 1), none, none⟩, ⟨(some 31), .mv (.t 2), none, none⟩, ⟨(some 32), .bin .add (.t 30) (.t 31), none, none⟩, ⟨(some 33), .slstr (.t 28) (some (.t 29)) (some (.t 32)), none, none⟩, ⟨(some 6), .mv (.t 33), none, none⟩, ⟨(some 7), .mv (.v (.int .i64 0)), none, none⟩])
  .ret)))⟩
/-- pochoir/pochoirref07.Cut -/
def s34 : SFn :=
 ⟨34, [.tmp 6, .tmp 7],
  (.seq (.reg [⟨(some 6), .mv (.v (.str ⟨#[]⟩)), none, none⟩, ⟨(some 7), .mv (.v (.int .i64 0)), none, none⟩])
  (.seq (.seq (.reg [⟨(some 8), .mv (.t 1), none, none⟩, ⟨(some 9), .bin .lss (.t 8) (.v (.int .i64 0)), none, none⟩, ⟨(some 10), .mv (.t 9), none, none⟩, ⟨(some 11), .mv (.t 2), (some (10, false)), none⟩, ⟨(some 12), .bin .lss (.t 11) (.v (.int .i64 0)), (some (10, false)), none⟩, ⟨(some 13), .pick (.t 10) (.v (.bool true)) (.t 12), none, none⟩, ⟨(some 14), .mv (.t 13), none, none⟩, ⟨(some 15), .mv (.t 1), (some (14, false)), none⟩, ⟨(some 16), .mv (.t 0), (some (14, false)), none⟩, ⟨(some 17), .len true (.t 16), (some (14, false)), none⟩, ⟨(some 18), .bin .gtr (.t 15) (.t 17), (some (14, false)), none⟩, ⟨(some 19), .pick (.t 14) (.v (.bool true)) (.t 18), none, none⟩, ⟨(some 20), .mv (.t 19), none, none⟩, ⟨(some 21), .mv (.t 2), (some (20, false)), none⟩, ⟨(some 22), .mv (.t 0), (some (20, false)), none⟩, ⟨(some 23), .len true (.t 22), (some (20, false)), none⟩, ⟨(some 24), .mv (.t 1), (some (20, false)), none⟩, ⟨(some 25), .bin .sub (.t 23) (.t 24), (some (20, false)), none⟩, ⟨(some 26), .bin .gtr (.t 21) (.t 25), (some (20, false)), none⟩, ⟨(some 27), .pick (.t 20) (.v (.bool true)) (.t 26), none, none⟩])
  (.cond (.t 27) (.seq (.reg [⟨(some 6), .mv (.v (.str ⟨#[]⟩)), none, none⟩, ⟨(some 7), .mv (.v (.int .i64 3)), none, none⟩])
  .ret) .skip))
  (.seq (.reg [⟨(some 28), .mv (.t 0), none, none⟩, ⟨(some 29), .mv (.t 1), none, none⟩, ⟨(some 30), .mv (.t 1), none, none⟩, ⟨(some 31), .mv (.t 2), none, none⟩, ⟨(some 32), .bin .add (.t 30) (.t 31), none, none⟩, ⟨(some 33), .slstr (.t 28) (some (.t 29)) (some (.t 32)), none, none⟩, ⟨(some 6), .mv (.t 33), none, none⟩, ⟨(some 7), .mv (.v (.int .i64 0)), none, none⟩])
  .ret)))⟩
/-- pochoir/octet.P32 -/
def s35 : SFn :=
 ⟨11, [.tmp 2],
  (.seq (.reg [⟨(some 2), .mv (.v (.str ⟨#[]⟩)), none, none⟩])
  (.seq (.reg [⟨(some 3), .mv (.t 0), none, none⟩, ⟨(some 4), .bin .shr (.t 3) (.v (.int .u64 16)), none, none⟩, ⟨(some 5), .conv .u16 (.t 4), none, none⟩, ⟨(some 6), .call 36 [(.t 5)], none, none⟩, ⟨(some 7), .mv (.t 0), none, none⟩, ⟨(some 8), .conv .u16 (.t 7), none, none⟩, ⟨(some 9), .call 36 [(.t 8)], none, none⟩, ⟨(some 10), .bin .add (.t 6) (.t 9), none, none⟩, ⟨(some 2), .mv (.t 10), none, none⟩])
  .ret))⟩
/-- pochoir/octet.P16 -/
def s36 : SFn :=
 ⟨10, [.tmp 2],
  (.seq (.reg [⟨(some 2), .mv (.v (.str ⟨#[]⟩)), none, none⟩])
  (.seq (.reg [⟨(some 3), .mv (.t 0), none, none⟩, ⟨(some 4), .bin .shr (.t 3) (.v (.int .u64 8)), none, none⟩, ⟨(some 5), .conv .u8 (.t 4), none, none⟩, ⟨(some 6), .mv (.t 0), none, none⟩, ⟨(some 7), .conv .u8 (.t 6), none, none⟩, ⟨(some 8), .bsl 5 [(.int .u8 0), (.int .u8 0)] 2 1 [(0, 1, (.t 5)), (1, 1, (.t 7))], none, none⟩, ⟨(some 9), .b2s (.t 8), none, none⟩, ⟨(some 2), .mv (.t 9), none, none⟩])
  .ret))⟩
/-- pochoir/pochoirref07.Put -/
def s37 : SFn :=
 ⟨22, [.tmp 4],
  (.seq (.reg [⟨(some 4), .mv (.v (.str ⟨#[]⟩)), none, none⟩])
  (.seq (.reg [⟨(some 5), .mv (.v (.str ⟨#[]⟩)), none, none⟩])
  (.seq (.seq (.reg [⟨(some 6), .mv (.v (.int .i64 0)), none, none⟩])
  (.block 0 (.loop (.seq (.seq (.reg [⟨(some 7), .mv (.t 6), none, none⟩, ⟨(some 8), .mv (.t 1), none, none⟩, ⟨(some 9), .bin .lss (.t 7) (.t 8), none, none⟩])
  (.cond (.t 9) .skip (.exit 0)))
  (.seq (.block 1 (.seq (.reg [⟨(some 12), .mv (.t 0), none, none⟩, ⟨(some 13), .bin .rem (.t 12) (.v (.int .u32 256)), none, none⟩, ⟨(some 14), .conv .u8 (.t 13), none, none⟩, ⟨(some 15), .bsl 5 [(.int .u8 0)] 1 1 [(0, 1, (.t 14))], none, none⟩, ⟨(some 16), .b2s (.t 15), none, none⟩, ⟨(some 17), .mv (.t 5), none, none⟩, ⟨(some 18), .bin .add (.t 16) (.t 17), none, none⟩, ⟨(some 5), .mv (.t 18), none, none⟩])
  (.reg [⟨(some 19), .mv (.t 0), none, none⟩, ⟨(some 20), .bin .quo (.t 19) (.v (.int .u32 256)), none, none⟩, ⟨(some 0), .mv (.t 20), none, none⟩])))
  (.reg [⟨(some 10), .mv (.t 6), none, none⟩, ⟨(some 11), .bin .add (.t 10) (.v (.int .i64 1)), none, none⟩, ⟨(some 6), .mv (.t 11), none, none⟩]))))))
  (.seq (.reg [⟨(some 21), .mv (.t 5), none, none⟩, ⟨(some 4), .mv (.t 21), none, none⟩])
  .ret))))⟩
/-- pochoir/octet.New -/
def s38 : SFn :=
 ⟨6, [.tmp 2],
  (.seq (.reg [⟨(some 2), .mv (.v .nilp), none, none⟩])
  (.seq (.reg [⟨(some 3), .mv (.t 0), none, none⟩, ⟨(some 4), .build [(.str ⟨#[]⟩), (.int .i64 0), (.bool false)] [(0, 1, (.t 3))], none, none⟩, ⟨(some 5), .box 99 (.t 4), none, none⟩, ⟨(some 2), .mv (.t 5), none, none⟩])
  .ret))⟩
/-- (*pochoir/octet.Reader).U8 -/
def s39 : SFn :=
 ⟨7, [.tmp 2],
  (.seq (.reg [⟨(some 2), .mv (.v (.int .u8 0)), none, none⟩])
  (.seq (.reg [⟨(some 3), .mv (.t 0), none, none⟩, ⟨(some 4), .call 72 [(.t 3), (.v (.int .i64 1))], none, none⟩, ⟨(some 5), .call 70 [(.t 4)], none, none⟩, ⟨(some 6), .conv .u8 (.t 5), none, none⟩, ⟨(some 2), .mv (.t 6), none, none⟩])
  .ret))⟩
/-- (*pochoir/pochoirref07.Reader).Num -/
def s40 : SFn :=
 ⟨9, [.tmp 4],
  (.seq (.reg [⟨(some 4), .mv (.v (.int .u32 0)), none, none⟩])
  (.seq (.reg [⟨(some 5), .mv (.t 0), none, none⟩, ⟨(some 6), .mv (.t 1), none, none⟩, ⟨(some 7), .call 46 [(.t 5), (.t 6)], none, none⟩, ⟨(some 8), .call 71 [(.t 7)], none, none⟩, ⟨(some 4), .mv (.t 8), none, none⟩])
  .ret))⟩
/-- (*pochoir/octet.Reader).U16 -/
def s41 : SFn :=
 ⟨7, [.tmp 2],
  (.seq (.reg [⟨(some 2), .mv (.v (.int .u16 0)), none, none⟩])
  (.seq (.reg [⟨(some 3), .mv (.t 0), none, none⟩, ⟨(some 4), .call 72 [(.t 3), (.v (.int .i64 2))], none, none⟩, ⟨(some 5), .call 70 [(.t 4)], none, none⟩, ⟨(some 6), .conv .u16 (.t 5), none, none⟩, ⟨(some 2), .mv (.t 6), none, none⟩])
  .ret))⟩
/-- (*pochoir/octet.Reader).I16 -/
def s42 : SFn :=
 ⟨6, [.tmp 2],
  (.seq (.reg [⟨(some 2), .mv (.v (.int .i16 0)), none, none⟩])
  (.seq (.reg [⟨(some 3), .mv (.t 0), none, none⟩, ⟨(some 4), .call 41 [(.t 3)], none, none⟩, ⟨(some 5), .conv .i16 (.t 4), none, none⟩, ⟨(some 2), .mv (.t 5), none, none⟩])
  .ret))⟩
/-- (*pochoir/pochoirref07.Reader).I16 -/
def s43 : SFn :=
 ⟨12, [.tmp 2],
  (.seq (.reg [⟨(some 2), .mv (.v (.int .i64 0)), none, none⟩])
  (.seq (.reg [⟨(some 4), .mv (.t 0), none, none⟩, ⟨(some 5), .call 40 [(.t 4), (.v (.int .i64 2))], none, none⟩, ⟨(some 6), .conv .i64 (.t 5), none, none⟩, ⟨(some 3), .mv (.t 6), none, none⟩])
  (.seq (.seq (.reg [⟨(some 7), .mv (.t 3), none, none⟩, ⟨(some 8), .bin .geq (.t 7) (.v (.int .i64 32768)), none, none⟩])
  (.cond (.t 8) (.seq (.reg [⟨(some 9), .mv (.t 3), none, none⟩, ⟨(some 10), .bin .sub (.t 9) (.v (.int .i64 65536)), none, none⟩, ⟨(some 2), .mv (.t 10), none, none⟩])
  .ret) .skip))
  (.seq (.reg [⟨(some 11), .mv (.t 3), none, none⟩, ⟨(some 2), .mv (.t 11), none, none⟩])
  .ret))))⟩
/-- (*pochoir/octet.Reader).U32 -/
def s44 : SFn :=
 ⟨6, [.tmp 2],
  (.seq (.reg [⟨(some 2), .mv (.v (.int .u32 0)), none, none⟩])
  (.seq (.reg [⟨(some 3), .mv (.t 0), none, none⟩, ⟨(some 4), .call 72 [(.t 3), (.v (.int .i64 4))], none, none⟩, ⟨(some 5), .call 70 [(.t 4)], none, none⟩, ⟨(some 2), .mv (.t 5), none, none⟩])
  .ret))⟩
/-- (*pochoir/octet.Reader).Skip -/
def s45 : SFn :=
 ⟨7, [],
  (.reg [⟨(some 4), .mv (.t 0), none, none⟩, ⟨(some 5), .mv (.t 1), none, none⟩, ⟨(some 6), .call 72 [(.t 4), (.t 5)], none, none⟩])⟩
/-- (*pochoir/pochoirref07.Reader).Take -/
def s46 : SFn :=
 ⟨41, [.tmp 4],
  (.seq (.reg [⟨(some 4), .mv (.v (.str ⟨#[]⟩)), none, none⟩])
  (.seq (.regd [⟨(some 8), .mv (.t 0), none, (some [])⟩, ⟨(some 9), .nilck (.t 8), none, (some [])⟩, ⟨(some 10), .faddr 0 (.t 9), none, (some [])⟩, ⟨(some 11), .load none (.t 10), none, (some [])⟩, ⟨(some 12), .mv (.t 0), none, (some [])⟩, ⟨(some 13), .nilck (.t 12), none, (some [])⟩, ⟨(some 14), .faddr 1 (.t 13), none, (some [])⟩, ⟨(some 15), .load none (.t 14), none, (some [])⟩, ⟨(some 16), .mv (.t 1), none, (some [])⟩, ⟨(some 17), .call 34 [(.t 11), (.t 15), (.t 16)], none, none⟩, ⟨(some 7), .mv (.t 17), none, (some [])⟩, ⟨(some 18), .extract (.t 7) 0, none, (some [])⟩, ⟨(some 19), .extract (.t 7) 1, none, (some [])⟩, ⟨(some 5), .mv (.t 18), none, (some [])⟩, ⟨(some 6), .mv (.t 19), none, (some [])⟩])
  (.seq (.seq (.reg [⟨(some 20), .mv (.t 0), none, none⟩, ⟨(some 21), .nilck (.t 20), none, none⟩, ⟨(some 22), .faddr 2 (.t 21), none, none⟩, ⟨(some 23), .load none (.t 22), none, none⟩, ⟨(some 24), .mv (.t 23), none, none⟩, ⟨(some 25), .mv (.t 6), (some (24, false)), none⟩, ⟨(some 26), .bin .neq (.t 25) (.v (.int .i64 0)), (some (24, false)), none⟩, ⟨(some 27), .pick (.t 24) (.v (.bool true)) (.t 26), none, none⟩])
  (.cond (.t 27) (.seq (.reg [⟨(some 28), .mv (.t 0), none, none⟩, ⟨(some 29), .nilck (.t 28), none, none⟩, ⟨(some 30), .faddr 2 (.t 29), none, none⟩, ⟨none, .store 1 (.t 30) (.v (.bool true)), none, none⟩])
  (.seq (.reg [⟨(some 4), .mv (.v (.str ⟨#[]⟩)), none, none⟩])
  .ret)) .skip))
  (.seq (.reg [⟨(some 31), .mv (.t 0), none, none⟩, ⟨(some 32), .mv (.t 0), none, none⟩, ⟨(some 33), .nilck (.t 32), none, none⟩, ⟨(some 34), .faddr 1 (.t 33), none, none⟩, ⟨(some 35), .load none (.t 34), none, none⟩, ⟨(some 36), .mv (.t 1), none, none⟩, ⟨(some 37), .bin .add (.t 35) (.t 36), none, none⟩, ⟨(some 38), .nilck (.t 31), none, none⟩, ⟨(some 39), .faddr 1 (.t 38), none, none⟩, ⟨none, .store 1 (.t 39) (.t 37), none, none⟩])
  (.seq (.reg [⟨(some 40), .mv (.t 5), none, none⟩, ⟨(some 4), .mv (.t 40), none, none⟩])
  .ret)))))⟩
/-- (*pochoir/octet.Reader).At -/
def s47 : SFn :=
 ⟨9, [.tmp 2],
  (.seq (.reg [⟨(some 2), .mv (.v (.int .i64 0)), none, none⟩])
  (.seq (.seq (.reg [⟨(some 3), .mv (.t 0), none, none⟩, ⟨(some 4), .eqs 1 [] false (.t 3) (.v .nilp), none, none⟩])
  (.cond (.t 4) (.seq (.reg [⟨(some 2), .mv (.v (.int .i64 0)), none, none⟩])
  .ret) .skip))
  (.seq (.reg [⟨(some 5), .mv (.t 0), none, none⟩, ⟨(some 6), .nilck (.t 5), none, none⟩, ⟨(some 7), .faddr 1 (.t 6), none, none⟩, ⟨(some 8), .load none (.t 7), none, none⟩, ⟨(some 2), .mv (.t 8), none, none⟩])
  .ret)))⟩
/-- (*pochoir/octet.Reader).Left -/
def s48 : SFn :=
 ⟨15, [.tmp 2],
  (.seq (.reg [⟨(some 2), .mv (.v (.int .i64 0)), none, none⟩])
  (.seq (.seq (.reg [⟨(some 3), .mv (.t 0), none, none⟩, ⟨(some 4), .eqs 1 [] false (.t 3) (.v .nilp), none, none⟩])
  (.cond (.t 4) (.seq (.reg [⟨(some 2), .mv (.v (.int .i64 0)), none, none⟩])
  .ret) .skip))
  (.seq (.regd [⟨(some 5), .mv (.t 0), none, (some [])⟩, ⟨(some 6), .nilck (.t 5), none, (some [])⟩, ⟨(some 7), .faddr 0 (.t 6), none, (some [])⟩, ⟨(some 8), .load none (.t 7), none, (some [])⟩, ⟨(some 9), .len true (.t 8), none, (some [])⟩, ⟨(some 10), .mv (.t 0), none, (some [])⟩, ⟨(some 11), .nilck (.t 10), none, (some [])⟩, ⟨(some 12), .faddr 1 (.t 11), none, (some [])⟩, ⟨(some 13), .load none (.t 12), none, (some [])⟩, ⟨(some 14), .bin .sub (.t 9) (.t 13), none, (some [])⟩, ⟨(some 2), .mv (.t 14), none, (some [])⟩])
  .ret)))⟩
/-- (*pochoir/octet.Reader).Err -/
def s49 : SFn :=
 ⟨11, [.tmp 2],
  (.seq (.reg [⟨(some 2), .mv (.v (.int .i64 0)), none, none⟩])
  (.seq (.seq (.reg [⟨(some 3), .mv (.t 0), none, none⟩, ⟨(some 4), .eqs 1 [] false (.t 3) (.v .nilp), none, none⟩, ⟨(some 5), .mv (.t 4), none, none⟩, ⟨(some 6), .mv (.t 0), (some (5, false)), none⟩, ⟨(some 7), .nilck (.t 6), (some (5, false)), none⟩, ⟨(some 8), .faddr 2 (.t 7), (some (5, false)), none⟩, ⟨(some 9), .load none (.t 8), (some (5, false)), none⟩, ⟨(some 10), .pick (.t 5) (.v (.bool true)) (.t 9), none, none⟩])
  (.cond (.t 10) (.seq (.reg [⟨(some 2), .mv (.v (.int .i64 3)), none, none⟩])
  .ret) .skip))
  (.seq (.reg [⟨(some 2), .mv (.v (.int .i64 0)), none, none⟩])
  .ret)))⟩
/-- pochoir/sum.Join -/
def s50 : SFn :=
 ⟨51, [.tmp 6],
  (.seq (.reg [⟨(some 6), .mv (.v (.int .u32 0)), none, none⟩])
  (.seq (.seq (.reg [⟨(some 11), .mv (.t 2), none, none⟩, ⟨(some 12), .bin .leq (.t 11) (.v (.int .i64 0)), none, none⟩, ⟨(some 13), .mv (.t 12), none, none⟩, ⟨(some 14), .mv (.t 2), (some (13, false)), none⟩, ⟨(some 15), .bin .gtr (.t 14) (.v (.int .i64 1048576)), (some (13, false)), none⟩, ⟨(some 16), .pick (.t 13) (.v (.bool true)) (.t 15), none, none⟩])
  (.cond (.t 16) (.seq (.reg [⟨(some 17), .mv (.t 0), none, none⟩, ⟨(some 18), .mv (.t 1), none, none⟩, ⟨(some 19), .mv (.t 2), none, none⟩, ⟨(some 20), .call 73 [(.t 17), (.t 18), (.t 19)], none, none⟩, ⟨(some 6), .mv (.t 20), none, none⟩])
  .ret) .skip))
  (.seq (.reg [⟨(some 21), .build [(.int .u32 0), (.int .u32 0), (.int .u32 0), (.int .u32 0), (.int .u32 0), (.int .u32 0), (.int .u32 0), (.int .u32 0), (.int .u32 0), (.int .u32 0), (.int .u32 0), (.int .u32 0), (.int .u32 0), (.int .u32 0), (.int .u32 0), (.int .u32 0), (.int .u32 0), (.int .u32 0), (.int .u32 0), (.int .u32 0), (.int .u32 0), (.int .u32 0), (.int .u32 0), (.int .u32 0), (.int .u32 0), (.int .u32 0), (.int .u32 0), (.int .u32 0), (.int .u32 0), (.int .u32 0), (.int .u32 0), (.int .u32 0)] [], none, none⟩, ⟨(some 22), .box 102 (.t 21), none, none⟩, ⟨(some 7), .mv (.t 22), none, none⟩])
  (.seq (.seq (.reg [⟨(some 23), .mv (.v (.int .i64 0)), none, none⟩])
  (.block 0 (.loop (.seq (.reg [⟨(some 24), .bin .lss (.t 23) (.v (.int .i64 32)), none, none⟩])
  (.seq (.cond (.t 24) .skip (.exit 0))
  (.seq (.block 1 (.seq (.reg [⟨(some 25), .mv (.t 23), none, none⟩, ⟨(some 8), .mv (.t 25), none, none⟩])
  (.regd [⟨(some 26), .mv (.t 7), none, (some [])⟩, ⟨(some 27), .mv (.t 8), none, (some [])⟩, ⟨(some 28), .mv (.t 8), none, (some [])⟩, ⟨(some 29), .bin .shl (.v (.int .u32 1)) (.t 28), none, (some [])⟩, ⟨(some 30), .call 74 [(.t 29), (.v (.int .i64 8))], none, none⟩, ⟨(some 31), .nilck (.t 26), none, (some [4])⟩, ⟨(some 32), .iarr 32 1 (.t 31) (.t 27), none, (some [])⟩, ⟨none, .store 1 (.t 32) (.t 30), none, none⟩])))
  (.reg [⟨(some 33), .bin .add (.t 23) (.v (.int .i64 1)), none, none⟩, ⟨(some 23), .mv (.t 33), none, none⟩])))))))
  (.seq (.reg [⟨(some 34), .mv (.t 0), none, none⟩, ⟨(some 9), .mv (.t 34), none, none⟩])
  (.seq (.seq (.reg [⟨(some 35), .mv (.t 2), none, none⟩, ⟨(some 10), .mv (.t 35), none, none⟩])
  (.block 2 (.loop (.seq (.seq (.reg [⟨(some 36), .mv (.t 10), none, none⟩, ⟨(some 37), .bin .gtr (.t 36) (.v (.int .i64 0)), none, none⟩])
  (.cond (.t 37) .skip (.exit 2)))
  (.seq (.block 3 (.seq (.seq (.reg [⟨(some 40), .mv (.t 10), none, none⟩, ⟨(some 41), .bin .and (.t 40) (.v (.int .i64 1)), none, none⟩, ⟨(some 42), .bin .eql (.t 41) (.v (.int .i64 1)), none, none⟩])
  (.cond (.t 42) (.reg [⟨(some 43), .mv (.t 7), none, none⟩, ⟨(some 44), .mv (.t 9), none, none⟩, ⟨(some 45), .call 75 [(.t 43), (.t 44)], none, none⟩, ⟨(some 9), .mv (.t 45), none, none⟩]) .skip))
  (.reg [⟨(some 46), .mv (.t 7), none, none⟩, ⟨(some 47), .call 76 [(.t 46)], none, none⟩, ⟨(some 7), .mv (.t 47), none, none⟩])))
  (.reg [⟨(some 38), .mv (.t 10), none, none⟩, ⟨(some 39), .bin .shr (.t 38) (.v (.int .u64 1)), none, none⟩, ⟨(some 10), .mv (.t 39), none, none⟩]))))))
  (.seq (.reg [⟨(some 48), .mv (.t 9), none, none⟩, ⟨(some 49), .mv (.t 1), none, none⟩, ⟨(some 50), .bin .xor (.t 48) (.t 49), none, none⟩, ⟨(some 6), .mv (.t 50), none, none⟩])
  .ret)))))))⟩
/-- pochoir/pochoirlaw28.awake -/
def s51 : SFn :=
 ⟨48, [.tmp 0],
  (.seq (.reg [⟨(some 0), .mv (.v (.bool false)), none, none⟩])
  (.seq (.reg [⟨(some 4), .build [(.int .i64 0), (.int .i64 0), (.int .i64 0), (.int .i64 0)] [(2, 1, (.v (.int .i64 10))), (3, 1, (.v (.int .i64 10)))], none, none⟩, ⟨(some 5), .build [(.int .i64 0), (.int .i64 0), (.int .i64 0), (.int .i64 0)] [(2, 1, (.v (.int .i64 4))), (3, 1, (.v (.int .i64 3)))], none, none⟩, ⟨(some 1), .box 81 (.v (.agg [(.int .i64 0), (.int .i64 0), (.int .i64 0), (.int .i64 0)])), none, none⟩, ⟨(some 2), .box 81 (.v (.agg [(.int .i64 0), (.int .i64 0), (.int .i64 0), (.int .i64 0)])), none, none⟩, ⟨none, .store 4 (.t 1) (.t 4), none, none⟩, ⟨none, .store 4 (.t 2) (.t 5), none, none⟩])
  (.seq (.reg [⟨(some 6), .load (some 4) (.t 1), none, none⟩, ⟨(some 7), .load (some 4) (.t 2), none, none⟩, ⟨(some 8), .call 56 [(.t 6), (.t 7)], none, none⟩, ⟨(some 3), .mv (.t 8), none, none⟩])
  (.seq (.reg [⟨(some 9), .mv (.t 3), none, none⟩, ⟨(some 10), .len false (.t 9), none, none⟩, ⟨(some 11), .bin .eql (.t 10) (.v (.int .i64 2)), none, none⟩, ⟨(some 12), .mv (.t 11), none, none⟩, ⟨(some 13), .mv (.t 3), (some (12, true)), none⟩, ⟨(some 14), .iaddr 4 (.t 13) (.v (.int .i64 0)), (some (12, true)), none⟩, ⟨(some 15), .load (some 4) (.t 14), (some (12, true)), none⟩, ⟨(some 16), .build [(.int .i64 0), (.int .i64 0), (.int .i64 0), (.int .i64 0)] [(0, 1, (.v (.int .i64 4))), (2, 1, (.v (.int .i64 6))), (3, 1, (.v (.int .i64 10)))], (some (12, true)), none⟩, ⟨(some 17), .eqs 4 [1, 1, 1, 1] false (.t 15) (.t 16), (some (12, true)), none⟩, ⟨(some 18), .pick (.t 12) (.t 17) (.v (.bool false)), none, none⟩, ⟨(some 19), .mv (.t 18), none, none⟩, ⟨(some 20), .mv (.t 3), (some (19, true)), none⟩, ⟨(some 21), .iaddr 4 (.t 20) (.v (.int .i64 1)), (some (19, true)), none⟩, ⟨(some 22), .load (some 4) (.t 21), (some (19, true)), none⟩, ⟨(some 23), .build [(.int .i64 0), (.int .i64 0), (.int .i64 0), (.int .i64 0)] [(1, 1, (.v (.int .i64 3))), (2, 1, (.v (.int .i64 10))), (3, 1, (.v (.int .i64 7)))], (some (19, true)), none⟩, ⟨(some 24), .eqs 4 [1, 1, 1, 1] false (.t 22) (.t 23), (some (19, true)), none⟩, ⟨(some 25), .pick (.t 19) (.t 24) (.v (.bool false)), none, none⟩, ⟨(some 26), .mv (.t 25), none, none⟩, ⟨(some 27), .load (some 4) (.t 1), (some (26, true)), none⟩, ⟨(some 28), .load (some 4) (.t 2), (some (26, true)), none⟩, ⟨(some 29), .call 54 [(.t 27), (.t 28)], (some (26, true)), none⟩, ⟨(some 30), .pick (.t 26) (.t 29) (.v (.bool false)), none, none⟩, ⟨(some 31), .mv (.t 30), none, none⟩, ⟨(some 32), .load (some 4) (.t 1), (some (31, true)), none⟩, ⟨(some 33), .load (some 4) (.t 2), (some (31, true)), none⟩, ⟨(some 34), .call 55 [(.t 32), (.t 33)], (some (31, true)), none⟩, ⟨(some 35), .pick (.t 31) (.t 34) (.v (.bool false)), none, none⟩, ⟨(some 36), .mv (.t 35), none, none⟩, ⟨(some 37), .load (some 4) (.t 1), (some (36, true)), none⟩, ⟨(some 38), .call 52 [(.t 37)], (some (36, true)), none⟩, ⟨(some 39), .pick (.t 36) (.t 38) (.v (.bool false)), none, none⟩, ⟨(some 40), .mv (.t 39), none, none⟩, ⟨(some 41), .load (some 4) (.t 1), (some (40, true)), none⟩, ⟨(some 42), .load (some 4) (.t 2), (some (40, true)), none⟩, ⟨(some 43), .bsl 81 [(.int .i64 0), (.int .i64 0), (.int .i64 0), (.int .i64 0), (.int .i64 0), (.int .i64 0), (.int .i64 0), (.int .i64 0)] 2 4 [(0, 4, (.t 41)), (4, 4, (.t 42))], (some (40, true)), none⟩, ⟨(some 44), .call 63 [(.t 43)], (some (40, true)), none⟩, ⟨(some 45), .len false (.t 44), (some (40, true)), none⟩, ⟨(some 46), .bin .eql (.t 45) (.v (.int .i64 1)), (some (40, true)), none⟩, ⟨(some 47), .pick (.t 40) (.t 46) (.v (.bool false)), none, none⟩, ⟨(some 0), .mv (.t 47), none, none⟩])
  .ret))))⟩
/-- pochoir/rect.May -/
def s52 : SFn :=
 ⟨47, [.tmp 2],
  (.seq (.reg [⟨(some 1), .box 81 (.t 0), none, none⟩, ⟨(some 2), .mv (.v (.bool false)), none, none⟩])
  (.seq (.reg [⟨(some 3), .faddr 0 (.t 1), none, none⟩, ⟨(some 4), .load none (.t 3), none, none⟩, ⟨(some 5), .bin .geq (.t 4) (.v (.int .i64 0)), none, none⟩, ⟨(some 6), .mv (.t 5), none, none⟩, ⟨(some 7), .faddr 0 (.t 1), (some (6, true)), none⟩, ⟨(some 8), .load none (.t 7), (some (6, true)), none⟩, ⟨(some 9), .bin .lss (.t 8) (.v (.int .i64 1024)), (some (6, true)), none⟩, ⟨(some 10), .pick (.t 6) (.t 9) (.v (.bool false)), none, none⟩, ⟨(some 11), .mv (.t 10), none, none⟩, ⟨(some 12), .faddr 1 (.t 1), (some (11, true)), none⟩, ⟨(some 13), .load none (.t 12), (some (11, true)), none⟩, ⟨(some 14), .bin .geq (.t 13) (.v (.int .i64 0)), (some (11, true)), none⟩, ⟨(some 15), .pick (.t 11) (.t 14) (.v (.bool false)), none, none⟩, ⟨(some 16), .mv (.t 15), none, none⟩, ⟨(some 17), .faddr 1 (.t 1), (some (16, true)), none⟩, ⟨(some 18), .load none (.t 17), (some (16, true)), none⟩, ⟨(some 19), .bin .lss (.t 18) (.v (.int .i64 1024)), (some (16, true)), none⟩, ⟨(some 20), .pick (.t 16) (.t 19) (.v (.bool false)), none, none⟩, ⟨(some 21), .mv (.t 20), none, none⟩, ⟨(some 22), .faddr 2 (.t 1), (some (21, true)), none⟩, ⟨(some 23), .load none (.t 22), (some (21, true)), none⟩, ⟨(some 24), .bin .geq (.t 23) (.v (.int .i64 1)), (some (21, true)), none⟩, ⟨(some 25), .pick (.t 21) (.t 24) (.v (.bool false)), none, none⟩, ⟨(some 26), .mv (.t 25), none, none⟩, ⟨(some 27), .faddr 2 (.t 1), (some (26, true)), none⟩, ⟨(some 28), .load none (.t 27), (some (26, true)), none⟩, ⟨(some 29), .faddr 0 (.t 1), (some (26, true)), none⟩, ⟨(some 30), .load none (.t 29), (some (26, true)), none⟩, ⟨(some 31), .bin .sub (.v (.int .i64 1024)) (.t 30), (some (26, true)), none⟩, ⟨(some 32), .bin .leq (.t 28) (.t 31), (some (26, true)), none⟩, ⟨(some 33), .pick (.t 26) (.t 32) (.v (.bool false)), none, none⟩, ⟨(some 34), .mv (.t 33), none, none⟩, ⟨(some 35), .faddr 3 (.t 1), (some (34, true)), none⟩, ⟨(some 36), .load none (.t 35), (some (34, true)), none⟩, ⟨(some 37), .bin .geq (.t 36) (.v (.int .i64 1)), (some (34, true)), none⟩, ⟨(some 38), .pick (.t 34) (.t 37) (.v (.bool false)), none, none⟩, ⟨(some 39), .mv (.t 38), none, none⟩, ⟨(some 40), .faddr 3 (.t 1), (some (39, true)), none⟩, ⟨(some 41), .load none (.t 40), (some (39, true)), none⟩, ⟨(some 42), .faddr 1 (.t 1), (some (39, true)), none⟩, ⟨(some 43), .load none (.t 42), (some (39, true)), none⟩, ⟨(some 44), .bin .sub (.v (.int .i64 1024)) (.t 43), (some (39, true)), none⟩, ⟨(some 45), .bin .leq (.t 41) (.t 44), (some (39, true)), none⟩, ⟨(some 46), .pick (.t 39) (.t 45) (.v (.bool false)), none, none⟩, ⟨(some 2), .mv (.t 46), none, none⟩])
  .ret))⟩
/-- pochoir/pochoirref28.May -/
def s53 : SFn :=
 ⟨47, [.tmp 2],
  (.seq (.reg [⟨(some 1), .box 81 (.t 0), none, none⟩, ⟨(some 2), .mv (.v (.bool false)), none, none⟩])
  (.seq (.reg [⟨(some 3), .faddr 0 (.t 1), none, none⟩, ⟨(some 4), .load none (.t 3), none, none⟩, ⟨(some 5), .bin .geq (.t 4) (.v (.int .i64 0)), none, none⟩, ⟨(some 6), .mv (.t 5), none, none⟩, ⟨(some 7), .faddr 1 (.t 1), (some (6, true)), none⟩, ⟨(some 8), .load none (.t 7), (some (6, true)), none⟩, ⟨(some 9), .bin .geq (.t 8) (.v (.int .i64 0)), (some (6, true)), none⟩, ⟨(some 10), .pick (.t 6) (.t 9) (.v (.bool false)), none, none⟩, ⟨(some 11), .mv (.t 10), none, none⟩, ⟨(some 12), .faddr 2 (.t 1), (some (11, true)), none⟩, ⟨(some 13), .load none (.t 12), (some (11, true)), none⟩, ⟨(some 14), .bin .geq (.t 13) (.v (.int .i64 1)), (some (11, true)), none⟩, ⟨(some 15), .pick (.t 11) (.t 14) (.v (.bool false)), none, none⟩, ⟨(some 16), .mv (.t 15), none, none⟩, ⟨(some 17), .faddr 3 (.t 1), (some (16, true)), none⟩, ⟨(some 18), .load none (.t 17), (some (16, true)), none⟩, ⟨(some 19), .bin .geq (.t 18) (.v (.int .i64 1)), (some (16, true)), none⟩, ⟨(some 20), .pick (.t 16) (.t 19) (.v (.bool false)), none, none⟩, ⟨(some 21), .mv (.t 20), none, none⟩, ⟨(some 22), .faddr 0 (.t 1), (some (21, true)), none⟩, ⟨(some 23), .load none (.t 22), (some (21, true)), none⟩, ⟨(some 24), .bin .leq (.t 23) (.v (.int .i64 1024)), (some (21, true)), none⟩, ⟨(some 25), .pick (.t 21) (.t 24) (.v (.bool false)), none, none⟩, ⟨(some 26), .mv (.t 25), none, none⟩, ⟨(some 27), .faddr 1 (.t 1), (some (26, true)), none⟩, ⟨(some 28), .load none (.t 27), (some (26, true)), none⟩, ⟨(some 29), .bin .leq (.t 28) (.v (.int .i64 1024)), (some (26, true)), none⟩, ⟨(some 30), .pick (.t 26) (.t 29) (.v (.bool false)), none, none⟩, ⟨(some 31), .mv (.t 30), none, none⟩, ⟨(some 32), .faddr 2 (.t 1), (some (31, true)), none⟩, ⟨(some 33), .load none (.t 32), (some (31, true)), none⟩, ⟨(some 34), .faddr 0 (.t 1), (some (31, true)), none⟩, ⟨(some 35), .load none (.t 34), (some (31, true)), none⟩, ⟨(some 36), .bin .sub (.v (.int .i64 1024)) (.t 35), (some (31, true)), none⟩, ⟨(some 37), .bin .leq (.t 33) (.t 36), (some (31, true)), none⟩, ⟨(some 38), .pick (.t 31) (.t 37) (.v (.bool false)), none, none⟩, ⟨(some 39), .mv (.t 38), none, none⟩, ⟨(some 40), .faddr 3 (.t 1), (some (39, true)), none⟩, ⟨(some 41), .load none (.t 40), (some (39, true)), none⟩, ⟨(some 42), .faddr 1 (.t 1), (some (39, true)), none⟩, ⟨(some 43), .load none (.t 42), (some (39, true)), none⟩, ⟨(some 44), .bin .sub (.v (.int .i64 1024)) (.t 43), (some (39, true)), none⟩, ⟨(some 45), .bin .leq (.t 41) (.t 44), (some (39, true)), none⟩, ⟨(some 46), .pick (.t 39) (.t 45) (.v (.bool false)), none, none⟩, ⟨(some 2), .mv (.t 46), none, none⟩])
  .ret))⟩
/-- pochoir/rect.Has -/
def s54 : SFn :=
 ⟨16, [.tmp 4],
  (.seq (.reg [⟨(some 2), .box 81 (.t 0), none, none⟩, ⟨(some 3), .box 81 (.t 1), none, none⟩, ⟨(some 4), .mv (.v (.bool false)), none, none⟩])
  (.seq (.reg [⟨(some 5), .load (some 4) (.t 2), none, none⟩, ⟨(some 6), .call 52 [(.t 5)], none, none⟩, ⟨(some 7), .mv (.t 6), none, none⟩, ⟨(some 8), .load (some 4) (.t 3), (some (7, true)), none⟩, ⟨(some 9), .call 52 [(.t 8)], (some (7, true)), none⟩, ⟨(some 10), .pick (.t 7) (.t 9) (.v (.bool false)), none, none⟩, ⟨(some 11), .mv (.t 10), none, none⟩, ⟨(some 12), .load (some 4) (.t 2), (some (11, true)), none⟩, ⟨(some 13), .load (some 4) (.t 3), (some (11, true)), none⟩, ⟨(some 14), .call 77 [(.t 12), (.t 13)], (some (11, true)), none⟩, ⟨(some 15), .pick (.t 11) (.t 14) (.v (.bool false)), none, none⟩, ⟨(some 4), .mv (.t 15), none, none⟩])
  .ret))⟩
/-- pochoir/rect.Meet -/
def s55 : SFn :=
 ⟨16, [.tmp 4],
  (.seq (.reg [⟨(some 2), .box 81 (.t 0), none, none⟩, ⟨(some 3), .box 81 (.t 1), none, none⟩, ⟨(some 4), .mv (.v (.bool false)), none, none⟩])
  (.seq (.reg [⟨(some 5), .load (some 4) (.t 2), none, none⟩, ⟨(some 6), .call 52 [(.t 5)], none, none⟩, ⟨(some 7), .mv (.t 6), none, none⟩, ⟨(some 8), .load (some 4) (.t 3), (some (7, true)), none⟩, ⟨(some 9), .call 52 [(.t 8)], (some (7, true)), none⟩, ⟨(some 10), .pick (.t 7) (.t 9) (.v (.bool false)), none, none⟩, ⟨(some 11), .mv (.t 10), none, none⟩, ⟨(some 12), .load (some 4) (.t 2), (some (11, true)), none⟩, ⟨(some 13), .load (some 4) (.t 3), (some (11, true)), none⟩, ⟨(some 14), .call 78 [(.t 12), (.t 13)], (some (11, true)), none⟩, ⟨(some 15), .pick (.t 11) (.t 14) (.v (.bool false)), none, none⟩, ⟨(some 4), .mv (.t 15), none, none⟩])
  .ret))⟩
/-- pochoir/rect.Left -/
def s56 : SFn :=
 ⟨16, [.tmp 4],
  (.seq (.reg [⟨(some 2), .box 81 (.t 0), none, none⟩, ⟨(some 3), .box 81 (.t 1), none, none⟩, ⟨(some 4), .mv (.v .nils), none, none⟩])
  (.seq (.seq (.reg [⟨(some 5), .load (some 4) (.t 2), none, none⟩, ⟨(some 6), .call 52 [(.t 5)], none, none⟩, ⟨(some 7), .un .not (.t 6), none, none⟩, ⟨(some 8), .mv (.t 7), none, none⟩, ⟨(some 9), .load (some 4) (.t 3), (some (8, false)), none⟩, ⟨(some 10), .call 52 [(.t 9)], (some (8, false)), none⟩, ⟨(some 11), .un .not (.t 10), (some (8, false)), none⟩, ⟨(some 12), .pick (.t 8) (.v (.bool true)) (.t 11), none, none⟩])
  (.cond (.t 12) (.seq (.reg [⟨(some 4), .mv (.v .nils), none, none⟩])
  .ret) .skip))
  (.seq (.reg [⟨(some 13), .load (some 4) (.t 2), none, none⟩, ⟨(some 14), .load (some 4) (.t 3), none, none⟩, ⟨(some 15), .call 79 [(.v .nils), (.t 13), (.t 14)], none, none⟩, ⟨(some 4), .mv (.t 15), none, none⟩])
  .ret)))⟩
/-- pochoir/pochoirref28.Has -/
def s57 : SFn :=
 ⟨43, [.tmp 4],
  (.seq (.reg [⟨(some 2), .box 81 (.t 0), none, none⟩, ⟨(some 3), .box 81 (.t 1), none, none⟩, ⟨(some 4), .mv (.v (.bool false)), none, none⟩])
  (.seq (.reg [⟨(some 5), .faddr 0 (.t 2), none, none⟩, ⟨(some 6), .load none (.t 5), none, none⟩, ⟨(some 7), .faddr 0 (.t 3), none, none⟩, ⟨(some 8), .load none (.t 7), none, none⟩, ⟨(some 9), .bin .leq (.t 6) (.t 8), none, none⟩, ⟨(some 10), .mv (.t 9), none, none⟩, ⟨(some 11), .faddr 1 (.t 2), (some (10, true)), none⟩, ⟨(some 12), .load none (.t 11), (some (10, true)), none⟩, ⟨(some 13), .faddr 1 (.t 3), (some (10, true)), none⟩, ⟨(some 14), .load none (.t 13), (some (10, true)), none⟩, ⟨(some 15), .bin .leq (.t 12) (.t 14), (some (10, true)), none⟩, ⟨(some 16), .pick (.t 10) (.t 15) (.v (.bool false)), none, none⟩, ⟨(some 17), .mv (.t 16), none, none⟩, ⟨(some 18), .faddr 0 (.t 3), (some (17, true)), none⟩, ⟨(some 19), .load none (.t 18), (some (17, true)), none⟩, ⟨(some 20), .faddr 2 (.t 3), (some (17, true)), none⟩, ⟨(some 21), .load none (.t 20), (some (17, true)), none⟩, ⟨(some 22), .bin .add (.t 19) (.t 21), (some (17, true)), none⟩, ⟨(some 23), .faddr 0 (.t 2), (some (17, true)), none⟩, ⟨(some 24), .load none (.t 23), (some (17, true)), none⟩, ⟨(some 25), .faddr 2 (.t 2), (some (17, true)), none⟩, ⟨(some 26), .load none (.t 25), (some (17, true)), none⟩, ⟨(some 27), .bin .add (.t 24) (.t 26), (some (17, true)), none⟩, ⟨(some 28), .bin .leq (.t 22) (.t 27), (some (17, true)), none⟩, ⟨(some 29), .pick (.t 17) (.t 28) (.v (.bool false)), none, none⟩, ⟨(some 30), .mv (.t 29), none, none⟩, ⟨(some 31), .faddr 1 (.t 3), (some (30, true)), none⟩, ⟨(some 32), .load none (.t 31), (some (30, true)), none⟩, ⟨(some 33), .faddr 3 (.t 3), (some (30, true)), none⟩, ⟨(some 34), .load none (.t 33), (some (30, true)), none⟩, ⟨(some 35), .bin .add (.t 32) (.t 34), (some (30, true)), none⟩, ⟨(some 36), .faddr 1 (.t 2), (some (30, true)), none⟩, ⟨(some 37), .load none (.t 36), (some (30, true)), none⟩, ⟨(some 38), .faddr 3 (.t 2), (some (30, true)), none⟩, ⟨(some 39), .load none (.t 38), (some (30, true)), none⟩, ⟨(some 40), .bin .add (.t 37) (.t 39), (some (30, true)), none⟩, ⟨(some 41), .bin .leq (.t 35) (.t 40), (some (30, true)), none⟩, ⟨(some 42), .pick (.t 30) (.t 41) (.v (.bool false)), none, none⟩, ⟨(some 4), .mv (.t 42), none, none⟩])
  .ret))⟩
/-- pochoir/pochoirref28.Meet -/
def s58 : SFn :=
 ⟨43, [.tmp 4],
  (.seq (.reg [⟨(some 2), .box 81 (.t 0), none, none⟩, ⟨(some 3), .box 81 (.t 1), none, none⟩, ⟨(some 4), .mv (.v (.bool false)), none, none⟩])
  (.seq (.reg [⟨(some 5), .faddr 0 (.t 2), none, none⟩, ⟨(some 6), .load none (.t 5), none, none⟩, ⟨(some 7), .faddr 0 (.t 3), none, none⟩, ⟨(some 8), .load none (.t 7), none, none⟩, ⟨(some 9), .faddr 2 (.t 3), none, none⟩, ⟨(some 10), .load none (.t 9), none, none⟩, ⟨(some 11), .bin .add (.t 8) (.t 10), none, none⟩, ⟨(some 12), .bin .lss (.t 6) (.t 11), none, none⟩, ⟨(some 13), .mv (.t 12), none, none⟩, ⟨(some 14), .faddr 0 (.t 3), (some (13, true)), none⟩, ⟨(some 15), .load none (.t 14), (some (13, true)), none⟩, ⟨(some 16), .faddr 0 (.t 2), (some (13, true)), none⟩, ⟨(some 17), .load none (.t 16), (some (13, true)), none⟩, ⟨(some 18), .faddr 2 (.t 2), (some (13, true)), none⟩, ⟨(some 19), .load none (.t 18), (some (13, true)), none⟩, ⟨(some 20), .bin .add (.t 17) (.t 19), (some (13, true)), none⟩, ⟨(some 21), .bin .lss (.t 15) (.t 20), (some (13, true)), none⟩, ⟨(some 22), .pick (.t 13) (.t 21) (.v (.bool false)), none, none⟩, ⟨(some 23), .mv (.t 22), none, none⟩, ⟨(some 24), .faddr 1 (.t 2), (some (23, true)), none⟩, ⟨(some 25), .load none (.t 24), (some (23, true)), none⟩, ⟨(some 26), .faddr 1 (.t 3), (some (23, true)), none⟩, ⟨(some 27), .load none (.t 26), (some (23, true)), none⟩, ⟨(some 28), .faddr 3 (.t 3), (some (23, true)), none⟩, ⟨(some 29), .load none (.t 28), (some (23, true)), none⟩, ⟨(some 30), .bin .add (.t 27) (.t 29), (some (23, true)), none⟩, ⟨(some 31), .bin .lss (.t 25) (.t 30), (some (23, true)), none⟩, ⟨(some 32), .pick (.t 23) (.t 31) (.v (.bool false)), none, none⟩, ⟨(some 33), .mv (.t 32), none, none⟩, ⟨(some 34), .faddr 1 (.t 3), (some (33, true)), none⟩, ⟨(some 35), .load none (.t 34), (some (33, true)), none⟩, ⟨(some 36), .faddr 1 (.t 2), (some (33, true)), none⟩, ⟨(some 37), .load none (.t 36), (some (33, true)), none⟩, ⟨(some 38), .faddr 3 (.t 2), (some (33, true)), none⟩, ⟨(some 39), .load none (.t 38), (some (33, true)), none⟩, ⟨(some 40), .bin .add (.t 37) (.t 39), (some (33, true)), none⟩, ⟨(some 41), .bin .lss (.t 35) (.t 40), (some (33, true)), none⟩, ⟨(some 42), .pick (.t 33) (.t 41) (.v (.bool false)), none, none⟩, ⟨(some 4), .mv (.t 42), none, none⟩])
  .ret))⟩
/-- pochoir/pochoirref28.Same -/
def s59 : SFn :=
 ⟨26, [.tmp 4],
  (.seq (.reg [⟨(some 4), .mv (.v (.bool false)), none, none⟩])
  (.seq (.seq (.reg [⟨(some 6), .mv (.t 0), none, none⟩, ⟨(some 7), .len false (.t 6), none, none⟩, ⟨(some 8), .mv (.t 1), none, none⟩, ⟨(some 9), .len false (.t 8), none, none⟩, ⟨(some 10), .bin .neq (.t 7) (.t 9), none, none⟩])
  (.cond (.t 10) (.seq (.reg [⟨(some 4), .mv (.v (.bool false)), none, none⟩])
  .ret) .skip))
  (.seq (.seq (.reg [⟨(some 5), .mv (.v (.int .i64 0)), none, none⟩])
  (.block 0 (.loop (.seq (.seq (.reg [⟨(some 11), .mv (.t 5), none, none⟩, ⟨(some 12), .mv (.t 0), none, none⟩, ⟨(some 13), .len false (.t 12), none, none⟩, ⟨(some 14), .bin .lss (.t 11) (.t 13), none, none⟩])
  (.cond (.t 14) .skip (.exit 0)))
  (.seq (.block 1 (.seq (.regd [⟨(some 17), .mv (.t 0), none, (some [])⟩, ⟨(some 18), .mv (.t 5), none, (some [])⟩, ⟨(some 19), .iaddr 4 (.t 17) (.t 18), none, (some [])⟩, ⟨(some 20), .load (some 4) (.t 19), none, (some [])⟩, ⟨(some 21), .mv (.t 1), none, (some [])⟩, ⟨(some 22), .mv (.t 5), none, (some [])⟩, ⟨(some 23), .iaddr 4 (.t 21) (.t 22), none, (some [])⟩, ⟨(some 24), .load (some 4) (.t 23), none, (some [])⟩, ⟨(some 25), .eqs 4 [1, 1, 1, 1] true (.t 20) (.t 24), none, (some [])⟩])
  (.cond (.t 25) (.seq (.reg [⟨(some 4), .mv (.v (.bool false)), none, none⟩])
  .ret) .skip)))
  (.reg [⟨(some 15), .mv (.t 5), none, none⟩, ⟨(some 16), .bin .add (.t 15) (.v (.int .i64 1)), none, none⟩, ⟨(some 5), .mv (.t 16), none, none⟩]))))))
  (.seq (.reg [⟨(some 4), .mv (.v (.bool true)), none, none⟩])
  .ret))))⟩
/-- pochoir/pochoirref28.Left -/
def s60 : SFn :=
 ⟨98, [.tmp 4],
  (.seq (.reg [⟨(some 2), .box 81 (.t 0), none, none⟩, ⟨(some 3), .box 81 (.t 1), none, none⟩, ⟨(some 4), .mv (.v .nils), none, none⟩])
  (.seq (.seq (.reg [⟨(some 8), .load (some 4) (.t 2), none, none⟩, ⟨(some 9), .load (some 4) (.t 3), none, none⟩, ⟨(some 10), .call 58 [(.t 8), (.t 9)], none, none⟩, ⟨(some 11), .un .not (.t 10), none, none⟩])
  (.cond (.t 11) (.seq (.reg [⟨(some 12), .load (some 4) (.t 2), none, none⟩, ⟨(some 13), .bsl 81 [(.int .i64 0), (.int .i64 0), (.int .i64 0), (.int .i64 0)] 1 4 [(0, 4, (.t 12))], none, none⟩, ⟨(some 4), .mv (.t 13), none, none⟩])
  .ret) .skip))
  (.seq (.reg [⟨(some 14), .faddr 0 (.t 2), none, none⟩, ⟨(some 15), .load none (.t 14), none, none⟩, ⟨(some 16), .faddr 1 (.t 2), none, none⟩, ⟨(some 17), .load none (.t 16), none, none⟩, ⟨(some 18), .faddr 0 (.t 3), none, none⟩, ⟨(some 19), .load none (.t 18), none, none⟩, ⟨(some 20), .faddr 0 (.t 2), none, none⟩, ⟨(some 21), .load none (.t 20), none, none⟩, ⟨(some 22), .bin .sub (.t 19) (.t 21), none, none⟩, ⟨(some 23), .faddr 3 (.t 2), none, none⟩, ⟨(some 24), .load none (.t 23), none, none⟩, ⟨(some 25), .build [(.int .i64 0), (.int .i64 0), (.int .i64 0), (.int .i64 0)] [(0, 1, (.t 15)), (1, 1, (.t 17)), (2, 1, (.t 22)), (3, 1, (.t 24))], none, none⟩, ⟨(some 26), .faddr 0 (.t 3), none, none⟩, ⟨(some 27), .load none (.t 26), none, none⟩, ⟨(some 28), .faddr 2 (.t 3), none, none⟩, ⟨(some 29), .load none (.t 28), none, none⟩, ⟨(some 30), .bin .add (.t 27) (.t 29), none, none⟩, ⟨(some 31), .faddr 1 (.t 2), none, none⟩, ⟨(some 32), .load none (.t 31), none, none⟩, ⟨(some 33), .faddr 0 (.t 2), none, none⟩, ⟨(some 34), .load none (.t 33), none, none⟩, ⟨(some 35), .faddr 2 (.t 2), none, none⟩, ⟨(some 36), .load none (.t 35), none, none⟩, ⟨(some 37), .bin .add (.t 34) (.t 36), none, none⟩, ⟨(some 38), .faddr 0 (.t 3), none, none⟩, ⟨(some 39), .load none (.t 38), none, none⟩, ⟨(some 40), .bin .sub (.t 37) (.t 39), none, none⟩, ⟨(some 41), .faddr 2 (.t 3), none, none⟩, ⟨(some 42), .load none (.t 41), none, none⟩, ⟨(some 43), .bin .sub (.t 40) (.t 42), none, none⟩, ⟨(some 44), .faddr 3 (.t 2), none, none⟩, ⟨(some 45), .load none (.t 44), none, none⟩, ⟨(some 46), .build [(.int .i64 0), (.int .i64 0), (.int .i64 0), (.int .i64 0)] [(0, 1, (.t 30)), (1, 1, (.t 32)), (2, 1, (.t 43)), (3, 1, (.t 45))], none, none⟩, ⟨(some 47), .faddr 0 (.t 2), none, none⟩, ⟨(some 48), .load none (.t 47), none, none⟩, ⟨(some 49), .faddr 1 (.t 2), none, none⟩, ⟨(some 50), .load none (.t 49), none, none⟩, ⟨(some 51), .faddr 2 (.t 2), none, none⟩, ⟨(some 52), .load none (.t 51), none, none⟩, ⟨(some 53), .faddr 1 (.t 3), none, none⟩, ⟨(some 54), .load none (.t 53), none, none⟩, ⟨(some 55), .faddr 1 (.t 2), none, none⟩, ⟨(some 56), .load none (.t 55), none, none⟩, ⟨(some 57), .bin .sub (.t 54) (.t 56), none, none⟩, ⟨(some 58), .build [(.int .i64 0), (.int .i64 0), (.int .i64 0), (.int .i64 0)] [(0, 1, (.t 48)), (1, 1, (.t 50)), (2, 1, (.t 52)), (3, 1, (.t 57))], none, none⟩, ⟨(some 59), .faddr 0 (.t 2), none, none⟩, ⟨(some 60), .load none (.t 59), none, none⟩, ⟨(some 61), .faddr 1 (.t 3), none, none⟩, ⟨(some 62), .load none (.t 61), none, none⟩, ⟨(some 63), .faddr 3 (.t 3), none, none⟩, ⟨(some 64), .load none (.t 63), none, none⟩, ⟨(some 65), .bin .add (.t 62) (.t 64), none, none⟩, ⟨(some 66), .faddr 2 (.t 2), none, none⟩, ⟨(some 67), .load none (.t 66), none, none⟩, ⟨(some 68), .faddr 1 (.t 2), none, none⟩, ⟨(some 69), .load none (.t 68), none, none⟩, ⟨(some 70), .faddr 3 (.t 2), none, none⟩, ⟨(some 71), .load none (.t 70), none, none⟩, ⟨(some 72), .bin .add (.t 69) (.t 71), none, none⟩, ⟨(some 73), .faddr 1 (.t 3), none, none⟩, ⟨(some 74), .load none (.t 73), none, none⟩, ⟨(some 75), .bin .sub (.t 72) (.t 74), none, none⟩, ⟨(some 76), .faddr 3 (.t 3), none, none⟩, ⟨(some 77), .load none (.t 76), none, none⟩, ⟨(some 78), .bin .sub (.t 75) (.t 77), none, none⟩, ⟨(some 79), .build [(.int .i64 0), (.int .i64 0), (.int .i64 0), (.int .i64 0)] [(0, 1, (.t 60)), (1, 1, (.t 65)), (2, 1, (.t 67)), (3, 1, (.t 78))], none, none⟩, ⟨(some 80), .bsl 81 [(.int .i64 0), (.int .i64 0), (.int .i64 0), (.int .i64 0), (.int .i64 0), (.int .i64 0), (.int .i64 0), (.int .i64 0), (.int .i64 0), (.int .i64 0), (.int .i64 0), (.int .i64 0), (.int .i64 0), (.int .i64 0), (.int .i64 0), (.int .i64 0)] 4 4 [(0, 4, (.t 25)), (4, 4, (.t 46)), (8, 4, (.t 58)), (12, 4, (.t 79))], none, none⟩, ⟨(some 5), .mv (.t 80), none, none⟩])
  (.seq (.reg [⟨(some 6), .mv (.v .nils), none, none⟩])
  (.seq (.seq (.reg [⟨(some 7), .mv (.v (.int .i64 0)), none, none⟩])
  (.block 0 (.loop (.seq (.seq (.reg [⟨(some 81), .mv (.t 7), none, none⟩, ⟨(some 82), .bin .lss (.t 81) (.v (.int .i64 4)), none, none⟩])
  (.cond (.t 82) .skip (.exit 0)))
  (.seq (.block 1 (.seq (.reg [⟨(some 85), .mv (.t 5), none, none⟩, ⟨(some 86), .mv (.t 7), none, none⟩, ⟨(some 87), .iaddr 4 (.t 85) (.t 86), none, none⟩, ⟨(some 88), .load (some 4) (.t 87), none, none⟩, ⟨(some 89), .call 53 [(.t 88)], none, none⟩])
  (.cond (.t 89) (.reg [⟨(some 90), .mv (.t 6), none, none⟩, ⟨(some 91), .mv (.t 5), none, none⟩, ⟨(some 92), .mv (.t 7), none, none⟩, ⟨(some 93), .iaddr 4 (.t 91) (.t 92), none, none⟩, ⟨(some 94), .load (some 4) (.t 93), none, none⟩, ⟨(some 95), .bsl 81 [(.int .i64 0), (.int .i64 0), (.int .i64 0), (.int .i64 0)] 1 4 [(0, 4, (.t 94))], none, none⟩, ⟨(some 96), .app 81 4 (.t 90) (.t 95), none, none⟩, ⟨(some 6), .mv (.t 96), none, none⟩]) .skip)))
  (.reg [⟨(some 83), .mv (.t 7), none, none⟩, ⟨(some 84), .bin .add (.t 83) (.v (.int .i64 1)), none, none⟩, ⟨(some 7), .mv (.t 84), none, none⟩]))))))
  (.seq (.reg [⟨(some 97), .mv (.t 6), none, none⟩, ⟨(some 4), .mv (.t 97), none, none⟩])
  .ret))))))⟩
/-- pochoir/rect.Cut -/
def s61 : SFn :=
 ⟨26, [.tmp 4],
  (.seq (.reg [⟨(some 3), .box 81 (.t 1), none, none⟩, ⟨(some 4), .mv (.v .nils), none, none⟩])
  (.seq (.reg [⟨(some 8), .mv (.t 0), none, none⟩, ⟨(some 9), .call 80 [(.t 8)], none, none⟩, ⟨(some 0), .mv (.t 9), none, none⟩])
  (.seq (.seq (.reg [⟨(some 10), .load (some 4) (.t 3), none, none⟩, ⟨(some 11), .call 52 [(.t 10)], none, none⟩, ⟨(some 12), .un .not (.t 11), none, none⟩])
  (.cond (.t 12) (.seq (.reg [⟨(some 13), .mv (.t 0), none, none⟩, ⟨(some 4), .mv (.t 13), none, none⟩])
  .ret) .skip))
  (.seq (.reg [⟨(some 5), .mv (.v .nils), none, none⟩])
  (.seq (.seq (.reg [⟨(some 14), .mv (.t 0), none, none⟩, ⟨(some 15), .len false (.t 14), none, none⟩, ⟨(some 16), .mv (.v (.int .i64 0)), none, none⟩])
  (.block 0 (.loop (.seq (.reg [⟨(some 17), .bin .lss (.t 16) (.t 15), none, none⟩])
  (.seq (.cond (.t 17) .skip (.exit 0))
  (.seq (.block 1 (.seq (.reg [⟨(some 18), .iaddr 4 (.t 14) (.t 16), none, none⟩, ⟨(some 19), .load (some 4) (.t 18), none, none⟩, ⟨(some 7), .box 81 (.v (.agg [(.int .i64 0), (.int .i64 0), (.int .i64 0), (.int .i64 0)])), none, none⟩, ⟨none, .store 4 (.t 7) (.t 19), none, none⟩])
  (.reg [⟨(some 20), .mv (.t 5), none, none⟩, ⟨(some 21), .load (some 4) (.t 7), none, none⟩, ⟨(some 22), .load (some 4) (.t 3), none, none⟩, ⟨(some 23), .call 79 [(.t 20), (.t 21), (.t 22)], none, none⟩, ⟨(some 5), .mv (.t 23), none, none⟩])))
  (.reg [⟨(some 24), .bin .add (.t 16) (.v (.int .i64 1)), none, none⟩, ⟨(some 16), .mv (.t 24), none, none⟩])))))))
  (.seq (.reg [⟨(some 25), .mv (.t 5), none, none⟩, ⟨(some 4), .mv (.t 25), none, none⟩])
  .ret))))))⟩
/-- pochoir/pochoirref28.Cut -/
def s62 : SFn :=
 ⟨28, [.tmp 4],
  (.seq (.reg [⟨(some 3), .box 81 (.t 1), none, none⟩, ⟨(some 4), .mv (.v .nils), none, none⟩])
  (.seq (.reg [⟨(some 7), .mv (.t 0), none, none⟩, ⟨(some 8), .call 81 [(.t 7)], none, none⟩, ⟨(some 0), .mv (.t 8), none, none⟩])
  (.seq (.seq (.reg [⟨(some 9), .load (some 4) (.t 3), none, none⟩, ⟨(some 10), .call 53 [(.t 9)], none, none⟩, ⟨(some 11), .un .not (.t 10), none, none⟩])
  (.cond (.t 11) (.seq (.reg [⟨(some 12), .mv (.t 0), none, none⟩, ⟨(some 4), .mv (.t 12), none, none⟩])
  .ret) .skip))
  (.seq (.reg [⟨(some 5), .mv (.v .nils), none, none⟩])
  (.seq (.seq (.reg [⟨(some 6), .mv (.v (.int .i64 0)), none, none⟩])
  (.block 0 (.loop (.seq (.seq (.reg [⟨(some 13), .mv (.t 6), none, none⟩, ⟨(some 14), .mv (.t 0), none, none⟩, ⟨(some 15), .len false (.t 14), none, none⟩, ⟨(some 16), .bin .lss (.t 13) (.t 15), none, none⟩])
  (.cond (.t 16) .skip (.exit 0)))
  (.seq (.block 1 (.regd [⟨(some 19), .mv (.t 5), none, (some [])⟩, ⟨(some 20), .mv (.t 0), none, (some [])⟩, ⟨(some 21), .mv (.t 6), none, (some [])⟩, ⟨(some 22), .iaddr 4 (.t 20) (.t 21), none, (some [])⟩, ⟨(some 23), .load (some 4) (.t 22), none, (some [])⟩, ⟨(some 24), .load (some 4) (.t 3), none, (some [])⟩, ⟨(some 25), .call 60 [(.t 23), (.t 24)], none, none⟩, ⟨(some 26), .app 81 4 (.t 19) (.t 25), none, none⟩, ⟨(some 5), .mv (.t 26), none, (some [])⟩]))
  (.reg [⟨(some 17), .mv (.t 6), none, none⟩, ⟨(some 18), .bin .add (.t 17) (.v (.int .i64 1)), none, none⟩, ⟨(some 6), .mv (.t 18), none, none⟩]))))))
  (.seq (.reg [⟨(some 27), .mv (.t 5), none, none⟩, ⟨(some 4), .mv (.t 27), none, none⟩])
  .ret))))))⟩
/-- pochoir/rect.Prune -/
def s63 : SFn :=
 ⟨36, [.tmp 2],
  (.seq (.reg [⟨(some 2), .mv (.v .nils), none, none⟩])
  (.seq (.reg [⟨(some 6), .mv (.t 0), none, none⟩, ⟨(some 7), .call 80 [(.t 6)], none, none⟩, ⟨(some 0), .mv (.t 7), none, none⟩])
  (.seq (.reg [⟨(some 3), .mv (.v .nils), none, none⟩])
  (.seq (.seq (.reg [⟨(some 8), .mv (.t 0), none, none⟩, ⟨(some 9), .len false (.t 8), none, none⟩, ⟨(some 10), .mv (.v (.int .i64 0)), none, none⟩])
  (.block 0 (.loop (.seq (.reg [⟨(some 11), .bin .lss (.t 10) (.t 9), none, none⟩])
  (.seq (.cond (.t 11) .skip (.exit 0))
  (.seq (.block 1 (.seq (.reg [⟨(some 12), .mv (.t 10), none, none⟩, ⟨(some 13), .iaddr 4 (.t 8) (.t 10), none, none⟩, ⟨(some 14), .load (some 4) (.t 13), none, none⟩, ⟨(some 5), .box 81 (.v (.agg [(.int .i64 0), (.int .i64 0), (.int .i64 0), (.int .i64 0)])), none, none⟩, ⟨(some 4), .mv (.t 12), none, none⟩, ⟨none, .store 4 (.t 5) (.t 14), none, none⟩])
  (.seq (.reg [⟨(some 15), .mv (.t 0), none, none⟩, ⟨(some 16), .mv (.t 4), none, none⟩, ⟨(some 17), .slc 4 (.t 15) none (some (.t 16)) none, none, none⟩, ⟨(some 18), .mkfn 83 [(.t 5)], none, none⟩, ⟨(some 19), .call 82 [(.t 17), (.t 18)], none, none⟩, ⟨(some 20), .un .not (.t 19), none, none⟩, ⟨(some 21), .mv (.t 20), none, none⟩, ⟨(some 22), .mv (.t 0), (some (21, true)), none⟩, ⟨(some 23), .mv (.t 4), (some (21, true)), none⟩, ⟨(some 24), .bin .add (.t 23) (.v (.int .i64 1)), (some (21, true)), none⟩, ⟨(some 25), .slc 4 (.t 22) (some (.t 24)) none none, (some (21, true)), none⟩, ⟨(some 26), .mkfn 84 [(.t 5)], (some (21, true)), none⟩, ⟨(some 27), .call 82 [(.t 25), (.t 26)], (some (21, true)), none⟩, ⟨(some 28), .un .not (.t 27), (some (21, true)), none⟩, ⟨(some 29), .pick (.t 21) (.t 28) (.v (.bool false)), none, none⟩])
  (.cond (.t 29) (.reg [⟨(some 30), .mv (.t 3), none, none⟩, ⟨(some 31), .load (some 4) (.t 5), none, none⟩, ⟨(some 32), .bsl 81 [(.int .i64 0), (.int .i64 0), (.int .i64 0), (.int .i64 0)] 1 4 [(0, 4, (.t 31))], none, none⟩, ⟨(some 33), .app 81 4 (.t 30) (.t 32), none, none⟩, ⟨(some 3), .mv (.t 33), none, none⟩]) .skip))))
  (.reg [⟨(some 34), .bin .add (.t 10) (.v (.int .i64 1)), none, none⟩, ⟨(some 10), .mv (.t 34), none, none⟩])))))))
  (.seq (.reg [⟨(some 35), .mv (.t 3), none, none⟩, ⟨(some 2), .mv (.t 35), none, none⟩])
  .ret)))))⟩
/-- pochoir/pochoirref28.Prune -/
def s64 : SFn :=
 ⟨60, [.tmp 2],
  (.seq (.reg [⟨(some 2), .mv (.v .nils), none, none⟩])
  (.seq (.reg [⟨(some 7), .mv (.t 0), none, none⟩, ⟨(some 8), .call 81 [(.t 7)], none, none⟩, ⟨(some 0), .mv (.t 8), none, none⟩])
  (.seq (.reg [⟨(some 3), .mv (.v .nils), none, none⟩])
  (.seq (.seq (.reg [⟨(some 4), .mv (.v (.int .i64 0)), none, none⟩])
  (.block 0 (.loop (.seq (.seq (.reg [⟨(some 9), .mv (.t 4), none, none⟩, ⟨(some 10), .mv (.t 0), none, none⟩, ⟨(some 11), .len false (.t 10), none, none⟩, ⟨(some 12), .bin .lss (.t 9) (.t 11), none, none⟩])
  (.cond (.t 12) .skip (.exit 0)))
  (.seq (.block 1 (.seq (.reg [⟨(some 5), .mv (.v (.bool true)), none, none⟩])
  (.seq (.seq (.reg [⟨(some 6), .mv (.v (.int .i64 0)), none, none⟩])
  (.block 2 (.loop (.seq (.seq (.reg [⟨(some 15), .mv (.t 6), none, none⟩, ⟨(some 16), .mv (.t 0), none, none⟩, ⟨(some 17), .len false (.t 16), none, none⟩, ⟨(some 18), .bin .lss (.t 15) (.t 17), none, none⟩])
  (.cond (.t 18) .skip (.exit 2)))
  (.seq (.block 3 (.seq (.regd [⟨(some 21), .mv (.t 6), none, (some [])⟩, ⟨(some 22), .mv (.t 4), none, (some [])⟩, ⟨(some 23), .bin .neq (.t 21) (.t 22), none, (some [])⟩, ⟨(some 24), .mv (.t 23), none, (some [])⟩, ⟨(some 25), .mv (.t 0), (some (24, true)), (some [])⟩, ⟨(some 26), .mv (.t 6), (some (24, true)), (some [])⟩, ⟨(some 27), .iaddr 4 (.t 25) (.t 26), (some (24, true)), (some [])⟩, ⟨(some 28), .load (some 4) (.t 27), (some (24, true)), (some [])⟩, ⟨(some 29), .mv (.t 0), (some (24, true)), (some [])⟩, ⟨(some 30), .mv (.t 4), (some (24, true)), (some [])⟩, ⟨(some 31), .iaddr 4 (.t 29) (.t 30), (some (24, true)), (some [])⟩, ⟨(some 32), .load (some 4) (.t 31), (some (24, true)), (some [])⟩, ⟨(some 33), .call 57 [(.t 28), (.t 32)], (some (24, true)), (some [])⟩, ⟨(some 34), .pick (.t 24) (.t 33) (.v (.bool false)), none, (some [])⟩, ⟨(some 35), .mv (.t 34), none, (some [])⟩, ⟨(some 36), .mv (.t 0), (some (35, true)), (some [])⟩, ⟨(some 37), .mv (.t 6), (some (35, true)), (some [])⟩, ⟨(some 38), .iaddr 4 (.t 36) (.t 37), (some (35, true)), (some [])⟩, ⟨(some 39), .load (some 4) (.t 38), (some (35, true)), (some [])⟩, ⟨(some 40), .mv (.t 0), (some (35, true)), (some [])⟩, ⟨(some 41), .mv (.t 4), (some (35, true)), (some [])⟩, ⟨(some 42), .iaddr 4 (.t 40) (.t 41), (some (35, true)), (some [])⟩, ⟨(some 43), .load (some 4) (.t 42), (some (35, true)), (some [])⟩, ⟨(some 44), .eqs 4 [1, 1, 1, 1] true (.t 39) (.t 43), (some (35, true)), (some [])⟩, ⟨(some 45), .mv (.t 44), (some (35, true)), (some [])⟩, ⟨(some 46), .mv (.t 6), (some (45, false)), (some [])⟩, ⟨(some 47), .mv (.t 4), (some (45, false)), (some [])⟩, ⟨(some 48), .bin .lss (.t 46) (.t 47), (some (45, false)), (some [])⟩, ⟨(some 49), .pick (.t 45) (.v (.bool true)) (.t 48), (some (35, true)), (some [])⟩, ⟨(some 50), .pick (.t 35) (.t 49) (.v (.bool false)), none, (some [])⟩])
  (.cond (.t 50) (.reg [⟨(some 5), .mv (.v (.bool false)), none, none⟩]) .skip)))
  (.reg [⟨(some 19), .mv (.t 6), none, none⟩, ⟨(some 20), .bin .add (.t 19) (.v (.int .i64 1)), none, none⟩, ⟨(some 6), .mv (.t 20), none, none⟩]))))))
  (.seq (.reg [⟨(some 51), .mv (.t 5), none, none⟩])
  (.cond (.t 51) (.reg [⟨(some 52), .mv (.t 3), none, none⟩, ⟨(some 53), .mv (.t 0), none, none⟩, ⟨(some 54), .mv (.t 4), none, none⟩, ⟨(some 55), .iaddr 4 (.t 53) (.t 54), none, none⟩, ⟨(some 56), .load (some 4) (.t 55), none, none⟩, ⟨(some 57), .bsl 81 [(.int .i64 0), (.int .i64 0), (.int .i64 0), (.int .i64 0)] 1 4 [(0, 4, (.t 56))], none, none⟩, ⟨(some 58), .app 81 4 (.t 52) (.t 57), none, none⟩, ⟨(some 3), .mv (.t 58), none, none⟩]) .skip)))))
  (.reg [⟨(some 13), .mv (.t 4), none, none⟩, ⟨(some 14), .bin .add (.t 13) (.v (.int .i64 1)), none, none⟩, ⟨(some 4), .mv (.t 14), none, none⟩]))))))
  (.seq (.reg [⟨(some 59), .mv (.t 3), none, none⟩, ⟨(some 2), .mv (.t 59), none, none⟩])
  .ret)))))⟩
/-- pochoir/pochoirref28.In -/
def s65 : SFn :=
 ⟨62, [.tmp 6],
  (.seq (.reg [⟨(some 6), .mv (.v (.bool false)), none, none⟩])
  (.seq (.reg [⟨(some 8), .mv (.t 0), none, none⟩, ⟨(some 9), .call 81 [(.t 8)], none, none⟩, ⟨(some 0), .mv (.t 9), none, none⟩])
  (.seq (.seq (.reg [⟨(some 7), .mv (.v (.int .i64 0)), none, none⟩])
  (.block 0 (.loop (.seq (.seq (.reg [⟨(some 10), .mv (.t 7), none, none⟩, ⟨(some 11), .mv (.t 0), none, none⟩, ⟨(some 12), .len false (.t 11), none, none⟩, ⟨(some 13), .bin .lss (.t 10) (.t 12), none, none⟩])
  (.cond (.t 13) .skip (.exit 0)))
  (.seq (.block 1 (.seq (.regd [⟨(some 16), .mv (.t 1), none, (some [])⟩, ⟨(some 17), .mv (.t 0), none, (some [])⟩, ⟨(some 18), .mv (.t 7), none, (some [])⟩, ⟨(some 19), .iaddr 4 (.t 17) (.t 18), none, (some [])⟩, ⟨(some 20), .faddr 0 (.t 19), none, (some [])⟩, ⟨(some 21), .load none (.t 20), none, (some [])⟩, ⟨(some 22), .bin .geq (.t 16) (.t 21), none, (some [])⟩, ⟨(some 23), .mv (.t 22), none, (some [])⟩, ⟨(some 24), .mv (.t 1), (some (23, true)), (some [])⟩, ⟨(some 25), .mv (.t 0), (some (23, true)), (some [])⟩, ⟨(some 26), .mv (.t 7), (some (23, true)), (some [])⟩, ⟨(some 27), .iaddr 4 (.t 25) (.t 26), (some (23, true)), (some [])⟩, ⟨(some 28), .faddr 0 (.t 27), (some (23, true)), (some [])⟩, ⟨(some 29), .load none (.t 28), (some (23, true)), (some [])⟩, ⟨(some 30), .mv (.t 0), (some (23, true)), (some [])⟩, ⟨(some 31), .mv (.t 7), (some (23, true)), (some [])⟩, ⟨(some 32), .iaddr 4 (.t 30) (.t 31), (some (23, true)), (some [])⟩, ⟨(some 33), .faddr 2 (.t 32), (some (23, true)), (some [])⟩, ⟨(some 34), .load none (.t 33), (some (23, true)), (some [])⟩, ⟨(some 35), .bin .add (.t 29) (.t 34), (some (23, true)), (some [])⟩, ⟨(some 36), .bin .lss (.t 24) (.t 35), (some (23, true)), (some [])⟩, ⟨(some 37), .pick (.t 23) (.t 36) (.v (.bool false)), none, (some [])⟩, ⟨(some 38), .mv (.t 37), none, (some [])⟩, ⟨(some 39), .mv (.t 2), (some (38, true)), (some [])⟩, ⟨(some 40), .mv (.t 0), (some (38, true)), (some [])⟩, ⟨(some 41), .mv (.t 7), (some (38, true)), (some [])⟩, ⟨(some 42), .iaddr 4 (.t 40) (.t 41), (some (38, true)), (some [])⟩, ⟨(some 43), .faddr 1 (.t 42), (some (38, true)), (some [])⟩, ⟨(some 44), .load none (.t 43), (some (38, true)), (some [])⟩, ⟨(some 45), .bin .geq (.t 39) (.t 44), (some (38, true)), (some [])⟩, ⟨(some 46), .pick (.t 38) (.t 45) (.v (.bool false)), none, (some [])⟩, ⟨(some 47), .mv (.t 46), none, (some [])⟩, ⟨(some 48), .mv (.t 2), (some (47, true)), (some [])⟩, ⟨(some 49), .mv (.t 0), (some (47, true)), (some [])⟩, ⟨(some 50), .mv (.t 7), (some (47, true)), (some [])⟩, ⟨(some 51), .iaddr 4 (.t 49) (.t 50), (some (47, true)), (some [])⟩, ⟨(some 52), .faddr 1 (.t 51), (some (47, true)), (some [])⟩, ⟨(some 53), .load none (.t 52), (some (47, true)), (some [])⟩, ⟨(some 54), .mv (.t 0), (some (47, true)), (some [])⟩, ⟨(some 55), .mv (.t 7), (some (47, true)), (some [])⟩, ⟨(some 56), .iaddr 4 (.t 54) (.t 55), (some (47, true)), (some [])⟩, ⟨(some 57), .faddr 3 (.t 56), (some (47, true)), (some [])⟩, ⟨(some 58), .load none (.t 57), (some (47, true)), (some [])⟩, ⟨(some 59), .bin .add (.t 53) (.t 58), (some (47, true)), (some [])⟩, ⟨(some 60), .bin .lss (.t 48) (.t 59), (some (47, true)), (some [])⟩, ⟨(some 61), .pick (.t 47) (.t 60) (.v (.bool false)), none, (some [])⟩])
  (.cond (.t 61) (.seq (.reg [⟨(some 6), .mv (.v (.bool true)), none, none⟩])
  .ret) .skip)))
  (.reg [⟨(some 14), .mv (.t 7), none, none⟩, ⟨(some 15), .bin .add (.t 14) (.v (.int .i64 1)), none, none⟩, ⟨(some 7), .mv (.t 15), none, none⟩]))))))
  (.seq (.reg [⟨(some 6), .mv (.v (.bool false)), none, none⟩])
  .ret))))⟩
/-- pochoir/pochoirref27.One -/
def s66 : SFn :=
 ⟨18, [.cell 4 (some 4)],
  (.seq (.reg [⟨(some 2), .box 31 (.t 0), none, none⟩, ⟨(some 4), .box 31 (.v (.agg [(.int .u8 0), (.int .u8 0), (.int .u8 0), (.int .u8 0)])), none, none⟩])
  (.seq (.seq (.reg [⟨(some 5), .load (some 4) (.t 2), none, none⟩, ⟨(some 6), .mv (.t 1), none, none⟩, ⟨(some 7), .call 21 [(.t 5), (.t 6)], none, none⟩])
  (.cond (.t 7) (.seq (.reg [⟨(some 8), .faddr 0 (.t 2), none, none⟩, ⟨(some 9), .load none (.t 8), none, none⟩, ⟨(some 10), .faddr 0 (.t 2), none, none⟩, ⟨(some 11), .load none (.t 10), none, none⟩, ⟨(some 12), .faddr 0 (.t 2), none, none⟩, ⟨(some 13), .load none (.t 12), none, none⟩, ⟨(some 14), .faddr 0 (.t 2), none, none⟩, ⟨(some 15), .load none (.t 14), none, none⟩, ⟨(some 16), .build [(.int .u8 0), (.int .u8 0), (.int .u8 0), (.int .u8 0)] [(0, 1, (.t 9)), (1, 1, (.t 11)), (2, 1, (.t 13)), (3, 1, (.t 15))], none, none⟩, ⟨none, .store 4 (.t 4) (.t 16), none, none⟩])
  .ret) .skip))
  (.seq (.reg [⟨(some 17), .load (some 4) (.t 2), none, none⟩, ⟨none, .store 4 (.t 4) (.t 17), none, none⟩])
  .ret)))⟩
/-- pochoir/fix.apart -/
def s67 : SFn :=
 ⟨13, [.tmp 4],
  (.seq (.reg [⟨(some 4), .mv (.v (.int .i64 0)), none, none⟩])
  (.seq (.reg [⟨(some 5), .mv (.t 0), none, none⟩, ⟨(some 6), .mv (.t 1), none, none⟩, ⟨(some 7), .mnmx true [(.t 5), (.t 6)], none, none⟩, ⟨(some 8), .mv (.t 0), none, none⟩, ⟨(some 9), .mv (.t 1), none, none⟩, ⟨(some 10), .mnmx false [(.t 8), (.t 9)], none, none⟩, ⟨(some 11), .bin .sub (.t 7) (.t 10), none, none⟩, ⟨(some 12), .conv .i64 (.t 11), none, none⟩, ⟨(some 4), .mv (.t 12), none, none⟩])
  .ret))⟩
/-- pochoir/sum.table -/
def s68 : SFn :=
 ⟨13, [.cell 0 (some 256)],
  (.seq (.reg [⟨(some 0), .box 94 (.v (.agg (List.replicate 256 (.int .u32 0)))), none, none⟩])
  (.seq (.reg [⟨(some 1), .box 94 (.v (.agg (List.replicate 256 (.int .u32 0)))), none, none⟩])
  (.seq (.seq (.reg [⟨(some 3), .mv (.v (.int .i64 0)), none, none⟩])
  (.block 0 (.loop (.seq (.reg [⟨(some 4), .bin .lss (.t 3) (.v (.int .i64 256)), none, none⟩])
  (.seq (.cond (.t 4) .skip (.exit 0))
  (.seq (.block 1 (.seq (.reg [⟨(some 5), .mv (.t 3), none, none⟩, ⟨(some 2), .mv (.t 5), none, none⟩])
  (.reg [⟨(some 6), .mv (.t 2), none, none⟩, ⟨(some 7), .mv (.t 2), none, none⟩, ⟨(some 8), .conv .u32 (.t 7), none, none⟩, ⟨(some 9), .call 74 [(.t 8), (.v (.int .i64 8))], none, none⟩, ⟨(some 10), .iarr 256 1 (.t 1) (.t 6), none, none⟩, ⟨none, .store 1 (.t 10) (.t 9), none, none⟩])))
  (.reg [⟨(some 11), .bin .add (.t 3) (.v (.int .i64 1)), none, none⟩, ⟨(some 3), .mv (.t 11), none, none⟩])))))))
  (.seq (.reg [⟨(some 12), .load (some 256) (.t 1), none, none⟩, ⟨none, .store 256 (.t 0) (.t 12), none, none⟩])
  .ret))))⟩
/-- pochoir/pochoirref08.xor -/
def s69 : SFn :=
 ⟨25, [.tmp 4],
  (.seq (.reg [⟨(some 4), .mv (.v (.int .u32 0)), none, none⟩])
  (.seq (.reg [⟨(some 5), .mv (.v (.int .u32 0)), none, none⟩])
  (.seq (.seq (.reg [⟨(some 6), .mv (.v (.int .i64 0)), none, none⟩])
  (.block 0 (.loop (.seq (.seq (.reg [⟨(some 7), .mv (.t 6), none, none⟩, ⟨(some 8), .bin .lss (.t 7) (.v (.int .i64 32)), none, none⟩])
  (.cond (.t 8) .skip (.exit 0)))
  (.seq (.block 1 (.seq (.regd [⟨(some 11), .mv (.t 0), none, (some [])⟩, ⟨(some 12), .mv (.t 6), none, (some [])⟩, ⟨(some 13), .bin .shr (.t 11) (.t 12), none, (some [])⟩, ⟨(some 14), .bin .rem (.t 13) (.v (.int .u32 2)), none, (some [])⟩, ⟨(some 15), .mv (.t 1), none, (some [])⟩, ⟨(some 16), .mv (.t 6), none, (some [])⟩, ⟨(some 17), .bin .shr (.t 15) (.t 16), none, (some [])⟩, ⟨(some 18), .bin .rem (.t 17) (.v (.int .u32 2)), none, (some [])⟩, ⟨(some 19), .bin .neq (.t 14) (.t 18), none, (some [])⟩])
  (.cond (.t 19) (.reg [⟨(some 20), .mv (.t 5), none, none⟩, ⟨(some 21), .mv (.t 6), none, none⟩, ⟨(some 22), .bin .shl (.v (.int .u32 1)) (.t 21), none, none⟩, ⟨(some 23), .bin .add (.t 20) (.t 22), none, none⟩, ⟨(some 5), .mv (.t 23), none, none⟩]) .skip)))
  (.reg [⟨(some 9), .mv (.t 6), none, none⟩, ⟨(some 10), .bin .add (.t 9) (.v (.int .i64 1)), none, none⟩, ⟨(some 6), .mv (.t 10), none, none⟩]))))))
  (.seq (.reg [⟨(some 24), .mv (.t 5), none, none⟩, ⟨(some 4), .mv (.t 24), none, none⟩])
  .ret))))⟩
/-- pochoir/octet.number -/
def s70 : SFn :=
 ⟨19, [.tmp 2],
  (.seq (.reg [⟨(some 2), .mv (.v (.int .u32 0)), none, none⟩])
  (.seq (.reg [⟨(some 3), .mv (.v (.int .u32 0)), none, none⟩])
  (.seq (.seq (.reg [⟨(some 5), .mv (.t 0), none, none⟩, ⟨(some 6), .len true (.t 5), none, none⟩, ⟨(some 7), .mv (.v (.int .i64 0)), none, none⟩])
  (.block 0 (.loop (.seq (.reg [⟨(some 8), .bin .lss (.t 7) (.t 6), none, none⟩])
  (.seq (.cond (.t 8) .skip (.exit 0))
  (.seq (.block 1 (.seq (.reg [⟨(some 9), .mv (.t 7), none, none⟩, ⟨(some 4), .mv (.t 9), none, none⟩])
  (.reg [⟨(some 10), .mv (.t 3), none, none⟩, ⟨(some 11), .bin .shl (.t 10) (.v (.int .u64 8)), none, none⟩, ⟨(some 12), .mv (.t 0), none, none⟩, ⟨(some 13), .mv (.t 4), none, none⟩, ⟨(some 14), .ixs (.t 12) (.t 13), none, none⟩, ⟨(some 15), .conv .u32 (.t 14), none, none⟩, ⟨(some 16), .bin .or (.t 11) (.t 15), none, none⟩, ⟨(some 3), .mv (.t 16), none, none⟩])))
  (.reg [⟨(some 17), .bin .add (.t 7) (.v (.int .i64 1)), none, none⟩, ⟨(some 7), .mv (.t 17), none, none⟩])))))))
  (.seq (.reg [⟨(some 18), .mv (.t 3), none, none⟩, ⟨(some 2), .mv (.t 18), none, none⟩])
  .ret))))⟩
/-- pochoir/pochoirref07.number -/
def s71 : SFn :=
 ⟨19, [.tmp 2],
  (.seq (.reg [⟨(some 2), .mv (.v (.int .u32 0)), none, none⟩])
  (.seq (.reg [⟨(some 3), .mv (.v (.int .u32 0)), none, none⟩])
  (.seq (.seq (.reg [⟨(some 4), .mv (.v (.int .i64 0)), none, none⟩])
  (.block 0 (.loop (.seq (.seq (.reg [⟨(some 5), .mv (.t 4), none, none⟩, ⟨(some 6), .mv (.t 0), none, none⟩, ⟨(some 7), .len true (.t 6), none, none⟩, ⟨(some 8), .bin .lss (.t 5) (.t 7), none, none⟩])
  (.cond (.t 8) .skip (.exit 0)))
  (.seq (.block 1 (.reg [⟨(some 11), .mv (.t 3), none, none⟩, ⟨(some 12), .bin .mul (.t 11) (.v (.int .u32 256)), none, none⟩, ⟨(some 13), .mv (.t 0), none, none⟩, ⟨(some 14), .mv (.t 4), none, none⟩, ⟨(some 15), .ixs (.t 13) (.t 14), none, none⟩, ⟨(some 16), .conv .u32 (.t 15), none, none⟩, ⟨(some 17), .bin .add (.t 12) (.t 16), none, none⟩, ⟨(some 3), .mv (.t 17), none, none⟩]))
  (.reg [⟨(some 9), .mv (.t 4), none, none⟩, ⟨(some 10), .bin .add (.t 9) (.v (.int .i64 1)), none, none⟩, ⟨(some 4), .mv (.t 10), none, none⟩]))))))
  (.seq (.reg [⟨(some 18), .mv (.t 3), none, none⟩, ⟨(some 2), .mv (.t 18), none, none⟩])
  .ret))))⟩
/-- (*pochoir/octet.Reader).take -/
def s72 : SFn :=
 ⟨42, [.tmp 4],
  (.seq (.reg [⟨(some 4), .mv (.v (.str ⟨#[]⟩)), none, none⟩])
  (.seq (.seq (.reg [⟨(some 7), .mv (.t 0), none, none⟩, ⟨(some 8), .eqs 1 [] false (.t 7) (.v .nilp), none, none⟩, ⟨(some 9), .mv (.t 8), none, none⟩, ⟨(some 10), .mv (.t 0), (some (9, false)), none⟩, ⟨(some 11), .nilck (.t 10), (some (9, false)), none⟩, ⟨(some 12), .faddr 2 (.t 11), (some (9, false)), none⟩, ⟨(some 13), .load none (.t 12), (some (9, false)), none⟩, ⟨(some 14), .pick (.t 9) (.v (.bool true)) (.t 13), none, none⟩])
  (.cond (.t 14) (.seq (.reg [⟨(some 4), .mv (.v (.str ⟨#[]⟩)), none, none⟩])
  .ret) .skip))
  (.seq (.regd [⟨(some 16), .mv (.t 0), none, (some [])⟩, ⟨(some 17), .nilck (.t 16), none, (some [])⟩, ⟨(some 18), .faddr 0 (.t 17), none, (some [])⟩, ⟨(some 19), .load none (.t 18), none, (some [])⟩, ⟨(some 20), .mv (.t 0), none, (some [])⟩, ⟨(some 21), .nilck (.t 20), none, (some [])⟩, ⟨(some 22), .faddr 1 (.t 21), none, (some [])⟩, ⟨(some 23), .load none (.t 22), none, (some [])⟩, ⟨(some 24), .mv (.t 1), none, (some [])⟩, ⟨(some 25), .call 33 [(.t 19), (.t 23), (.t 24)], none, none⟩, ⟨(some 15), .mv (.t 25), none, (some [])⟩, ⟨(some 26), .extract (.t 15) 0, none, (some [])⟩, ⟨(some 27), .extract (.t 15) 1, none, (some [])⟩, ⟨(some 5), .mv (.t 26), none, (some [])⟩, ⟨(some 6), .mv (.t 27), none, (some [])⟩])
  (.seq (.seq (.reg [⟨(some 28), .mv (.t 6), none, none⟩, ⟨(some 29), .bin .neq (.t 28) (.v (.int .i64 0)), none, none⟩])
  (.cond (.t 29) (.seq (.reg [⟨(some 30), .mv (.t 0), none, none⟩, ⟨(some 31), .nilck (.t 30), none, none⟩, ⟨(some 32), .faddr 2 (.t 31), none, none⟩, ⟨none, .store 1 (.t 32) (.v (.bool true)), none, none⟩])
  (.seq (.reg [⟨(some 4), .mv (.v (.str ⟨#[]⟩)), none, none⟩])
  .ret)) .skip))
  (.seq (.reg [⟨(some 33), .mv (.t 0), none, none⟩, ⟨(some 34), .nilck (.t 33), none, none⟩, ⟨(some 35), .faddr 1 (.t 34), none, none⟩, ⟨(some 36), .load none (.t 35), none, none⟩, ⟨(some 37), .mv (.t 1), none, none⟩, ⟨(some 38), .bin .add (.t 36) (.t 37), none, none⟩, ⟨(some 39), .nilck (.t 33), none, none⟩, ⟨(some 40), .faddr 1 (.t 39), none, none⟩, ⟨none, .store 1 (.t 40) (.t 38), none, none⟩])
  (.seq (.reg [⟨(some 41), .mv (.t 5), none, none⟩, ⟨(some 4), .mv (.t 41), none, none⟩])
  .ret))))))⟩
/-- pochoir/sum.joined -/
def s73 : SFn :=
 ⟨13, [.tmp 6],
  (.seq (.reg [⟨(some 6), .mv (.v (.int .u32 0)), none, none⟩])
  (.seq (.seq (.reg [⟨(some 7), .mv (.t 2), none, none⟩, ⟨(some 8), .bin .eql (.t 7) (.v (.int .i64 0)), none, none⟩])
  (.cond (.t 8) (.seq (.reg [⟨(some 9), .mv (.t 0), none, none⟩, ⟨(some 10), .mv (.t 1), none, none⟩, ⟨(some 11), .bin .xor (.t 9) (.t 10), none, none⟩, ⟨(some 6), .mv (.t 11), none, none⟩])
  .ret) .skip))
  (.seq (.reg [⟨(some 12), .mv (.t 0), none, none⟩, ⟨(some 6), .mv (.t 12), none, none⟩])
  .ret)))⟩
/-- pochoir/sum.through -/
def s74 : SFn :=
 ⟨17, [.tmp 4],
  (.seq (.reg [⟨(some 4), .mv (.v (.int .u32 0)), none, none⟩])
  (.seq (.seq (.reg [⟨(some 5), .mv (.t 1), none, none⟩, ⟨(some 6), .mv (.v (.int .i64 0)), none, none⟩])
  (.block 0 (.loop (.seq (.reg [⟨(some 7), .bin .lss (.t 6) (.t 5), none, none⟩])
  (.seq (.cond (.t 7) .skip (.exit 0))
  (.seq (.block 1 (.reg [⟨(some 8), .mv (.t 0), none, none⟩, ⟨(some 9), .bin .shr (.t 8) (.v (.int .u64 1)), none, none⟩, ⟨(some 10), .mv (.t 0), none, none⟩, ⟨(some 11), .bin .and (.t 10) (.v (.int .u32 1)), none, none⟩, ⟨(some 12), .un .neg (.t 11), none, none⟩, ⟨(some 13), .bin .and (.v (.int .u32 3988292384)) (.t 12), none, none⟩, ⟨(some 14), .bin .xor (.t 9) (.t 13), none, none⟩, ⟨(some 0), .mv (.t 14), none, none⟩]))
  (.reg [⟨(some 15), .bin .add (.t 6) (.v (.int .i64 1)), none, none⟩, ⟨(some 6), .mv (.t 15), none, none⟩])))))))
  (.seq (.reg [⟨(some 16), .mv (.t 0), none, none⟩, ⟨(some 4), .mv (.t 16), none, none⟩])
  .ret)))⟩
/-- (*pochoir/sum.matrix).times -/
def s75 : SFn :=
 ⟨24, [.tmp 4],
  (.seq (.reg [⟨(some 4), .mv (.v (.int .u32 0)), none, none⟩])
  (.seq (.reg [⟨(some 5), .mv (.v (.int .u32 0)), none, none⟩])
  (.seq (.seq (.reg [⟨(some 6), .mv (.v (.int .i64 0)), none, none⟩])
  (.block 0 (.loop (.seq (.seq (.reg [⟨(some 7), .mv (.t 1), none, none⟩, ⟨(some 8), .bin .neq (.t 7) (.v (.int .u32 0)), none, none⟩])
  (.cond (.t 8) .skip (.exit 0)))
  (.seq (.block 1 (.seq (.seq (.reg [⟨(some 11), .mv (.t 1), none, none⟩, ⟨(some 12), .bin .and (.t 11) (.v (.int .u32 1)), none, none⟩, ⟨(some 13), .bin .eql (.t 12) (.v (.int .u32 1)), none, none⟩])
  (.cond (.t 13) (.reg [⟨(some 14), .mv (.t 5), none, none⟩, ⟨(some 15), .mv (.t 0), none, none⟩, ⟨(some 16), .mv (.t 6), none, none⟩, ⟨(some 17), .nilck (.t 15), none, none⟩, ⟨(some 18), .iarr 32 1 (.t 17) (.t 16), none, none⟩, ⟨(some 19), .load none (.t 18), none, none⟩, ⟨(some 20), .bin .xor (.t 14) (.t 19), none, none⟩, ⟨(some 5), .mv (.t 20), none, none⟩]) .skip))
  (.reg [⟨(some 21), .mv (.t 1), none, none⟩, ⟨(some 22), .bin .shr (.t 21) (.v (.int .u64 1)), none, none⟩, ⟨(some 1), .mv (.t 22), none, none⟩])))
  (.reg [⟨(some 9), .mv (.t 6), none, none⟩, ⟨(some 10), .bin .add (.t 9) (.v (.int .i64 1)), none, none⟩, ⟨(some 6), .mv (.t 10), none, none⟩]))))))
  (.seq (.reg [⟨(some 23), .mv (.t 5), none, none⟩, ⟨(some 4), .mv (.t 23), none, none⟩])
  .ret))))⟩
/-- (*pochoir/sum.matrix).twice -/
def s76 : SFn :=
 ⟨19, [.tmp 2],
  (.seq (.reg [⟨(some 2), .mv (.v .nilp), none, none⟩])
  (.seq (.reg [⟨(some 3), .box 102 (.v (.agg [(.int .u32 0), (.int .u32 0), (.int .u32 0), (.int .u32 0), (.int .u32 0), (.int .u32 0), (.int .u32 0), (.int .u32 0), (.int .u32 0), (.int .u32 0), (.int .u32 0), (.int .u32 0), (.int .u32 0), (.int .u32 0), (.int .u32 0), (.int .u32 0), (.int .u32 0), (.int .u32 0), (.int .u32 0), (.int .u32 0), (.int .u32 0), (.int .u32 0), (.int .u32 0), (.int .u32 0), (.int .u32 0), (.int .u32 0), (.int .u32 0), (.int .u32 0), (.int .u32 0), (.int .u32 0), (.int .u32 0), (.int .u32 0)])), none, none⟩])
  (.seq (.seq (.reg [⟨(some 6), .mv (.t 0), none, none⟩, ⟨(some 7), .mv (.v (.int .i64 0)), none, none⟩])
  (.block 0 (.loop (.seq (.reg [⟨(some 8), .bin .lss (.t 7) (.v (.int .i64 32)), none, none⟩])
  (.seq (.cond (.t 8) .skip (.exit 0))
  (.seq (.block 1 (.seq (.regd [⟨(some 9), .mv (.t 7), none, (some [])⟩, ⟨(some 10), .nilck (.t 6), none, (some [])⟩, ⟨(some 11), .iarr 32 1 (.t 10) (.t 7), none, (some [])⟩, ⟨(some 12), .load none (.t 11), none, none⟩, ⟨(some 4), .mv (.t 9), none, (some [])⟩, ⟨(some 5), .mv (.t 12), none, (some [])⟩])
  (.reg [⟨(some 13), .mv (.t 4), none, none⟩, ⟨(some 14), .mv (.t 0), none, none⟩, ⟨(some 15), .mv (.t 5), none, none⟩, ⟨(some 16), .call 75 [(.t 14), (.t 15)], none, none⟩, ⟨(some 17), .iarr 32 1 (.t 3) (.t 13), none, none⟩, ⟨none, .store 1 (.t 17) (.t 16), none, none⟩])))
  (.reg [⟨(some 18), .bin .add (.t 7) (.v (.int .i64 1)), none, none⟩, ⟨(some 7), .mv (.t 18), none, none⟩])))))))
  (.seq (.reg [⟨(some 2), .mv (.t 3), none, none⟩])
  .ret))))⟩
/-- pochoir/rect.has -/
def s77 : SFn :=
 ⟨43, [.tmp 4],
  (.seq (.reg [⟨(some 2), .box 81 (.t 0), none, none⟩, ⟨(some 3), .box 81 (.t 1), none, none⟩, ⟨(some 4), .mv (.v (.bool false)), none, none⟩])
  (.seq (.reg [⟨(some 5), .faddr 0 (.t 2), none, none⟩, ⟨(some 6), .load none (.t 5), none, none⟩, ⟨(some 7), .faddr 0 (.t 3), none, none⟩, ⟨(some 8), .load none (.t 7), none, none⟩, ⟨(some 9), .bin .leq (.t 6) (.t 8), none, none⟩, ⟨(some 10), .mv (.t 9), none, none⟩, ⟨(some 11), .faddr 1 (.t 2), (some (10, true)), none⟩, ⟨(some 12), .load none (.t 11), (some (10, true)), none⟩, ⟨(some 13), .faddr 1 (.t 3), (some (10, true)), none⟩, ⟨(some 14), .load none (.t 13), (some (10, true)), none⟩, ⟨(some 15), .bin .leq (.t 12) (.t 14), (some (10, true)), none⟩, ⟨(some 16), .pick (.t 10) (.t 15) (.v (.bool false)), none, none⟩, ⟨(some 17), .mv (.t 16), none, none⟩, ⟨(some 18), .faddr 0 (.t 2), (some (17, true)), none⟩, ⟨(some 19), .load none (.t 18), (some (17, true)), none⟩, ⟨(some 20), .faddr 2 (.t 2), (some (17, true)), none⟩, ⟨(some 21), .load none (.t 20), (some (17, true)), none⟩, ⟨(some 22), .bin .add (.t 19) (.t 21), (some (17, true)), none⟩, ⟨(some 23), .faddr 0 (.t 3), (some (17, true)), none⟩, ⟨(some 24), .load none (.t 23), (some (17, true)), none⟩, ⟨(some 25), .faddr 2 (.t 3), (some (17, true)), none⟩, ⟨(some 26), .load none (.t 25), (some (17, true)), none⟩, ⟨(some 27), .bin .add (.t 24) (.t 26), (some (17, true)), none⟩, ⟨(some 28), .bin .geq (.t 22) (.t 27), (some (17, true)), none⟩, ⟨(some 29), .pick (.t 17) (.t 28) (.v (.bool false)), none, none⟩, ⟨(some 30), .mv (.t 29), none, none⟩, ⟨(some 31), .faddr 1 (.t 2), (some (30, true)), none⟩, ⟨(some 32), .load none (.t 31), (some (30, true)), none⟩, ⟨(some 33), .faddr 3 (.t 2), (some (30, true)), none⟩, ⟨(some 34), .load none (.t 33), (some (30, true)), none⟩, ⟨(some 35), .bin .add (.t 32) (.t 34), (some (30, true)), none⟩, ⟨(some 36), .faddr 1 (.t 3), (some (30, true)), none⟩, ⟨(some 37), .load none (.t 36), (some (30, true)), none⟩, ⟨(some 38), .faddr 3 (.t 3), (some (30, true)), none⟩, ⟨(some 39), .load none (.t 38), (some (30, true)), none⟩, ⟨(some 40), .bin .add (.t 37) (.t 39), (some (30, true)), none⟩, ⟨(some 41), .bin .geq (.t 35) (.t 40), (some (30, true)), none⟩, ⟨(some 42), .pick (.t 30) (.t 41) (.v (.bool false)), none, none⟩, ⟨(some 4), .mv (.t 42), none, none⟩])
  .ret))⟩
/-- pochoir/rect.meet -/
def s78 : SFn :=
 ⟨41, [.tmp 4],
  (.seq (.reg [⟨(some 2), .box 81 (.t 0), none, none⟩, ⟨(some 3), .box 81 (.t 1), none, none⟩, ⟨(some 4), .mv (.v (.bool false)), none, none⟩])
  (.seq (.reg [⟨(some 5), .faddr 0 (.t 2), none, none⟩, ⟨(some 6), .load none (.t 5), none, none⟩, ⟨(some 7), .faddr 0 (.t 3), none, none⟩, ⟨(some 8), .load none (.t 7), none, none⟩, ⟨(some 9), .mnmx true [(.t 6), (.t 8)], none, none⟩, ⟨(some 10), .faddr 0 (.t 2), none, none⟩, ⟨(some 11), .load none (.t 10), none, none⟩, ⟨(some 12), .faddr 2 (.t 2), none, none⟩, ⟨(some 13), .load none (.t 12), none, none⟩, ⟨(some 14), .bin .add (.t 11) (.t 13), none, none⟩, ⟨(some 15), .faddr 0 (.t 3), none, none⟩, ⟨(some 16), .load none (.t 15), none, none⟩, ⟨(some 17), .faddr 2 (.t 3), none, none⟩, ⟨(some 18), .load none (.t 17), none, none⟩, ⟨(some 19), .bin .add (.t 16) (.t 18), none, none⟩, ⟨(some 20), .mnmx false [(.t 14), (.t 19)], none, none⟩, ⟨(some 21), .bin .lss (.t 9) (.t 20), none, none⟩, ⟨(some 22), .mv (.t 21), none, none⟩, ⟨(some 23), .faddr 1 (.t 2), (some (22, true)), none⟩, ⟨(some 24), .load none (.t 23), (some (22, true)), none⟩, ⟨(some 25), .faddr 1 (.t 3), (some (22, true)), none⟩, ⟨(some 26), .load none (.t 25), (some (22, true)), none⟩, ⟨(some 27), .mnmx true [(.t 24), (.t 26)], (some (22, true)), none⟩, ⟨(some 28), .faddr 1 (.t 2), (some (22, true)), none⟩, ⟨(some 29), .load none (.t 28), (some (22, true)), none⟩, ⟨(some 30), .faddr 3 (.t 2), (some (22, true)), none⟩, ⟨(some 31), .load none (.t 30), (some (22, true)), none⟩, ⟨(some 32), .bin .add (.t 29) (.t 31), (some (22, true)), none⟩, ⟨(some 33), .faddr 1 (.t 3), (some (22, true)), none⟩, ⟨(some 34), .load none (.t 33), (some (22, true)), none⟩, ⟨(some 35), .faddr 3 (.t 3), (some (22, true)), none⟩, ⟨(some 36), .load none (.t 35), (some (22, true)), none⟩, ⟨(some 37), .bin .add (.t 34) (.t 36), (some (22, true)), none⟩, ⟨(some 38), .mnmx false [(.t 32), (.t 37)], (some (22, true)), none⟩, ⟨(some 39), .bin .lss (.t 27) (.t 38), (some (22, true)), none⟩, ⟨(some 40), .pick (.t 22) (.t 39) (.v (.bool false)), none, none⟩, ⟨(some 4), .mv (.t 40), none, none⟩])
  .ret))⟩
/-- pochoir/rect.left -/
def s79 : SFn :=
 ⟨108, [.tmp 6],
  (.seq (.reg [⟨(some 4), .box 81 (.t 1), none, none⟩, ⟨(some 5), .box 81 (.t 2), none, none⟩, ⟨(some 6), .mv (.v .nils), none, none⟩])
  (.seq (.seq (.reg [⟨(some 11), .load (some 4) (.t 4), none, none⟩, ⟨(some 12), .load (some 4) (.t 5), none, none⟩, ⟨(some 13), .call 78 [(.t 11), (.t 12)], none, none⟩, ⟨(some 14), .un .not (.t 13), none, none⟩])
  (.cond (.t 14) (.seq (.reg [⟨(some 15), .mv (.t 0), none, none⟩, ⟨(some 16), .load (some 4) (.t 4), none, none⟩, ⟨(some 17), .bsl 81 [(.int .i64 0), (.int .i64 0), (.int .i64 0), (.int .i64 0)] 1 4 [(0, 4, (.t 16))], none, none⟩, ⟨(some 18), .app 81 4 (.t 15) (.t 17), none, none⟩, ⟨(some 6), .mv (.t 18), none, none⟩])
  .ret) .skip))
  (.seq (.regd [⟨(some 19), .faddr 0 (.t 5), none, (some [])⟩, ⟨(some 20), .load none (.t 19), none, (some [])⟩, ⟨(some 21), .faddr 2 (.t 5), none, (some [])⟩, ⟨(some 22), .load none (.t 21), none, (some [])⟩, ⟨(some 23), .bin .add (.t 20) (.t 22), none, (some [])⟩, ⟨(some 24), .faddr 1 (.t 5), none, (some [])⟩, ⟨(some 25), .load none (.t 24), none, (some [])⟩, ⟨(some 26), .faddr 3 (.t 5), none, (some [])⟩, ⟨(some 27), .load none (.t 26), none, (some [])⟩, ⟨(some 28), .bin .add (.t 25) (.t 27), none, (some [])⟩, ⟨(some 7), .mv (.t 23), none, (some [])⟩, ⟨(some 8), .mv (.t 28), none, (some [])⟩])
  (.seq (.seq (.reg [⟨(some 29), .faddr 0 (.t 5), none, none⟩, ⟨(some 30), .load none (.t 29), none, none⟩, ⟨(some 31), .faddr 0 (.t 4), none, none⟩, ⟨(some 32), .load none (.t 31), none, none⟩, ⟨(some 33), .bin .gtr (.t 30) (.t 32), none, none⟩])
  (.cond (.t 33) (.reg [⟨(some 34), .mv (.t 0), none, none⟩, ⟨(some 35), .faddr 0 (.t 4), none, none⟩, ⟨(some 36), .load none (.t 35), none, none⟩, ⟨(some 37), .faddr 1 (.t 4), none, none⟩, ⟨(some 38), .load none (.t 37), none, none⟩, ⟨(some 39), .faddr 0 (.t 5), none, none⟩, ⟨(some 40), .load none (.t 39), none, none⟩, ⟨(some 41), .faddr 0 (.t 4), none, none⟩, ⟨(some 42), .load none (.t 41), none, none⟩, ⟨(some 43), .bin .sub (.t 40) (.t 42), none, none⟩, ⟨(some 44), .faddr 3 (.t 4), none, none⟩, ⟨(some 45), .load none (.t 44), none, none⟩, ⟨(some 46), .build [(.int .i64 0), (.int .i64 0), (.int .i64 0), (.int .i64 0)] [(0, 1, (.t 36)), (1, 1, (.t 38)), (2, 1, (.t 43)), (3, 1, (.t 45))], none, none⟩, ⟨(some 47), .bsl 81 [(.int .i64 0), (.int .i64 0), (.int .i64 0), (.int .i64 0)] 1 4 [(0, 4, (.t 46))], none, none⟩, ⟨(some 48), .app 81 4 (.t 34) (.t 47), none, none⟩, ⟨(some 0), .mv (.t 48), none, none⟩]) .skip))
  (.seq (.seq (.reg [⟨(some 49), .faddr 0 (.t 4), none, none⟩, ⟨(some 50), .load none (.t 49), none, none⟩, ⟨(some 51), .faddr 2 (.t 4), none, none⟩, ⟨(some 52), .load none (.t 51), none, none⟩, ⟨(some 53), .bin .add (.t 50) (.t 52), none, none⟩, ⟨(some 54), .mv (.t 7), none, none⟩, ⟨(some 55), .bin .sub (.t 53) (.t 54), none, none⟩, ⟨(some 9), .mv (.t 55), none, none⟩])
  (.seq (.reg [⟨(some 56), .mv (.t 9), none, none⟩, ⟨(some 57), .bin .gtr (.t 56) (.v (.int .i64 0)), none, none⟩])
  (.cond (.t 57) (.reg [⟨(some 58), .mv (.t 0), none, none⟩, ⟨(some 59), .mv (.t 7), none, none⟩, ⟨(some 60), .faddr 1 (.t 4), none, none⟩, ⟨(some 61), .load none (.t 60), none, none⟩, ⟨(some 62), .mv (.t 9), none, none⟩, ⟨(some 63), .faddr 3 (.t 4), none, none⟩, ⟨(some 64), .load none (.t 63), none, none⟩, ⟨(some 65), .build [(.int .i64 0), (.int .i64 0), (.int .i64 0), (.int .i64 0)] [(0, 1, (.t 59)), (1, 1, (.t 61)), (2, 1, (.t 62)), (3, 1, (.t 64))], none, none⟩, ⟨(some 66), .bsl 81 [(.int .i64 0), (.int .i64 0), (.int .i64 0), (.int .i64 0)] 1 4 [(0, 4, (.t 65))], none, none⟩, ⟨(some 67), .app 81 4 (.t 58) (.t 66), none, none⟩, ⟨(some 0), .mv (.t 67), none, none⟩]) .skip)))
  (.seq (.seq (.reg [⟨(some 68), .faddr 1 (.t 5), none, none⟩, ⟨(some 69), .load none (.t 68), none, none⟩, ⟨(some 70), .faddr 1 (.t 4), none, none⟩, ⟨(some 71), .load none (.t 70), none, none⟩, ⟨(some 72), .bin .gtr (.t 69) (.t 71), none, none⟩])
  (.cond (.t 72) (.reg [⟨(some 73), .mv (.t 0), none, none⟩, ⟨(some 74), .faddr 0 (.t 4), none, none⟩, ⟨(some 75), .load none (.t 74), none, none⟩, ⟨(some 76), .faddr 1 (.t 4), none, none⟩, ⟨(some 77), .load none (.t 76), none, none⟩, ⟨(some 78), .faddr 2 (.t 4), none, none⟩, ⟨(some 79), .load none (.t 78), none, none⟩, ⟨(some 80), .faddr 1 (.t 5), none, none⟩, ⟨(some 81), .load none (.t 80), none, none⟩, ⟨(some 82), .faddr 1 (.t 4), none, none⟩, ⟨(some 83), .load none (.t 82), none, none⟩, ⟨(some 84), .bin .sub (.t 81) (.t 83), none, none⟩, ⟨(some 85), .build [(.int .i64 0), (.int .i64 0), (.int .i64 0), (.int .i64 0)] [(0, 1, (.t 75)), (1, 1, (.t 77)), (2, 1, (.t 79)), (3, 1, (.t 84))], none, none⟩, ⟨(some 86), .bsl 81 [(.int .i64 0), (.int .i64 0), (.int .i64 0), (.int .i64 0)] 1 4 [(0, 4, (.t 85))], none, none⟩, ⟨(some 87), .app 81 4 (.t 73) (.t 86), none, none⟩, ⟨(some 0), .mv (.t 87), none, none⟩]) .skip))
  (.seq (.seq (.reg [⟨(some 88), .faddr 1 (.t 4), none, none⟩, ⟨(some 89), .load none (.t 88), none, none⟩, ⟨(some 90), .faddr 3 (.t 4), none, none⟩, ⟨(some 91), .load none (.t 90), none, none⟩, ⟨(some 92), .bin .add (.t 89) (.t 91), none, none⟩, ⟨(some 93), .mv (.t 8), none, none⟩, ⟨(some 94), .bin .sub (.t 92) (.t 93), none, none⟩, ⟨(some 10), .mv (.t 94), none, none⟩])
  (.seq (.reg [⟨(some 95), .mv (.t 10), none, none⟩, ⟨(some 96), .bin .gtr (.t 95) (.v (.int .i64 0)), none, none⟩])
  (.cond (.t 96) (.reg [⟨(some 97), .mv (.t 0), none, none⟩, ⟨(some 98), .faddr 0 (.t 4), none, none⟩, ⟨(some 99), .load none (.t 98), none, none⟩, ⟨(some 100), .mv (.t 8), none, none⟩, ⟨(some 101), .faddr 2 (.t 4), none, none⟩, ⟨(some 102), .load none (.t 101), none, none⟩, ⟨(some 103), .mv (.t 10), none, none⟩, ⟨(some 104), .build [(.int .i64 0), (.int .i64 0), (.int .i64 0), (.int .i64 0)] [(0, 1, (.t 99)), (1, 1, (.t 100)), (2, 1, (.t 102)), (3, 1, (.t 103))], none, none⟩, ⟨(some 105), .bsl 81 [(.int .i64 0), (.int .i64 0), (.int .i64 0), (.int .i64 0)] 1 4 [(0, 4, (.t 104))], none, none⟩, ⟨(some 106), .app 81 4 (.t 97) (.t 105), none, none⟩, ⟨(some 0), .mv (.t 106), none, none⟩]) .skip)))
  (.seq (.reg [⟨(some 107), .mv (.t 0), none, none⟩, ⟨(some 6), .mv (.t 107), none, none⟩])
  .ret))))))))⟩
/-- pochoir/rect.those -/
def s80 : SFn :=
 ⟨6, [.tmp 2],
  (.seq (.reg [⟨(some 2), .mv (.v .nils), none, none⟩])
  (.seq (.reg [⟨(some 3), .mv (.t 0), none, none⟩, ⟨(some 4), .call 86 [(.t 3)], none, none⟩, ⟨(some 5), .call 85 [(.t 4), (.v (.fn 87 []))], none, none⟩, ⟨(some 2), .mv (.t 5), none, none⟩])
  .ret))⟩
/-- pochoir/pochoirref28.those -/
def s81 : SFn :=
 ⟨24, [.tmp 2],
  (.seq (.reg [⟨(some 2), .mv (.v .nils), none, none⟩])
  (.seq (.reg [⟨(some 3), .mv (.v .nils), none, none⟩])
  (.seq (.seq (.reg [⟨(some 4), .mv (.v (.int .i64 0)), none, none⟩])
  (.block 0 (.loop (.seq (.seq (.reg [⟨(some 5), .mv (.t 4), none, none⟩, ⟨(some 6), .mv (.t 0), none, none⟩, ⟨(some 7), .len false (.t 6), none, none⟩, ⟨(some 8), .bin .lss (.t 5) (.t 7), none, none⟩])
  (.cond (.t 8) .skip (.exit 0)))
  (.seq (.block 1 (.seq (.reg [⟨(some 11), .mv (.t 0), none, none⟩, ⟨(some 12), .mv (.t 4), none, none⟩, ⟨(some 13), .iaddr 4 (.t 11) (.t 12), none, none⟩, ⟨(some 14), .load (some 4) (.t 13), none, none⟩, ⟨(some 15), .call 53 [(.t 14)], none, none⟩])
  (.cond (.t 15) (.reg [⟨(some 16), .mv (.t 3), none, none⟩, ⟨(some 17), .mv (.t 0), none, none⟩, ⟨(some 18), .mv (.t 4), none, none⟩, ⟨(some 19), .iaddr 4 (.t 17) (.t 18), none, none⟩, ⟨(some 20), .load (some 4) (.t 19), none, none⟩, ⟨(some 21), .bsl 81 [(.int .i64 0), (.int .i64 0), (.int .i64 0), (.int .i64 0)] 1 4 [(0, 4, (.t 20))], none, none⟩, ⟨(some 22), .app 81 4 (.t 16) (.t 21), none, none⟩, ⟨(some 3), .mv (.t 22), none, none⟩]) .skip)))
  (.reg [⟨(some 9), .mv (.t 4), none, none⟩, ⟨(some 10), .bin .add (.t 9) (.v (.int .i64 1)), none, none⟩, ⟨(some 4), .mv (.t 10), none, none⟩]))))))
  (.seq (.reg [⟨(some 23), .mv (.t 3), none, none⟩, ⟨(some 2), .mv (.t 23), none, none⟩])
  .ret))))⟩
/-- slices.ContainsFunc[[]pochoir/api.Rect,pochoir/api.Rect] -/
def s82 : SFn :=
 ⟨9, [.tmp 4],
  (.seq (.reg [⟨(some 4), .mv (.v (.bool false)), none, none⟩])
  (.seq (.reg [⟨(some 5), .mv (.t 0), none, none⟩, ⟨(some 6), .mv (.t 1), none, none⟩, ⟨(some 7), .call 88 [(.t 5), (.t 6)], none, none⟩, ⟨(some 8), .bin .geq (.t 7) (.v (.int .i64 0)), none, none⟩, ⟨(some 4), .mv (.t 8), none, none⟩])
  .ret))⟩
/-- pochoir/rect.Prune$1 -/
def s83 : SFn :=
 ⟨7, [.tmp 3],
  (.seq (.reg [⟨(some 2), .box 81 (.t 0), none, none⟩, ⟨(some 3), .mv (.v (.bool false)), none, none⟩])
  (.seq (.reg [⟨(some 4), .load (some 4) (.t 2), none, none⟩, ⟨(some 5), .load (some 4) (.t 1), none, none⟩, ⟨(some 6), .call 77 [(.t 4), (.t 5)], none, none⟩, ⟨(some 3), .mv (.t 6), none, none⟩])
  .ret))⟩
/-- pochoir/rect.Prune$2 -/
def s84 : SFn :=
 ⟨12, [.tmp 3],
  (.seq (.reg [⟨(some 2), .box 81 (.t 0), none, none⟩, ⟨(some 3), .mv (.v (.bool false)), none, none⟩])
  (.seq (.reg [⟨(some 4), .load (some 4) (.t 2), none, none⟩, ⟨(some 5), .load (some 4) (.t 1), none, none⟩, ⟨(some 6), .eqs 4 [1, 1, 1, 1] true (.t 4) (.t 5), none, none⟩, ⟨(some 7), .mv (.t 6), none, none⟩, ⟨(some 8), .load (some 4) (.t 2), (some (7, true)), none⟩, ⟨(some 9), .load (some 4) (.t 1), (some (7, true)), none⟩, ⟨(some 10), .call 77 [(.t 8), (.t 9)], (some (7, true)), none⟩, ⟨(some 11), .pick (.t 7) (.t 10) (.v (.bool false)), none, none⟩, ⟨(some 3), .mv (.t 11), none, none⟩])
  .ret))⟩
/-- slices.DeleteFunc[[]pochoir/api.Rect,pochoir/api.Rect] -/
def s85 : SFn :=
 ⟨42, [.tmp 4],
  (.seq (.reg [⟨(some 4), .mv (.v .nils), none, none⟩])
  (.seq (.reg [⟨(some 8), .mv (.t 0), none, none⟩, ⟨(some 9), .mv (.t 1), none, none⟩, ⟨(some 10), .call 88 [(.t 8), (.t 9)], none, none⟩, ⟨(some 5), .mv (.t 10), none, none⟩])
  (.seq (.seq (.reg [⟨(some 11), .mv (.t 5), none, none⟩, ⟨(some 12), .bin .eql (.t 11) (.v (.int .i64 (-1))), none, none⟩])
  (.cond (.t 12) (.seq (.reg [⟨(some 13), .mv (.t 0), none, none⟩, ⟨(some 4), .mv (.t 13), none, none⟩])
  .ret) .skip))
  (.seq (.seq (.reg [⟨(some 14), .mv (.t 5), none, none⟩, ⟨(some 15), .bin .add (.t 14) (.v (.int .i64 1)), none, none⟩, ⟨(some 6), .mv (.t 15), none, none⟩])
  (.block 0 (.loop (.seq (.seq (.reg [⟨(some 16), .mv (.t 6), none, none⟩, ⟨(some 17), .mv (.t 0), none, none⟩, ⟨(some 18), .len false (.t 17), none, none⟩, ⟨(some 19), .bin .lss (.t 16) (.t 18), none, none⟩])
  (.cond (.t 19) .skip (.exit 0)))
  (.seq (.block 1 (.seq (.reg [⟨(some 22), .mv (.t 0), none, none⟩, ⟨(some 23), .mv (.t 6), none, none⟩, ⟨(some 24), .iaddr 4 (.t 22) (.t 23), none, none⟩, ⟨(some 25), .load (some 4) (.t 24), none, none⟩, ⟨(some 7), .box 81 (.v (.agg [(.int .i64 0), (.int .i64 0), (.int .i64 0), (.int .i64 0)])), none, none⟩, ⟨none, .store 4 (.t 7) (.t 25), none, none⟩])
  (.seq (.reg [⟨(some 26), .mv (.t 1), none, none⟩, ⟨(some 27), .load (some 4) (.t 7), none, none⟩, ⟨(some 28), .callv (.t 26) [(.t 27)], none, none⟩, ⟨(some 29), .un .not (.t 28), none, none⟩])
  (.cond (.t 29) (.seq (.reg [⟨(some 30), .mv (.t 0), none, none⟩, ⟨(some 31), .mv (.t 5), none, none⟩, ⟨(some 32), .load (some 4) (.t 7), none, none⟩, ⟨(some 33), .iaddr 4 (.t 30) (.t 31), none, none⟩, ⟨none, .store 4 (.t 33) (.t 32), none, none⟩])
  (.reg [⟨(some 34), .mv (.t 5), none, none⟩, ⟨(some 35), .bin .add (.t 34) (.v (.int .i64 1)), none, none⟩, ⟨(some 5), .mv (.t 35), none, none⟩])) .skip))))
  (.reg [⟨(some 20), .mv (.t 6), none, none⟩, ⟨(some 21), .bin .add (.t 20) (.v (.int .i64 1)), none, none⟩, ⟨(some 6), .mv (.t 21), none, none⟩]))))))
  (.seq (.reg [⟨(some 36), .mv (.t 0), none, none⟩, ⟨(some 37), .mv (.t 5), none, none⟩, ⟨(some 38), .slc 4 (.t 36) (some (.t 37)) none none, none, none⟩, ⟨none, .clear [(.int .i64 0), (.int .i64 0), (.int .i64 0), (.int .i64 0)] (.t 38), none, none⟩])
  (.seq (.reg [⟨(some 39), .mv (.t 0), none, none⟩, ⟨(some 40), .mv (.t 5), none, none⟩, ⟨(some 41), .slc 4 (.t 39) none (some (.t 40)) none, none, none⟩, ⟨(some 4), .mv (.t 41), none, none⟩])
  .ret))))))⟩
/-- slices.Clone[[]pochoir/api.Rect,pochoir/api.Rect] -/
def s86 : SFn :=
 ⟨8, [.tmp 2],
  (.seq (.reg [⟨(some 2), .mv (.v .nils), none, none⟩])
  (.seq (.seq (.reg [⟨(some 3), .mv (.t 0), none, none⟩, ⟨(some 4), .eqs 2 [] false (.t 3) (.v .nils), none, none⟩])
  (.cond (.t 4) (.seq (.reg [⟨(some 2), .mv (.v .nils), none, none⟩])
  .ret) .skip))
  (.seq (.reg [⟨(some 5), .bsl 81 [] 0 4 [], none, none⟩, ⟨(some 6), .mv (.t 0), none, none⟩, ⟨(some 7), .app 81 4 (.t 5) (.t 6), none, none⟩, ⟨(some 2), .mv (.t 7), none, none⟩])
  .ret)))⟩
/-- pochoir/rect.those$1 -/
def s87 : SFn :=
 ⟨6, [.tmp 2],
  (.seq (.reg [⟨(some 1), .box 81 (.t 0), none, none⟩, ⟨(some 2), .mv (.v (.bool false)), none, none⟩])
  (.seq (.reg [⟨(some 3), .load (some 4) (.t 1), none, none⟩, ⟨(some 4), .call 52 [(.t 3)], none, none⟩, ⟨(some 5), .un .not (.t 4), none, none⟩, ⟨(some 2), .mv (.t 5), none, none⟩])
  .ret))⟩
/-- slices.IndexFunc[[]pochoir/api.Rect,pochoir/api.Rect] -/
def s88 : SFn :=
 ⟨19, [.tmp 4],
  (.seq (.reg [⟨(some 4), .mv (.v (.int .i64 0)), none, none⟩])
  (.seq (.seq (.reg [⟨(some 6), .mv (.t 0), none, none⟩, ⟨(some 7), .len false (.t 6), none, none⟩, ⟨(some 8), .mv (.v (.int .i64 0)), none, none⟩])
  (.block 0 (.loop (.seq (.reg [⟨(some 9), .bin .lss (.t 8) (.t 7), none, none⟩])
  (.seq (.cond (.t 9) .skip (.exit 0))
  (.seq (.block 1 (.seq (.reg [⟨(some 10), .mv (.t 8), none, none⟩, ⟨(some 5), .mv (.t 10), none, none⟩])
  (.seq (.reg [⟨(some 11), .mv (.t 1), none, none⟩, ⟨(some 12), .mv (.t 0), none, none⟩, ⟨(some 13), .mv (.t 5), none, none⟩, ⟨(some 14), .iaddr 4 (.t 12) (.t 13), none, none⟩, ⟨(some 15), .load (some 4) (.t 14), none, none⟩, ⟨(some 16), .callv (.t 11) [(.t 15)], none, none⟩])
  (.cond (.t 16) (.seq (.reg [⟨(some 17), .mv (.t 5), none, none⟩, ⟨(some 4), .mv (.t 17), none, none⟩])
  .ret) .skip))))
  (.reg [⟨(some 18), .bin .add (.t 8) (.v (.int .i64 1)), none, none⟩, ⟨(some 8), .mv (.t 18), none, none⟩])))))))
  (.seq (.reg [⟨(some 4), .mv (.v (.int .i64 (-1))), none, none⟩])
  .ret)))⟩
def E : Nat → Option SFn
  | 3 => some s3
  | 4 => some s4
  | 5 => some s5
  | 6 => some s6
  | 7 => some s7
  | 8 => some s8
  | 9 => some s9
  | 10 => some s10
  | 11 => some s11
  | 12 => some s12
  | 13 => some s13
  | 14 => some s14
  | 15 => some s15
  | 16 => some s16
  | 17 => some s17
  | 18 => some s18
  | 19 => some s19
  | 20 => some s20
  | 21 => some s21
  | 22 => some s22
  | 23 => some s23
  | 24 => some s24
  | 25 => some s25
  | 26 => some s26
  | 27 => some s27
  | 28 => some s28
  | 29 => some s29
  | 30 => some s30
  | 31 => some s31
  | 32 => some s32
  | 33 => some s33
  | 34 => some s34
  | 35 => some s35
  | 36 => some s36
  | 37 => some s37
  | 38 => some s38
  | 39 => some s39
  | 40 => some s40
  | 41 => some s41
  | 42 => some s42
  | 43 => some s43
  | 44 => some s44
  | 45 => some s45
  | 46 => some s46
  | 47 => some s47
  | 48 => some s48
  | 49 => some s49
  | 50 => some s50
  | 51 => some s51
  | 52 => some s52
  | 53 => some s53
  | 54 => some s54
  | 55 => some s55
  | 56 => some s56
  | 57 => some s57
  | 58 => some s58
  | 59 => some s59
  | 60 => some s60
  | 61 => some s61
  | 62 => some s62
  | 63 => some s63
  | 64 => some s64
  | 65 => some s65
  | 66 => some s66
  | 67 => some s67
  | 68 => some s68
  | 69 => some s69
  | 70 => some s70
  | 71 => some s71
  | 72 => some s72
  | 73 => some s73
  | 74 => some s74
  | 75 => some s75
  | 76 => some s76
  | 77 => some s77
  | 78 => some s78
  | 79 => some s79
  | 80 => some s80
  | 81 => some s81
  | 82 => some s82
  | 83 => some s83
  | 84 => some s84
  | 85 => some s85
  | 86 => some s86
  | 87 => some s87
  | 88 => some s88
  | _ => none
def env0 : Env := { E := E, I := fun _ _ _ => none, isI := fun _ => false }
end Go.Proofs.Ytimbippemlmnlaa
