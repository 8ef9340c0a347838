/- The slim functions of this seat, and the table of them. -/
import Derived.Test.YtimbippemlmnlaaDen2
set_option linter.unusedVariables false
namespace Go.Proofs.Ytimbippemlmnlaa
open Go.Den
/-- pochoir/pochoirlaw27.FixAll -/
def s4 : SFn :=
 ⟨88, [.tmp 4],
  (.seq (.reg [⟨(some 4), .mv (.v (.bool false)), none, none⟩])
  (.seq (.seq (.reg [⟨(some 13), .call 14 [], none, none⟩, ⟨(some 14), .un .not (.t 13), none, none⟩])
  (.cond (.t 14) (.seq (.reg [⟨(some 4), .mv (.v (.bool false)), none, none⟩])
  .ret) .skip))
  (.seq (.seq (.reg [⟨(some 15), .mv (.t 0), none, none⟩, ⟨(some 16), .len false (.t 15), none, none⟩, ⟨(some 17), .bin .gtr (.t 16) (.v (.int .i64 100)), none, none⟩])
  (.cond (.t 17) (.seq (.reg [⟨(some 4), .mv (.v (.bool true)), none, none⟩])
  .ret) .skip))
  (.seq (.reg [⟨(some 19), .mv (.t 0), none, none⟩, ⟨(some 20), .mv (.t 1), none, none⟩, ⟨(some 21), .call 17 [(.t 19), (.t 20)], none, none⟩, ⟨(some 18), .mv (.t 21), none, none⟩, ⟨(some 22), .extract (.t 18) 0, none, none⟩, ⟨(some 23), .extract (.t 18) 1, none, none⟩, ⟨(some 5), .mv (.t 22), none, none⟩, ⟨(some 6), .mv (.t 23), none, none⟩])
  (.seq (.reg [⟨(some 25), .mv (.t 0), none, none⟩, ⟨(some 26), .mv (.t 1), none, none⟩, ⟨(some 27), .call 18 [(.t 25), (.t 26)], none, none⟩, ⟨(some 24), .mv (.t 27), none, none⟩, ⟨(some 28), .extract (.t 24) 0, none, none⟩, ⟨(some 29), .extract (.t 24) 1, none, none⟩, ⟨(some 7), .mv (.t 28), none, none⟩, ⟨(some 8), .mv (.t 29), none, none⟩])
  (.seq (.reg [⟨(some 31), .mv (.t 5), none, none⟩, ⟨(some 32), .mv (.t 1), none, none⟩, ⟨(some 33), .call 17 [(.t 31), (.t 32)], none, none⟩, ⟨(some 30), .mv (.t 33), none, none⟩, ⟨(some 34), .extract (.t 30) 0, none, none⟩, ⟨(some 35), .extract (.t 30) 1, none, none⟩, ⟨(some 9), .mv (.t 34), none, none⟩, ⟨(some 10), .mv (.t 35), none, none⟩])
  (.seq (.seq (.reg [⟨(some 36), .mv (.t 5), none, none⟩, ⟨(some 37), .mv (.t 7), none, none⟩, ⟨(some 38), .call 19 [(.t 36), (.t 37)], none, none⟩, ⟨(some 39), .un .not (.t 38), none, none⟩, ⟨(some 40), .mv (.t 39), none, none⟩, ⟨(some 41), .mv (.t 6), (some (40, false)), none⟩, ⟨(some 42), .mv (.t 8), (some (40, false)), none⟩, ⟨(some 43), .bin .neq (.t 41) (.t 42), (some (40, false)), none⟩, ⟨(some 44), .pick (.t 40) (.v (.bool true)) (.t 43), none, none⟩, ⟨(some 45), .mv (.t 44), none, none⟩, ⟨(some 46), .mv (.t 10), (some (45, false)), none⟩, ⟨(some 47), .bin .neq (.t 46) (.v (.int .i64 0)), (some (45, false)), none⟩, ⟨(some 48), .pick (.t 45) (.v (.bool true)) (.t 47), none, none⟩, ⟨(some 49), .mv (.t 48), none, none⟩, ⟨(some 50), .mv (.t 9), (some (49, false)), none⟩, ⟨(some 51), .mv (.t 5), (some (49, false)), none⟩, ⟨(some 52), .call 19 [(.t 50), (.t 51)], (some (49, false)), none⟩, ⟨(some 53), .un .not (.t 52), (some (49, false)), none⟩, ⟨(some 54), .pick (.t 49) (.v (.bool true)) (.t 53), none, none⟩])
  (.cond (.t 54) (.seq (.reg [⟨(some 4), .mv (.v (.bool false)), none, none⟩])
  .ret) .skip))
  (.seq (.seq (.reg [⟨(some 55), .mv (.t 0), none, none⟩, ⟨(some 56), .len false (.t 55), none, none⟩, ⟨(some 57), .mv (.v (.int .i64 0)), none, none⟩])
  (.block 0 (.loop (.seq (.reg [⟨(some 58), .bin .lss (.t 57) (.t 56), none, none⟩])
  (.seq (.cond (.t 58) .skip (.exit 0))
  (.seq (.block 1 (.seq (.reg [⟨(some 59), .mv (.t 57), none, none⟩, ⟨(some 60), .iaddr 4 (.t 55) (.t 57), none, none⟩, ⟨(some 61), .load (some 4) (.t 60), none, none⟩, ⟨(some 12), .box 31 (.v (.agg [(.int .u8 0), (.int .u8 0), (.int .u8 0), (.int .u8 0)])), none, none⟩, ⟨(some 11), .mv (.t 59), none, none⟩, ⟨none, .store 4 (.t 12) (.t 61), none, none⟩])
  (.seq (.regd [⟨(some 62), .load (some 4) (.t 12), none, (some [])⟩, ⟨(some 63), .mv (.t 1), none, (some [])⟩, ⟨(some 64), .call 20 [(.t 62), (.t 63)], none, (some [])⟩, ⟨(some 65), .load (some 4) (.t 12), none, (some [2])⟩, ⟨(some 66), .mv (.t 1), none, (some [2])⟩, ⟨(some 67), .call 21 [(.t 65), (.t 66)], none, (some [])⟩, ⟨(some 68), .eqs 0 [] true (.t 64) (.t 67), none, (some [])⟩, ⟨(some 69), .mv (.t 68), none, (some [])⟩, ⟨(some 70), .load (some 4) (.t 12), (some (69, false)), (some [])⟩, ⟨(some 71), .mv (.t 1), (some (69, false)), (some [])⟩, ⟨(some 72), .call 22 [(.t 70), (.t 71)], (some (69, false)), (some [])⟩, ⟨(some 73), .mv (.t 5), (some (69, false)), (some [10])⟩, ⟨(some 74), .mv (.t 11), (some (69, false)), (some [10])⟩, ⟨(some 75), .iaddr 4 (.t 73) (.t 74), (some (69, false)), (some [10])⟩, ⟨(some 76), .load (some 4) (.t 75), (some (69, false)), (some [10])⟩, ⟨(some 77), .eqs 4 [1, 1, 1, 1] true (.t 72) (.t 76), (some (69, false)), (some [])⟩, ⟨(some 78), .pick (.t 69) (.v (.bool true)) (.t 77), none, (some [])⟩, ⟨(some 79), .mv (.t 78), none, (some [])⟩, ⟨(some 80), .mv (.t 5), (some (79, false)), (some [])⟩, ⟨(some 81), .mv (.t 11), (some (79, false)), (some [])⟩, ⟨(some 82), .iaddr 4 (.t 80) (.t 81), (some (79, false)), (some [])⟩, ⟨(some 83), .load (some 4) (.t 82), (some (79, false)), none⟩, ⟨(some 84), .mv (.t 1), (some (79, false)), (some [])⟩, ⟨(some 85), .call 20 [(.t 83), (.t 84)], (some (79, false)), none⟩, ⟨(some 86), .pick (.t 79) (.v (.bool true)) (.t 85), none, (some [])⟩])
  (.cond (.t 86) (.seq (.reg [⟨(some 4), .mv (.v (.bool false)), none, none⟩])
  .ret) .skip))))
  (.reg [⟨(some 87), .bin .add (.t 57) (.v (.int .i64 1)), none, none⟩, ⟨(some 57), .mv (.t 87), none, none⟩])))))))
  (.seq (.reg [⟨(some 4), .mv (.v (.bool true)), none, none⟩])
  .ret)))))))))⟩
/-- pochoir/pochoirlaw27.FixLimits -/
def s5 : SFn :=
 ⟨78, [.tmp 6],
  (.seq (.reg [⟨(some 6), .mv (.v (.bool false)), none, none⟩])
  (.seq (.seq (.reg [⟨(some 14), .call 14 [], none, none⟩, ⟨(some 15), .un .not (.t 14), none, none⟩])
  (.cond (.t 15) (.seq (.reg [⟨(some 6), .mv (.v (.bool false)), none, none⟩])
  .ret) .skip))
  (.seq (.seq (.reg [⟨(some 16), .mv (.t 0), none, none⟩, ⟨(some 17), .len false (.t 16), none, none⟩, ⟨(some 18), .bin .gtr (.t 17) (.v (.int .i64 100)), none, none⟩, ⟨(some 19), .mv (.t 18), none, none⟩, ⟨(some 20), .mv (.t 1), (some (19, false)), none⟩, ⟨(some 21), .mv (.t 2), (some (19, false)), none⟩, ⟨(some 22), .bin .gtr (.t 20) (.t 21), (some (19, false)), none⟩, ⟨(some 23), .pick (.t 19) (.v (.bool true)) (.t 22), none, none⟩])
  (.cond (.t 23) (.seq (.reg [⟨(some 6), .mv (.v (.bool true)), none, none⟩])
  .ret) .skip))
  (.seq (.reg [⟨(some 25), .mv (.t 0), none, none⟩, ⟨(some 26), .mv (.t 1), none, none⟩, ⟨(some 27), .call 17 [(.t 25), (.t 26)], none, none⟩, ⟨(some 24), .mv (.t 27), none, none⟩, ⟨(some 28), .extract (.t 24) 0, none, none⟩, ⟨(some 29), .extract (.t 24) 1, none, none⟩, ⟨(some 7), .mv (.t 28), none, none⟩, ⟨(some 8), .mv (.t 29), none, none⟩])
  (.seq (.reg [⟨(some 31), .mv (.t 0), none, none⟩, ⟨(some 32), .mv (.t 2), none, none⟩, ⟨(some 33), .call 17 [(.t 31), (.t 32)], none, none⟩, ⟨(some 30), .mv (.t 33), none, none⟩, ⟨(some 34), .extract (.t 30) 0, none, none⟩, ⟨(some 35), .extract (.t 30) 1, none, none⟩, ⟨(some 9), .mv (.t 34), none, none⟩, ⟨(some 10), .mv (.t 35), none, none⟩])
  (.seq (.reg [⟨(some 37), .mv (.t 0), none, none⟩, ⟨(some 38), .call 17 [(.t 37), (.v (.int .i64 255))], none, none⟩, ⟨(some 36), .mv (.t 38), none, none⟩, ⟨(some 39), .extract (.t 36) 0, none, none⟩, ⟨(some 40), .extract (.t 36) 1, none, none⟩, ⟨(some 11), .mv (.t 39), none, none⟩, ⟨(some 12), .mv (.t 40), none, none⟩])
  (.seq (.seq (.reg [⟨(some 41), .mv (.t 7), none, none⟩, ⟨(some 42), .len false (.t 41), none, none⟩, ⟨(some 43), .mv (.v (.int .i64 0)), none, none⟩])
  (.block 0 (.loop (.seq (.reg [⟨(some 44), .bin .lss (.t 43) (.t 42), none, none⟩])
  (.seq (.cond (.t 44) .skip (.exit 0))
  (.seq (.block 1 (.seq (.reg [⟨(some 45), .mv (.t 43), none, none⟩, ⟨(some 13), .mv (.t 45), none, none⟩])
  (.seq (.regd [⟨(some 46), .mv (.t 13), none, (some [])⟩, ⟨(some 47), .mv (.t 0), none, (some [])⟩, ⟨(some 48), .len false (.t 47), none, (some [])⟩, ⟨(some 49), .bin .geq (.t 46) (.t 48), none, (some [])⟩, ⟨(some 50), .mv (.t 49), none, (some [])⟩, ⟨(some 51), .mv (.t 7), (some (50, false)), (some [])⟩, ⟨(some 52), .mv (.t 13), (some (50, false)), (some [])⟩, ⟨(some 53), .iaddr 4 (.t 51) (.t 52), (some (50, false)), (some [])⟩, ⟨(some 54), .faddr 0 (.t 53), (some (50, false)), (some [])⟩, ⟨(some 55), .load none (.t 54), (some (50, false)), (some [])⟩, ⟨(some 56), .mv (.t 0), (some (50, false)), (some [])⟩, ⟨(some 57), .mv (.t 13), (some (50, false)), (some [])⟩, ⟨(some 58), .iaddr 4 (.t 56) (.t 57), (some (50, false)), (some [])⟩, ⟨(some 59), .faddr 0 (.t 58), (some (50, false)), (some [])⟩, ⟨(some 60), .load none (.t 59), (some (50, false)), (some [])⟩, ⟨(some 61), .bin .neq (.t 55) (.t 60), (some (50, false)), (some [])⟩, ⟨(some 62), .pick (.t 50) (.v (.bool true)) (.t 61), none, (some [])⟩])
  (.cond (.t 62) (.seq (.reg [⟨(some 6), .mv (.v (.bool false)), none, none⟩])
  .ret) .skip))))
  (.reg [⟨(some 63), .bin .add (.t 43) (.v (.int .i64 1)), none, none⟩, ⟨(some 43), .mv (.t 63), none, none⟩])))))))
  (.seq (.reg [⟨(some 64), .mv (.t 8), none, none⟩, ⟨(some 65), .mv (.t 10), none, none⟩, ⟨(some 66), .bin .geq (.t 64) (.t 65), none, none⟩, ⟨(some 67), .mv (.t 66), none, none⟩, ⟨(some 68), .mv (.t 12), (some (67, true)), none⟩, ⟨(some 69), .bin .eql (.t 68) (.v (.int .i64 0)), (some (67, true)), none⟩, ⟨(some 70), .pick (.t 67) (.t 69) (.v (.bool false)), none, none⟩, ⟨(some 71), .mv (.t 70), none, none⟩, ⟨(some 72), .mv (.t 7), (some (71, true)), none⟩, ⟨(some 73), .len false (.t 72), (some (71, true)), none⟩, ⟨(some 74), .mv (.t 0), (some (71, true)), none⟩, ⟨(some 75), .len false (.t 74), (some (71, true)), none⟩, ⟨(some 76), .bin .eql (.t 73) (.t 75), (some (71, true)), none⟩, ⟨(some 77), .pick (.t 71) (.t 76) (.v (.bool false)), none, none⟩, ⟨(some 6), .mv (.t 77), none, none⟩])
  .ret))))))))⟩
/-- pochoir/pochoirlaw27.awake -/
def s14 : SFn :=
 ⟨46, [.tmp 0],
  (.seq (.reg [⟨(some 0), .mv (.v (.bool false)), none, none⟩])
  (.seq (.reg [⟨(some 4), .build [(.int .u8 0), (.int .u8 0), (.int .u8 0), (.int .u8 0)] [(0, 1, (.v (.int .u8 100))), (1, 1, (.v (.int .u8 10))), (2, 1, (.v (.int .u8 20))), (3, 1, (.v (.int .u8 100)))], none, none⟩, ⟨(some 1), .box 31 (.v (.agg [(.int .u8 0), (.int .u8 0), (.int .u8 0), (.int .u8 0)])), none, none⟩, ⟨none, .store 4 (.t 1) (.t 4), none, none⟩])
  (.seq (.reg [⟨(some 6), .load (some 4) (.t 1), none, none⟩, ⟨(some 7), .build [(.int .u8 0), (.int .u8 0), (.int .u8 0), (.int .u8 0)] [(0, 1, (.v (.int .u8 5))), (1, 1, (.v (.int .u8 5))), (2, 1, (.v (.int .u8 9))), (3, 1, (.v (.int .u8 1)))], none, none⟩, ⟨(some 8), .bsl 31 [(.int .u8 0), (.int .u8 0), (.int .u8 0), (.int .u8 0), (.int .u8 0), (.int .u8 0), (.int .u8 0), (.int .u8 0)] 2 4 [(0, 4, (.t 6)), (4, 4, (.t 7))], none, none⟩, ⟨(some 9), .call 17 [(.t 8), (.v (.int .i64 50))], none, none⟩, ⟨(some 5), .mv (.t 9), none, none⟩, ⟨(some 10), .extract (.t 5) 0, none, none⟩, ⟨(some 11), .extract (.t 5) 1, none, none⟩, ⟨(some 2), .mv (.t 10), none, none⟩, ⟨(some 3), .mv (.t 11), none, none⟩])
  (.seq (.reg [⟨(some 12), .call 15 [(.v (.int .u8 3)), (.v (.int .u8 1)), (.v (.int .u8 2))], none, none⟩, ⟨(some 13), .bin .eql (.t 12) (.v (.int .u8 2)), none, none⟩, ⟨(some 14), .mv (.t 13), none, none⟩, ⟨(some 15), .load (some 4) (.t 1), (some (14, true)), none⟩, ⟨(some 16), .call 20 [(.t 15), (.v (.int .i64 50))], (some (14, true)), none⟩, ⟨(some 17), .pick (.t 14) (.t 16) (.v (.bool false)), none, none⟩, ⟨(some 18), .mv (.t 17), none, none⟩, ⟨(some 19), .load (some 4) (.t 1), (some (18, true)), none⟩, ⟨(some 20), .call 20 [(.t 19), (.v (.int .i64 80))], (some (18, true)), none⟩, ⟨(some 21), .un .not (.t 20), (some (18, true)), none⟩, ⟨(some 22), .pick (.t 18) (.t 21) (.v (.bool false)), none, none⟩, ⟨(some 23), .mv (.t 22), none, none⟩, ⟨(some 24), .mv (.t 3), (some (23, true)), none⟩, ⟨(some 25), .bin .eql (.t 24) (.v (.int .i64 1)), (some (23, true)), none⟩, ⟨(some 26), .pick (.t 23) (.t 25) (.v (.bool false)), none, none⟩, ⟨(some 27), .mv (.t 26), none, none⟩, ⟨(some 28), .mv (.t 2), (some (27, true)), none⟩, ⟨(some 29), .len false (.t 28), (some (27, true)), none⟩, ⟨(some 30), .bin .eql (.t 29) (.v (.int .i64 2)), (some (27, true)), none⟩, ⟨(some 31), .pick (.t 27) (.t 30) (.v (.bool false)), none, none⟩, ⟨(some 32), .mv (.t 31), none, none⟩, ⟨(some 33), .mv (.t 2), (some (32, true)), none⟩, ⟨(some 34), .iaddr 4 (.t 33) (.v (.int .i64 0)), (some (32, true)), none⟩, ⟨(some 35), .faddr 1 (.t 34), (some (32, true)), none⟩, ⟨(some 36), .load none (.t 35), (some (32, true)), none⟩, ⟨(some 37), .bin .eql (.t 36) (.v (.int .u8 100)), (some (32, true)), none⟩, ⟨(some 38), .pick (.t 32) (.t 37) (.v (.bool false)), none, none⟩, ⟨(some 39), .mv (.t 38), none, none⟩, ⟨(some 40), .mv (.t 2), (some (39, true)), none⟩, ⟨(some 41), .iaddr 4 (.t 40) (.v (.int .i64 1)), (some (39, true)), none⟩, ⟨(some 42), .faddr 2 (.t 41), (some (39, true)), none⟩, ⟨(some 43), .load none (.t 42), (some (39, true)), none⟩, ⟨(some 44), .bin .eql (.t 43) (.v (.int .u8 9)), (some (39, true)), none⟩, ⟨(some 45), .pick (.t 39) (.t 44) (.v (.bool false)), none, none⟩, ⟨(some 0), .mv (.t 45), none, none⟩])
  .ret))))⟩
/-- pochoir/fix.Median -/
def s15 : SFn :=
 ⟨16, [.tmp 6],
  (.seq (.reg [⟨(some 6), .mv (.v (.int .u8 0)), none, none⟩])
  (.seq (.reg [⟨(some 7), .mv (.t 0), none, none⟩, ⟨(some 8), .mv (.t 1), none, none⟩, ⟨(some 9), .mnmx false [(.t 7), (.t 8)], none, none⟩, ⟨(some 10), .mv (.t 0), none, none⟩, ⟨(some 11), .mv (.t 1), none, none⟩, ⟨(some 12), .mnmx true [(.t 10), (.t 11)], none, none⟩, ⟨(some 13), .mv (.t 2), none, none⟩, ⟨(some 14), .mnmx false [(.t 12), (.t 13)], none, none⟩, ⟨(some 15), .mnmx true [(.t 9), (.t 14)], none, none⟩, ⟨(some 6), .mv (.t 15), none, none⟩])
  .ret))⟩
/-- pochoir/pochoirref27.Median -/
def s16 : SFn :=
 ⟨22, [.tmp 6],
  (.seq (.reg [⟨(some 6), .mv (.v (.int .i64 0)), none, none⟩])
  (.seq (.reg [⟨(some 7), .mv (.t 0), none, none⟩, ⟨(some 8), .mv (.t 1), none, none⟩, ⟨(some 9), .bin .add (.t 7) (.t 8), none, none⟩, ⟨(some 10), .mv (.t 2), none, none⟩, ⟨(some 11), .bin .add (.t 9) (.t 10), none, none⟩, ⟨(some 12), .mv (.t 0), none, none⟩, ⟨(some 13), .mv (.t 1), none, none⟩, ⟨(some 14), .mv (.t 2), none, none⟩, ⟨(some 15), .mnmx false [(.t 12), (.t 13), (.t 14)], none, none⟩, ⟨(some 16), .bin .sub (.t 11) (.t 15), none, none⟩, ⟨(some 17), .mv (.t 0), none, none⟩, ⟨(some 18), .mv (.t 1), none, none⟩, ⟨(some 19), .mv (.t 2), none, none⟩, ⟨(some 20), .mnmx true [(.t 17), (.t 18), (.t 19)], none, none⟩, ⟨(some 21), .bin .sub (.t 16) (.t 20), none, none⟩, ⟨(some 6), .mv (.t 21), none, none⟩])
  .ret))⟩
/-- pochoir/fix.All -/
def s17 : SFn :=
 ⟨30, [.tmp 4, .tmp 5],
  (.seq (.reg [⟨(some 4), .mv (.v .nils), none, none⟩, ⟨(some 5), .mv (.v (.int .i64 0)), none, none⟩])
  (.seq (.reg [⟨(some 6), .mv (.v .nils), none, none⟩])
  (.seq (.reg [⟨(some 7), .mv (.v (.int .i64 0)), none, none⟩])
  (.seq (.seq (.reg [⟨(some 10), .mv (.t 0), none, none⟩, ⟨(some 11), .len false (.t 10), none, none⟩, ⟨(some 12), .mv (.v (.int .i64 0)), none, none⟩])
  (.block 0 (.loop (.seq (.reg [⟨(some 13), .bin .lss (.t 12) (.t 11), none, none⟩])
  (.seq (.cond (.t 13) .skip (.exit 0))
  (.seq (.block 1 (.seq (.reg [⟨(some 14), .iaddr 4 (.t 10) (.t 12), none, none⟩, ⟨(some 15), .load (some 4) (.t 14), none, none⟩, ⟨(some 9), .box 31 (.v (.agg [(.int .u8 0), (.int .u8 0), (.int .u8 0), (.int .u8 0)])), none, none⟩, ⟨none, .store 4 (.t 9) (.t 15), none, none⟩])
  (.seq (.seq (.reg [⟨(some 16), .load (some 4) (.t 9), none, none⟩, ⟨(some 17), .mv (.t 1), none, none⟩, ⟨(some 18), .call 20 [(.t 16), (.t 17)], none, none⟩])
  (.cond (.t 18) (.reg [⟨(some 19), .mv (.t 7), none, none⟩, ⟨(some 20), .bin .add (.t 19) (.v (.int .i64 1)), none, none⟩, ⟨(some 7), .mv (.t 20), none, none⟩]) .skip))
  (.reg [⟨(some 21), .mv (.t 6), none, none⟩, ⟨(some 22), .load (some 4) (.t 9), none, none⟩, ⟨(some 23), .mv (.t 1), none, none⟩, ⟨(some 24), .call 22 [(.t 22), (.t 23)], none, none⟩, ⟨(some 25), .bsl 31 [(.int .u8 0), (.int .u8 0), (.int .u8 0), (.int .u8 0)] 1 4 [(0, 4, (.t 24))], none, none⟩, ⟨(some 26), .app 31 4 (.t 21) (.t 25), none, none⟩, ⟨(some 6), .mv (.t 26), none, none⟩]))))
  (.reg [⟨(some 27), .bin .add (.t 12) (.v (.int .i64 1)), none, none⟩, ⟨(some 12), .mv (.t 27), none, none⟩])))))))
  (.seq (.reg [⟨(some 28), .mv (.t 6), none, none⟩, ⟨(some 29), .mv (.t 7), none, none⟩, ⟨(some 4), .mv (.t 28), none, none⟩, ⟨(some 5), .mv (.t 29), none, none⟩])
  .ret)))))⟩
/-- pochoir/pochoirref27.All -/
def s18 : SFn :=
 ⟨34, [.tmp 4, .tmp 5],
  (.seq (.reg [⟨(some 4), .mv (.v .nils), none, none⟩, ⟨(some 5), .mv (.v (.int .i64 0)), none, none⟩])
  (.seq (.reg [⟨(some 6), .mv (.v (.int .i64 0)), none, none⟩])
  (.seq (.reg [⟨(some 7), .mv (.v .nils), none, none⟩])
  (.seq (.seq (.reg [⟨(some 8), .mv (.v (.int .i64 0)), none, none⟩])
  (.block 0 (.loop (.seq (.seq (.reg [⟨(some 9), .mv (.t 8), none, none⟩, ⟨(some 10), .mv (.t 0), none, none⟩, ⟨(some 11), .len false (.t 10), none, none⟩, ⟨(some 12), .bin .lss (.t 9) (.t 11), none, none⟩])
  (.cond (.t 12) .skip (.exit 0)))
  (.seq (.block 1 (.seq (.seq (.reg [⟨(some 15), .mv (.t 0), none, none⟩, ⟨(some 16), .mv (.t 8), none, none⟩, ⟨(some 17), .iaddr 4 (.t 15) (.t 16), none, none⟩, ⟨(some 18), .load (some 4) (.t 17), none, none⟩, ⟨(some 19), .mv (.t 1), none, none⟩, ⟨(some 20), .call 21 [(.t 18), (.t 19)], none, none⟩])
  (.cond (.t 20) (.reg [⟨(some 21), .mv (.t 6), none, none⟩, ⟨(some 22), .bin .add (.t 21) (.v (.int .i64 1)), none, none⟩, ⟨(some 6), .mv (.t 22), none, none⟩]) .skip))
  (.reg [⟨(some 23), .mv (.t 7), none, none⟩, ⟨(some 24), .mv (.t 0), none, none⟩, ⟨(some 25), .mv (.t 8), none, none⟩, ⟨(some 26), .iaddr 4 (.t 24) (.t 25), none, none⟩, ⟨(some 27), .load (some 4) (.t 26), none, none⟩, ⟨(some 28), .mv (.t 1), none, none⟩, ⟨(some 29), .call 66 [(.t 27), (.t 28)], none, none⟩, ⟨(some 30), .bsl 31 [(.int .u8 0), (.int .u8 0), (.int .u8 0), (.int .u8 0)] 1 4 [(0, 4, (.t 29))], none, none⟩, ⟨(some 31), .app 31 4 (.t 23) (.t 30), none, none⟩, ⟨(some 7), .mv (.t 31), none, none⟩])))
  (.reg [⟨(some 13), .mv (.t 8), none, none⟩, ⟨(some 14), .bin .add (.t 13) (.v (.int .i64 1)), none, none⟩, ⟨(some 8), .mv (.t 14), none, none⟩]))))))
  (.seq (.reg [⟨(some 32), .mv (.t 7), none, none⟩, ⟨(some 33), .mv (.t 6), none, none⟩, ⟨(some 4), .mv (.t 32), none, none⟩, ⟨(some 5), .mv (.t 33), none, none⟩])
  .ret)))))⟩
/-- pochoir/pochoirref26.Same -/
def s19 : SFn :=
 ⟨26, [.tmp 4],
  (.seq (.reg [⟨(some 4), .mv (.v (.bool false)), none, none⟩])
  (.seq (.seq (.reg [⟨(some 6), .mv (.t 0), none, none⟩, ⟨(some 7), .len false (.t 6), none, none⟩, ⟨(some 8), .mv (.t 1), none, none⟩, ⟨(some 9), .len false (.t 8), none, none⟩, ⟨(some 10), .bin .neq (.t 7) (.t 9), none, none⟩])
  (.cond (.t 10) (.seq (.reg [⟨(some 4), .mv (.v (.bool false)), none, none⟩])
  .ret) .skip))
  (.seq (.seq (.reg [⟨(some 5), .mv (.v (.int .i64 0)), none, none⟩])
  (.block 0 (.loop (.seq (.seq (.reg [⟨(some 11), .mv (.t 5), none, none⟩, ⟨(some 12), .mv (.t 0), none, none⟩, ⟨(some 13), .len false (.t 12), none, none⟩, ⟨(some 14), .bin .lss (.t 11) (.t 13), none, none⟩])
  (.cond (.t 14) .skip (.exit 0)))
  (.seq (.block 1 (.seq (.regd [⟨(some 17), .mv (.t 0), none, (some [])⟩, ⟨(some 18), .mv (.t 5), none, (some [])⟩, ⟨(some 19), .iaddr 4 (.t 17) (.t 18), none, (some [])⟩, ⟨(some 20), .load (some 4) (.t 19), none, (some [])⟩, ⟨(some 21), .mv (.t 1), none, (some [])⟩, ⟨(some 22), .mv (.t 5), none, (some [])⟩, ⟨(some 23), .iaddr 4 (.t 21) (.t 22), none, (some [])⟩, ⟨(some 24), .load (some 4) (.t 23), none, (some [])⟩, ⟨(some 25), .eqs 4 [1, 1, 1, 1] true (.t 20) (.t 24), none, (some [])⟩])
  (.cond (.t 25) (.seq (.reg [⟨(some 4), .mv (.v (.bool false)), none, none⟩])
  .ret) .skip)))
  (.reg [⟨(some 15), .mv (.t 5), none, none⟩, ⟨(some 16), .bin .add (.t 15) (.v (.int .i64 1)), none, none⟩, ⟨(some 5), .mv (.t 16), none, none⟩]))))))
  (.seq (.reg [⟨(some 4), .mv (.v (.bool true)), none, none⟩])
  .ret))))⟩
/-- pochoir/fix.Misleads -/
def s20 : SFn :=
 ⟨18, [.tmp 4],
  (.seq (.reg [⟨(some 2), .box 31 (.t 0), none, none⟩, ⟨(some 4), .mv (.v (.bool false)), none, none⟩])
  (.seq (.regd [⟨(some 5), .faddr 1 (.t 2), none, (some [])⟩, ⟨(some 6), .load none (.t 5), none, (some [])⟩, ⟨(some 7), .faddr 2 (.t 2), none, (some [])⟩, ⟨(some 8), .load none (.t 7), none, (some [])⟩, ⟨(some 9), .faddr 3 (.t 2), none, (some [])⟩, ⟨(some 10), .load none (.t 9), none, (some [])⟩, ⟨(some 11), .call 15 [(.t 6), (.t 8), (.t 10)], none, (some [])⟩, ⟨(some 12), .faddr 0 (.t 2), none, (some [6])⟩, ⟨(some 13), .load none (.t 12), none, (some [6])⟩, ⟨(some 14), .call 67 [(.t 11), (.t 13)], none, none⟩, ⟨(some 15), .mv (.t 1), none, (some [6, 9])⟩, ⟨(some 16), .mnmx true [(.t 15), (.v (.int .i64 0))], none, (some [6, 9])⟩, ⟨(some 17), .bin .gtr (.t 14) (.t 16), none, (some [])⟩, ⟨(some 4), .mv (.t 17), none, (some [])⟩])
  .ret))⟩
/-- pochoir/pochoirref27.Misleads -/
def s21 : SFn :=
 ⟨28, [.tmp 4],
  (.seq (.reg [⟨(some 2), .box 31 (.t 0), none, none⟩, ⟨(some 4), .mv (.v (.bool false)), none, none⟩])
  (.seq (.regd [⟨(some 6), .faddr 1 (.t 2), none, (some [])⟩, ⟨(some 7), .load none (.t 6), none, (some [])⟩, ⟨(some 8), .conv .i64 (.t 7), none, (some [])⟩, ⟨(some 9), .faddr 2 (.t 2), none, (some [])⟩, ⟨(some 10), .load none (.t 9), none, (some [])⟩, ⟨(some 11), .conv .i64 (.t 10), none, (some [])⟩, ⟨(some 12), .faddr 3 (.t 2), none, (some [])⟩, ⟨(some 13), .load none (.t 12), none, (some [])⟩, ⟨(some 14), .conv .i64 (.t 13), none, (some [])⟩, ⟨(some 15), .call 16 [(.t 8), (.t 11), (.t 14)], none, (some [])⟩, ⟨(some 16), .faddr 0 (.t 2), none, (some [9])⟩, ⟨(some 17), .load none (.t 16), none, (some [9])⟩, ⟨(some 18), .conv .i64 (.t 17), none, (some [9])⟩, ⟨(some 19), .bin .sub (.t 15) (.t 18), none, (some [])⟩, ⟨(some 5), .mv (.t 19), none, (some [])⟩])
  (.seq (.reg [⟨(some 20), .mv (.t 5), none, none⟩, ⟨(some 21), .mv (.t 5), none, none⟩, ⟨(some 22), .un .neg (.t 21), none, none⟩, ⟨(some 23), .mnmx true [(.t 20), (.t 22)], none, none⟩, ⟨(some 24), .mv (.t 1), none, none⟩, ⟨(some 25), .mnmx true [(.t 24), (.v (.int .i64 0))], none, none⟩, ⟨(some 26), .mnmx false [(.t 25), (.v (.int .i64 255))], none, none⟩, ⟨(some 27), .bin .gtr (.t 23) (.t 26), none, none⟩, ⟨(some 4), .mv (.t 27), none, none⟩])
  .ret)))⟩
/-- pochoir/fix.One -/
def s22 : SFn :=
 ⟨18, [.cell 4 (some 4)],
  (.seq (.reg [⟨(some 2), .box 31 (.t 0), none, none⟩, ⟨(some 4), .box 31 (.v (.agg [(.int .u8 0), (.int .u8 0), (.int .u8 0), (.int .u8 0)])), none, none⟩])
  (.seq (.seq (.reg [⟨(some 5), .load (some 4) (.t 2), none, none⟩, ⟨(some 6), .mv (.t 1), none, none⟩, ⟨(some 7), .call 20 [(.t 5), (.t 6)], none, none⟩])
  (.cond (.t 7) (.reg [⟨(some 8), .faddr 0 (.t 2), none, none⟩, ⟨(some 9), .load none (.t 8), none, none⟩, ⟨(some 10), .faddr 0 (.t 2), none, none⟩, ⟨(some 11), .load none (.t 10), none, none⟩, ⟨(some 12), .faddr 0 (.t 2), none, none⟩, ⟨(some 13), .load none (.t 12), none, none⟩, ⟨(some 14), .faddr 1 (.t 2), none, none⟩, ⟨none, .store 1 (.t 14) (.t 9), none, none⟩, ⟨(some 15), .faddr 2 (.t 2), none, none⟩, ⟨none, .store 1 (.t 15) (.t 11), none, none⟩, ⟨(some 16), .faddr 3 (.t 2), none, none⟩, ⟨none, .store 1 (.t 16) (.t 13), none, none⟩]) .skip))
  (.seq (.reg [⟨(some 17), .load (some 4) (.t 2), none, none⟩, ⟨none, .store 4 (.t 4) (.t 17), none, none⟩])
  .ret)))⟩
/-- pochoir/pochoirref27.One -/
def s66 : SFn :=
 ⟨18, [.cell 4 (some 4)],
  (.seq (.reg [⟨(some 2), .box 31 (.t 0), none, none⟩, ⟨(some 4), .box 31 (.v (.agg [(.int .u8 0), (.int .u8 0), (.int .u8 0), (.int .u8 0)])), none, none⟩])
  (.seq (.seq (.reg [⟨(some 5), .load (some 4) (.t 2), none, none⟩, ⟨(some 6), .mv (.t 1), none, none⟩, ⟨(some 7), .call 21 [(.t 5), (.t 6)], none, none⟩])
  (.cond (.t 7) (.seq (.reg [⟨(some 8), .faddr 0 (.t 2), none, none⟩, ⟨(some 9), .load none (.t 8), none, none⟩, ⟨(some 10), .faddr 0 (.t 2), none, none⟩, ⟨(some 11), .load none (.t 10), none, none⟩, ⟨(some 12), .faddr 0 (.t 2), none, none⟩, ⟨(some 13), .load none (.t 12), none, none⟩, ⟨(some 14), .faddr 0 (.t 2), none, none⟩, ⟨(some 15), .load none (.t 14), none, none⟩, ⟨(some 16), .build [(.int .u8 0), (.int .u8 0), (.int .u8 0), (.int .u8 0)] [(0, 1, (.t 9)), (1, 1, (.t 11)), (2, 1, (.t 13)), (3, 1, (.t 15))], none, none⟩, ⟨none, .store 4 (.t 4) (.t 16), none, none⟩])
  .ret) .skip))
  (.seq (.reg [⟨(some 17), .load (some 4) (.t 2), none, none⟩, ⟨none, .store 4 (.t 4) (.t 17), none, none⟩])
  .ret)))⟩
/-- pochoir/fix.apart -/
def s67 : SFn :=
 ⟨13, [.tmp 4],
  (.seq (.reg [⟨(some 4), .mv (.v (.int .i64 0)), none, none⟩])
  (.seq (.reg [⟨(some 5), .mv (.t 0), none, none⟩, ⟨(some 6), .mv (.t 1), none, none⟩, ⟨(some 7), .mnmx true [(.t 5), (.t 6)], none, none⟩, ⟨(some 8), .mv (.t 0), none, none⟩, ⟨(some 9), .mv (.t 1), none, none⟩, ⟨(some 10), .mnmx false [(.t 8), (.t 9)], none, none⟩, ⟨(some 11), .bin .sub (.t 7) (.t 10), none, none⟩, ⟨(some 12), .conv .i64 (.t 11), none, none⟩, ⟨(some 4), .mv (.t 12), none, none⟩])
  .ret))⟩
def E : Nat → Option SFn
  | 4 => some s4
  | 5 => some s5
  | 14 => some s14
  | 15 => some s15
  | 16 => some s16
  | 17 => some s17
  | 18 => some s18
  | 19 => some s19
  | 20 => some s20
  | 21 => some s21
  | 22 => some s22
  | 66 => some s66
  | 67 => some s67
  | _ => none
def env : Env := { E := E, I := fun _ _ _ => none, isI := fun _ => false }
end Go.Proofs.Ytimbippemlmnlaa
