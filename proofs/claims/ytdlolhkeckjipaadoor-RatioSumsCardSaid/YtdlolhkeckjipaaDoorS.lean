/- The slim functions of this seat, and the table of them. -/
import Derived.Test.YtdlolhkeckjipaaDoorDen2
set_option linter.unusedVariables false
namespace Go.Proofs.YtdlolhkeckjipaaDoor
open Go.Den
/-- pochoir/pochoirlaw03.RatioNew -/
def s3 : SFn :=
 ⟨50, [.tmp 4],
  (.seq (.reg [⟨(some 4), .mv (.v (.bool false)), none, none, []⟩])
  (.seq (.seq (.reg [⟨(some 10), .call 6 [], none, none, []⟩, ⟨(some 11), .un .not (.t 10), none, none, []⟩])
  (.cond (.t 11) (.seq (.reg [⟨(some 4), .mv (.v (.bool false)), none, none, []⟩])
  .ret) .skip))
  (.seq (.reg [⟨(some 13), .mv (.t 0), none, none, []⟩, ⟨(some 14), .mv (.t 1), none, none, []⟩, ⟨(some 15), .call 7 [(.t 13), (.t 14)], none, none, []⟩, ⟨(some 12), .mv (.t 15), none, none, []⟩, ⟨(some 16), .extract (.t 12) 0, none, none, []⟩, ⟨(some 17), .extract (.t 12) 1, none, none, []⟩, ⟨(some 5), .box 24 (.v (.agg [(.int .i64 0), (.int .i64 0)])), none, none, []⟩, ⟨none, .store 2 (.t 5) (.t 16), none, none, []⟩, ⟨(some 6), .mv (.t 17), none, none, []⟩])
  (.seq (.reg [⟨(some 19), .mv (.t 0), none, none, []⟩, ⟨(some 20), .mv (.t 1), none, none, []⟩, ⟨(some 21), .call 8 [(.t 19), (.t 20)], none, none, []⟩, ⟨(some 18), .mv (.t 21), none, none, []⟩, ⟨(some 22), .extract (.t 18) 0, none, none, []⟩, ⟨(some 23), .extract (.t 18) 1, none, none, []⟩, ⟨(some 7), .box 24 (.v (.agg [(.int .i64 0), (.int .i64 0)])), none, none, []⟩, ⟨none, .store 2 (.t 7) (.t 22), none, none, []⟩, ⟨(some 8), .mv (.t 23), none, none, []⟩])
  (.seq (.reg [⟨(some 24), .mv (.t 0), none, none, []⟩, ⟨(some 25), .mv (.t 1), none, none, []⟩, ⟨(some 26), .build [(.int .i64 0), (.int .i64 0)] [(0, 1, (.t 24)), (1, 1, (.t 25))], none, none, []⟩, ⟨(some 9), .box 24 (.v (.agg [(.int .i64 0), (.int .i64 0)])), none, none, []⟩, ⟨none, .store 2 (.t 9) (.t 26), none, none, []⟩])
  (.seq (.regd [⟨(some 27), .load (some 2) (.t 5), none, (some []), []⟩, ⟨(some 28), .load (some 2) (.t 7), none, (some []), []⟩, ⟨(some 29), .eqs 4 [1, 1] false (.t 27) (.t 28), none, (some []), []⟩, ⟨(some 30), .mv (.t 29), none, (some []), []⟩, ⟨(some 31), .mv (.t 6), (some (30, true)), (some []), []⟩, ⟨(some 32), .mv (.t 8), (some (30, true)), (some []), []⟩, ⟨(some 33), .bin .eql (.t 31) (.t 32), (some (30, true)), (some []), []⟩, ⟨(some 34), .pick (.t 30) (.t 33) (.v (.bool false)), none, (some []), []⟩, ⟨(some 35), .mv (.t 34), none, (some []), []⟩, ⟨(some 36), .load (some 2) (.t 9), (some (35, true)), (some []), []⟩, ⟨(some 37), .call 9 [(.t 36)], (some (35, true)), none, [(none, (.t 9))]⟩, ⟨(some 38), .load (some 2) (.t 9), (some (35, true)), (some [10]), []⟩, ⟨(some 39), .call 10 [(.t 38)], (some (35, true)), none, []⟩, ⟨(some 40), .eqs 0 [] false (.t 37) (.t 39), (some (35, true)), (some []), []⟩, ⟨(some 41), .pick (.t 35) (.t 40) (.v (.bool false)), none, (some []), []⟩, ⟨(some 42), .mv (.t 41), none, (some []), []⟩, ⟨(some 43), .mv (.t 8), (some (42, true)), (some []), []⟩, ⟨(some 44), .bin .neq (.t 43) (.v (.int .i64 0)), (some (42, true)), (some []), []⟩, ⟨(some 45), .mv (.t 44), (some (42, true)), (some []), []⟩, ⟨(some 46), .load (some 2) (.t 5), (some (45, false)), none, []⟩, ⟨(some 47), .call 9 [(.t 46)], (some (45, false)), none, []⟩, ⟨(some 48), .pick (.t 45) (.v (.bool true)) (.t 47), (some (42, true)), (some []), []⟩, ⟨(some 49), .pick (.t 42) (.t 48) (.v (.bool false)), none, (some []), []⟩, ⟨(some 4), .mv (.t 49), none, (some []), []⟩])
  .ret))))))⟩
/-- pochoir/pochoirlaw03.RatioOrder -/
def s4 : SFn :=
 ⟨80, [.tmp 4],
  (.seq (.reg [⟨(some 2), .box 24 (.t 0), none, none, []⟩, ⟨(some 3), .box 24 (.t 1), none, none, []⟩, ⟨(some 4), .mv (.v (.bool false)), none, none, []⟩])
  (.seq (.seq (.reg [⟨(some 13), .call 6 [], none, none, []⟩, ⟨(some 14), .un .not (.t 13), none, none, []⟩])
  (.cond (.t 14) (.seq (.reg [⟨(some 4), .mv (.v (.bool false)), none, none, []⟩])
  .ret) .skip))
  (.seq (.reg [⟨(some 16), .load (some 2) (.t 2), none, none, []⟩, ⟨(some 17), .load (some 2) (.t 3), none, none, []⟩, ⟨(some 18), .call 11 [(.t 16), (.t 17)], none, none, []⟩, ⟨(some 15), .mv (.t 18), none, none, []⟩, ⟨(some 19), .extract (.t 15) 0, none, none, []⟩, ⟨(some 20), .extract (.t 15) 1, none, none, []⟩, ⟨(some 5), .mv (.t 19), none, none, []⟩, ⟨(some 6), .mv (.t 20), none, none, []⟩])
  (.seq (.reg [⟨(some 22), .load (some 2) (.t 2), none, none, []⟩, ⟨(some 23), .load (some 2) (.t 3), none, none, []⟩, ⟨(some 24), .call 12 [(.t 22), (.t 23)], none, none, []⟩, ⟨(some 21), .mv (.t 24), none, none, []⟩, ⟨(some 25), .extract (.t 21) 0, none, none, []⟩, ⟨(some 26), .extract (.t 21) 1, none, none, []⟩, ⟨(some 7), .mv (.t 25), none, none, []⟩, ⟨(some 8), .mv (.t 26), none, none, []⟩])
  (.seq (.reg [⟨(some 28), .load (some 2) (.t 2), none, none, []⟩, ⟨(some 29), .call 13 [(.t 28)], none, none, []⟩, ⟨(some 27), .mv (.t 29), none, none, []⟩, ⟨(some 30), .extract (.t 27) 0, none, none, []⟩, ⟨(some 31), .extract (.t 27) 1, none, none, []⟩, ⟨(some 9), .mv (.t 30), none, none, []⟩, ⟨(some 10), .mv (.t 31), none, none, []⟩])
  (.seq (.reg [⟨(some 33), .load (some 2) (.t 2), none, none, []⟩, ⟨(some 34), .call 14 [(.t 33)], none, none, []⟩, ⟨(some 32), .mv (.t 34), none, none, []⟩, ⟨(some 35), .extract (.t 32) 0, none, none, []⟩, ⟨(some 36), .extract (.t 32) 1, none, none, []⟩, ⟨(some 11), .mv (.t 35), none, none, []⟩, ⟨(some 12), .mv (.t 36), none, none, []⟩])
  (.seq (.seq (.reg [⟨(some 37), .mv (.t 5), none, none, []⟩, ⟨(some 38), .mv (.t 7), none, none, []⟩, ⟨(some 39), .bin .neq (.t 37) (.t 38), none, none, []⟩, ⟨(some 40), .mv (.t 39), none, none, []⟩, ⟨(some 41), .mv (.t 6), (some (40, false)), none, []⟩, ⟨(some 42), .mv (.t 8), (some (40, false)), none, []⟩, ⟨(some 43), .bin .neq (.t 41) (.t 42), (some (40, false)), none, []⟩, ⟨(some 44), .pick (.t 40) (.v (.bool true)) (.t 43), none, none, []⟩])
  (.cond (.t 44) (.seq (.reg [⟨(some 4), .mv (.v (.bool false)), none, none, []⟩])
  .ret) .skip))
  (.seq (.seq (.reg [⟨(some 45), .load (some 2) (.t 2), none, none, []⟩, ⟨(some 46), .call 10 [(.t 45)], none, none, []⟩, ⟨(some 47), .un .not (.t 46), none, none, []⟩])
  (.cond (.t 47) (.seq (.reg [⟨(some 48), .mv (.t 9), none, none, []⟩, ⟨(some 49), .bin .eql (.t 48) (.v (.int .i64 0)), none, none, []⟩, ⟨(some 50), .mv (.t 49), none, none, []⟩, ⟨(some 51), .mv (.t 10), (some (50, true)), none, []⟩, ⟨(some 52), .bin .eql (.t 51) (.v (.int .i64 1)), (some (50, true)), none, []⟩, ⟨(some 53), .pick (.t 50) (.t 52) (.v (.bool false)), none, none, []⟩, ⟨(some 54), .mv (.t 53), none, none, []⟩, ⟨(some 55), .mv (.t 11), (some (54, true)), none, []⟩, ⟨(some 56), .bin .eql (.t 55) (.v (.int .i64 0)), (some (54, true)), none, []⟩, ⟨(some 57), .pick (.t 54) (.t 56) (.v (.bool false)), none, none, []⟩, ⟨(some 58), .mv (.t 57), none, none, []⟩, ⟨(some 59), .mv (.t 12), (some (58, true)), none, []⟩, ⟨(some 60), .bin .eql (.t 59) (.v (.int .i64 1)), (some (58, true)), none, []⟩, ⟨(some 61), .pick (.t 58) (.t 60) (.v (.bool false)), none, none, []⟩, ⟨(some 4), .mv (.t 61), none, none, []⟩])
  .ret) .skip))
  (.seq (.reg [⟨(some 62), .mv (.t 9), none, none, []⟩, ⟨(some 63), .load (some 2) (.t 2), none, none, []⟩, ⟨(some 64), .call 15 [(.t 63)], none, none, []⟩, ⟨(some 65), .bin .eql (.t 62) (.t 64), none, none, []⟩, ⟨(some 66), .mv (.t 65), none, none, []⟩, ⟨(some 67), .mv (.t 10), (some (66, true)), none, []⟩, ⟨(some 68), .bin .eql (.t 67) (.v (.int .i64 0)), (some (66, true)), none, []⟩, ⟨(some 69), .pick (.t 66) (.t 68) (.v (.bool false)), none, none, []⟩, ⟨(some 70), .mv (.t 69), none, none, []⟩, ⟨(some 71), .mv (.t 11), (some (70, true)), none, []⟩, ⟨(some 72), .load (some 2) (.t 2), (some (70, true)), none, []⟩, ⟨(some 73), .call 16 [(.t 72)], (some (70, true)), none, []⟩, ⟨(some 74), .bin .eql (.t 71) (.t 73), (some (70, true)), none, []⟩, ⟨(some 75), .pick (.t 70) (.t 74) (.v (.bool false)), none, none, []⟩, ⟨(some 76), .mv (.t 75), none, none, []⟩, ⟨(some 77), .mv (.t 12), (some (76, true)), none, []⟩, ⟨(some 78), .bin .eql (.t 77) (.v (.int .i64 0)), (some (76, true)), none, []⟩, ⟨(some 79), .pick (.t 76) (.t 78) (.v (.bool false)), none, none, []⟩, ⟨(some 4), .mv (.t 79), none, none, []⟩])
  .ret)))))))))⟩
/-- pochoir/pochoirlaw03.RatioSums -/
def s5 : SFn :=
 ⟨109, [.tmp 4],
  (.seq (.reg [⟨(some 2), .box 24 (.t 0), none, none, []⟩, ⟨(some 3), .box 24 (.t 1), none, none, []⟩, ⟨(some 4), .mv (.v (.bool false)), none, none, []⟩])
  (.seq (.seq (.reg [⟨(some 21), .call 6 [], none, none, []⟩, ⟨(some 22), .un .not (.t 21), none, none, []⟩])
  (.cond (.t 22) (.seq (.reg [⟨(some 4), .mv (.v (.bool false)), none, none, []⟩])
  .ret) .skip))
  (.seq (.reg [⟨(some 24), .load (some 2) (.t 2), none, none, []⟩, ⟨(some 25), .load (some 2) (.t 3), none, none, []⟩, ⟨(some 26), .call 17 [(.t 24), (.t 25)], none, none, []⟩, ⟨(some 23), .mv (.t 26), none, none, []⟩, ⟨(some 27), .extract (.t 23) 0, none, none, []⟩, ⟨(some 28), .extract (.t 23) 1, none, none, []⟩, ⟨(some 5), .box 24 (.v (.agg [(.int .i64 0), (.int .i64 0)])), none, none, []⟩, ⟨none, .store 2 (.t 5) (.t 27), none, none, []⟩, ⟨(some 6), .mv (.t 28), none, none, []⟩])
  (.seq (.reg [⟨(some 30), .load (some 2) (.t 2), none, none, []⟩, ⟨(some 31), .load (some 2) (.t 3), none, none, []⟩, ⟨(some 32), .call 18 [(.t 30), (.t 31)], none, none, []⟩, ⟨(some 29), .mv (.t 32), none, none, []⟩, ⟨(some 33), .extract (.t 29) 0, none, none, []⟩, ⟨(some 34), .extract (.t 29) 1, none, none, []⟩, ⟨(some 7), .box 24 (.v (.agg [(.int .i64 0), (.int .i64 0)])), none, none, []⟩, ⟨none, .store 2 (.t 7) (.t 33), none, none, []⟩, ⟨(some 8), .mv (.t 34), none, none, []⟩])
  (.seq (.reg [⟨(some 36), .load (some 2) (.t 2), none, none, []⟩, ⟨(some 37), .load (some 2) (.t 3), none, none, []⟩, ⟨(some 38), .call 19 [(.t 36), (.t 37)], none, none, []⟩, ⟨(some 35), .mv (.t 38), none, none, []⟩, ⟨(some 39), .extract (.t 35) 0, none, none, []⟩, ⟨(some 40), .extract (.t 35) 1, none, none, []⟩, ⟨(some 9), .box 24 (.v (.agg [(.int .i64 0), (.int .i64 0)])), none, none, []⟩, ⟨none, .store 2 (.t 9) (.t 39), none, none, []⟩, ⟨(some 10), .mv (.t 40), none, none, []⟩])
  (.seq (.reg [⟨(some 42), .load (some 2) (.t 2), none, none, []⟩, ⟨(some 43), .load (some 2) (.t 3), none, none, []⟩, ⟨(some 44), .call 20 [(.t 42), (.t 43)], none, none, []⟩, ⟨(some 41), .mv (.t 44), none, none, []⟩, ⟨(some 45), .extract (.t 41) 0, none, none, []⟩, ⟨(some 46), .extract (.t 41) 1, none, none, []⟩, ⟨(some 11), .box 24 (.v (.agg [(.int .i64 0), (.int .i64 0)])), none, none, []⟩, ⟨none, .store 2 (.t 11) (.t 45), none, none, []⟩, ⟨(some 12), .mv (.t 46), none, none, []⟩])
  (.seq (.reg [⟨(some 48), .load (some 2) (.t 2), none, none, []⟩, ⟨(some 49), .load (some 2) (.t 3), none, none, []⟩, ⟨(some 50), .call 21 [(.t 48), (.t 49)], none, none, []⟩, ⟨(some 47), .mv (.t 50), none, none, []⟩, ⟨(some 51), .extract (.t 47) 0, none, none, []⟩, ⟨(some 52), .extract (.t 47) 1, none, none, []⟩, ⟨(some 13), .box 24 (.v (.agg [(.int .i64 0), (.int .i64 0)])), none, none, []⟩, ⟨none, .store 2 (.t 13) (.t 51), none, none, []⟩, ⟨(some 14), .mv (.t 52), none, none, []⟩])
  (.seq (.reg [⟨(some 54), .load (some 2) (.t 2), none, none, []⟩, ⟨(some 55), .load (some 2) (.t 3), none, none, []⟩, ⟨(some 56), .call 22 [(.t 54), (.t 55)], none, none, []⟩, ⟨(some 53), .mv (.t 56), none, none, []⟩, ⟨(some 57), .extract (.t 53) 0, none, none, []⟩, ⟨(some 58), .extract (.t 53) 1, none, none, []⟩, ⟨(some 15), .box 24 (.v (.agg [(.int .i64 0), (.int .i64 0)])), none, none, []⟩, ⟨none, .store 2 (.t 15) (.t 57), none, none, []⟩, ⟨(some 16), .mv (.t 58), none, none, []⟩])
  (.seq (.reg [⟨(some 60), .load (some 2) (.t 2), none, none, []⟩, ⟨(some 61), .load (some 2) (.t 3), none, none, []⟩, ⟨(some 62), .call 23 [(.t 60), (.t 61)], none, none, []⟩, ⟨(some 59), .mv (.t 62), none, none, []⟩, ⟨(some 63), .extract (.t 59) 0, none, none, []⟩, ⟨(some 64), .extract (.t 59) 1, none, none, []⟩, ⟨(some 17), .box 24 (.v (.agg [(.int .i64 0), (.int .i64 0)])), none, none, []⟩, ⟨none, .store 2 (.t 17) (.t 63), none, none, []⟩, ⟨(some 18), .mv (.t 64), none, none, []⟩])
  (.seq (.reg [⟨(some 66), .load (some 2) (.t 2), none, none, []⟩, ⟨(some 67), .load (some 2) (.t 3), none, none, []⟩, ⟨(some 68), .call 24 [(.t 66), (.t 67)], none, none, []⟩, ⟨(some 65), .mv (.t 68), none, none, []⟩, ⟨(some 69), .extract (.t 65) 0, none, none, []⟩, ⟨(some 70), .extract (.t 65) 1, none, none, []⟩, ⟨(some 19), .box 24 (.v (.agg [(.int .i64 0), (.int .i64 0)])), none, none, []⟩, ⟨none, .store 2 (.t 19) (.t 69), none, none, []⟩, ⟨(some 20), .mv (.t 70), none, none, []⟩])
  (.seq (.reg [⟨(some 71), .load (some 2) (.t 5), none, none, []⟩, ⟨(some 72), .load (some 2) (.t 13), none, none, []⟩, ⟨(some 73), .eqs 4 [1, 1] false (.t 71) (.t 72), none, none, []⟩, ⟨(some 74), .mv (.t 73), none, none, []⟩, ⟨(some 75), .mv (.t 6), (some (74, true)), none, []⟩, ⟨(some 76), .mv (.t 14), (some (74, true)), none, []⟩, ⟨(some 77), .bin .eql (.t 75) (.t 76), (some (74, true)), none, []⟩, ⟨(some 78), .pick (.t 74) (.t 77) (.v (.bool false)), none, none, []⟩, ⟨(some 79), .mv (.t 78), none, none, []⟩, ⟨(some 80), .load (some 2) (.t 7), (some (79, true)), none, []⟩, ⟨(some 81), .load (some 2) (.t 15), (some (79, true)), none, []⟩, ⟨(some 82), .eqs 4 [1, 1] false (.t 80) (.t 81), (some (79, true)), none, []⟩, ⟨(some 83), .pick (.t 79) (.t 82) (.v (.bool false)), none, none, []⟩, ⟨(some 84), .mv (.t 83), none, none, []⟩, ⟨(some 85), .mv (.t 8), (some (84, true)), none, []⟩, ⟨(some 86), .mv (.t 16), (some (84, true)), none, []⟩, ⟨(some 87), .bin .eql (.t 85) (.t 86), (some (84, true)), none, []⟩, ⟨(some 88), .pick (.t 84) (.t 87) (.v (.bool false)), none, none, []⟩, ⟨(some 89), .mv (.t 88), none, none, []⟩, ⟨(some 90), .load (some 2) (.t 9), (some (89, true)), none, []⟩, ⟨(some 91), .load (some 2) (.t 17), (some (89, true)), none, []⟩, ⟨(some 92), .eqs 4 [1, 1] false (.t 90) (.t 91), (some (89, true)), none, []⟩, ⟨(some 93), .pick (.t 89) (.t 92) (.v (.bool false)), none, none, []⟩, ⟨(some 94), .mv (.t 93), none, none, []⟩, ⟨(some 95), .mv (.t 10), (some (94, true)), none, []⟩, ⟨(some 96), .mv (.t 18), (some (94, true)), none, []⟩, ⟨(some 97), .bin .eql (.t 95) (.t 96), (some (94, true)), none, []⟩, ⟨(some 98), .pick (.t 94) (.t 97) (.v (.bool false)), none, none, []⟩, ⟨(some 99), .mv (.t 98), none, none, []⟩, ⟨(some 100), .load (some 2) (.t 11), (some (99, true)), none, []⟩, ⟨(some 101), .load (some 2) (.t 19), (some (99, true)), none, []⟩, ⟨(some 102), .eqs 4 [1, 1] false (.t 100) (.t 101), (some (99, true)), none, []⟩, ⟨(some 103), .pick (.t 99) (.t 102) (.v (.bool false)), none, none, []⟩, ⟨(some 104), .mv (.t 103), none, none, []⟩, ⟨(some 105), .mv (.t 12), (some (104, true)), none, []⟩, ⟨(some 106), .mv (.t 20), (some (104, true)), none, []⟩, ⟨(some 107), .bin .eql (.t 105) (.t 106), (some (104, true)), none, []⟩, ⟨(some 108), .pick (.t 104) (.t 107) (.v (.bool false)), none, none, []⟩, ⟨(some 4), .mv (.t 108), none, none, []⟩])
  .ret)))))))))))⟩
/-- pochoir/pochoirlaw03.awake -/
def s6 : SFn :=
 ⟨59, [.tmp 0],
  (.seq (.reg [⟨(some 0), .mv (.v (.bool false)), none, none, []⟩])
  (.seq (.reg [⟨(some 10), .call 7 [(.v (.int .i64 6)), (.v (.int .i64 (-4)))], none, none, []⟩, ⟨(some 9), .mv (.t 10), none, none, []⟩, ⟨(some 11), .extract (.t 9) 0, none, none, []⟩, ⟨(some 12), .extract (.t 9) 1, none, none, []⟩, ⟨(some 1), .box 24 (.v (.agg [(.int .i64 0), (.int .i64 0)])), none, none, []⟩, ⟨none, .store 2 (.t 1) (.t 11), none, none, []⟩, ⟨(some 2), .mv (.t 12), none, none, []⟩])
  (.seq (.reg [⟨(some 14), .load (some 2) (.t 1), none, none, []⟩, ⟨(some 15), .call 13 [(.t 14)], none, none, []⟩, ⟨(some 13), .mv (.t 15), none, none, []⟩, ⟨(some 16), .extract (.t 13) 0, none, none, []⟩, ⟨(some 17), .extract (.t 13) 1, none, none, []⟩, ⟨(some 3), .mv (.t 16), none, none, []⟩, ⟨(some 4), .mv (.t 17), none, none, []⟩])
  (.seq (.reg [⟨(some 19), .load (some 2) (.t 1), none, none, []⟩, ⟨(some 20), .call 14 [(.t 19)], none, none, []⟩, ⟨(some 18), .mv (.t 20), none, none, []⟩, ⟨(some 21), .extract (.t 18) 0, none, none, []⟩, ⟨(some 22), .extract (.t 18) 1, none, none, []⟩, ⟨(some 5), .mv (.t 21), none, none, []⟩, ⟨(some 6), .mv (.t 22), none, none, []⟩])
  (.seq (.reg [⟨(some 24), .load (some 2) (.t 1), none, none, []⟩, ⟨(some 25), .call 25 [(.t 24)], none, none, []⟩, ⟨(some 23), .mv (.t 25), none, none, []⟩, ⟨(some 26), .extract (.t 23) 0, none, none, []⟩, ⟨(some 27), .extract (.t 23) 1, none, none, []⟩, ⟨(some 7), .mv (.t 26), none, none, []⟩, ⟨(some 8), .mv (.t 27), none, none, []⟩])
  (.seq (.reg [⟨(some 28), .load (some 2) (.t 1), none, none, []⟩, ⟨(some 29), .build [(.int .i64 0), (.int .i64 0)] [(0, 1, (.v (.int .i64 (-3)))), (1, 1, (.v (.int .i64 2)))], none, none, []⟩, ⟨(some 30), .eqs 4 [1, 1] false (.t 28) (.t 29), none, none, []⟩, ⟨(some 31), .mv (.t 30), none, none, []⟩, ⟨(some 32), .mv (.t 2), (some (31, true)), none, []⟩, ⟨(some 33), .bin .eql (.t 32) (.v (.int .i64 0)), (some (31, true)), none, []⟩, ⟨(some 34), .pick (.t 31) (.t 33) (.v (.bool false)), none, none, []⟩, ⟨(some 35), .mv (.t 34), none, none, []⟩, ⟨(some 36), .mv (.t 3), (some (35, true)), none, []⟩, ⟨(some 37), .bin .eql (.t 36) (.v (.int .i64 (-2))), (some (35, true)), none, []⟩, ⟨(some 38), .pick (.t 35) (.t 37) (.v (.bool false)), none, none, []⟩, ⟨(some 39), .mv (.t 38), none, none, []⟩, ⟨(some 40), .mv (.t 4), (some (39, true)), none, []⟩, ⟨(some 41), .bin .eql (.t 40) (.v (.int .i64 0)), (some (39, true)), none, []⟩, ⟨(some 42), .pick (.t 39) (.t 41) (.v (.bool false)), none, none, []⟩, ⟨(some 43), .mv (.t 42), none, none, []⟩, ⟨(some 44), .mv (.t 5), (some (43, true)), none, []⟩, ⟨(some 45), .bin .eql (.t 44) (.v (.int .i64 (-1))), (some (43, true)), none, []⟩, ⟨(some 46), .pick (.t 43) (.t 45) (.v (.bool false)), none, none, []⟩, ⟨(some 47), .mv (.t 46), none, none, []⟩, ⟨(some 48), .mv (.t 6), (some (47, true)), none, []⟩, ⟨(some 49), .bin .eql (.t 48) (.v (.int .i64 0)), (some (47, true)), none, []⟩, ⟨(some 50), .pick (.t 47) (.t 49) (.v (.bool false)), none, none, []⟩, ⟨(some 51), .mv (.t 50), none, none, []⟩, ⟨(some 52), .mv (.t 7), (some (51, true)), none, []⟩, ⟨(some 53), .bin .eql (.t 52) (.v (.str ⟨#[45, 51, 47, 50]⟩)), (some (51, true)), none, []⟩, ⟨(some 54), .pick (.t 51) (.t 53) (.v (.bool false)), none, none, []⟩, ⟨(some 55), .mv (.t 54), none, none, []⟩, ⟨(some 56), .mv (.t 8), (some (55, true)), none, []⟩, ⟨(some 57), .bin .eql (.t 56) (.v (.int .i64 0)), (some (55, true)), none, []⟩, ⟨(some 58), .pick (.t 55) (.t 57) (.v (.bool false)), none, none, []⟩, ⟨(some 0), .mv (.t 58), none, none, []⟩])
  .ret))))))⟩
/-- pochoir/ratio.New -/
def s7 : SFn :=
 ⟨16, [.cell 4 (some 2), .tmp 5],
  (.seq (.reg [⟨(some 4), .box 24 (.v (.agg [(.int .i64 0), (.int .i64 0)])), none, none, []⟩, ⟨(some 5), .mv (.v (.int .i64 0)), none, none, []⟩])
  (.seq (.seq (.reg [⟨(some 6), .mv (.t 1), none, none, []⟩, ⟨(some 7), .bin .eql (.t 6) (.v (.int .i64 0)), none, none, []⟩])
  (.cond (.t 7) (.seq (.reg [⟨(some 8), .build [(.int .i64 0), (.int .i64 0)] [], none, none, []⟩, ⟨none, .store 2 (.t 4) (.t 8), none, none, []⟩, ⟨(some 5), .mv (.v (.int .i64 13)), none, none, []⟩])
  .ret) .skip))
  (.seq (.reg [⟨(some 9), .mv (.t 0), none, none, []⟩, ⟨(some 10), .call 27 [(.t 9), (.v (.int .i64 1))], none, none, []⟩, ⟨(some 11), .mv (.t 1), none, none, []⟩, ⟨(some 12), .call 27 [(.t 11), (.v (.int .i64 1))], none, none, []⟩, ⟨(some 13), .call 26 [(.t 10), (.t 12)], none, none, []⟩, ⟨(some 14), .extract (.t 13) 0, none, none, []⟩, ⟨(some 15), .extract (.t 13) 1, none, none, []⟩, ⟨none, .store 2 (.t 4) (.t 14), none, none, []⟩, ⟨(some 5), .mv (.t 15), none, none, []⟩])
  .ret)))⟩
/-- pochoir/pochoirref03.New -/
def s8 : SFn :=
 ⟨54, [.cell 4 (some 2), .tmp 5],
  (.seq (.reg [⟨(some 4), .box 24 (.v (.agg [(.int .i64 0), (.int .i64 0)])), none, none, []⟩, ⟨(some 5), .mv (.v (.int .i64 0)), none, none, []⟩])
  (.seq (.seq (.reg [⟨(some 11), .mv (.t 1), none, none, []⟩, ⟨(some 12), .bin .eql (.t 11) (.v (.int .i64 0)), none, none, []⟩])
  (.cond (.t 12) (.seq (.reg [⟨(some 13), .build [(.int .i64 0), (.int .i64 0)] [], none, none, []⟩, ⟨none, .store 2 (.t 4) (.t 13), none, none, []⟩, ⟨(some 5), .mv (.v (.int .i64 13)), none, none, []⟩])
  .ret) .skip))
  (.seq (.reg [⟨(some 14), .mv (.t 0), none, none, []⟩, ⟨(some 15), .call 29 [(.t 14)], none, none, []⟩, ⟨(some 16), .mv (.t 1), none, none, []⟩, ⟨(some 17), .call 29 [(.t 16)], none, none, []⟩, ⟨(some 18), .call 28 [(.t 15), (.t 17)], none, none, []⟩, ⟨(some 6), .mv (.t 18), none, none, []⟩])
  (.seq (.reg [⟨(some 20), .mv (.t 0), none, none, []⟩, ⟨(some 21), .bin .lss (.t 20) (.v (.int .i64 0)), none, none, []⟩, ⟨(some 22), .mv (.t 1), none, none, []⟩, ⟨(some 23), .bin .lss (.t 22) (.v (.int .i64 0)), none, none, []⟩, ⟨(some 24), .eqs 0 [] true (.t 21) (.t 23), none, none, []⟩, ⟨(some 25), .mv (.t 24), none, none, []⟩, ⟨(some 26), .mv (.t 0), (some (25, true)), none, []⟩, ⟨(some 27), .bin .neq (.t 26) (.v (.int .i64 0)), (some (25, true)), none, []⟩, ⟨(some 28), .pick (.t 25) (.t 27) (.v (.bool false)), none, none, []⟩, ⟨(some 29), .mv (.t 0), none, none, []⟩, ⟨(some 30), .call 29 [(.t 29)], none, none, []⟩, ⟨(some 31), .mv (.t 6), none, none, []⟩, ⟨(some 32), .bin .quo (.t 30) (.t 31), none, none, []⟩, ⟨(some 33), .call 30 [(.t 28), (.t 32)], none, none, []⟩, ⟨(some 19), .mv (.t 33), none, none, []⟩, ⟨(some 34), .extract (.t 19) 0, none, none, []⟩, ⟨(some 35), .extract (.t 19) 1, none, none, []⟩, ⟨(some 7), .mv (.t 34), none, none, []⟩, ⟨(some 8), .mv (.t 35), none, none, []⟩])
  (.seq (.reg [⟨(some 37), .mv (.t 1), none, none, []⟩, ⟨(some 38), .call 29 [(.t 37)], none, none, []⟩, ⟨(some 39), .mv (.t 6), none, none, []⟩, ⟨(some 40), .bin .quo (.t 38) (.t 39), none, none, []⟩, ⟨(some 41), .call 30 [(.v (.bool false)), (.t 40)], none, none, []⟩, ⟨(some 36), .mv (.t 41), none, none, []⟩, ⟨(some 42), .extract (.t 36) 0, none, none, []⟩, ⟨(some 43), .extract (.t 36) 1, none, none, []⟩, ⟨(some 9), .mv (.t 42), none, none, []⟩, ⟨(some 10), .mv (.t 43), none, none, []⟩])
  (.seq (.seq (.reg [⟨(some 44), .mv (.t 8), none, none, []⟩, ⟨(some 45), .un .not (.t 44), none, none, []⟩, ⟨(some 46), .mv (.t 45), none, none, []⟩, ⟨(some 47), .mv (.t 10), (some (46, false)), none, []⟩, ⟨(some 48), .un .not (.t 47), (some (46, false)), none, []⟩, ⟨(some 49), .pick (.t 46) (.v (.bool true)) (.t 48), none, none, []⟩])
  (.cond (.t 49) (.seq (.reg [⟨(some 50), .build [(.int .i64 0), (.int .i64 0)] [], none, none, []⟩, ⟨none, .store 2 (.t 4) (.t 50), none, none, []⟩, ⟨(some 5), .mv (.v (.int .i64 2)), none, none, []⟩])
  .ret) .skip))
  (.seq (.reg [⟨(some 51), .mv (.t 7), none, none, []⟩, ⟨(some 52), .mv (.t 9), none, none, []⟩, ⟨(some 53), .build [(.int .i64 0), (.int .i64 0)] [(0, 1, (.t 51)), (1, 1, (.t 52))], none, none, []⟩, ⟨none, .store 2 (.t 4) (.t 53), none, none, []⟩, ⟨(some 5), .mv (.v (.int .i64 0)), none, none, []⟩])
  .ret)))))))⟩
/-- pochoir/ratio.May -/
def s9 : SFn :=
 ⟨19, [.tmp 2],
  (.seq (.reg [⟨(some 1), .box 24 (.t 0), none, none, []⟩, ⟨(some 2), .mv (.v (.bool false)), none, none, []⟩])
  (.seq (.regd [⟨(some 3), .faddr 1 (.t 1), none, (some []), []⟩, ⟨(some 4), .load none (.t 3), none, none, []⟩, ⟨(some 5), .bin .gtr (.t 4) (.v (.int .i64 0)), none, (some []), []⟩, ⟨(some 6), .mv (.t 5), none, (some []), []⟩, ⟨(some 7), .faddr 0 (.t 1), (some (6, true)), (some []), []⟩, ⟨(some 8), .load none (.t 7), (some (6, true)), (some []), []⟩, ⟨(some 9), .call 33 [(.t 8)], (some (6, true)), none, [(none, (.t 1))]⟩, ⟨(some 10), .call 32 [(.t 9)], (some (6, true)), none, [(none, (.t 1))]⟩, ⟨(some 11), .faddr 1 (.t 1), (some (6, true)), (some [6, 7]), []⟩, ⟨(some 12), .load none (.t 11), (some (6, true)), (some [6, 7]), []⟩, ⟨(some 13), .call 33 [(.t 12)], (some (6, true)), none, []⟩, ⟨(some 14), .call 32 [(.t 13)], (some (6, true)), none, []⟩, ⟨(some 15), .call 31 [(.t 10), (.t 14)], (some (6, true)), none, []⟩, ⟨(some 16), .build [(.int .u64 0), (.int .u64 0)] [(1, 1, (.v (.int .u64 1)))], (some (6, true)), (some [6, 7, 10, 11, 12]), []⟩, ⟨(some 17), .eqs 4 [1, 1] false (.t 15) (.t 16), (some (6, true)), (some []), []⟩, ⟨(some 18), .pick (.t 6) (.t 17) (.v (.bool false)), none, (some []), []⟩, ⟨(some 2), .mv (.t 18), none, (some []), []⟩])
  .ret))⟩
/-- pochoir/pochoirref03.May -/
def s10 : SFn :=
 ⟨16, [.tmp 2],
  (.seq (.reg [⟨(some 1), .box 24 (.t 0), none, none, []⟩, ⟨(some 2), .mv (.v (.bool false)), none, none, []⟩])
  (.seq (.regd [⟨(some 3), .faddr 1 (.t 1), none, (some []), []⟩, ⟨(some 4), .load none (.t 3), none, none, []⟩, ⟨(some 5), .bin .gtr (.t 4) (.v (.int .i64 0)), none, (some []), []⟩, ⟨(some 6), .mv (.t 5), none, (some []), []⟩, ⟨(some 7), .faddr 0 (.t 1), (some (6, true)), (some []), []⟩, ⟨(some 8), .load none (.t 7), (some (6, true)), (some []), []⟩, ⟨(some 9), .call 29 [(.t 8)], (some (6, true)), none, [(none, (.t 1))]⟩, ⟨(some 10), .faddr 1 (.t 1), (some (6, true)), (some [6]), []⟩, ⟨(some 11), .load none (.t 10), (some (6, true)), (some [6]), []⟩, ⟨(some 12), .call 29 [(.t 11)], (some (6, true)), none, []⟩, ⟨(some 13), .call 28 [(.t 9), (.t 12)], (some (6, true)), none, []⟩, ⟨(some 14), .bin .eql (.t 13) (.v (.int .u64 1)), (some (6, true)), (some []), []⟩, ⟨(some 15), .pick (.t 6) (.t 14) (.v (.bool false)), none, (some []), []⟩, ⟨(some 2), .mv (.t 15), none, (some []), []⟩])
  .ret))⟩
/-- pochoir/ratio.Cmp -/
def s11 : SFn :=
 ⟨69, [.tmp 4, .tmp 5],
  (.seq (.reg [⟨(some 2), .box 24 (.t 0), none, none, []⟩, ⟨(some 3), .box 24 (.t 1), none, none, []⟩, ⟨(some 4), .mv (.v (.int .i64 0)), none, none, []⟩, ⟨(some 5), .mv (.v (.int .i64 0)), none, none, []⟩])
  (.seq (.seq (.reg [⟨(some 8), .load (some 2) (.t 2), none, none, []⟩, ⟨(some 9), .call 9 [(.t 8)], none, none, []⟩, ⟨(some 10), .un .not (.t 9), none, none, []⟩, ⟨(some 11), .mv (.t 10), none, none, []⟩, ⟨(some 12), .load (some 2) (.t 3), (some (11, false)), none, []⟩, ⟨(some 13), .call 9 [(.t 12)], (some (11, false)), none, []⟩, ⟨(some 14), .un .not (.t 13), (some (11, false)), none, []⟩, ⟨(some 15), .pick (.t 11) (.v (.bool true)) (.t 14), none, none, []⟩])
  (.cond (.t 15) (.seq (.reg [⟨(some 4), .mv (.v (.int .i64 0)), none, none, []⟩, ⟨(some 5), .mv (.v (.int .i64 1)), none, none, []⟩])
  .ret) .skip))
  (.seq (.regd [⟨(some 16), .faddr 0 (.t 2), none, (some []), []⟩, ⟨(some 17), .load none (.t 16), none, (some []), []⟩, ⟨(some 18), .faddr 1 (.t 3), none, (some []), []⟩, ⟨(some 19), .load none (.t 18), none, (some []), []⟩, ⟨(some 20), .call 27 [(.t 17), (.t 19)], none, (some []), []⟩, ⟨(some 21), .faddr 0 (.t 3), none, (some [4]), []⟩, ⟨(some 22), .load none (.t 21), none, (some [4]), []⟩, ⟨(some 23), .faddr 1 (.t 2), none, (some [4]), []⟩, ⟨(some 24), .load none (.t 23), none, (some [4]), []⟩, ⟨(some 25), .call 27 [(.t 22), (.t 24)], none, (some []), []⟩, ⟨(some 6), .box 49 (.v (.agg [(.bool false), (.int .u64 0), (.int .u64 0)])), none, (some [4, 9]), []⟩, ⟨(some 7), .box 49 (.v (.agg [(.bool false), (.int .u64 0), (.int .u64 0)])), none, (some [4, 9, 10]), []⟩, ⟨none, .store 3 (.t 6) (.t 20), none, none, []⟩, ⟨none, .store 3 (.t 7) (.t 25), none, none, []⟩])
  (.seq (.block 0 (.seq (.reg [⟨(some 27), .faddr 1 (.t 6), none, none, []⟩, ⟨(some 28), .load (some 2) (.t 27), none, none, []⟩, ⟨(some 29), .build [(.int .u64 0), (.int .u64 0)] [], none, none, []⟩, ⟨(some 30), .eqs 4 [1, 1] false (.t 28) (.t 29), none, none, []⟩, ⟨(some 31), .mv (.t 30), none, none, []⟩, ⟨(some 32), .faddr 1 (.t 7), (some (31, true)), none, []⟩, ⟨(some 33), .load (some 2) (.t 32), (some (31, true)), none, []⟩, ⟨(some 34), .build [(.int .u64 0), (.int .u64 0)] [], (some (31, true)), none, []⟩, ⟨(some 35), .eqs 4 [1, 1] false (.t 33) (.t 34), (some (31, true)), none, []⟩, ⟨(some 36), .pick (.t 31) (.t 35) (.v (.bool false)), none, none, []⟩, ⟨(some 26), .mv (.t 36), none, none, []⟩])
  (.cond (.t 26) (.seq (.reg [⟨(some 4), .mv (.v (.int .i64 0)), none, none, []⟩, ⟨(some 5), .mv (.v (.int .i64 0)), none, none, []⟩])
  .ret) (.seq (.reg [⟨(some 38), .faddr 0 (.t 2), none, none, []⟩, ⟨(some 39), .load none (.t 38), none, none, []⟩, ⟨(some 40), .bin .lss (.t 39) (.v (.int .i64 0)), none, none, []⟩, ⟨(some 41), .mv (.t 40), none, none, []⟩, ⟨(some 42), .faddr 0 (.t 3), (some (41, true)), none, []⟩, ⟨(some 43), .load none (.t 42), (some (41, true)), none, []⟩, ⟨(some 44), .bin .geq (.t 43) (.v (.int .i64 0)), (some (41, true)), none, []⟩, ⟨(some 45), .pick (.t 41) (.t 44) (.v (.bool false)), none, none, []⟩, ⟨(some 37), .mv (.t 45), none, none, []⟩])
  (.cond (.t 37) (.seq (.reg [⟨(some 4), .mv (.v (.int .i64 (-1))), none, none, []⟩, ⟨(some 5), .mv (.v (.int .i64 0)), none, none, []⟩])
  .ret) (.seq (.reg [⟨(some 47), .faddr 0 (.t 2), none, none, []⟩, ⟨(some 48), .load none (.t 47), none, none, []⟩, ⟨(some 49), .bin .geq (.t 48) (.v (.int .i64 0)), none, none, []⟩, ⟨(some 50), .mv (.t 49), none, none, []⟩, ⟨(some 51), .faddr 0 (.t 3), (some (50, true)), none, []⟩, ⟨(some 52), .load none (.t 51), (some (50, true)), none, []⟩, ⟨(some 53), .bin .lss (.t 52) (.v (.int .i64 0)), (some (50, true)), none, []⟩, ⟨(some 54), .pick (.t 50) (.t 53) (.v (.bool false)), none, none, []⟩, ⟨(some 46), .mv (.t 54), none, none, []⟩])
  (.cond (.t 46) (.seq (.reg [⟨(some 4), .mv (.v (.int .i64 1)), none, none, []⟩, ⟨(some 5), .mv (.v (.int .i64 0)), none, none, []⟩])
  .ret) (.seq (.reg [⟨(some 56), .faddr 0 (.t 2), none, none, []⟩, ⟨(some 57), .load none (.t 56), none, none, []⟩, ⟨(some 58), .bin .lss (.t 57) (.v (.int .i64 0)), none, none, []⟩, ⟨(some 55), .mv (.t 58), none, none, []⟩])
  (.cond (.t 55) (.seq (.reg [⟨(some 59), .faddr 1 (.t 7), none, none, []⟩, ⟨(some 60), .load (some 2) (.t 59), none, none, []⟩, ⟨(some 61), .faddr 1 (.t 6), none, none, []⟩, ⟨(some 62), .load (some 2) (.t 61), none, none, []⟩, ⟨(some 63), .call 34 [(.t 60), (.t 62)], none, none, []⟩, ⟨(some 4), .mv (.t 63), none, none, []⟩, ⟨(some 5), .mv (.v (.int .i64 0)), none, none, []⟩])
  .ret) .skip)))))))))
  (.seq (.reg [⟨(some 64), .faddr 1 (.t 6), none, none, []⟩, ⟨(some 65), .load (some 2) (.t 64), none, none, []⟩, ⟨(some 66), .faddr 1 (.t 7), none, none, []⟩, ⟨(some 67), .load (some 2) (.t 66), none, none, []⟩, ⟨(some 68), .call 34 [(.t 65), (.t 67)], none, none, []⟩, ⟨(some 4), .mv (.t 68), none, none, []⟩, ⟨(some 5), .mv (.v (.int .i64 0)), none, none, []⟩])
  .ret)))))⟩
/-- pochoir/pochoirref03.Cmp -/
def s12 : SFn :=
 ⟨21, [.tmp 4, .tmp 5],
  (.seq (.reg [⟨(some 2), .box 24 (.t 0), none, none, []⟩, ⟨(some 3), .box 24 (.t 1), none, none, []⟩, ⟨(some 4), .mv (.v (.int .i64 0)), none, none, []⟩, ⟨(some 5), .mv (.v (.int .i64 0)), none, none, []⟩])
  (.seq (.seq (.reg [⟨(some 6), .load (some 2) (.t 2), none, none, []⟩, ⟨(some 7), .load (some 2) (.t 3), none, none, []⟩, ⟨(some 8), .call 35 [(.t 6), (.t 7)], none, none, []⟩, ⟨(some 9), .un .not (.t 8), none, none, []⟩])
  (.cond (.t 9) (.seq (.reg [⟨(some 4), .mv (.v (.int .i64 0)), none, none, []⟩, ⟨(some 5), .mv (.v (.int .i64 1)), none, none, []⟩])
  .ret) .skip))
  (.seq (.regd [⟨(some 10), .faddr 0 (.t 2), none, (some []), []⟩, ⟨(some 11), .load none (.t 10), none, (some []), []⟩, ⟨(some 12), .faddr 1 (.t 3), none, (some []), []⟩, ⟨(some 13), .load none (.t 12), none, (some []), []⟩, ⟨(some 14), .call 37 [(.t 11), (.t 13)], none, none, [(none, (.t 3)), (none, (.t 2))]⟩, ⟨(some 15), .faddr 0 (.t 3), none, (some [4]), []⟩, ⟨(some 16), .load none (.t 15), none, (some [4]), []⟩, ⟨(some 17), .faddr 1 (.t 2), none, (some [4]), []⟩, ⟨(some 18), .load none (.t 17), none, (some [4]), []⟩, ⟨(some 19), .call 37 [(.t 16), (.t 18)], none, none, []⟩, ⟨(some 20), .call 36 [(.t 14), (.t 19)], none, none, []⟩, ⟨(some 4), .mv (.t 20), none, (some []), []⟩, ⟨(some 5), .mv (.v (.int .i64 0)), none, (some []), []⟩])
  .ret)))⟩
/-- pochoir/ratio.Floor -/
def s13 : SFn :=
 ⟨22, [.tmp 2, .tmp 3],
  (.seq (.reg [⟨(some 1), .box 24 (.t 0), none, none, []⟩, ⟨(some 2), .mv (.v (.int .i64 0)), none, none, []⟩, ⟨(some 3), .mv (.v (.int .i64 0)), none, none, []⟩])
  (.seq (.seq (.reg [⟨(some 5), .load (some 2) (.t 1), none, none, []⟩, ⟨(some 6), .call 9 [(.t 5)], none, none, []⟩, ⟨(some 7), .un .not (.t 6), none, none, []⟩])
  (.cond (.t 7) (.seq (.reg [⟨(some 2), .mv (.v (.int .i64 0)), none, none, []⟩, ⟨(some 3), .mv (.v (.int .i64 1)), none, none, []⟩])
  .ret) .skip))
  (.seq (.reg [⟨(some 8), .faddr 0 (.t 1), none, none, []⟩, ⟨(some 9), .load none (.t 8), none, none, []⟩, ⟨(some 10), .faddr 1 (.t 1), none, none, []⟩, ⟨(some 11), .load none (.t 10), none, none, []⟩, ⟨(some 12), .bin .quo (.t 9) (.t 11), none, none, []⟩, ⟨(some 4), .mv (.t 12), none, none, []⟩])
  (.seq (.seq (.reg [⟨(some 13), .faddr 0 (.t 1), none, none, []⟩, ⟨(some 14), .load none (.t 13), none, none, []⟩, ⟨(some 15), .faddr 1 (.t 1), none, none, []⟩, ⟨(some 16), .load none (.t 15), none, none, []⟩, ⟨(some 17), .bin .rem (.t 14) (.t 16), none, none, []⟩, ⟨(some 18), .bin .lss (.t 17) (.v (.int .i64 0)), none, none, []⟩])
  (.cond (.t 18) (.reg [⟨(some 19), .mv (.t 4), none, none, []⟩, ⟨(some 20), .bin .sub (.t 19) (.v (.int .i64 1)), none, none, []⟩, ⟨(some 4), .mv (.t 20), none, none, []⟩]) .skip))
  (.seq (.reg [⟨(some 21), .mv (.t 4), none, none, []⟩, ⟨(some 2), .mv (.t 21), none, none, []⟩, ⟨(some 3), .mv (.v (.int .i64 0)), none, none, []⟩])
  .ret)))))⟩
/-- pochoir/ratio.Round -/
def s14 : SFn :=
 ⟨38, [.tmp 2, .tmp 3],
  (.seq (.reg [⟨(some 1), .box 24 (.t 0), none, none, []⟩, ⟨(some 2), .mv (.v (.int .i64 0)), none, none, []⟩, ⟨(some 3), .mv (.v (.int .i64 0)), none, none, []⟩])
  (.seq (.reg [⟨(some 8), .load (some 2) (.t 1), none, none, []⟩, ⟨(some 9), .call 13 [(.t 8)], none, none, []⟩, ⟨(some 7), .mv (.t 9), none, none, []⟩, ⟨(some 10), .extract (.t 7) 0, none, none, []⟩, ⟨(some 11), .extract (.t 7) 1, none, none, []⟩, ⟨(some 4), .mv (.t 10), none, none, []⟩, ⟨(some 5), .mv (.t 11), none, none, []⟩])
  (.seq (.seq (.reg [⟨(some 12), .mv (.t 5), none, none, []⟩, ⟨(some 13), .bin .neq (.t 12) (.v (.int .i64 0)), none, none, []⟩])
  (.cond (.t 13) (.seq (.reg [⟨(some 14), .mv (.t 5), none, none, []⟩, ⟨(some 2), .mv (.v (.int .i64 0)), none, none, []⟩, ⟨(some 3), .mv (.t 14), none, none, []⟩])
  .ret) .skip))
  (.seq (.regd [⟨(some 15), .faddr 0 (.t 1), none, (some []), []⟩, ⟨(some 16), .load none (.t 15), none, (some []), []⟩, ⟨(some 17), .faddr 1 (.t 1), none, (some []), []⟩, ⟨(some 18), .load none (.t 17), none, (some []), []⟩, ⟨(some 19), .bin .rem (.t 16) (.t 18), none, (some []), []⟩, ⟨(some 20), .faddr 1 (.t 1), none, (some []), []⟩, ⟨(some 21), .load none (.t 20), none, (some []), []⟩, ⟨(some 22), .bin .add (.t 19) (.t 21), none, (some []), []⟩, ⟨(some 23), .conv .u64 (.t 22), none, (some []), []⟩, ⟨(some 24), .faddr 1 (.t 1), none, (some []), []⟩, ⟨(some 25), .load none (.t 24), none, (some []), []⟩, ⟨(some 26), .conv .u64 (.t 25), none, (some []), []⟩, ⟨(some 27), .bin .rem (.t 23) (.t 26), none, (some []), []⟩, ⟨(some 6), .mv (.t 27), none, (some []), []⟩])
  (.seq (.seq (.reg [⟨(some 28), .mv (.t 6), none, none, []⟩, ⟨(some 29), .faddr 1 (.t 1), none, none, []⟩, ⟨(some 30), .load none (.t 29), none, none, []⟩, ⟨(some 31), .conv .u64 (.t 30), none, none, []⟩, ⟨(some 32), .mv (.t 6), none, none, []⟩, ⟨(some 33), .bin .sub (.t 31) (.t 32), none, none, []⟩, ⟨(some 34), .bin .geq (.t 28) (.t 33), none, none, []⟩])
  (.cond (.t 34) (.reg [⟨(some 35), .mv (.t 4), none, none, []⟩, ⟨(some 36), .bin .add (.t 35) (.v (.int .i64 1)), none, none, []⟩, ⟨(some 4), .mv (.t 36), none, none, []⟩]) .skip))
  (.seq (.reg [⟨(some 37), .mv (.t 4), none, none, []⟩, ⟨(some 2), .mv (.t 37), none, none, []⟩, ⟨(some 3), .mv (.v (.int .i64 0)), none, none, []⟩])
  .ret))))))⟩
/-- pochoir/pochoirref03.Floor -/
def s15 : SFn :=
 ⟨18, [.tmp 2],
  (.seq (.reg [⟨(some 1), .box 24 (.t 0), none, none, []⟩, ⟨(some 2), .mv (.v (.int .i64 0)), none, none, []⟩])
  (.seq (.reg [⟨(some 4), .faddr 0 (.t 1), none, none, []⟩, ⟨(some 5), .load none (.t 4), none, none, []⟩, ⟨(some 6), .faddr 1 (.t 1), none, none, []⟩, ⟨(some 7), .load none (.t 6), none, none, []⟩, ⟨(some 8), .bin .quo (.t 5) (.t 7), none, none, []⟩, ⟨(some 3), .mv (.t 8), none, none, []⟩])
  (.seq (.seq (.reg [⟨(some 9), .faddr 0 (.t 1), none, none, []⟩, ⟨(some 10), .load none (.t 9), none, none, []⟩, ⟨(some 11), .faddr 1 (.t 1), none, none, []⟩, ⟨(some 12), .load none (.t 11), none, none, []⟩, ⟨(some 13), .bin .rem (.t 10) (.t 12), none, none, []⟩, ⟨(some 14), .bin .lss (.t 13) (.v (.int .i64 0)), none, none, []⟩])
  (.cond (.t 14) (.seq (.reg [⟨(some 15), .mv (.t 3), none, none, []⟩, ⟨(some 16), .bin .sub (.t 15) (.v (.int .i64 1)), none, none, []⟩, ⟨(some 2), .mv (.t 16), none, none, []⟩])
  .ret) .skip))
  (.seq (.reg [⟨(some 17), .mv (.t 3), none, none, []⟩, ⟨(some 2), .mv (.t 17), none, none, []⟩])
  .ret))))⟩
/-- pochoir/pochoirref03.Round -/
def s16 : SFn :=
 ⟨26, [.tmp 2],
  (.seq (.reg [⟨(some 1), .box 24 (.t 0), none, none, []⟩, ⟨(some 2), .mv (.v (.int .i64 0)), none, none, []⟩])
  (.seq (.reg [⟨(some 5), .load (some 2) (.t 1), none, none, []⟩, ⟨(some 6), .call 15 [(.t 5)], none, none, []⟩, ⟨(some 3), .mv (.t 6), none, none, []⟩])
  (.seq (.regd [⟨(some 7), .faddr 0 (.t 1), none, (some []), []⟩, ⟨(some 8), .load none (.t 7), none, (some []), []⟩, ⟨(some 9), .call 39 [(.t 8)], none, (some []), []⟩, ⟨(some 10), .mv (.t 3), none, (some [2]), []⟩, ⟨(some 11), .faddr 1 (.t 1), none, (some [2]), []⟩, ⟨(some 12), .load none (.t 11), none, (some [2]), []⟩, ⟨(some 13), .call 37 [(.t 10), (.t 12)], none, (some []), []⟩, ⟨(some 14), .call 38 [(.t 9), (.t 13)], none, (some []), []⟩, ⟨(some 4), .box 61 (.v (.agg [(.bool false), .nils])), none, (some [2, 6, 7]), []⟩, ⟨none, .store 2 (.t 4) (.t 14), none, none, []⟩])
  (.seq (.seq (.regd [⟨(some 15), .load (some 2) (.t 4), none, (some []), []⟩, ⟨(some 16), .load (some 2) (.t 4), none, (some []), []⟩, ⟨(some 17), .call 40 [(.t 15), (.t 16)], none, none, [(none, (.t 1))]⟩, ⟨(some 18), .faddr 1 (.t 1), none, (some [2]), []⟩, ⟨(some 19), .load none (.t 18), none, (some [2]), []⟩, ⟨(some 20), .call 39 [(.t 19)], none, none, []⟩, ⟨(some 21), .call 36 [(.t 17), (.t 20)], none, none, []⟩, ⟨(some 22), .bin .geq (.t 21) (.v (.int .i64 0)), none, (some []), []⟩])
  (.cond (.t 22) (.seq (.reg [⟨(some 23), .mv (.t 3), none, none, []⟩, ⟨(some 24), .bin .add (.t 23) (.v (.int .i64 1)), none, none, []⟩, ⟨(some 2), .mv (.t 24), none, none, []⟩])
  .ret) .skip))
  (.seq (.reg [⟨(some 25), .mv (.t 3), none, none, []⟩, ⟨(some 2), .mv (.t 25), none, none, []⟩])
  .ret)))))⟩
/-- pochoir/ratio.Add -/
def s17 : SFn :=
 ⟨34, [.cell 4 (some 2), .tmp 5],
  (.seq (.reg [⟨(some 2), .box 24 (.t 0), none, none, []⟩, ⟨(some 3), .box 24 (.t 1), none, none, []⟩, ⟨(some 4), .box 24 (.v (.agg [(.int .i64 0), (.int .i64 0)])), none, none, []⟩, ⟨(some 5), .mv (.v (.int .i64 0)), none, none, []⟩])
  (.seq (.seq (.reg [⟨(some 6), .load (some 2) (.t 2), none, none, []⟩, ⟨(some 7), .call 9 [(.t 6)], none, none, []⟩, ⟨(some 8), .un .not (.t 7), none, none, []⟩, ⟨(some 9), .mv (.t 8), none, none, []⟩, ⟨(some 10), .load (some 2) (.t 3), (some (9, false)), none, []⟩, ⟨(some 11), .call 9 [(.t 10)], (some (9, false)), none, []⟩, ⟨(some 12), .un .not (.t 11), (some (9, false)), none, []⟩, ⟨(some 13), .pick (.t 9) (.v (.bool true)) (.t 12), none, none, []⟩])
  (.cond (.t 13) (.seq (.reg [⟨(some 14), .build [(.int .i64 0), (.int .i64 0)] [], none, none, []⟩, ⟨none, .store 2 (.t 4) (.t 14), none, none, []⟩, ⟨(some 5), .mv (.v (.int .i64 1)), none, none, []⟩])
  .ret) .skip))
  (.seq (.regd [⟨(some 15), .faddr 0 (.t 2), none, (some []), []⟩, ⟨(some 16), .load none (.t 15), none, (some []), []⟩, ⟨(some 17), .faddr 1 (.t 3), none, (some []), []⟩, ⟨(some 18), .load none (.t 17), none, (some []), []⟩, ⟨(some 19), .call 27 [(.t 16), (.t 18)], none, none, [(none, (.t 3)), (none, (.t 2)), (none, (.t 2)), (none, (.t 3))]⟩, ⟨(some 20), .faddr 0 (.t 3), none, (some [4]), []⟩, ⟨(some 21), .load none (.t 20), none, (some [4]), []⟩, ⟨(some 22), .faddr 1 (.t 2), none, (some [4]), []⟩, ⟨(some 23), .load none (.t 22), none, (some [4]), []⟩, ⟨(some 24), .call 27 [(.t 21), (.t 23)], none, none, [(none, (.t 2)), (none, (.t 3))]⟩, ⟨(some 25), .call 41 [(.t 19), (.t 24)], none, none, [(none, (.t 2)), (none, (.t 3))]⟩, ⟨(some 26), .faddr 1 (.t 2), none, (some [4, 9, 10]), []⟩, ⟨(some 27), .load none (.t 26), none, (some [4, 9, 10]), []⟩, ⟨(some 28), .faddr 1 (.t 3), none, (some [4, 9, 10]), []⟩, ⟨(some 29), .load none (.t 28), none, (some [4, 9, 10]), []⟩, ⟨(some 30), .call 27 [(.t 27), (.t 29)], none, none, []⟩, ⟨(some 31), .call 26 [(.t 25), (.t 30)], none, none, []⟩, ⟨(some 32), .extract (.t 31) 0, none, (some []), []⟩, ⟨(some 33), .extract (.t 31) 1, none, (some []), []⟩, ⟨none, .store 2 (.t 4) (.t 32), none, none, []⟩, ⟨(some 5), .mv (.t 33), none, (some []), []⟩])
  .ret)))⟩
/-- pochoir/ratio.Sub -/
def s18 : SFn :=
 ⟨40, [.cell 4 (some 2), .tmp 5],
  (.seq (.reg [⟨(some 2), .box 24 (.t 0), none, none, []⟩, ⟨(some 3), .box 24 (.t 1), none, none, []⟩, ⟨(some 4), .box 24 (.v (.agg [(.int .i64 0), (.int .i64 0)])), none, none, []⟩, ⟨(some 5), .mv (.v (.int .i64 0)), none, none, []⟩])
  (.seq (.seq (.reg [⟨(some 7), .load (some 2) (.t 2), none, none, []⟩, ⟨(some 8), .call 9 [(.t 7)], none, none, []⟩, ⟨(some 9), .un .not (.t 8), none, none, []⟩, ⟨(some 10), .mv (.t 9), none, none, []⟩, ⟨(some 11), .load (some 2) (.t 3), (some (10, false)), none, []⟩, ⟨(some 12), .call 9 [(.t 11)], (some (10, false)), none, []⟩, ⟨(some 13), .un .not (.t 12), (some (10, false)), none, []⟩, ⟨(some 14), .pick (.t 10) (.v (.bool true)) (.t 13), none, none, []⟩])
  (.cond (.t 14) (.seq (.reg [⟨(some 15), .build [(.int .i64 0), (.int .i64 0)] [], none, none, []⟩, ⟨none, .store 2 (.t 4) (.t 15), none, none, []⟩, ⟨(some 5), .mv (.v (.int .i64 1)), none, none, []⟩])
  .ret) .skip))
  (.seq (.reg [⟨(some 16), .faddr 0 (.t 3), none, none, []⟩, ⟨(some 17), .load none (.t 16), none, none, []⟩, ⟨(some 18), .faddr 1 (.t 2), none, none, []⟩, ⟨(some 19), .load none (.t 18), none, none, []⟩, ⟨(some 20), .call 27 [(.t 17), (.t 19)], none, none, []⟩, ⟨(some 6), .box 49 (.v (.agg [(.bool false), (.int .u64 0), (.int .u64 0)])), none, none, []⟩, ⟨none, .store 3 (.t 6) (.t 20), none, none, []⟩])
  (.seq (.reg [⟨(some 21), .faddr 0 (.t 6), none, none, []⟩, ⟨(some 22), .load none (.t 21), none, none, []⟩, ⟨(some 23), .un .not (.t 22), none, none, []⟩, ⟨(some 24), .faddr 0 (.t 6), none, none, []⟩, ⟨none, .store 1 (.t 24) (.t 23), none, none, []⟩])
  (.seq (.regd [⟨(some 25), .faddr 0 (.t 2), none, (some []), []⟩, ⟨(some 26), .load none (.t 25), none, (some []), []⟩, ⟨(some 27), .faddr 1 (.t 3), none, (some []), []⟩, ⟨(some 28), .load none (.t 27), none, (some []), []⟩, ⟨(some 29), .call 27 [(.t 26), (.t 28)], none, none, [(none, (.t 6)), (none, (.t 2)), (none, (.t 3))]⟩, ⟨(some 30), .load (some 3) (.t 6), none, (some [4]), []⟩, ⟨(some 31), .call 41 [(.t 29), (.t 30)], none, none, [(none, (.t 2)), (none, (.t 3))]⟩, ⟨(some 32), .faddr 1 (.t 2), none, (some [4, 6]), []⟩, ⟨(some 33), .load none (.t 32), none, (some [4, 6]), []⟩, ⟨(some 34), .faddr 1 (.t 3), none, (some [4, 6]), []⟩, ⟨(some 35), .load none (.t 34), none, (some [4, 6]), []⟩, ⟨(some 36), .call 27 [(.t 33), (.t 35)], none, none, []⟩, ⟨(some 37), .call 26 [(.t 31), (.t 36)], none, none, []⟩, ⟨(some 38), .extract (.t 37) 0, none, (some []), []⟩, ⟨(some 39), .extract (.t 37) 1, none, (some []), []⟩, ⟨none, .store 2 (.t 4) (.t 38), none, none, []⟩, ⟨(some 5), .mv (.t 39), none, (some []), []⟩])
  .ret)))))⟩
/-- pochoir/ratio.Mul -/
def s19 : SFn :=
 ⟨28, [.cell 4 (some 2), .tmp 5],
  (.seq (.reg [⟨(some 2), .box 24 (.t 0), none, none, []⟩, ⟨(some 3), .box 24 (.t 1), none, none, []⟩, ⟨(some 4), .box 24 (.v (.agg [(.int .i64 0), (.int .i64 0)])), none, none, []⟩, ⟨(some 5), .mv (.v (.int .i64 0)), none, none, []⟩])
  (.seq (.seq (.reg [⟨(some 6), .load (some 2) (.t 2), none, none, []⟩, ⟨(some 7), .call 9 [(.t 6)], none, none, []⟩, ⟨(some 8), .un .not (.t 7), none, none, []⟩, ⟨(some 9), .mv (.t 8), none, none, []⟩, ⟨(some 10), .load (some 2) (.t 3), (some (9, false)), none, []⟩, ⟨(some 11), .call 9 [(.t 10)], (some (9, false)), none, []⟩, ⟨(some 12), .un .not (.t 11), (some (9, false)), none, []⟩, ⟨(some 13), .pick (.t 9) (.v (.bool true)) (.t 12), none, none, []⟩])
  (.cond (.t 13) (.seq (.reg [⟨(some 14), .build [(.int .i64 0), (.int .i64 0)] [], none, none, []⟩, ⟨none, .store 2 (.t 4) (.t 14), none, none, []⟩, ⟨(some 5), .mv (.v (.int .i64 1)), none, none, []⟩])
  .ret) .skip))
  (.seq (.regd [⟨(some 15), .faddr 0 (.t 2), none, (some []), []⟩, ⟨(some 16), .load none (.t 15), none, (some []), []⟩, ⟨(some 17), .faddr 0 (.t 3), none, (some []), []⟩, ⟨(some 18), .load none (.t 17), none, (some []), []⟩, ⟨(some 19), .call 27 [(.t 16), (.t 18)], none, none, [(none, (.t 2)), (none, (.t 3))]⟩, ⟨(some 20), .faddr 1 (.t 2), none, (some [4]), []⟩, ⟨(some 21), .load none (.t 20), none, (some [4]), []⟩, ⟨(some 22), .faddr 1 (.t 3), none, (some [4]), []⟩, ⟨(some 23), .load none (.t 22), none, (some [4]), []⟩, ⟨(some 24), .call 27 [(.t 21), (.t 23)], none, none, []⟩, ⟨(some 25), .call 26 [(.t 19), (.t 24)], none, none, []⟩, ⟨(some 26), .extract (.t 25) 0, none, (some []), []⟩, ⟨(some 27), .extract (.t 25) 1, none, (some []), []⟩, ⟨none, .store 2 (.t 4) (.t 26), none, none, []⟩, ⟨(some 5), .mv (.t 27), none, (some []), []⟩])
  .ret)))⟩
/-- pochoir/ratio.Div -/
def s20 : SFn :=
 ⟨34, [.cell 4 (some 2), .tmp 5],
  (.seq (.reg [⟨(some 2), .box 24 (.t 0), none, none, []⟩, ⟨(some 3), .box 24 (.t 1), none, none, []⟩, ⟨(some 4), .box 24 (.v (.agg [(.int .i64 0), (.int .i64 0)])), none, none, []⟩, ⟨(some 5), .mv (.v (.int .i64 0)), none, none, []⟩])
  (.seq (.block 0 (.seq (.reg [⟨(some 7), .load (some 2) (.t 2), none, none, []⟩, ⟨(some 8), .call 9 [(.t 7)], none, none, []⟩, ⟨(some 9), .un .not (.t 8), none, none, []⟩, ⟨(some 10), .mv (.t 9), none, none, []⟩, ⟨(some 11), .load (some 2) (.t 3), (some (10, false)), none, []⟩, ⟨(some 12), .call 9 [(.t 11)], (some (10, false)), none, []⟩, ⟨(some 13), .un .not (.t 12), (some (10, false)), none, []⟩, ⟨(some 14), .pick (.t 10) (.v (.bool true)) (.t 13), none, none, []⟩, ⟨(some 6), .mv (.t 14), none, none, []⟩])
  (.cond (.t 6) (.seq (.reg [⟨(some 15), .build [(.int .i64 0), (.int .i64 0)] [], none, none, []⟩, ⟨none, .store 2 (.t 4) (.t 15), none, none, []⟩, ⟨(some 5), .mv (.v (.int .i64 1)), none, none, []⟩])
  .ret) (.seq (.reg [⟨(some 17), .faddr 0 (.t 3), none, none, []⟩, ⟨(some 18), .load none (.t 17), none, none, []⟩, ⟨(some 19), .bin .eql (.t 18) (.v (.int .i64 0)), none, none, []⟩, ⟨(some 16), .mv (.t 19), none, none, []⟩])
  (.cond (.t 16) (.seq (.reg [⟨(some 20), .build [(.int .i64 0), (.int .i64 0)] [], none, none, []⟩, ⟨none, .store 2 (.t 4) (.t 20), none, none, []⟩, ⟨(some 5), .mv (.v (.int .i64 13)), none, none, []⟩])
  .ret) .skip)))))
  (.seq (.regd [⟨(some 21), .faddr 0 (.t 2), none, (some []), []⟩, ⟨(some 22), .load none (.t 21), none, (some []), []⟩, ⟨(some 23), .faddr 1 (.t 3), none, (some []), []⟩, ⟨(some 24), .load none (.t 23), none, (some []), []⟩, ⟨(some 25), .call 27 [(.t 22), (.t 24)], none, none, [(none, (.t 2)), (none, (.t 3))]⟩, ⟨(some 26), .faddr 1 (.t 2), none, (some [4]), []⟩, ⟨(some 27), .load none (.t 26), none, (some [4]), []⟩, ⟨(some 28), .faddr 0 (.t 3), none, (some [4]), []⟩, ⟨(some 29), .load none (.t 28), none, (some [4]), []⟩, ⟨(some 30), .call 27 [(.t 27), (.t 29)], none, none, []⟩, ⟨(some 31), .call 26 [(.t 25), (.t 30)], none, none, []⟩, ⟨(some 32), .extract (.t 31) 0, none, (some []), []⟩, ⟨(some 33), .extract (.t 31) 1, none, (some []), []⟩, ⟨none, .store 2 (.t 4) (.t 32), none, none, []⟩, ⟨(some 5), .mv (.t 33), none, (some []), []⟩])
  .ret)))⟩
/-- pochoir/pochoirref03.Add -/
def s21 : SFn :=
 ⟨30, [.cell 4 (some 2), .tmp 5],
  (.seq (.reg [⟨(some 2), .box 24 (.t 0), none, none, []⟩, ⟨(some 3), .box 24 (.t 1), none, none, []⟩, ⟨(some 4), .box 24 (.v (.agg [(.int .i64 0), (.int .i64 0)])), none, none, []⟩, ⟨(some 5), .mv (.v (.int .i64 0)), none, none, []⟩])
  (.seq (.seq (.reg [⟨(some 6), .load (some 2) (.t 2), none, none, []⟩, ⟨(some 7), .load (some 2) (.t 3), none, none, []⟩, ⟨(some 8), .call 35 [(.t 6), (.t 7)], none, none, []⟩, ⟨(some 9), .un .not (.t 8), none, none, []⟩])
  (.cond (.t 9) (.seq (.reg [⟨(some 10), .build [(.int .i64 0), (.int .i64 0)] [], none, none, []⟩, ⟨none, .store 2 (.t 4) (.t 10), none, none, []⟩, ⟨(some 5), .mv (.v (.int .i64 1)), none, none, []⟩])
  .ret) .skip))
  (.seq (.regd [⟨(some 11), .faddr 0 (.t 2), none, (some []), []⟩, ⟨(some 12), .load none (.t 11), none, (some []), []⟩, ⟨(some 13), .faddr 1 (.t 3), none, (some []), []⟩, ⟨(some 14), .load none (.t 13), none, (some []), []⟩, ⟨(some 15), .call 37 [(.t 12), (.t 14)], none, none, [(none, (.t 3)), (none, (.t 2)), (none, (.t 2)), (none, (.t 3))]⟩, ⟨(some 16), .faddr 0 (.t 3), none, (some [4]), []⟩, ⟨(some 17), .load none (.t 16), none, (some [4]), []⟩, ⟨(some 18), .faddr 1 (.t 2), none, (some [4]), []⟩, ⟨(some 19), .load none (.t 18), none, (some [4]), []⟩, ⟨(some 20), .call 37 [(.t 17), (.t 19)], none, none, [(none, (.t 2)), (none, (.t 3))]⟩, ⟨(some 21), .call 40 [(.t 15), (.t 20)], none, none, [(none, (.t 2)), (none, (.t 3))]⟩, ⟨(some 22), .faddr 1 (.t 2), none, (some [4, 9, 10]), []⟩, ⟨(some 23), .load none (.t 22), none, (some [4, 9, 10]), []⟩, ⟨(some 24), .faddr 1 (.t 3), none, (some [4, 9, 10]), []⟩, ⟨(some 25), .load none (.t 24), none, (some [4, 9, 10]), []⟩, ⟨(some 26), .call 37 [(.t 23), (.t 25)], none, none, []⟩, ⟨(some 27), .call 42 [(.t 21), (.t 26)], none, none, []⟩, ⟨(some 28), .extract (.t 27) 0, none, (some []), []⟩, ⟨(some 29), .extract (.t 27) 1, none, (some []), []⟩, ⟨none, .store 2 (.t 4) (.t 28), none, none, []⟩, ⟨(some 5), .mv (.t 29), none, (some []), []⟩])
  .ret)))⟩
/-- pochoir/pochoirref03.Sub -/
def s22 : SFn :=
 ⟨30, [.cell 4 (some 2), .tmp 5],
  (.seq (.reg [⟨(some 2), .box 24 (.t 0), none, none, []⟩, ⟨(some 3), .box 24 (.t 1), none, none, []⟩, ⟨(some 4), .box 24 (.v (.agg [(.int .i64 0), (.int .i64 0)])), none, none, []⟩, ⟨(some 5), .mv (.v (.int .i64 0)), none, none, []⟩])
  (.seq (.seq (.reg [⟨(some 6), .load (some 2) (.t 2), none, none, []⟩, ⟨(some 7), .load (some 2) (.t 3), none, none, []⟩, ⟨(some 8), .call 35 [(.t 6), (.t 7)], none, none, []⟩, ⟨(some 9), .un .not (.t 8), none, none, []⟩])
  (.cond (.t 9) (.seq (.reg [⟨(some 10), .build [(.int .i64 0), (.int .i64 0)] [], none, none, []⟩, ⟨none, .store 2 (.t 4) (.t 10), none, none, []⟩, ⟨(some 5), .mv (.v (.int .i64 1)), none, none, []⟩])
  .ret) .skip))
  (.seq (.regd [⟨(some 11), .faddr 0 (.t 2), none, (some []), []⟩, ⟨(some 12), .load none (.t 11), none, (some []), []⟩, ⟨(some 13), .faddr 1 (.t 3), none, (some []), []⟩, ⟨(some 14), .load none (.t 13), none, (some []), []⟩, ⟨(some 15), .call 37 [(.t 12), (.t 14)], none, none, [(none, (.t 3)), (none, (.t 2)), (none, (.t 2)), (none, (.t 3))]⟩, ⟨(some 16), .faddr 0 (.t 3), none, (some [4]), []⟩, ⟨(some 17), .load none (.t 16), none, (some [4]), []⟩, ⟨(some 18), .faddr 1 (.t 2), none, (some [4]), []⟩, ⟨(some 19), .load none (.t 18), none, (some [4]), []⟩, ⟨(some 20), .call 37 [(.t 17), (.t 19)], none, none, [(none, (.t 2)), (none, (.t 3))]⟩, ⟨(some 21), .call 38 [(.t 15), (.t 20)], none, none, [(none, (.t 2)), (none, (.t 3))]⟩, ⟨(some 22), .faddr 1 (.t 2), none, (some [4, 9, 10]), []⟩, ⟨(some 23), .load none (.t 22), none, (some [4, 9, 10]), []⟩, ⟨(some 24), .faddr 1 (.t 3), none, (some [4, 9, 10]), []⟩, ⟨(some 25), .load none (.t 24), none, (some [4, 9, 10]), []⟩, ⟨(some 26), .call 37 [(.t 23), (.t 25)], none, none, []⟩, ⟨(some 27), .call 42 [(.t 21), (.t 26)], none, none, []⟩, ⟨(some 28), .extract (.t 27) 0, none, (some []), []⟩, ⟨(some 29), .extract (.t 27) 1, none, (some []), []⟩, ⟨none, .store 2 (.t 4) (.t 28), none, none, []⟩, ⟨(some 5), .mv (.t 29), none, (some []), []⟩])
  .ret)))⟩
/-- pochoir/pochoirref03.Mul -/
def s23 : SFn :=
 ⟨24, [.cell 4 (some 2), .tmp 5],
  (.seq (.reg [⟨(some 2), .box 24 (.t 0), none, none, []⟩, ⟨(some 3), .box 24 (.t 1), none, none, []⟩, ⟨(some 4), .box 24 (.v (.agg [(.int .i64 0), (.int .i64 0)])), none, none, []⟩, ⟨(some 5), .mv (.v (.int .i64 0)), none, none, []⟩])
  (.seq (.seq (.reg [⟨(some 6), .load (some 2) (.t 2), none, none, []⟩, ⟨(some 7), .load (some 2) (.t 3), none, none, []⟩, ⟨(some 8), .call 35 [(.t 6), (.t 7)], none, none, []⟩, ⟨(some 9), .un .not (.t 8), none, none, []⟩])
  (.cond (.t 9) (.seq (.reg [⟨(some 10), .build [(.int .i64 0), (.int .i64 0)] [], none, none, []⟩, ⟨none, .store 2 (.t 4) (.t 10), none, none, []⟩, ⟨(some 5), .mv (.v (.int .i64 1)), none, none, []⟩])
  .ret) .skip))
  (.seq (.regd [⟨(some 11), .faddr 0 (.t 2), none, (some []), []⟩, ⟨(some 12), .load none (.t 11), none, (some []), []⟩, ⟨(some 13), .faddr 0 (.t 3), none, (some []), []⟩, ⟨(some 14), .load none (.t 13), none, (some []), []⟩, ⟨(some 15), .call 37 [(.t 12), (.t 14)], none, none, [(none, (.t 2)), (none, (.t 3))]⟩, ⟨(some 16), .faddr 1 (.t 2), none, (some [4]), []⟩, ⟨(some 17), .load none (.t 16), none, (some [4]), []⟩, ⟨(some 18), .faddr 1 (.t 3), none, (some [4]), []⟩, ⟨(some 19), .load none (.t 18), none, (some [4]), []⟩, ⟨(some 20), .call 37 [(.t 17), (.t 19)], none, none, []⟩, ⟨(some 21), .call 42 [(.t 15), (.t 20)], none, none, []⟩, ⟨(some 22), .extract (.t 21) 0, none, (some []), []⟩, ⟨(some 23), .extract (.t 21) 1, none, (some []), []⟩, ⟨none, .store 2 (.t 4) (.t 22), none, none, []⟩, ⟨(some 5), .mv (.t 23), none, (some []), []⟩])
  .ret)))⟩
/-- pochoir/pochoirref03.Div -/
def s24 : SFn :=
 ⟨28, [.cell 4 (some 2), .tmp 5],
  (.seq (.reg [⟨(some 2), .box 24 (.t 0), none, none, []⟩, ⟨(some 3), .box 24 (.t 1), none, none, []⟩, ⟨(some 4), .box 24 (.v (.agg [(.int .i64 0), (.int .i64 0)])), none, none, []⟩, ⟨(some 5), .mv (.v (.int .i64 0)), none, none, []⟩])
  (.seq (.seq (.reg [⟨(some 6), .load (some 2) (.t 2), none, none, []⟩, ⟨(some 7), .load (some 2) (.t 3), none, none, []⟩, ⟨(some 8), .call 35 [(.t 6), (.t 7)], none, none, []⟩, ⟨(some 9), .un .not (.t 8), none, none, []⟩])
  (.cond (.t 9) (.seq (.reg [⟨(some 10), .build [(.int .i64 0), (.int .i64 0)] [], none, none, []⟩, ⟨none, .store 2 (.t 4) (.t 10), none, none, []⟩, ⟨(some 5), .mv (.v (.int .i64 1)), none, none, []⟩])
  .ret) .skip))
  (.seq (.seq (.reg [⟨(some 11), .faddr 0 (.t 3), none, none, []⟩, ⟨(some 12), .load none (.t 11), none, none, []⟩, ⟨(some 13), .bin .eql (.t 12) (.v (.int .i64 0)), none, none, []⟩])
  (.cond (.t 13) (.seq (.reg [⟨(some 14), .build [(.int .i64 0), (.int .i64 0)] [], none, none, []⟩, ⟨none, .store 2 (.t 4) (.t 14), none, none, []⟩, ⟨(some 5), .mv (.v (.int .i64 13)), none, none, []⟩])
  .ret) .skip))
  (.seq (.regd [⟨(some 15), .faddr 0 (.t 2), none, (some []), []⟩, ⟨(some 16), .load none (.t 15), none, (some []), []⟩, ⟨(some 17), .faddr 1 (.t 3), none, (some []), []⟩, ⟨(some 18), .load none (.t 17), none, (some []), []⟩, ⟨(some 19), .call 37 [(.t 16), (.t 18)], none, none, [(none, (.t 2)), (none, (.t 3))]⟩, ⟨(some 20), .faddr 1 (.t 2), none, (some [4]), []⟩, ⟨(some 21), .load none (.t 20), none, (some [4]), []⟩, ⟨(some 22), .faddr 0 (.t 3), none, (some [4]), []⟩, ⟨(some 23), .load none (.t 22), none, (some [4]), []⟩, ⟨(some 24), .call 37 [(.t 21), (.t 23)], none, none, []⟩, ⟨(some 25), .call 42 [(.t 19), (.t 24)], none, none, []⟩, ⟨(some 26), .extract (.t 25) 0, none, (some []), []⟩, ⟨(some 27), .extract (.t 25) 1, none, (some []), []⟩, ⟨none, .store 2 (.t 4) (.t 26), none, none, []⟩, ⟨(some 5), .mv (.t 27), none, (some []), []⟩])
  .ret))))⟩
/-- pochoir/ratio.Text -/
def s25 : SFn :=
 ⟨23, [.tmp 2, .tmp 3],
  (.seq (.reg [⟨(some 1), .box 24 (.t 0), none, none, []⟩, ⟨(some 2), .mv (.v (.str ⟨#[]⟩)), none, none, []⟩, ⟨(some 3), .mv (.v (.int .i64 0)), none, none, []⟩])
  (.seq (.block 0 (.seq (.reg [⟨(some 5), .load (some 2) (.t 1), none, none, []⟩, ⟨(some 6), .call 9 [(.t 5)], none, none, []⟩, ⟨(some 7), .un .not (.t 6), none, none, []⟩, ⟨(some 4), .mv (.t 7), none, none, []⟩])
  (.cond (.t 4) (.seq (.reg [⟨(some 2), .mv (.v (.str ⟨#[]⟩)), none, none, []⟩, ⟨(some 3), .mv (.v (.int .i64 1)), none, none, []⟩])
  .ret) (.seq (.reg [⟨(some 9), .faddr 1 (.t 1), none, none, []⟩, ⟨(some 10), .load none (.t 9), none, none, []⟩, ⟨(some 11), .bin .eql (.t 10) (.v (.int .i64 1)), none, none, []⟩, ⟨(some 8), .mv (.t 11), none, none, []⟩])
  (.cond (.t 8) (.seq (.reg [⟨(some 12), .faddr 0 (.t 1), none, none, []⟩, ⟨(some 13), .load none (.t 12), none, none, []⟩, ⟨(some 14), .call 43 [(.t 13), (.v (.int .i64 10))], none, none, []⟩, ⟨(some 2), .mv (.t 14), none, none, []⟩, ⟨(some 3), .mv (.v (.int .i64 0)), none, none, []⟩])
  .ret) .skip)))))
  (.seq (.regd [⟨(some 15), .faddr 0 (.t 1), none, (some []), []⟩, ⟨(some 16), .load none (.t 15), none, (some []), []⟩, ⟨(some 17), .call 43 [(.t 16), (.v (.int .i64 10))], none, none, [(none, (.t 1))]⟩, ⟨(some 18), .bin .add (.t 17) (.v (.str ⟨#[47]⟩)), none, (some []), []⟩, ⟨(some 19), .faddr 1 (.t 1), none, (some [2]), []⟩, ⟨(some 20), .load none (.t 19), none, (some [2]), []⟩, ⟨(some 21), .call 43 [(.t 20), (.v (.int .i64 10))], none, none, []⟩, ⟨(some 22), .bin .add (.t 18) (.t 21), none, (some []), []⟩, ⟨(some 2), .mv (.t 22), none, (some []), []⟩, ⟨(some 3), .mv (.v (.int .i64 0)), none, (some []), []⟩])
  .ret)))⟩
/-- pochoir/ratio.lowest -/
def s26 : SFn :=
 ⟨56, [.cell 4 (some 2), .tmp 5],
  (.seq (.reg [⟨(some 2), .box 49 (.t 0), none, none, []⟩, ⟨(some 3), .box 49 (.t 1), none, none, []⟩, ⟨(some 4), .box 24 (.v (.agg [(.int .i64 0), (.int .i64 0)])), none, none, []⟩, ⟨(some 5), .mv (.v (.int .i64 0)), none, none, []⟩])
  (.seq (.reg [⟨(some 13), .faddr 1 (.t 2), none, none, []⟩, ⟨(some 14), .load (some 2) (.t 13), none, none, []⟩, ⟨(some 15), .faddr 1 (.t 3), none, none, []⟩, ⟨(some 16), .load (some 2) (.t 15), none, none, []⟩, ⟨(some 17), .call 31 [(.t 14), (.t 16)], none, none, []⟩, ⟨(some 6), .box 47 (.v (.agg [(.int .u64 0), (.int .u64 0)])), none, none, []⟩, ⟨none, .store 2 (.t 6) (.t 17), none, none, []⟩])
  (.seq (.regd [⟨(some 18), .faddr 1 (.t 2), none, (some []), []⟩, ⟨(some 19), .load (some 2) (.t 18), none, (some []), []⟩, ⟨(some 20), .load (some 2) (.t 6), none, (some []), []⟩, ⟨(some 21), .call 44 [(.t 19), (.t 20)], none, (some []), []⟩, ⟨(some 22), .faddr 1 (.t 3), none, (some [3]), []⟩, ⟨(some 23), .load (some 2) (.t 22), none, (some [3]), []⟩, ⟨(some 24), .load (some 2) (.t 6), none, (some [3]), []⟩, ⟨(some 25), .call 44 [(.t 23), (.t 24)], none, (some []), []⟩, ⟨(some 7), .box 47 (.v (.agg [(.int .u64 0), (.int .u64 0)])), none, (some [3, 7]), []⟩, ⟨(some 8), .box 47 (.v (.agg [(.int .u64 0), (.int .u64 0)])), none, (some [3, 7, 8]), []⟩, ⟨none, .store 2 (.t 7) (.t 21), none, none, []⟩, ⟨none, .store 2 (.t 8) (.t 25), none, none, []⟩])
  (.seq (.regd [⟨(some 27), .faddr 0 (.t 2), none, (some []), []⟩, ⟨(some 28), .load none (.t 27), none, (some []), []⟩, ⟨(some 29), .faddr 0 (.t 3), none, (some []), []⟩, ⟨(some 30), .load none (.t 29), none, (some []), []⟩, ⟨(some 31), .eqs 0 [] true (.t 28) (.t 30), none, (some []), []⟩, ⟨(some 32), .mv (.t 31), none, (some []), []⟩, ⟨(some 33), .load (some 2) (.t 7), (some (32, true)), (some []), []⟩, ⟨(some 34), .build [(.int .u64 0), (.int .u64 0)] [], (some (32, true)), (some []), []⟩, ⟨(some 35), .eqs 4 [1, 1] true (.t 33) (.t 34), (some (32, true)), (some []), []⟩, ⟨(some 36), .pick (.t 32) (.t 35) (.v (.bool false)), none, (some []), []⟩, ⟨(some 37), .load (some 2) (.t 7), none, (some []), []⟩, ⟨(some 38), .call 45 [(.t 36), (.t 37)], none, none, []⟩, ⟨(some 26), .mv (.t 38), none, (some []), []⟩, ⟨(some 39), .extract (.t 26) 0, none, (some []), []⟩, ⟨(some 40), .extract (.t 26) 1, none, (some []), []⟩, ⟨(some 9), .mv (.t 39), none, (some []), []⟩, ⟨(some 10), .mv (.t 40), none, (some []), []⟩])
  (.seq (.reg [⟨(some 42), .load (some 2) (.t 8), none, none, []⟩, ⟨(some 43), .call 45 [(.v (.bool false)), (.t 42)], none, none, []⟩, ⟨(some 41), .mv (.t 43), none, none, []⟩, ⟨(some 44), .extract (.t 41) 0, none, none, []⟩, ⟨(some 45), .extract (.t 41) 1, none, none, []⟩, ⟨(some 11), .mv (.t 44), none, none, []⟩, ⟨(some 12), .mv (.t 45), none, none, []⟩])
  (.seq (.seq (.reg [⟨(some 46), .mv (.t 10), none, none, []⟩, ⟨(some 47), .un .not (.t 46), none, none, []⟩, ⟨(some 48), .mv (.t 47), none, none, []⟩, ⟨(some 49), .mv (.t 12), (some (48, false)), none, []⟩, ⟨(some 50), .un .not (.t 49), (some (48, false)), none, []⟩, ⟨(some 51), .pick (.t 48) (.v (.bool true)) (.t 50), none, none, []⟩])
  (.cond (.t 51) (.seq (.reg [⟨(some 52), .build [(.int .i64 0), (.int .i64 0)] [], none, none, []⟩, ⟨none, .store 2 (.t 4) (.t 52), none, none, []⟩, ⟨(some 5), .mv (.v (.int .i64 2)), none, none, []⟩])
  .ret) .skip))
  (.seq (.reg [⟨(some 53), .mv (.t 9), none, none, []⟩, ⟨(some 54), .mv (.t 11), none, none, []⟩, ⟨(some 55), .build [(.int .i64 0), (.int .i64 0)] [(0, 1, (.t 53)), (1, 1, (.t 54))], none, none, []⟩, ⟨none, .store 2 (.t 4) (.t 55), none, none, []⟩, ⟨(some 5), .mv (.v (.int .i64 0)), none, none, []⟩])
  .ret)))))))⟩
/-- pochoir/ratio.times -/
def s27 : SFn :=
 ⟨16, [.cell 4 (some 3)],
  (.seq (.reg [⟨(some 4), .box 49 (.v (.agg [(.bool false), (.int .u64 0), (.int .u64 0)])), none, none, []⟩])
  (.seq (.reg [⟨(some 5), .mv (.t 0), none, none, []⟩, ⟨(some 6), .bin .lss (.t 5) (.v (.int .i64 0)), none, none, []⟩, ⟨(some 7), .mv (.t 1), none, none, []⟩, ⟨(some 8), .bin .lss (.t 7) (.v (.int .i64 0)), none, none, []⟩, ⟨(some 9), .eqs 0 [] true (.t 6) (.t 8), none, none, []⟩, ⟨(some 10), .mv (.t 0), none, none, []⟩, ⟨(some 11), .call 33 [(.t 10)], none, none, []⟩, ⟨(some 12), .mv (.t 1), none, none, []⟩, ⟨(some 13), .call 33 [(.t 12)], none, none, []⟩, ⟨(some 14), .call 46 [(.t 11), (.t 13)], none, none, []⟩, ⟨(some 15), .build [(.bool false), (.int .u64 0), (.int .u64 0)] [(0, 1, (.t 9)), (1, 2, (.t 14))], none, none, []⟩, ⟨none, .store 3 (.t 4) (.t 15), none, none, []⟩])
  .ret))⟩
/-- pochoir/pochoirref03.common -/
def s28 : SFn :=
 ⟨14, [.tmp 4],
  (.seq (.reg [⟨(some 4), .mv (.v (.int .u64 0)), none, none, []⟩])
  (.seq (.block 0 (.loop (.seq (.seq (.reg [⟨(some 6), .mv (.t 1), none, none, []⟩, ⟨(some 7), .bin .gtr (.t 6) (.v (.int .u64 0)), none, none, []⟩])
  (.cond (.t 7) .skip (.exit 0)))
  (.block 1 (.seq (.reg [⟨(some 8), .mv (.t 0), none, none, []⟩, ⟨(some 9), .mv (.t 1), none, none, []⟩, ⟨(some 10), .bin .rem (.t 8) (.t 9), none, none, []⟩, ⟨(some 5), .mv (.t 10), none, none, []⟩])
  (.seq (.reg [⟨(some 11), .mv (.t 1), none, none, []⟩, ⟨(some 0), .mv (.t 11), none, none, []⟩])
  (.reg [⟨(some 12), .mv (.t 5), none, none, []⟩, ⟨(some 1), .mv (.t 12), none, none, []⟩])))))))
  (.seq (.reg [⟨(some 13), .mv (.t 0), none, none, []⟩, ⟨(some 4), .mv (.t 13), none, none, []⟩])
  .ret)))⟩
/-- pochoir/pochoirref03.size -/
def s29 : SFn :=
 ⟨10, [.tmp 2],
  (.seq (.reg [⟨(some 2), .mv (.v (.int .u64 0)), none, none, []⟩])
  (.seq (.seq (.reg [⟨(some 3), .mv (.t 0), none, none, []⟩, ⟨(some 4), .bin .lss (.t 3) (.v (.int .i64 0)), none, none, []⟩])
  (.cond (.t 4) (.seq (.reg [⟨(some 5), .mv (.t 0), none, none, []⟩, ⟨(some 6), .conv .u64 (.t 5), none, none, []⟩, ⟨(some 7), .bin .sub (.v (.int .u64 0)) (.t 6), none, none, []⟩, ⟨(some 2), .mv (.t 7), none, none, []⟩])
  .ret) .skip))
  (.seq (.reg [⟨(some 8), .mv (.t 0), none, none, []⟩, ⟨(some 9), .conv .u64 (.t 8), none, none, []⟩, ⟨(some 2), .mv (.t 9), none, none, []⟩])
  .ret)))⟩
/-- pochoir/pochoirref03.signed -/
def s30 : SFn :=
 ⟨16, [.tmp 4, .tmp 5],
  (.seq (.reg [⟨(some 4), .mv (.v (.int .i64 0)), none, none, []⟩, ⟨(some 5), .mv (.v (.bool false)), none, none, []⟩])
  (.seq (.seq (.reg [⟨(some 6), .mv (.t 0), none, none, []⟩])
  (.cond (.t 6) (.seq (.reg [⟨(some 7), .mv (.t 1), none, none, []⟩, ⟨(some 8), .bin .sub (.v (.int .u64 0)) (.t 7), none, none, []⟩, ⟨(some 9), .conv .i64 (.t 8), none, none, []⟩, ⟨(some 10), .mv (.t 1), none, none, []⟩, ⟨(some 11), .bin .leq (.t 10) (.v (.int .u64 9223372036854775808)), none, none, []⟩, ⟨(some 4), .mv (.t 9), none, none, []⟩, ⟨(some 5), .mv (.t 11), none, none, []⟩])
  .ret) .skip))
  (.seq (.reg [⟨(some 12), .mv (.t 1), none, none, []⟩, ⟨(some 13), .conv .i64 (.t 12), none, none, []⟩, ⟨(some 14), .mv (.t 1), none, none, []⟩, ⟨(some 15), .bin .lss (.t 14) (.v (.int .u64 9223372036854775808)), none, none, []⟩, ⟨(some 4), .mv (.t 13), none, none, []⟩, ⟨(some 5), .mv (.t 15), none, none, []⟩])
  .ret)))⟩
/-- pochoir/ratio.common -/
def s31 : SFn :=
 ⟨57, [.cell 4 (some 2)],
  (.seq (.reg [⟨(some 2), .box 47 (.t 0), none, none, []⟩, ⟨(some 3), .box 47 (.t 1), none, none, []⟩, ⟨(some 4), .box 47 (.v (.agg [(.int .u64 0), (.int .u64 0)])), none, none, []⟩])
  (.seq (.seq (.reg [⟨(some 6), .load (some 2) (.t 2), none, none, []⟩, ⟨(some 7), .build [(.int .u64 0), (.int .u64 0)] [], none, none, []⟩, ⟨(some 8), .eqs 4 [1, 1] false (.t 6) (.t 7), none, none, []⟩])
  (.cond (.t 8) (.seq (.reg [⟨(some 9), .load (some 2) (.t 3), none, none, []⟩, ⟨none, .store 2 (.t 4) (.t 9), none, none, []⟩])
  .ret) .skip))
  (.seq (.seq (.reg [⟨(some 10), .load (some 2) (.t 3), none, none, []⟩, ⟨(some 11), .build [(.int .u64 0), (.int .u64 0)] [], none, none, []⟩, ⟨(some 12), .eqs 4 [1, 1] false (.t 10) (.t 11), none, none, []⟩])
  (.cond (.t 12) (.seq (.reg [⟨(some 13), .load (some 2) (.t 2), none, none, []⟩, ⟨none, .store 2 (.t 4) (.t 13), none, none, []⟩])
  .ret) .skip))
  (.seq (.regd [⟨(some 14), .load (some 2) (.t 2), none, (some []), []⟩, ⟨(some 15), .call 47 [(.t 14)], none, none, [(none, (.t 3))]⟩, ⟨(some 16), .load (some 2) (.t 3), none, (some [1]), []⟩, ⟨(some 17), .call 47 [(.t 16)], none, none, []⟩, ⟨(some 18), .mnmx false [(.t 15), (.t 17)], none, (some []), []⟩, ⟨(some 5), .mv (.t 18), none, (some []), []⟩])
  (.seq (.regd [⟨(some 20), .load (some 2) (.t 2), none, (some []), []⟩, ⟨(some 21), .load (some 2) (.t 2), none, (some []), []⟩, ⟨(some 22), .call 47 [(.t 21)], none, none, [(none, (.t 2))]⟩, ⟨(some 23), .un .neg (.t 22), none, (some []), []⟩, ⟨(some 24), .call 48 [(.t 20), (.t 23)], none, none, []⟩, ⟨(some 19), .mv (.t 24), none, (some []), []⟩, ⟨(some 25), .extract (.t 19) 0, none, (some []), []⟩, ⟨(some 26), .extract (.t 19) 1, none, (some []), []⟩, ⟨none, .store 2 (.t 2) (.t 25), none, none, []⟩])
  (.seq (.block 0 (.loop (.seq (.seq (.reg [⟨(some 27), .load (some 2) (.t 3), none, none, []⟩, ⟨(some 28), .build [(.int .u64 0), (.int .u64 0)] [], none, none, []⟩, ⟨(some 29), .eqs 4 [1, 1] true (.t 27) (.t 28), none, none, []⟩])
  (.cond (.t 29) .skip (.exit 0)))
  (.block 1 (.seq (.regd [⟨(some 31), .load (some 2) (.t 3), none, (some []), []⟩, ⟨(some 32), .load (some 2) (.t 3), none, (some []), []⟩, ⟨(some 33), .call 47 [(.t 32)], none, none, [(none, (.t 3))]⟩, ⟨(some 34), .un .neg (.t 33), none, (some []), []⟩, ⟨(some 35), .call 48 [(.t 31), (.t 34)], none, none, []⟩, ⟨(some 30), .mv (.t 35), none, (some []), []⟩, ⟨(some 36), .extract (.t 30) 0, none, (some []), []⟩, ⟨(some 37), .extract (.t 30) 1, none, (some []), []⟩, ⟨none, .store 2 (.t 3) (.t 36), none, none, []⟩])
  (.seq (.seq (.reg [⟨(some 38), .load (some 2) (.t 2), none, none, []⟩, ⟨(some 39), .load (some 2) (.t 3), none, none, []⟩, ⟨(some 40), .call 34 [(.t 38), (.t 39)], none, none, []⟩, ⟨(some 41), .bin .gtr (.t 40) (.v (.int .i64 0)), none, none, []⟩])
  (.cond (.t 41) (.reg [⟨(some 42), .load (some 2) (.t 3), none, none, []⟩, ⟨(some 43), .load (some 2) (.t 2), none, none, []⟩, ⟨none, .store 2 (.t 2) (.t 42), none, none, []⟩, ⟨none, .store 2 (.t 3) (.t 43), none, none, []⟩]) .skip))
  (.reg [⟨(some 45), .load (some 2) (.t 3), none, none, []⟩, ⟨(some 46), .load (some 2) (.t 2), none, none, []⟩, ⟨(some 47), .call 49 [(.t 45), (.t 46)], none, none, []⟩, ⟨(some 44), .mv (.t 47), none, none, []⟩, ⟨(some 48), .extract (.t 44) 0, none, none, []⟩, ⟨(some 49), .extract (.t 44) 1, none, none, []⟩, ⟨none, .store 2 (.t 3) (.t 48), none, none, []⟩])))))))
  (.seq (.reg [⟨(some 51), .load (some 2) (.t 2), none, none, []⟩, ⟨(some 52), .mv (.t 5), none, none, []⟩, ⟨(some 53), .call 48 [(.t 51), (.t 52)], none, none, []⟩, ⟨(some 50), .mv (.t 53), none, none, []⟩, ⟨(some 54), .extract (.t 50) 0, none, none, []⟩, ⟨(some 55), .extract (.t 50) 1, none, none, []⟩, ⟨none, .store 2 (.t 2) (.t 54), none, none, []⟩])
  (.seq (.reg [⟨(some 56), .load (some 2) (.t 2), none, none, []⟩, ⟨none, .store 2 (.t 4) (.t 56), none, none, []⟩])
  .ret))))))))⟩
/-- pochoir/wide.Of -/
def s32 : SFn :=
 ⟨5, [.cell 2 (some 2)],
  (.seq (.reg [⟨(some 2), .box 47 (.v (.agg [(.int .u64 0), (.int .u64 0)])), none, none, []⟩])
  (.seq (.reg [⟨(some 3), .mv (.t 0), none, none, []⟩, ⟨(some 4), .build [(.int .u64 0), (.int .u64 0)] [(1, 1, (.t 3))], none, none, []⟩, ⟨none, .store 2 (.t 2) (.t 4), none, none, []⟩])
  .ret))⟩
/-- pochoir/ratio.size -/
def s33 : SFn :=
 ⟨10, [.tmp 2],
  (.seq (.reg [⟨(some 2), .mv (.v (.int .u64 0)), none, none, []⟩])
  (.seq (.seq (.reg [⟨(some 3), .mv (.t 0), none, none, []⟩, ⟨(some 4), .bin .lss (.t 3) (.v (.int .i64 0)), none, none, []⟩])
  (.cond (.t 4) (.seq (.reg [⟨(some 5), .mv (.t 0), none, none, []⟩, ⟨(some 6), .conv .u64 (.t 5), none, none, []⟩, ⟨(some 7), .un .neg (.t 6), none, none, []⟩, ⟨(some 2), .mv (.t 7), none, none, []⟩])
  .ret) .skip))
  (.seq (.reg [⟨(some 8), .mv (.t 0), none, none, []⟩, ⟨(some 9), .conv .u64 (.t 8), none, none, []⟩, ⟨(some 2), .mv (.t 9), none, none, []⟩])
  .ret)))⟩
/-- pochoir/wide.Cmp -/
def s34 : SFn :=
 ⟨17, [.tmp 4],
  (.seq (.reg [⟨(some 2), .box 47 (.t 0), none, none, []⟩, ⟨(some 3), .box 47 (.t 1), none, none, []⟩, ⟨(some 4), .mv (.v (.int .i64 0)), none, none, []⟩])
  (.seq (.regd [⟨(some 5), .faddr 0 (.t 2), none, (some []), []⟩, ⟨(some 6), .load none (.t 5), none, (some []), []⟩, ⟨(some 7), .faddr 0 (.t 3), none, (some []), []⟩, ⟨(some 8), .load none (.t 7), none, (some []), []⟩, ⟨(some 9), .call 51 [(.t 6), (.t 8)], none, none, [(none, (.t 2)), (none, (.t 3))]⟩, ⟨(some 10), .faddr 1 (.t 2), none, (some [4]), []⟩, ⟨(some 11), .load none (.t 10), none, (some [4]), []⟩, ⟨(some 12), .faddr 1 (.t 3), none, (some [4]), []⟩, ⟨(some 13), .load none (.t 12), none, (some [4]), []⟩, ⟨(some 14), .call 51 [(.t 11), (.t 13)], none, none, []⟩, ⟨(some 15), .bsl 3 [(.int .i64 0), (.int .i64 0)] 2 1 [(0, 1, (.t 9)), (1, 1, (.t 14))], none, none, []⟩, ⟨(some 16), .call 50 [(.t 15)], none, none, []⟩, ⟨(some 4), .mv (.t 16), none, (some []), []⟩])
  .ret))⟩
/-- pochoir/pochoirref03.both -/
def s35 : SFn :=
 ⟨11, [.tmp 4],
  (.seq (.reg [⟨(some 2), .box 24 (.t 0), none, none, []⟩, ⟨(some 3), .box 24 (.t 1), none, none, []⟩, ⟨(some 4), .mv (.v (.bool false)), none, none, []⟩])
  (.seq (.reg [⟨(some 5), .load (some 2) (.t 2), none, none, []⟩, ⟨(some 6), .call 10 [(.t 5)], none, none, []⟩, ⟨(some 7), .mv (.t 6), none, none, []⟩, ⟨(some 8), .load (some 2) (.t 3), (some (7, true)), none, []⟩, ⟨(some 9), .call 10 [(.t 8)], (some (7, true)), none, []⟩, ⟨(some 10), .pick (.t 7) (.t 9) (.v (.bool false)), none, none, []⟩, ⟨(some 4), .mv (.t 10), none, none, []⟩])
  .ret))⟩
/-- pochoir/pochoirref02.Cmp -/
def s36 : SFn :=
 ⟨9, [.tmp 4],
  (.seq (.reg [⟨(some 2), .box 61 (.t 0), none, none, []⟩, ⟨(some 3), .box 61 (.t 1), none, none, []⟩, ⟨(some 4), .mv (.v (.int .i64 0)), none, none, []⟩])
  (.seq (.reg [⟨(some 5), .load (some 2) (.t 2), none, none, []⟩, ⟨(some 6), .load (some 2) (.t 3), none, none, []⟩, ⟨(some 7), .call 38 [(.t 5), (.t 6)], none, none, []⟩, ⟨(some 8), .call 52 [(.t 7)], none, none, []⟩, ⟨(some 4), .mv (.t 8), none, none, []⟩])
  .ret))⟩
/-- pochoir/pochoirref03.times -/
def s37 : SFn :=
 ⟨10, [.cell 4 (some 2)],
  (.seq (.reg [⟨(some 4), .box 61 (.v (.agg [(.bool false), .nils])), none, none, []⟩])
  (.seq (.reg [⟨(some 5), .mv (.t 0), none, none, []⟩, ⟨(some 6), .call 39 [(.t 5)], none, none, []⟩, ⟨(some 7), .mv (.t 1), none, none, []⟩, ⟨(some 8), .call 39 [(.t 7)], none, none, []⟩, ⟨(some 9), .call 53 [(.t 6), (.t 8)], none, none, []⟩, ⟨none, .store 2 (.t 4) (.t 9), none, none, []⟩])
  .ret))⟩
/-- pochoir/pochoirref02.Sub -/
def s38 : SFn :=
 ⟨9, [.cell 4 (some 2)],
  (.seq (.reg [⟨(some 2), .box 61 (.t 0), none, none, []⟩, ⟨(some 3), .box 61 (.t 1), none, none, []⟩, ⟨(some 4), .box 61 (.v (.agg [(.bool false), .nils])), none, none, []⟩])
  (.seq (.regd [⟨(some 5), .load (some 2) (.t 2), none, (some []), []⟩, ⟨(some 6), .load (some 2) (.t 3), none, (some []), []⟩, ⟨(some 7), .call 54 [(.t 6)], none, none, [(none, (.t 2))]⟩, ⟨(some 8), .call 40 [(.t 5), (.t 7)], none, none, []⟩, ⟨none, .store 2 (.t 4) (.t 8), none, none, []⟩])
  .ret))⟩
/-- pochoir/pochoirref02.Of -/
def s39 : SFn :=
 ⟨24, [.cell 2 (some 2)],
  (.seq (.reg [⟨(some 2), .box 61 (.v (.agg [(.bool false), .nils])), none, none, []⟩])
  (.seq (.reg [⟨(some 4), .mv (.t 0), none, none, []⟩, ⟨(some 5), .conv .u64 (.t 4), none, none, []⟩, ⟨(some 3), .mv (.t 5), none, none, []⟩])
  (.seq (.seq (.reg [⟨(some 6), .mv (.t 0), none, none, []⟩, ⟨(some 7), .bin .lss (.t 6) (.v (.int .i64 0)), none, none, []⟩])
  (.cond (.t 7) (.reg [⟨(some 8), .mv (.t 3), none, none, []⟩, ⟨(some 9), .bin .sub (.v (.int .u64 0)) (.t 8), none, none, []⟩, ⟨(some 3), .mv (.t 9), none, none, []⟩]) .skip))
  (.seq (.reg [⟨(some 10), .mv (.t 0), none, none, []⟩, ⟨(some 11), .bin .lss (.t 10) (.v (.int .i64 0)), none, none, []⟩, ⟨(some 12), .mv (.t 3), none, none, []⟩, ⟨(some 13), .bin .rem (.t 12) (.v (.int .u64 65536)), none, none, []⟩, ⟨(some 14), .mv (.t 3), none, none, []⟩, ⟨(some 15), .bin .quo (.t 14) (.v (.int .u64 65536)), none, none, []⟩, ⟨(some 16), .bin .rem (.t 15) (.v (.int .u64 65536)), none, none, []⟩, ⟨(some 17), .mv (.t 3), none, none, []⟩, ⟨(some 18), .bin .quo (.t 17) (.v (.int .u64 4294967296)), none, none, []⟩, ⟨(some 19), .bin .rem (.t 18) (.v (.int .u64 65536)), none, none, []⟩, ⟨(some 20), .mv (.t 3), none, none, []⟩, ⟨(some 21), .bin .quo (.t 20) (.v (.int .u64 281474976710656)), none, none, []⟩, ⟨(some 22), .bsl 45 [(.int .u64 0), (.int .u64 0), (.int .u64 0), (.int .u64 0)] 4 1 [(0, 1, (.t 13)), (1, 1, (.t 16)), (2, 1, (.t 19)), (3, 1, (.t 21))], none, none, []⟩, ⟨(some 23), .call 55 [(.t 11), (.t 22)], none, none, []⟩, ⟨none, .store 2 (.t 2) (.t 23), none, none, []⟩])
  .ret))))⟩
/-- pochoir/pochoirref02.Add -/
def s40 : SFn :=
 ⟨40, [.cell 4 (some 2)],
  (.seq (.reg [⟨(some 2), .box 61 (.t 0), none, none, []⟩, ⟨(some 3), .box 61 (.t 1), none, none, []⟩, ⟨(some 4), .box 61 (.v (.agg [(.bool false), .nils])), none, none, []⟩])
  (.seq (.seq (.reg [⟨(some 5), .faddr 0 (.t 2), none, none, []⟩, ⟨(some 6), .load none (.t 5), none, none, []⟩, ⟨(some 7), .faddr 0 (.t 3), none, none, []⟩, ⟨(some 8), .load none (.t 7), none, none, []⟩, ⟨(some 9), .eqs 0 [] false (.t 6) (.t 8), none, none, []⟩])
  (.cond (.t 9) (.seq (.regd [⟨(some 10), .faddr 0 (.t 2), none, (some []), []⟩, ⟨(some 11), .load none (.t 10), none, (some []), []⟩, ⟨(some 12), .faddr 1 (.t 2), none, (some []), []⟩, ⟨(some 13), .load none (.t 12), none, (some []), []⟩, ⟨(some 14), .faddr 1 (.t 3), none, (some []), []⟩, ⟨(some 15), .load none (.t 14), none, (some []), []⟩, ⟨(some 16), .call 56 [(.t 13), (.t 15)], none, none, [(none, (.t 10))]⟩, ⟨(some 17), .call 55 [(.t 11), (.t 16)], none, none, []⟩, ⟨none, .store 2 (.t 4) (.t 17), none, none, []⟩])
  .ret) .skip))
  (.seq (.seq (.reg [⟨(some 18), .faddr 1 (.t 2), none, none, []⟩, ⟨(some 19), .load none (.t 18), none, none, []⟩, ⟨(some 20), .faddr 1 (.t 3), none, none, []⟩, ⟨(some 21), .load none (.t 20), none, none, []⟩, ⟨(some 22), .call 57 [(.t 19), (.t 21)], none, none, []⟩, ⟨(some 23), .bin .geq (.t 22) (.v (.int .i64 0)), none, none, []⟩])
  (.cond (.t 23) (.seq (.regd [⟨(some 24), .faddr 0 (.t 2), none, (some []), []⟩, ⟨(some 25), .load none (.t 24), none, (some []), []⟩, ⟨(some 26), .faddr 1 (.t 2), none, (some []), []⟩, ⟨(some 27), .load none (.t 26), none, (some []), []⟩, ⟨(some 28), .faddr 1 (.t 3), none, (some []), []⟩, ⟨(some 29), .load none (.t 28), none, (some []), []⟩, ⟨(some 30), .call 58 [(.t 27), (.t 29)], none, none, [(none, (.t 24))]⟩, ⟨(some 31), .call 55 [(.t 25), (.t 30)], none, none, []⟩, ⟨none, .store 2 (.t 4) (.t 31), none, none, []⟩])
  .ret) .skip))
  (.seq (.regd [⟨(some 32), .faddr 0 (.t 3), none, (some []), []⟩, ⟨(some 33), .load none (.t 32), none, (some []), []⟩, ⟨(some 34), .faddr 1 (.t 3), none, (some []), []⟩, ⟨(some 35), .load none (.t 34), none, (some []), []⟩, ⟨(some 36), .faddr 1 (.t 2), none, (some []), []⟩, ⟨(some 37), .load none (.t 36), none, (some []), []⟩, ⟨(some 38), .call 58 [(.t 35), (.t 37)], none, none, [(none, (.t 32))]⟩, ⟨(some 39), .call 55 [(.t 33), (.t 38)], none, none, []⟩, ⟨none, .store 2 (.t 4) (.t 39), none, none, []⟩])
  .ret))))⟩
/-- (pochoir/ratio.signed).plus -/
def s41 : SFn :=
 ⟨46, [.cell 4 (some 3)],
  (.seq (.reg [⟨(some 2), .box 49 (.t 0), none, none, []⟩, ⟨(some 3), .box 49 (.t 1), none, none, []⟩, ⟨(some 4), .box 49 (.v (.agg [(.bool false), (.int .u64 0), (.int .u64 0)])), none, none, []⟩])
  (.seq (.seq (.reg [⟨(some 9), .faddr 0 (.t 2), none, none, []⟩, ⟨(some 10), .load none (.t 9), none, none, []⟩, ⟨(some 11), .faddr 0 (.t 3), none, none, []⟩, ⟨(some 12), .load none (.t 11), none, none, []⟩, ⟨(some 13), .eqs 0 [] false (.t 10) (.t 12), none, none, []⟩])
  (.cond (.t 13) (.seq (.reg [⟨(some 15), .faddr 1 (.t 2), none, none, []⟩, ⟨(some 16), .load (some 2) (.t 15), none, none, []⟩, ⟨(some 17), .faddr 1 (.t 3), none, none, []⟩, ⟨(some 18), .load (some 2) (.t 17), none, none, []⟩, ⟨(some 19), .call 59 [(.t 16), (.t 18)], none, none, []⟩, ⟨(some 14), .mv (.t 19), none, none, []⟩, ⟨(some 20), .extract (.t 14) 0, none, none, []⟩, ⟨(some 21), .extract (.t 14) 1, none, none, []⟩, ⟨(some 5), .box 47 (.v (.agg [(.int .u64 0), (.int .u64 0)])), none, none, []⟩, ⟨none, .store 2 (.t 5) (.t 20), none, none, []⟩, ⟨(some 6), .mv (.t 21), none, none, []⟩])
  (.seq (.reg [⟨(some 22), .faddr 0 (.t 2), none, none, []⟩, ⟨(some 23), .load none (.t 22), none, none, []⟩, ⟨(some 24), .load (some 2) (.t 5), none, none, []⟩, ⟨(some 25), .build [(.bool false), (.int .u64 0), (.int .u64 0)] [(0, 1, (.t 23)), (1, 2, (.t 24))], none, none, []⟩, ⟨none, .store 3 (.t 4) (.t 25), none, none, []⟩])
  .ret)) .skip))
  (.seq (.seq (.reg [⟨(some 26), .faddr 1 (.t 2), none, none, []⟩, ⟨(some 27), .load (some 2) (.t 26), none, none, []⟩, ⟨(some 28), .faddr 1 (.t 3), none, none, []⟩, ⟨(some 29), .load (some 2) (.t 28), none, none, []⟩, ⟨(some 30), .call 34 [(.t 27), (.t 29)], none, none, []⟩, ⟨(some 31), .bin .lss (.t 30) (.v (.int .i64 0)), none, none, []⟩])
  (.cond (.t 31) (.reg [⟨(some 32), .load (some 3) (.t 3), none, none, []⟩, ⟨(some 33), .load (some 3) (.t 2), none, none, []⟩, ⟨none, .store 3 (.t 2) (.t 32), none, none, []⟩, ⟨none, .store 3 (.t 3) (.t 33), none, none, []⟩]) .skip))
  (.seq (.reg [⟨(some 35), .faddr 1 (.t 2), none, none, []⟩, ⟨(some 36), .load (some 2) (.t 35), none, none, []⟩, ⟨(some 37), .faddr 1 (.t 3), none, none, []⟩, ⟨(some 38), .load (some 2) (.t 37), none, none, []⟩, ⟨(some 39), .call 49 [(.t 36), (.t 38)], none, none, []⟩, ⟨(some 34), .mv (.t 39), none, none, []⟩, ⟨(some 40), .extract (.t 34) 0, none, none, []⟩, ⟨(some 41), .extract (.t 34) 1, none, none, []⟩, ⟨(some 7), .box 47 (.v (.agg [(.int .u64 0), (.int .u64 0)])), none, none, []⟩, ⟨none, .store 2 (.t 7) (.t 40), none, none, []⟩, ⟨(some 8), .mv (.t 41), none, none, []⟩])
  (.seq (.reg [⟨(some 42), .faddr 0 (.t 2), none, none, []⟩, ⟨(some 43), .load none (.t 42), none, none, []⟩, ⟨(some 44), .load (some 2) (.t 7), none, none, []⟩, ⟨(some 45), .build [(.bool false), (.int .u64 0), (.int .u64 0)] [(0, 1, (.t 43)), (1, 2, (.t 44))], none, none, []⟩, ⟨none, .store 3 (.t 4) (.t 45), none, none, []⟩])
  .ret)))))⟩
/-- pochoir/pochoirref03.Lowest -/
def s42 : SFn :=
 ⟨75, [.cell 4 (some 2), .tmp 5],
  (.seq (.reg [⟨(some 2), .box 61 (.t 0), none, none, []⟩, ⟨(some 3), .box 61 (.t 1), none, none, []⟩, ⟨(some 4), .box 24 (.v (.agg [(.int .i64 0), (.int .i64 0)])), none, none, []⟩, ⟨(some 5), .mv (.v (.int .i64 0)), none, none, []⟩])
  (.seq (.reg [⟨(some 18), .load (some 2) (.t 2), none, none, []⟩, ⟨(some 19), .call 60 [(.t 18)], none, none, []⟩, ⟨(some 6), .box 61 (.v (.agg [(.bool false), .nils])), none, none, []⟩, ⟨none, .store 2 (.t 6) (.t 19), none, none, []⟩])
  (.seq (.reg [⟨(some 20), .load (some 2) (.t 3), none, none, []⟩, ⟨(some 21), .call 60 [(.t 20)], none, none, []⟩, ⟨(some 7), .box 61 (.v (.agg [(.bool false), .nils])), none, none, []⟩, ⟨none, .store 2 (.t 7) (.t 21), none, none, []⟩])
  (.seq (.block 0 (.loop (.seq (.seq (.reg [⟨(some 22), .load (some 2) (.t 7), none, none, []⟩, ⟨(some 23), .call 52 [(.t 22)], none, none, []⟩, ⟨(some 24), .bin .neq (.t 23) (.v (.int .i64 0)), none, none, []⟩])
  (.cond (.t 24) .skip (.exit 0)))
  (.block 1 (.seq (.reg [⟨(some 26), .load (some 2) (.t 6), none, none, []⟩, ⟨(some 27), .load (some 2) (.t 7), none, none, []⟩, ⟨(some 28), .call 61 [(.t 26), (.t 27)], none, none, []⟩, ⟨(some 25), .mv (.t 28), none, none, []⟩, ⟨(some 29), .extract (.t 25) 0, none, none, []⟩, ⟨(some 30), .extract (.t 25) 1, none, none, []⟩, ⟨(some 8), .box 61 (.v (.agg [(.bool false), .nils])), none, none, []⟩, ⟨(some 9), .box 61 (.v (.agg [(.bool false), .nils])), none, none, []⟩, ⟨none, .store 2 (.t 8) (.t 29), none, none, []⟩, ⟨none, .store 2 (.t 9) (.t 30), none, none, []⟩])
  (.seq (.reg [⟨(some 31), .load (some 2) (.t 7), none, none, []⟩, ⟨none, .store 2 (.t 6) (.t 31), none, none, []⟩])
  (.reg [⟨(some 32), .load (some 2) (.t 9), none, none, []⟩, ⟨none, .store 2 (.t 7) (.t 32), none, none, []⟩])))))))
  (.seq (.regd [⟨(some 34), .load (some 2) (.t 2), none, (some []), []⟩, ⟨(some 35), .call 60 [(.t 34)], none, (some []), []⟩, ⟨(some 36), .load (some 2) (.t 6), none, (some [1]), []⟩, ⟨(some 37), .call 61 [(.t 35), (.t 36)], none, (some []), []⟩, ⟨(some 33), .mv (.t 37), none, (some []), []⟩, ⟨(some 38), .extract (.t 33) 0, none, (some []), []⟩, ⟨(some 39), .extract (.t 33) 1, none, (some []), []⟩, ⟨(some 10), .box 61 (.v (.agg [(.bool false), .nils])), none, (some [1, 3]), []⟩, ⟨(some 11), .box 61 (.v (.agg [(.bool false), .nils])), none, (some [1, 3, 7]), []⟩, ⟨none, .store 2 (.t 10) (.t 38), none, none, []⟩, ⟨none, .store 2 (.t 11) (.t 39), none, none, []⟩])
  (.seq (.regd [⟨(some 41), .load (some 2) (.t 3), none, (some []), []⟩, ⟨(some 42), .call 60 [(.t 41)], none, (some []), []⟩, ⟨(some 43), .load (some 2) (.t 6), none, (some [1]), []⟩, ⟨(some 44), .call 61 [(.t 42), (.t 43)], none, (some []), []⟩, ⟨(some 40), .mv (.t 44), none, (some []), []⟩, ⟨(some 45), .extract (.t 40) 0, none, (some []), []⟩, ⟨(some 46), .extract (.t 40) 1, none, (some []), []⟩, ⟨(some 12), .box 61 (.v (.agg [(.bool false), .nils])), none, (some [1, 3]), []⟩, ⟨(some 13), .box 61 (.v (.agg [(.bool false), .nils])), none, (some [1, 3, 7]), []⟩, ⟨none, .store 2 (.t 12) (.t 45), none, none, []⟩, ⟨none, .store 2 (.t 13) (.t 46), none, none, []⟩])
  (.seq (.seq (.regd [⟨(some 47), .load (some 2) (.t 2), none, (some []), []⟩, ⟨(some 48), .call 52 [(.t 47)], none, none, [(none, (.t 3))]⟩, ⟨(some 49), .load (some 2) (.t 3), none, (some [1]), []⟩, ⟨(some 50), .call 52 [(.t 49)], none, none, []⟩, ⟨(some 51), .bin .mul (.t 48) (.t 50), none, (some []), []⟩, ⟨(some 52), .bin .lss (.t 51) (.v (.int .i64 0)), none, (some []), []⟩])
  (.cond (.t 52) (.reg [⟨(some 53), .load (some 2) (.t 10), none, none, []⟩, ⟨(some 54), .call 54 [(.t 53)], none, none, []⟩, ⟨none, .store 2 (.t 10) (.t 54), none, none, []⟩]) .skip))
  (.seq (.reg [⟨(some 56), .load (some 2) (.t 10), none, none, []⟩, ⟨(some 57), .call 62 [(.t 56)], none, none, []⟩, ⟨(some 55), .mv (.t 57), none, none, []⟩, ⟨(some 58), .extract (.t 55) 0, none, none, []⟩, ⟨(some 59), .extract (.t 55) 1, none, none, []⟩, ⟨(some 14), .mv (.t 58), none, none, []⟩, ⟨(some 15), .mv (.t 59), none, none, []⟩])
  (.seq (.reg [⟨(some 61), .load (some 2) (.t 12), none, none, []⟩, ⟨(some 62), .call 62 [(.t 61)], none, none, []⟩, ⟨(some 60), .mv (.t 62), none, none, []⟩, ⟨(some 63), .extract (.t 60) 0, none, none, []⟩, ⟨(some 64), .extract (.t 60) 1, none, none, []⟩, ⟨(some 16), .mv (.t 63), none, none, []⟩, ⟨(some 17), .mv (.t 64), none, none, []⟩])
  (.seq (.seq (.reg [⟨(some 65), .mv (.t 15), none, none, []⟩, ⟨(some 66), .un .not (.t 65), none, none, []⟩, ⟨(some 67), .mv (.t 66), none, none, []⟩, ⟨(some 68), .mv (.t 17), (some (67, false)), none, []⟩, ⟨(some 69), .un .not (.t 68), (some (67, false)), none, []⟩, ⟨(some 70), .pick (.t 67) (.v (.bool true)) (.t 69), none, none, []⟩])
  (.cond (.t 70) (.seq (.reg [⟨(some 71), .build [(.int .i64 0), (.int .i64 0)] [], none, none, []⟩, ⟨none, .store 2 (.t 4) (.t 71), none, none, []⟩, ⟨(some 5), .mv (.v (.int .i64 2)), none, none, []⟩])
  .ret) .skip))
  (.seq (.reg [⟨(some 72), .mv (.t 14), none, none, []⟩, ⟨(some 73), .mv (.t 16), none, none, []⟩, ⟨(some 74), .build [(.int .i64 0), (.int .i64 0)] [(0, 1, (.t 72)), (1, 1, (.t 73))], none, none, []⟩, ⟨none, .store 2 (.t 4) (.t 74), none, none, []⟩, ⟨(some 5), .mv (.v (.int .i64 0)), none, none, []⟩])
  .ret)))))))))))⟩
/-- strconv.FormatInt -/
def s43 : SFn :=
 ⟨8, [.tmp 4],
  (.seq (.reg [⟨(some 4), .mv (.v (.str ⟨#[]⟩)), none, none, []⟩])
  (.seq (.reg [⟨(some 5), .mv (.t 0), none, none, []⟩, ⟨(some 6), .mv (.t 1), none, none, []⟩, ⟨(some 7), .call 63 [(.t 5), (.t 6)], none, none, []⟩, ⟨(some 4), .mv (.t 7), none, none, []⟩])
  .ret))⟩
/-- pochoir/ratio.part -/
def s44 : SFn :=
 ⟨55, [.cell 4 (some 2)],
  (.seq (.reg [⟨(some 2), .box 47 (.t 0), none, none, []⟩, ⟨(some 3), .box 47 (.t 1), none, none, []⟩, ⟨(some 4), .box 47 (.v (.agg [(.int .u64 0), (.int .u64 0)])), none, none, []⟩])
  (.seq (.seq (.reg [⟨(some 12), .faddr 0 (.t 3), none, none, []⟩, ⟨(some 13), .load none (.t 12), none, none, []⟩, ⟨(some 14), .bin .eql (.t 13) (.v (.int .u64 0)), none, none, []⟩])
  (.cond (.t 14) (.seq (.reg [⟨(some 16), .load (some 2) (.t 2), none, none, []⟩, ⟨(some 17), .faddr 1 (.t 3), none, none, []⟩, ⟨(some 18), .load none (.t 17), none, none, []⟩, ⟨(some 19), .call 64 [(.t 16), (.t 18)], none, none, []⟩, ⟨(some 15), .mv (.t 19), none, none, []⟩, ⟨(some 20), .extract (.t 15) 0, none, none, []⟩, ⟨(some 21), .extract (.t 15) 1, none, none, []⟩, ⟨(some 22), .extract (.t 15) 2, none, none, []⟩, ⟨(some 5), .box 47 (.v (.agg [(.int .u64 0), (.int .u64 0)])), none, none, []⟩, ⟨none, .store 2 (.t 5) (.t 20), none, none, []⟩, ⟨(some 6), .mv (.t 21), none, none, []⟩, ⟨(some 7), .mv (.t 22), none, none, []⟩])
  (.seq (.reg [⟨(some 23), .load (some 2) (.t 5), none, none, []⟩, ⟨none, .store 2 (.t 4) (.t 23), none, none, []⟩])
  .ret)) .skip))
  (.seq (.reg [⟨(some 8), .box 47 (.v (.agg [(.int .u64 0), (.int .u64 0)])), none, none, []⟩])
  (.seq (.seq (.reg [⟨(some 9), .mv (.v (.int .i64 63)), none, none, []⟩])
  (.block 0 (.loop (.seq (.seq (.reg [⟨(some 24), .mv (.t 9), none, none, []⟩, ⟨(some 25), .bin .geq (.t 24) (.v (.int .i64 0)), none, none, []⟩])
  (.cond (.t 25) .skip (.exit 0)))
  (.seq (.block 1 (.seq (.reg [⟨(some 29), .load (some 2) (.t 3), none, none, []⟩, ⟨(some 30), .mv (.t 9), none, none, []⟩, ⟨(some 31), .call 48 [(.t 29), (.t 30)], none, none, []⟩, ⟨(some 28), .mv (.t 31), none, none, []⟩, ⟨(some 32), .extract (.t 28) 0, none, none, []⟩, ⟨(some 33), .extract (.t 28) 1, none, none, []⟩, ⟨(some 10), .box 47 (.v (.agg [(.int .u64 0), (.int .u64 0)])), none, none, []⟩, ⟨none, .store 2 (.t 10) (.t 32), none, none, []⟩, ⟨(some 11), .mv (.t 33), none, none, []⟩])
  (.seq (.reg [⟨(some 34), .mv (.t 11), none, none, []⟩, ⟨(some 35), .bin .eql (.t 34) (.v (.int .i64 0)), none, none, []⟩, ⟨(some 36), .mv (.t 35), none, none, []⟩, ⟨(some 37), .load (some 2) (.t 2), (some (36, true)), none, []⟩, ⟨(some 38), .load (some 2) (.t 10), (some (36, true)), none, []⟩, ⟨(some 39), .call 34 [(.t 37), (.t 38)], (some (36, true)), none, []⟩, ⟨(some 40), .bin .geq (.t 39) (.v (.int .i64 0)), (some (36, true)), none, []⟩, ⟨(some 41), .pick (.t 36) (.t 40) (.v (.bool false)), none, none, []⟩])
  (.cond (.t 41) (.seq (.reg [⟨(some 43), .load (some 2) (.t 2), none, none, []⟩, ⟨(some 44), .load (some 2) (.t 10), none, none, []⟩, ⟨(some 45), .call 49 [(.t 43), (.t 44)], none, none, []⟩, ⟨(some 42), .mv (.t 45), none, none, []⟩, ⟨(some 46), .extract (.t 42) 0, none, none, []⟩, ⟨(some 47), .extract (.t 42) 1, none, none, []⟩, ⟨none, .store 2 (.t 2) (.t 46), none, none, []⟩])
  (.regd [⟨(some 48), .faddr 1 (.t 8), none, (some []), []⟩, ⟨(some 49), .load none (.t 48), none, none, []⟩, ⟨(some 50), .mv (.t 9), none, (some []), []⟩, ⟨(some 51), .bin .shl (.v (.int .u64 1)) (.t 50), none, (some []), []⟩, ⟨(some 52), .bin .or (.t 49) (.t 51), none, (some []), []⟩, ⟨(some 53), .faddr 1 (.t 8), none, (some []), []⟩, ⟨none, .store 1 (.t 53) (.t 52), none, none, []⟩])) .skip))))
  (.reg [⟨(some 26), .mv (.t 9), none, none, []⟩, ⟨(some 27), .bin .sub (.t 26) (.v (.int .i64 1)), none, none, []⟩, ⟨(some 9), .mv (.t 27), none, none, []⟩]))))))
  (.seq (.reg [⟨(some 54), .load (some 2) (.t 8), none, none, []⟩, ⟨none, .store 2 (.t 4) (.t 54), none, none, []⟩])
  .ret)))))⟩
/-- pochoir/ratio.fits -/
def s45 : SFn :=
 ⟨33, [.tmp 4, .tmp 5],
  (.seq (.reg [⟨(some 3), .box 47 (.t 1), none, none, []⟩, ⟨(some 4), .mv (.v (.int .i64 0)), none, none, []⟩, ⟨(some 5), .mv (.v (.bool false)), none, none, []⟩])
  (.seq (.block 0 (.seq (.reg [⟨(some 7), .faddr 0 (.t 3), none, none, []⟩, ⟨(some 8), .load none (.t 7), none, none, []⟩, ⟨(some 9), .bin .neq (.t 8) (.v (.int .u64 0)), none, none, []⟩, ⟨(some 10), .mv (.t 9), none, none, []⟩, ⟨(some 11), .faddr 1 (.t 3), (some (10, false)), none, []⟩, ⟨(some 12), .load none (.t 11), (some (10, false)), none, []⟩, ⟨(some 13), .bin .gtr (.t 12) (.v (.int .u64 9223372036854775808)), (some (10, false)), none, []⟩, ⟨(some 14), .pick (.t 10) (.v (.bool true)) (.t 13), none, none, []⟩, ⟨(some 15), .mv (.t 14), none, none, []⟩, ⟨(some 16), .faddr 1 (.t 3), (some (15, false)), none, []⟩, ⟨(some 17), .load none (.t 16), (some (15, false)), none, []⟩, ⟨(some 18), .bin .eql (.t 17) (.v (.int .u64 9223372036854775808)), (some (15, false)), none, []⟩, ⟨(some 19), .mv (.t 18), (some (15, false)), none, []⟩, ⟨(some 20), .mv (.t 0), (some (19, true)), none, []⟩, ⟨(some 21), .un .not (.t 20), (some (19, true)), none, []⟩, ⟨(some 22), .pick (.t 19) (.t 21) (.v (.bool false)), (some (15, false)), none, []⟩, ⟨(some 23), .pick (.t 15) (.v (.bool true)) (.t 22), none, none, []⟩, ⟨(some 6), .mv (.t 23), none, none, []⟩])
  (.cond (.t 6) (.seq (.reg [⟨(some 4), .mv (.v (.int .i64 0)), none, none, []⟩, ⟨(some 5), .mv (.v (.bool false)), none, none, []⟩])
  .ret) (.seq (.reg [⟨(some 25), .mv (.t 0), none, none, []⟩, ⟨(some 24), .mv (.t 25), none, none, []⟩])
  (.cond (.t 24) (.seq (.reg [⟨(some 26), .faddr 1 (.t 3), none, none, []⟩, ⟨(some 27), .load none (.t 26), none, none, []⟩, ⟨(some 28), .un .neg (.t 27), none, none, []⟩, ⟨(some 29), .conv .i64 (.t 28), none, none, []⟩, ⟨(some 4), .mv (.t 29), none, none, []⟩, ⟨(some 5), .mv (.v (.bool true)), none, none, []⟩])
  .ret) .skip)))))
  (.seq (.reg [⟨(some 30), .faddr 1 (.t 3), none, none, []⟩, ⟨(some 31), .load none (.t 30), none, none, []⟩, ⟨(some 32), .conv .i64 (.t 31), none, none, []⟩, ⟨(some 4), .mv (.t 32), none, none, []⟩, ⟨(some 5), .mv (.v (.bool true)), none, none, []⟩])
  .ret)))⟩
/-- pochoir/wide.Mul -/
def s46 : SFn :=
 ⟨16, [.cell 4 (some 2)],
  (.seq (.reg [⟨(some 4), .box 47 (.v (.agg [(.int .u64 0), (.int .u64 0)])), none, none, []⟩])
  (.seq (.reg [⟨(some 8), .mv (.t 0), none, none, []⟩, ⟨(some 9), .mv (.t 1), none, none, []⟩, ⟨(some 10), .call 65 [(.t 8), (.t 9)], none, none, []⟩, ⟨(some 7), .mv (.t 10), none, none, []⟩, ⟨(some 11), .extract (.t 7) 0, none, none, []⟩, ⟨(some 12), .extract (.t 7) 1, none, none, []⟩, ⟨(some 5), .mv (.t 11), none, none, []⟩, ⟨(some 6), .mv (.t 12), none, none, []⟩])
  (.seq (.reg [⟨(some 13), .mv (.t 5), none, none, []⟩, ⟨(some 14), .mv (.t 6), none, none, []⟩, ⟨(some 15), .build [(.int .u64 0), (.int .u64 0)] [(0, 1, (.t 13)), (1, 1, (.t 14))], none, none, []⟩, ⟨none, .store 2 (.t 4) (.t 15), none, none, []⟩])
  .ret)))⟩
/-- pochoir/ratio.twos -/
def s47 : SFn :=
 ⟨13, [.tmp 2],
  (.seq (.reg [⟨(some 1), .box 47 (.t 0), none, none, []⟩, ⟨(some 2), .mv (.v (.int .i64 0)), none, none, []⟩])
  (.seq (.seq (.reg [⟨(some 3), .faddr 1 (.t 1), none, none, []⟩, ⟨(some 4), .load none (.t 3), none, none, []⟩, ⟨(some 5), .bin .neq (.t 4) (.v (.int .u64 0)), none, none, []⟩])
  (.cond (.t 5) (.seq (.reg [⟨(some 6), .faddr 1 (.t 1), none, none, []⟩, ⟨(some 7), .load none (.t 6), none, none, []⟩, ⟨(some 8), .call 66 [(.t 7)], none, none, []⟩, ⟨(some 2), .mv (.t 8), none, none, []⟩])
  .ret) .skip))
  (.seq (.reg [⟨(some 9), .faddr 0 (.t 1), none, none, []⟩, ⟨(some 10), .load none (.t 9), none, none, []⟩, ⟨(some 11), .call 66 [(.t 10)], none, none, []⟩, ⟨(some 12), .bin .add (.v (.int .i64 64)) (.t 11), none, none, []⟩, ⟨(some 2), .mv (.t 12), none, none, []⟩])
  .ret)))⟩
/-- pochoir/wide.Shift -/
def s48 : SFn :=
 ⟨34, [.cell 4 (some 2), .tmp 5],
  (.seq (.reg [⟨(some 2), .box 47 (.t 0), none, none, []⟩, ⟨(some 4), .box 47 (.v (.agg [(.int .u64 0), (.int .u64 0)])), none, none, []⟩, ⟨(some 5), .mv (.v (.int .i64 0)), none, none, []⟩])
  (.seq (.block 0 (.seq (.reg [⟨(some 7), .load (some 2) (.t 2), none, none, []⟩, ⟨(some 8), .build [(.int .u64 0), (.int .u64 0)] [], none, none, []⟩, ⟨(some 9), .eqs 4 [1, 1] false (.t 7) (.t 8), none, none, []⟩, ⟨(some 10), .mv (.t 9), none, none, []⟩, ⟨(some 11), .mv (.t 1), (some (10, false)), none, []⟩, ⟨(some 12), .bin .leq (.t 11) (.v (.int .i64 (-128))), (some (10, false)), none, []⟩, ⟨(some 13), .pick (.t 10) (.v (.bool true)) (.t 12), none, none, []⟩, ⟨(some 6), .mv (.t 13), none, none, []⟩])
  (.cond (.t 6) (.seq (.reg [⟨(some 14), .build [(.int .u64 0), (.int .u64 0)] [], none, none, []⟩, ⟨none, .store 2 (.t 4) (.t 14), none, none, []⟩, ⟨(some 5), .mv (.v (.int .i64 0)), none, none, []⟩])
  .ret) (.seq (.reg [⟨(some 16), .mv (.t 1), none, none, []⟩, ⟨(some 17), .bin .lss (.t 16) (.v (.int .i64 0)), none, none, []⟩, ⟨(some 15), .mv (.t 17), none, none, []⟩])
  (.cond (.t 15) (.seq (.reg [⟨(some 18), .load (some 2) (.t 2), none, none, []⟩, ⟨(some 19), .mv (.t 1), none, none, []⟩, ⟨(some 20), .un .neg (.t 19), none, none, []⟩, ⟨(some 21), .conv .u64 (.t 20), none, none, []⟩, ⟨(some 22), .call 67 [(.t 18), (.t 21)], none, none, []⟩, ⟨none, .store 2 (.t 4) (.t 22), none, none, []⟩, ⟨(some 5), .mv (.v (.int .i64 0)), none, none, []⟩])
  .ret) (.seq (.reg [⟨(some 24), .mv (.t 1), none, none, []⟩, ⟨(some 25), .load (some 2) (.t 2), none, none, []⟩, ⟨(some 26), .call 68 [(.t 25)], none, none, []⟩, ⟨(some 27), .bin .sub (.v (.int .i64 128)) (.t 26), none, none, []⟩, ⟨(some 28), .bin .gtr (.t 24) (.t 27), none, none, []⟩, ⟨(some 23), .mv (.t 28), none, none, []⟩])
  (.cond (.t 23) (.seq (.reg [⟨(some 29), .build [(.int .u64 0), (.int .u64 0)] [], none, none, []⟩, ⟨none, .store 2 (.t 4) (.t 29), none, none, []⟩, ⟨(some 5), .mv (.v (.int .i64 2)), none, none, []⟩])
  .ret) .skip)))))))
  (.seq (.reg [⟨(some 30), .load (some 2) (.t 2), none, none, []⟩, ⟨(some 31), .mv (.t 1), none, none, []⟩, ⟨(some 32), .conv .u64 (.t 31), none, none, []⟩, ⟨(some 33), .call 69 [(.t 30), (.t 32)], none, none, []⟩, ⟨none, .store 2 (.t 4) (.t 33), none, none, []⟩, ⟨(some 5), .mv (.v (.int .i64 0)), none, none, []⟩])
  .ret)))⟩
/-- pochoir/wide.Sub -/
def s49 : SFn :=
 ⟨32, [.cell 4 (some 2), .tmp 5],
  (.seq (.reg [⟨(some 2), .box 47 (.t 0), none, none, []⟩, ⟨(some 3), .box 47 (.t 1), none, none, []⟩, ⟨(some 4), .box 47 (.v (.agg [(.int .u64 0), (.int .u64 0)])), none, none, []⟩, ⟨(some 5), .mv (.v (.int .i64 0)), none, none, []⟩])
  (.seq (.reg [⟨(some 10), .faddr 1 (.t 2), none, none, []⟩, ⟨(some 11), .load none (.t 10), none, none, []⟩, ⟨(some 12), .faddr 1 (.t 3), none, none, []⟩, ⟨(some 13), .load none (.t 12), none, none, []⟩, ⟨(some 14), .call 70 [(.t 11), (.t 13), (.v (.int .u64 0))], none, none, []⟩, ⟨(some 9), .mv (.t 14), none, none, []⟩, ⟨(some 15), .extract (.t 9) 0, none, none, []⟩, ⟨(some 16), .extract (.t 9) 1, none, none, []⟩, ⟨(some 6), .mv (.t 15), none, none, []⟩, ⟨(some 7), .mv (.t 16), none, none, []⟩])
  (.seq (.reg [⟨(some 18), .faddr 0 (.t 2), none, none, []⟩, ⟨(some 19), .load none (.t 18), none, none, []⟩, ⟨(some 20), .faddr 0 (.t 3), none, none, []⟩, ⟨(some 21), .load none (.t 20), none, none, []⟩, ⟨(some 22), .mv (.t 7), none, none, []⟩, ⟨(some 23), .call 70 [(.t 19), (.t 21), (.t 22)], none, none, []⟩, ⟨(some 17), .mv (.t 23), none, none, []⟩, ⟨(some 24), .extract (.t 17) 0, none, none, []⟩, ⟨(some 25), .extract (.t 17) 1, none, none, []⟩, ⟨(some 8), .mv (.t 24), none, none, []⟩, ⟨(some 7), .mv (.t 25), none, none, []⟩])
  (.seq (.seq (.reg [⟨(some 26), .mv (.t 7), none, none, []⟩, ⟨(some 27), .bin .neq (.t 26) (.v (.int .u64 0)), none, none, []⟩])
  (.cond (.t 27) (.seq (.reg [⟨(some 28), .build [(.int .u64 0), (.int .u64 0)] [], none, none, []⟩, ⟨none, .store 2 (.t 4) (.t 28), none, none, []⟩, ⟨(some 5), .mv (.v (.int .i64 2)), none, none, []⟩])
  .ret) .skip))
  (.seq (.reg [⟨(some 29), .mv (.t 8), none, none, []⟩, ⟨(some 30), .mv (.t 6), none, none, []⟩, ⟨(some 31), .build [(.int .u64 0), (.int .u64 0)] [(0, 1, (.t 29)), (1, 1, (.t 30))], none, none, []⟩, ⟨none, .store 2 (.t 4) (.t 31), none, none, []⟩, ⟨(some 5), .mv (.v (.int .i64 0)), none, none, []⟩])
  .ret)))))⟩
/-- cmp.Or[int] -/
def s50 : SFn :=
 ⟨18, [.tmp 2],
  (.seq (.reg [⟨(some 2), .mv (.v (.int .i64 0)), none, none, []⟩])
  (.seq (.reg [⟨(some 3), .mv (.v (.int .i64 0)), none, none, []⟩])
  (.seq (.seq (.reg [⟨(some 6), .mv (.t 0), none, none, []⟩, ⟨(some 7), .len false (.t 6), none, none, []⟩, ⟨(some 8), .mv (.v (.int .i64 0)), none, none, []⟩])
  (.block 0 (.loop (.seq (.reg [⟨(some 9), .bin .lss (.t 8) (.t 7), none, none, []⟩])
  (.seq (.cond (.t 9) .skip (.exit 0))
  (.seq (.block 1 (.seq (.reg [⟨(some 10), .iaddr 1 (.t 6) (.t 8), none, none, []⟩, ⟨(some 11), .load none (.t 10), none, none, []⟩, ⟨(some 5), .mv (.t 11), none, none, []⟩])
  (.seq (.reg [⟨(some 12), .mv (.t 5), none, none, []⟩, ⟨(some 13), .mv (.t 3), none, none, []⟩, ⟨(some 14), .bin .neq (.t 12) (.t 13), none, none, []⟩])
  (.cond (.t 14) (.seq (.reg [⟨(some 15), .mv (.t 5), none, none, []⟩, ⟨(some 2), .mv (.t 15), none, none, []⟩])
  .ret) .skip))))
  (.reg [⟨(some 16), .bin .add (.t 8) (.v (.int .i64 1)), none, none, []⟩, ⟨(some 8), .mv (.t 16), none, none, []⟩])))))))
  (.seq (.reg [⟨(some 17), .mv (.t 3), none, none, []⟩, ⟨(some 2), .mv (.t 17), none, none, []⟩])
  .ret))))⟩
/-- cmp.Compare[uint64] -/
def s51 : SFn :=
 ⟨20, [.tmp 4],
  (.seq (.reg [⟨(some 4), .mv (.v (.int .i64 0)), none, none, []⟩])
  (.seq (.reg [⟨(some 7), .mv (.t 0), none, none, []⟩, ⟨(some 8), .call 71 [(.t 7)], none, none, []⟩, ⟨(some 5), .mv (.t 8), none, none, []⟩])
  (.seq (.reg [⟨(some 9), .mv (.t 1), none, none, []⟩, ⟨(some 10), .call 71 [(.t 9)], none, none, []⟩, ⟨(some 6), .mv (.t 10), none, none, []⟩])
  (.seq (.seq (.reg [⟨(some 11), .mv (.t 5), none, none, []⟩])
  (.cond (.t 11) (.seq (.seq (.reg [⟨(some 12), .mv (.t 6), none, none, []⟩])
  (.cond (.t 12) (.seq (.reg [⟨(some 4), .mv (.v (.int .i64 0)), none, none, []⟩])
  .ret) .skip))
  (.seq (.reg [⟨(some 4), .mv (.v (.int .i64 (-1))), none, none, []⟩])
  .ret)) .skip))
  (.seq (.seq (.reg [⟨(some 13), .mv (.t 6), none, none, []⟩])
  (.cond (.t 13) (.seq (.reg [⟨(some 4), .mv (.v (.int .i64 1)), none, none, []⟩])
  .ret) .skip))
  (.seq (.seq (.reg [⟨(some 14), .mv (.t 0), none, none, []⟩, ⟨(some 15), .mv (.t 1), none, none, []⟩, ⟨(some 16), .bin .lss (.t 14) (.t 15), none, none, []⟩])
  (.cond (.t 16) (.seq (.reg [⟨(some 4), .mv (.v (.int .i64 (-1))), none, none, []⟩])
  .ret) .skip))
  (.seq (.seq (.reg [⟨(some 17), .mv (.t 0), none, none, []⟩, ⟨(some 18), .mv (.t 1), none, none, []⟩, ⟨(some 19), .bin .gtr (.t 17) (.t 18), none, none, []⟩])
  (.cond (.t 19) (.seq (.reg [⟨(some 4), .mv (.v (.int .i64 1)), none, none, []⟩])
  .ret) .skip))
  (.seq (.reg [⟨(some 4), .mv (.v (.int .i64 0)), none, none, []⟩])
  .ret))))))))⟩
/-- pochoir/pochoirref02.Sign -/
def s52 : SFn :=
 ⟨9, [.tmp 2],
  (.seq (.reg [⟨(some 1), .box 61 (.t 0), none, none, []⟩, ⟨(some 2), .mv (.v (.int .i64 0)), none, none, []⟩])
  (.seq (.seq (.reg [⟨(some 3), .faddr 1 (.t 1), none, none, []⟩, ⟨(some 4), .load none (.t 3), none, none, []⟩, ⟨(some 5), .len false (.t 4), none, none, []⟩, ⟨(some 6), .bin .eql (.t 5) (.v (.int .i64 0)), none, none, []⟩])
  (.cond (.t 6) (.seq (.reg [⟨(some 2), .mv (.v (.int .i64 0)), none, none, []⟩])
  .ret) .skip))
  (.seq (.seq (.reg [⟨(some 7), .faddr 0 (.t 1), none, none, []⟩, ⟨(some 8), .load none (.t 7), none, none, []⟩])
  (.cond (.t 8) (.seq (.reg [⟨(some 2), .mv (.v (.int .i64 (-1))), none, none, []⟩])
  .ret) .skip))
  (.seq (.reg [⟨(some 2), .mv (.v (.int .i64 1)), none, none, []⟩])
  .ret))))⟩
/-- pochoir/pochoirref02.Mul -/
def s53 : SFn :=
 ⟨72, [.cell 4 (some 2)],
  (.seq (.reg [⟨(some 2), .box 61 (.t 0), none, none, []⟩, ⟨(some 3), .box 61 (.t 1), none, none, []⟩, ⟨(some 4), .box 61 (.v (.agg [(.bool false), .nils])), none, none, []⟩])
  (.seq (.reg [⟨(some 10), .faddr 1 (.t 2), none, none, []⟩, ⟨(some 11), .load none (.t 10), none, none, []⟩, ⟨(some 12), .len false (.t 11), none, none, []⟩, ⟨(some 13), .faddr 1 (.t 3), none, none, []⟩, ⟨(some 14), .load none (.t 13), none, none, []⟩, ⟨(some 15), .len false (.t 14), none, none, []⟩, ⟨(some 16), .bin .add (.t 12) (.t 15), none, none, []⟩, ⟨(some 17), .bin .add (.t 16) (.v (.int .i64 1)), none, none, []⟩, ⟨(some 18), .mksl 45 [(.int .u64 0)] (.t 17) (.t 17), none, none, []⟩, ⟨(some 5), .mv (.t 18), none, none, []⟩])
  (.seq (.seq (.reg [⟨(some 6), .mv (.v (.int .i64 0)), none, none, []⟩])
  (.block 0 (.loop (.seq (.seq (.reg [⟨(some 19), .mv (.t 6), none, none, []⟩, ⟨(some 20), .faddr 1 (.t 2), none, none, []⟩, ⟨(some 21), .load none (.t 20), none, none, []⟩, ⟨(some 22), .len false (.t 21), none, none, []⟩, ⟨(some 23), .bin .lss (.t 19) (.t 22), none, none, []⟩])
  (.cond (.t 23) .skip (.exit 0)))
  (.seq (.block 1 (.seq (.reg [⟨(some 7), .mv (.v (.int .u64 0)), none, none, []⟩])
  (.seq (.reg [⟨(some 8), .mv (.v (.int .i64 0)), none, none, []⟩])
  (.block 2 (.loop (.seq (.seq (.reg [⟨(some 26), .mv (.t 8), none, none, []⟩, ⟨(some 27), .faddr 1 (.t 3), none, none, []⟩, ⟨(some 28), .load none (.t 27), none, none, []⟩, ⟨(some 29), .len false (.t 28), none, none, []⟩, ⟨(some 30), .bin .lss (.t 26) (.t 29), none, none, []⟩, ⟨(some 31), .mv (.t 30), none, none, []⟩, ⟨(some 32), .mv (.t 7), (some (31, false)), none, []⟩, ⟨(some 33), .bin .gtr (.t 32) (.v (.int .u64 0)), (some (31, false)), none, []⟩, ⟨(some 34), .pick (.t 31) (.v (.bool true)) (.t 33), none, none, []⟩])
  (.cond (.t 34) .skip (.exit 2)))
  (.seq (.block 3 (.seq (.regd [⟨(some 37), .mv (.t 5), none, (some []), []⟩, ⟨(some 38), .mv (.t 6), none, (some []), []⟩, ⟨(some 39), .mv (.t 8), none, (some []), []⟩, ⟨(some 40), .bin .add (.t 38) (.t 39), none, (some []), []⟩, ⟨(some 41), .iaddr 1 (.t 37) (.t 40), none, (some []), []⟩, ⟨(some 42), .load none (.t 41), none, (some []), []⟩, ⟨(some 43), .faddr 1 (.t 2), none, (some []), []⟩, ⟨(some 44), .load none (.t 43), none, (some []), []⟩, ⟨(some 45), .mv (.t 6), none, (some []), []⟩, ⟨(some 46), .iaddr 1 (.t 44) (.t 45), none, (some []), []⟩, ⟨(some 47), .load none (.t 46), none, (some []), []⟩, ⟨(some 48), .faddr 1 (.t 3), none, (some []), []⟩, ⟨(some 49), .load none (.t 48), none, (some []), []⟩, ⟨(some 50), .mv (.t 8), none, (some []), []⟩, ⟨(some 51), .call 72 [(.t 49), (.t 50)], none, none, [(none, (.t 41)), (none, (.t 43)), (none, (.t 46))]⟩, ⟨(some 52), .bin .mul (.t 47) (.t 51), none, (some []), []⟩, ⟨(some 53), .bin .add (.t 42) (.t 52), none, (some []), []⟩, ⟨(some 54), .mv (.t 7), none, (some [14]), []⟩, ⟨(some 55), .bin .add (.t 53) (.t 54), none, (some []), []⟩, ⟨(some 9), .mv (.t 55), none, (some []), []⟩])
  (.seq (.reg [⟨(some 56), .mv (.t 5), none, none, []⟩, ⟨(some 57), .mv (.t 6), none, none, []⟩, ⟨(some 58), .mv (.t 8), none, none, []⟩, ⟨(some 59), .bin .add (.t 57) (.t 58), none, none, []⟩, ⟨(some 60), .mv (.t 9), none, none, []⟩, ⟨(some 61), .bin .rem (.t 60) (.v (.int .u64 65536)), none, none, []⟩, ⟨(some 62), .iaddr 1 (.t 56) (.t 59), none, none, []⟩, ⟨none, .store 1 (.t 62) (.t 61), none, none, []⟩])
  (.reg [⟨(some 63), .mv (.t 9), none, none, []⟩, ⟨(some 64), .bin .quo (.t 63) (.v (.int .u64 65536)), none, none, []⟩, ⟨(some 7), .mv (.t 64), none, none, []⟩]))))
  (.reg [⟨(some 35), .mv (.t 8), none, none, []⟩, ⟨(some 36), .bin .add (.t 35) (.v (.int .i64 1)), none, none, []⟩, ⟨(some 8), .mv (.t 36), none, none, []⟩]))))))))
  (.reg [⟨(some 24), .mv (.t 6), none, none, []⟩, ⟨(some 25), .bin .add (.t 24) (.v (.int .i64 1)), none, none, []⟩, ⟨(some 6), .mv (.t 25), none, none, []⟩]))))))
  (.seq (.reg [⟨(some 65), .faddr 0 (.t 2), none, none, []⟩, ⟨(some 66), .load none (.t 65), none, none, []⟩, ⟨(some 67), .faddr 0 (.t 3), none, none, []⟩, ⟨(some 68), .load none (.t 67), none, none, []⟩, ⟨(some 69), .eqs 0 [] true (.t 66) (.t 68), none, none, []⟩, ⟨(some 70), .mv (.t 5), none, none, []⟩, ⟨(some 71), .call 55 [(.t 69), (.t 70)], none, none, []⟩, ⟨none, .store 2 (.t 4) (.t 71), none, none, []⟩])
  .ret))))⟩
/-- pochoir/pochoirref02.Neg -/
def s54 : SFn :=
 ⟨9, [.cell 2 (some 2)],
  (.seq (.reg [⟨(some 1), .box 61 (.t 0), none, none, []⟩, ⟨(some 2), .box 61 (.v (.agg [(.bool false), .nils])), none, none, []⟩])
  (.seq (.reg [⟨(some 3), .faddr 0 (.t 1), none, none, []⟩, ⟨(some 4), .load none (.t 3), none, none, []⟩, ⟨(some 5), .un .not (.t 4), none, none, []⟩, ⟨(some 6), .faddr 1 (.t 1), none, none, []⟩, ⟨(some 7), .load none (.t 6), none, none, []⟩, ⟨(some 8), .call 55 [(.t 5), (.t 7)], none, none, []⟩, ⟨none, .store 2 (.t 2) (.t 8), none, none, []⟩])
  .ret))⟩
/-- pochoir/pochoirref02.norm -/
def s55 : SFn :=
 ⟨15, [.cell 4 (some 2)],
  (.seq (.reg [⟨(some 4), .box 61 (.v (.agg [(.bool false), .nils])), none, none, []⟩])
  (.seq (.reg [⟨(some 5), .mv (.t 1), none, none, []⟩, ⟨(some 6), .call 73 [(.t 5)], none, none, []⟩, ⟨(some 1), .mv (.t 6), none, none, []⟩])
  (.seq (.reg [⟨(some 7), .mv (.t 0), none, none, []⟩, ⟨(some 8), .mv (.t 7), none, none, []⟩, ⟨(some 9), .mv (.t 1), (some (8, true)), none, []⟩, ⟨(some 10), .len false (.t 9), (some (8, true)), none, []⟩, ⟨(some 11), .bin .gtr (.t 10) (.v (.int .i64 0)), (some (8, true)), none, []⟩, ⟨(some 12), .pick (.t 8) (.t 11) (.v (.bool false)), none, none, []⟩, ⟨(some 13), .mv (.t 1), none, none, []⟩, ⟨(some 14), .build [(.bool false), .nils] [(0, 1, (.t 12)), (1, 1, (.t 13))], none, none, []⟩, ⟨none, .store 2 (.t 4) (.t 14), none, none, []⟩])
  .ret)))⟩
/-- pochoir/pochoirref02.plus -/
def s56 : SFn :=
 ⟨42, [.tmp 4],
  (.seq (.reg [⟨(some 4), .mv (.v .nils), none, none, []⟩])
  (.seq (.reg [⟨(some 5), .mv (.v .nils), none, none, []⟩])
  (.seq (.reg [⟨(some 6), .mv (.v (.int .u64 0)), none, none, []⟩])
  (.seq (.seq (.reg [⟨(some 7), .mv (.v (.int .i64 0)), none, none, []⟩])
  (.block 0 (.loop (.seq (.seq (.reg [⟨(some 9), .mv (.t 7), none, none, []⟩, ⟨(some 10), .mv (.t 0), none, none, []⟩, ⟨(some 11), .len false (.t 10), none, none, []⟩, ⟨(some 12), .bin .lss (.t 9) (.t 11), none, none, []⟩, ⟨(some 13), .mv (.t 12), none, none, []⟩, ⟨(some 14), .mv (.t 7), (some (13, false)), none, []⟩, ⟨(some 15), .mv (.t 1), (some (13, false)), none, []⟩, ⟨(some 16), .len false (.t 15), (some (13, false)), none, []⟩, ⟨(some 17), .bin .lss (.t 14) (.t 16), (some (13, false)), none, []⟩, ⟨(some 18), .pick (.t 13) (.v (.bool true)) (.t 17), none, none, []⟩, ⟨(some 19), .mv (.t 18), none, none, []⟩, ⟨(some 20), .mv (.t 6), (some (19, false)), none, []⟩, ⟨(some 21), .bin .gtr (.t 20) (.v (.int .u64 0)), (some (19, false)), none, []⟩, ⟨(some 22), .pick (.t 19) (.v (.bool true)) (.t 21), none, none, []⟩])
  (.cond (.t 22) .skip (.exit 0)))
  (.seq (.block 1 (.seq (.reg [⟨(some 25), .mv (.t 0), none, none, []⟩, ⟨(some 26), .mv (.t 7), none, none, []⟩, ⟨(some 27), .call 72 [(.t 25), (.t 26)], none, none, []⟩, ⟨(some 28), .mv (.t 1), none, none, []⟩, ⟨(some 29), .mv (.t 7), none, none, []⟩, ⟨(some 30), .call 72 [(.t 28), (.t 29)], none, none, []⟩, ⟨(some 31), .bin .add (.t 27) (.t 30), none, none, []⟩, ⟨(some 32), .mv (.t 6), none, none, []⟩, ⟨(some 33), .bin .add (.t 31) (.t 32), none, none, []⟩, ⟨(some 8), .mv (.t 33), none, none, []⟩])
  (.seq (.reg [⟨(some 34), .mv (.t 5), none, none, []⟩, ⟨(some 35), .mv (.t 8), none, none, []⟩, ⟨(some 36), .bin .rem (.t 35) (.v (.int .u64 65536)), none, none, []⟩, ⟨(some 37), .bsl 45 [(.int .u64 0)] 1 1 [(0, 1, (.t 36))], none, none, []⟩, ⟨(some 38), .app 45 1 (.t 34) (.t 37), none, none, []⟩, ⟨(some 5), .mv (.t 38), none, none, []⟩])
  (.reg [⟨(some 39), .mv (.t 8), none, none, []⟩, ⟨(some 40), .bin .quo (.t 39) (.v (.int .u64 65536)), none, none, []⟩, ⟨(some 6), .mv (.t 40), none, none, []⟩]))))
  (.reg [⟨(some 23), .mv (.t 7), none, none, []⟩, ⟨(some 24), .bin .add (.t 23) (.v (.int .i64 1)), none, none, []⟩, ⟨(some 7), .mv (.t 24), none, none, []⟩]))))))
  (.seq (.reg [⟨(some 41), .mv (.t 5), none, none, []⟩, ⟨(some 4), .mv (.t 41), none, none, []⟩])
  .ret)))))⟩
/-- pochoir/pochoirref02.less -/
def s57 : SFn :=
 ⟨41, [.tmp 4],
  (.seq (.reg [⟨(some 4), .mv (.v (.int .i64 0)), none, none, []⟩])
  (.seq (.seq (.reg [⟨(some 6), .mv (.t 0), none, none, []⟩, ⟨(some 7), .len false (.t 6), none, none, []⟩, ⟨(some 8), .mv (.t 1), none, none, []⟩, ⟨(some 9), .len false (.t 8), none, none, []⟩, ⟨(some 10), .bin .neq (.t 7) (.t 9), none, none, []⟩])
  (.cond (.t 10) (.seq (.seq (.reg [⟨(some 11), .mv (.t 0), none, none, []⟩, ⟨(some 12), .len false (.t 11), none, none, []⟩, ⟨(some 13), .mv (.t 1), none, none, []⟩, ⟨(some 14), .len false (.t 13), none, none, []⟩, ⟨(some 15), .bin .lss (.t 12) (.t 14), none, none, []⟩])
  (.cond (.t 15) (.seq (.reg [⟨(some 4), .mv (.v (.int .i64 (-1))), none, none, []⟩])
  .ret) .skip))
  (.seq (.reg [⟨(some 4), .mv (.v (.int .i64 1)), none, none, []⟩])
  .ret)) .skip))
  (.seq (.seq (.reg [⟨(some 16), .mv (.t 0), none, none, []⟩, ⟨(some 17), .len false (.t 16), none, none, []⟩, ⟨(some 18), .bin .sub (.t 17) (.v (.int .i64 1)), none, none, []⟩, ⟨(some 5), .mv (.t 18), none, none, []⟩])
  (.block 0 (.loop (.seq (.seq (.reg [⟨(some 19), .mv (.t 5), none, none, []⟩, ⟨(some 20), .bin .geq (.t 19) (.v (.int .i64 0)), none, none, []⟩])
  (.cond (.t 20) .skip (.exit 0)))
  (.seq (.block 1 (.seq (.seq (.regd [⟨(some 23), .mv (.t 0), none, (some []), []⟩, ⟨(some 24), .mv (.t 5), none, (some []), []⟩, ⟨(some 25), .iaddr 1 (.t 23) (.t 24), none, (some []), []⟩, ⟨(some 26), .load none (.t 25), none, (some []), []⟩, ⟨(some 27), .mv (.t 1), none, (some []), []⟩, ⟨(some 28), .mv (.t 5), none, (some []), []⟩, ⟨(some 29), .iaddr 1 (.t 27) (.t 28), none, (some []), []⟩, ⟨(some 30), .load none (.t 29), none, (some []), []⟩, ⟨(some 31), .bin .lss (.t 26) (.t 30), none, (some []), []⟩])
  (.cond (.t 31) (.seq (.reg [⟨(some 4), .mv (.v (.int .i64 (-1))), none, none, []⟩])
  .ret) .skip))
  (.seq (.regd [⟨(some 32), .mv (.t 0), none, (some []), []⟩, ⟨(some 33), .mv (.t 5), none, (some []), []⟩, ⟨(some 34), .iaddr 1 (.t 32) (.t 33), none, (some []), []⟩, ⟨(some 35), .load none (.t 34), none, (some []), []⟩, ⟨(some 36), .mv (.t 1), none, (some []), []⟩, ⟨(some 37), .mv (.t 5), none, (some []), []⟩, ⟨(some 38), .iaddr 1 (.t 36) (.t 37), none, (some []), []⟩, ⟨(some 39), .load none (.t 38), none, (some []), []⟩, ⟨(some 40), .bin .gtr (.t 35) (.t 39), none, (some []), []⟩])
  (.cond (.t 40) (.seq (.reg [⟨(some 4), .mv (.v (.int .i64 1)), none, none, []⟩])
  .ret) .skip))))
  (.reg [⟨(some 21), .mv (.t 5), none, none, []⟩, ⟨(some 22), .bin .sub (.t 21) (.v (.int .i64 1)), none, none, []⟩, ⟨(some 5), .mv (.t 22), none, none, []⟩]))))))
  (.seq (.reg [⟨(some 4), .mv (.v (.int .i64 0)), none, none, []⟩])
  .ret))))⟩
/-- pochoir/pochoirref02.minus -/
def s58 : SFn :=
 ⟨35, [.tmp 4],
  (.seq (.reg [⟨(some 4), .mv (.v .nils), none, none, []⟩])
  (.seq (.reg [⟨(some 5), .mv (.v .nils), none, none, []⟩])
  (.seq (.reg [⟨(some 6), .mv (.v (.int .u64 0)), none, none, []⟩])
  (.seq (.seq (.reg [⟨(some 7), .mv (.v (.int .i64 0)), none, none, []⟩])
  (.block 0 (.loop (.seq (.seq (.reg [⟨(some 9), .mv (.t 7), none, none, []⟩, ⟨(some 10), .mv (.t 0), none, none, []⟩, ⟨(some 11), .len false (.t 10), none, none, []⟩, ⟨(some 12), .bin .lss (.t 9) (.t 11), none, none, []⟩])
  (.cond (.t 12) .skip (.exit 0)))
  (.seq (.block 1 (.seq (.regd [⟨(some 15), .mv (.t 0), none, (some []), []⟩, ⟨(some 16), .mv (.t 7), none, (some []), []⟩, ⟨(some 17), .iaddr 1 (.t 15) (.t 16), none, (some []), []⟩, ⟨(some 18), .load none (.t 17), none, (some []), []⟩, ⟨(some 19), .bin .add (.v (.int .u64 65536)) (.t 18), none, (some []), []⟩, ⟨(some 20), .mv (.t 1), none, (some []), []⟩, ⟨(some 21), .mv (.t 7), none, (some []), []⟩, ⟨(some 22), .call 72 [(.t 20), (.t 21)], none, none, [(none, (.t 17))]⟩, ⟨(some 23), .bin .sub (.t 19) (.t 22), none, (some []), []⟩, ⟨(some 24), .mv (.t 6), none, (some [7]), []⟩, ⟨(some 25), .bin .sub (.t 23) (.t 24), none, (some []), []⟩, ⟨(some 8), .mv (.t 25), none, (some []), []⟩])
  (.seq (.reg [⟨(some 26), .mv (.t 5), none, none, []⟩, ⟨(some 27), .mv (.t 8), none, none, []⟩, ⟨(some 28), .bin .rem (.t 27) (.v (.int .u64 65536)), none, none, []⟩, ⟨(some 29), .bsl 45 [(.int .u64 0)] 1 1 [(0, 1, (.t 28))], none, none, []⟩, ⟨(some 30), .app 45 1 (.t 26) (.t 29), none, none, []⟩, ⟨(some 5), .mv (.t 30), none, none, []⟩])
  (.reg [⟨(some 31), .mv (.t 8), none, none, []⟩, ⟨(some 32), .bin .quo (.t 31) (.v (.int .u64 65536)), none, none, []⟩, ⟨(some 33), .bin .sub (.v (.int .u64 1)) (.t 32), none, none, []⟩, ⟨(some 6), .mv (.t 33), none, none, []⟩]))))
  (.reg [⟨(some 13), .mv (.t 7), none, none, []⟩, ⟨(some 14), .bin .add (.t 13) (.v (.int .i64 1)), none, none, []⟩, ⟨(some 7), .mv (.t 14), none, none, []⟩]))))))
  (.seq (.reg [⟨(some 34), .mv (.t 5), none, none, []⟩, ⟨(some 4), .mv (.t 34), none, none, []⟩])
  .ret)))))⟩
/-- pochoir/wide.Add -/
def s59 : SFn :=
 ⟨32, [.cell 4 (some 2), .tmp 5],
  (.seq (.reg [⟨(some 2), .box 47 (.t 0), none, none, []⟩, ⟨(some 3), .box 47 (.t 1), none, none, []⟩, ⟨(some 4), .box 47 (.v (.agg [(.int .u64 0), (.int .u64 0)])), none, none, []⟩, ⟨(some 5), .mv (.v (.int .i64 0)), none, none, []⟩])
  (.seq (.reg [⟨(some 10), .faddr 1 (.t 2), none, none, []⟩, ⟨(some 11), .load none (.t 10), none, none, []⟩, ⟨(some 12), .faddr 1 (.t 3), none, none, []⟩, ⟨(some 13), .load none (.t 12), none, none, []⟩, ⟨(some 14), .call 74 [(.t 11), (.t 13), (.v (.int .u64 0))], none, none, []⟩, ⟨(some 9), .mv (.t 14), none, none, []⟩, ⟨(some 15), .extract (.t 9) 0, none, none, []⟩, ⟨(some 16), .extract (.t 9) 1, none, none, []⟩, ⟨(some 6), .mv (.t 15), none, none, []⟩, ⟨(some 7), .mv (.t 16), none, none, []⟩])
  (.seq (.reg [⟨(some 18), .faddr 0 (.t 2), none, none, []⟩, ⟨(some 19), .load none (.t 18), none, none, []⟩, ⟨(some 20), .faddr 0 (.t 3), none, none, []⟩, ⟨(some 21), .load none (.t 20), none, none, []⟩, ⟨(some 22), .mv (.t 7), none, none, []⟩, ⟨(some 23), .call 74 [(.t 19), (.t 21), (.t 22)], none, none, []⟩, ⟨(some 17), .mv (.t 23), none, none, []⟩, ⟨(some 24), .extract (.t 17) 0, none, none, []⟩, ⟨(some 25), .extract (.t 17) 1, none, none, []⟩, ⟨(some 8), .mv (.t 24), none, none, []⟩, ⟨(some 7), .mv (.t 25), none, none, []⟩])
  (.seq (.seq (.reg [⟨(some 26), .mv (.t 7), none, none, []⟩, ⟨(some 27), .bin .neq (.t 26) (.v (.int .u64 0)), none, none, []⟩])
  (.cond (.t 27) (.seq (.reg [⟨(some 28), .build [(.int .u64 0), (.int .u64 0)] [], none, none, []⟩, ⟨none, .store 2 (.t 4) (.t 28), none, none, []⟩, ⟨(some 5), .mv (.v (.int .i64 2)), none, none, []⟩])
  .ret) .skip))
  (.seq (.reg [⟨(some 29), .mv (.t 8), none, none, []⟩, ⟨(some 30), .mv (.t 6), none, none, []⟩, ⟨(some 31), .build [(.int .u64 0), (.int .u64 0)] [(0, 1, (.t 29)), (1, 1, (.t 30))], none, none, []⟩, ⟨none, .store 2 (.t 4) (.t 31), none, none, []⟩, ⟨(some 5), .mv (.v (.int .i64 0)), none, none, []⟩])
  .ret)))))⟩
/-- pochoir/pochoirref03.abs -/
def s60 : SFn :=
 ⟨6, [.cell 2 (some 2)],
  (.seq (.reg [⟨(some 1), .box 61 (.t 0), none, none, []⟩, ⟨(some 2), .box 61 (.v (.agg [(.bool false), .nils])), none, none, []⟩])
  (.seq (.reg [⟨(some 3), .faddr 1 (.t 1), none, none, []⟩, ⟨(some 4), .load none (.t 3), none, none, []⟩, ⟨(some 5), .build [(.bool false), .nils] [(1, 1, (.t 4))], none, none, []⟩, ⟨none, .store 2 (.t 2) (.t 5), none, none, []⟩])
  .ret))⟩
/-- pochoir/pochoirref03.divide -/
def s61 : SFn :=
 ⟨52, [.cell 4 (some 2), .cell 5 (some 2)],
  (.seq (.reg [⟨(some 2), .box 61 (.t 0), none, none, []⟩, ⟨(some 3), .box 61 (.t 1), none, none, []⟩, ⟨(some 4), .box 61 (.v (.agg [(.bool false), .nils])), none, none, []⟩, ⟨(some 5), .box 61 (.v (.agg [(.bool false), .nils])), none, none, []⟩])
  (.seq (.reg [⟨(some 9), .build [(.bool false), .nils] [], none, none, []⟩, ⟨(some 6), .box 61 (.v (.agg [(.bool false), .nils])), none, none, []⟩, ⟨none, .store 2 (.t 6) (.t 9), none, none, []⟩])
  (.seq (.reg [⟨(some 10), .build [(.bool false), .nils] [], none, none, []⟩, ⟨(some 7), .box 61 (.v (.agg [(.bool false), .nils])), none, none, []⟩, ⟨none, .store 2 (.t 7) (.t 10), none, none, []⟩])
  (.seq (.seq (.reg [⟨(some 11), .faddr 1 (.t 2), none, none, []⟩, ⟨(some 12), .load none (.t 11), none, none, []⟩, ⟨(some 13), .len false (.t 12), none, none, []⟩, ⟨(some 14), .bin .mul (.v (.int .i64 16)) (.t 13), none, none, []⟩, ⟨(some 15), .bin .sub (.t 14) (.v (.int .i64 1)), none, none, []⟩, ⟨(some 8), .mv (.t 15), none, none, []⟩])
  (.block 0 (.loop (.seq (.seq (.reg [⟨(some 16), .mv (.t 8), none, none, []⟩, ⟨(some 17), .bin .geq (.t 16) (.v (.int .i64 0)), none, none, []⟩])
  (.cond (.t 17) .skip (.exit 0)))
  (.seq (.block 1 (.seq (.reg [⟨(some 20), .load (some 2) (.t 6), none, none, []⟩, ⟨(some 21), .load (some 2) (.t 6), none, none, []⟩, ⟨(some 22), .call 40 [(.t 20), (.t 21)], none, none, []⟩, ⟨none, .store 2 (.t 6) (.t 22), none, none, []⟩])
  (.seq (.reg [⟨(some 23), .load (some 2) (.t 7), none, none, []⟩, ⟨(some 24), .load (some 2) (.t 7), none, none, []⟩, ⟨(some 25), .call 40 [(.t 23), (.t 24)], none, none, []⟩, ⟨none, .store 2 (.t 7) (.t 25), none, none, []⟩])
  (.seq (.seq (.reg [⟨(some 26), .faddr 1 (.t 2), none, none, []⟩, ⟨(some 27), .load none (.t 26), none, none, []⟩, ⟨(some 28), .mv (.t 8), none, none, []⟩, ⟨(some 29), .bin .quo (.t 28) (.v (.int .i64 16)), none, none, []⟩, ⟨(some 30), .iaddr 1 (.t 27) (.t 29), none, none, []⟩, ⟨(some 31), .load none (.t 30), none, none, []⟩, ⟨(some 32), .mv (.t 8), none, none, []⟩, ⟨(some 33), .bin .rem (.t 32) (.v (.int .i64 16)), none, none, []⟩, ⟨(some 34), .bin .shr (.t 31) (.t 33), none, none, []⟩, ⟨(some 35), .bin .rem (.t 34) (.v (.int .u64 2)), none, none, []⟩, ⟨(some 36), .bin .eql (.t 35) (.v (.int .u64 1)), none, none, []⟩])
  (.cond (.t 36) (.regd [⟨(some 37), .load (some 2) (.t 7), none, (some []), []⟩, ⟨(some 38), .call 39 [(.v (.int .i64 1))], none, none, [(none, (.t 7))]⟩, ⟨(some 39), .call 40 [(.t 37), (.t 38)], none, none, []⟩, ⟨none, .store 2 (.t 7) (.t 39), none, none, []⟩]) .skip))
  (.seq (.reg [⟨(some 40), .load (some 2) (.t 7), none, none, []⟩, ⟨(some 41), .load (some 2) (.t 3), none, none, []⟩, ⟨(some 42), .call 36 [(.t 40), (.t 41)], none, none, []⟩, ⟨(some 43), .bin .geq (.t 42) (.v (.int .i64 0)), none, none, []⟩])
  (.cond (.t 43) (.seq (.reg [⟨(some 44), .load (some 2) (.t 7), none, none, []⟩, ⟨(some 45), .load (some 2) (.t 3), none, none, []⟩, ⟨(some 46), .call 38 [(.t 44), (.t 45)], none, none, []⟩, ⟨none, .store 2 (.t 7) (.t 46), none, none, []⟩])
  (.regd [⟨(some 47), .load (some 2) (.t 6), none, (some []), []⟩, ⟨(some 48), .call 39 [(.v (.int .i64 1))], none, none, [(none, (.t 6))]⟩, ⟨(some 49), .call 40 [(.t 47), (.t 48)], none, none, []⟩, ⟨none, .store 2 (.t 6) (.t 49), none, none, []⟩])) .skip))))))
  (.reg [⟨(some 18), .mv (.t 8), none, none, []⟩, ⟨(some 19), .bin .sub (.t 18) (.v (.int .i64 1)), none, none, []⟩, ⟨(some 8), .mv (.t 19), none, none, []⟩]))))))
  (.seq (.regd [⟨(some 50), .load (some 2) (.t 6), none, (some []), []⟩, ⟨(some 51), .load (some 2) (.t 7), none, (some []), []⟩, ⟨none, .store 2 (.t 4) (.t 50), none, none, [(none, (.t 7))]⟩, ⟨none, .store 2 (.t 5) (.t 51), none, none, []⟩])
  .ret)))))⟩
/-- pochoir/pochoirref03.small -/
def s62 : SFn :=
 ⟨32, [.tmp 2, .tmp 3],
  (.seq (.reg [⟨(some 1), .box 61 (.t 0), none, none, []⟩, ⟨(some 2), .mv (.v (.int .i64 0)), none, none, []⟩, ⟨(some 3), .mv (.v (.bool false)), none, none, []⟩])
  (.seq (.seq (.reg [⟨(some 6), .faddr 1 (.t 1), none, none, []⟩, ⟨(some 7), .load none (.t 6), none, none, []⟩, ⟨(some 8), .len false (.t 7), none, none, []⟩, ⟨(some 9), .bin .gtr (.t 8) (.v (.int .i64 4)), none, none, []⟩])
  (.cond (.t 9) (.seq (.reg [⟨(some 2), .mv (.v (.int .i64 0)), none, none, []⟩, ⟨(some 3), .mv (.v (.bool false)), none, none, []⟩])
  .ret) .skip))
  (.seq (.reg [⟨(some 4), .mv (.v (.int .u64 0)), none, none, []⟩])
  (.seq (.seq (.reg [⟨(some 10), .faddr 1 (.t 1), none, none, []⟩, ⟨(some 11), .load none (.t 10), none, none, []⟩, ⟨(some 12), .len false (.t 11), none, none, []⟩, ⟨(some 13), .bin .sub (.t 12) (.v (.int .i64 1)), none, none, []⟩, ⟨(some 5), .mv (.t 13), none, none, []⟩])
  (.block 0 (.loop (.seq (.seq (.reg [⟨(some 14), .mv (.t 5), none, none, []⟩, ⟨(some 15), .bin .geq (.t 14) (.v (.int .i64 0)), none, none, []⟩])
  (.cond (.t 15) .skip (.exit 0)))
  (.seq (.block 1 (.reg [⟨(some 18), .mv (.t 4), none, none, []⟩, ⟨(some 19), .bin .mul (.t 18) (.v (.int .u64 65536)), none, none, []⟩, ⟨(some 20), .faddr 1 (.t 1), none, none, []⟩, ⟨(some 21), .load none (.t 20), none, none, []⟩, ⟨(some 22), .mv (.t 5), none, none, []⟩, ⟨(some 23), .iaddr 1 (.t 21) (.t 22), none, none, []⟩, ⟨(some 24), .load none (.t 23), none, none, []⟩, ⟨(some 25), .bin .add (.t 19) (.t 24), none, none, []⟩, ⟨(some 4), .mv (.t 25), none, none, []⟩]))
  (.reg [⟨(some 16), .mv (.t 5), none, none, []⟩, ⟨(some 17), .bin .sub (.t 16) (.v (.int .i64 1)), none, none, []⟩, ⟨(some 5), .mv (.t 17), none, none, []⟩]))))))
  (.seq (.reg [⟨(some 26), .faddr 0 (.t 1), none, none, []⟩, ⟨(some 27), .load none (.t 26), none, none, []⟩, ⟨(some 28), .mv (.t 4), none, none, []⟩, ⟨(some 29), .call 30 [(.t 27), (.t 28)], none, none, []⟩, ⟨(some 30), .extract (.t 29) 0, none, none, []⟩, ⟨(some 31), .extract (.t 29) 1, none, none, []⟩, ⟨(some 2), .mv (.t 30), none, none, []⟩, ⟨(some 3), .mv (.t 31), none, none, []⟩])
  .ret)))))⟩
/-- internal/strconv.FormatInt -/
def s63 : SFn :=
 ⟨54, [.tmp 4],
  (.seq (.reg [⟨(some 4), .mv (.v (.str ⟨#[]⟩)), none, none, []⟩])
  (.seq (.seq (.reg [⟨(some 10), .mv (.t 1), none, none, []⟩, ⟨(some 11), .bin .eql (.t 10) (.v (.int .i64 10)), none, none, []⟩])
  (.cond (.t 11) (.seq (.seq (.reg [⟨(some 12), .mv (.t 0), none, none, []⟩, ⟨(some 13), .bin .leq (.v (.int .i64 0)) (.t 12), none, none, []⟩, ⟨(some 14), .mv (.t 13), none, none, []⟩, ⟨(some 15), .mv (.t 0), (some (14, true)), none, []⟩, ⟨(some 16), .bin .lss (.t 15) (.v (.int .i64 100)), (some (14, true)), none, []⟩, ⟨(some 17), .pick (.t 14) (.t 16) (.v (.bool false)), none, none, []⟩])
  (.cond (.t 17) (.seq (.reg [⟨(some 18), .mv (.t 0), none, none, []⟩, ⟨(some 19), .call 75 [(.t 18)], none, none, []⟩, ⟨(some 4), .mv (.t 19), none, none, []⟩])
  .ret) .skip))
  (.seq (.reg [⟨(some 5), .box 97 (.v (.agg [(.int .u8 0), (.int .u8 0), (.int .u8 0), (.int .u8 0), (.int .u8 0), (.int .u8 0), (.int .u8 0), (.int .u8 0), (.int .u8 0), (.int .u8 0), (.int .u8 0), (.int .u8 0), (.int .u8 0), (.int .u8 0), (.int .u8 0), (.int .u8 0), (.int .u8 0), (.int .u8 0), (.int .u8 0), (.int .u8 0), (.int .u8 0), (.int .u8 0), (.int .u8 0), (.int .u8 0)])), none, none, []⟩])
  (.seq (.reg [⟨(some 20), .mv (.t 0), none, none, []⟩, ⟨(some 21), .conv .u64 (.t 20), none, none, []⟩, ⟨(some 6), .mv (.t 21), none, none, []⟩])
  (.seq (.seq (.reg [⟨(some 22), .mv (.t 0), none, none, []⟩, ⟨(some 23), .bin .lss (.t 22) (.v (.int .i64 0)), none, none, []⟩])
  (.cond (.t 23) (.reg [⟨(some 24), .mv (.t 6), none, none, []⟩, ⟨(some 25), .un .neg (.t 24), none, none, []⟩, ⟨(some 6), .mv (.t 25), none, none, []⟩]) .skip))
  (.seq (.reg [⟨(some 26), .mv (.t 6), none, none, []⟩, ⟨(some 27), .call 76 [(.t 26)], none, none, []⟩, ⟨(some 7), .mv (.t 27), none, none, []⟩])
  (.seq (.reg [⟨(some 28), .mv (.t 7), none, none, []⟩, ⟨(some 29), .bin .add (.v (.int .i64 1)) (.t 28), none, none, []⟩, ⟨(some 30), .slarr 24 1 (.t 5) (some (.v (.int .i64 1))) (some (.t 29)) none, none, none, []⟩, ⟨(some 31), .mv (.t 6), none, none, []⟩, ⟨(some 32), .call 77 [(.t 30), (.t 31)], none, none, []⟩])
  (.seq (.seq (.reg [⟨(some 33), .mv (.t 0), none, none, []⟩, ⟨(some 34), .bin .lss (.t 33) (.v (.int .i64 0)), none, none, []⟩])
  (.cond (.t 34) (.seq (.reg [⟨(some 35), .iarr 24 1 (.t 5) (.v (.int .i64 0)), none, none, []⟩, ⟨none, .store 1 (.t 35) (.v (.int .u8 45)), none, none, []⟩])
  (.seq (.reg [⟨(some 36), .mv (.t 7), none, none, []⟩, ⟨(some 37), .bin .add (.v (.int .i64 1)) (.t 36), none, none, []⟩, ⟨(some 38), .slarr 24 1 (.t 5) none (some (.t 37)) none, none, none, []⟩, ⟨(some 39), .b2s (.t 38), none, none, []⟩, ⟨(some 4), .mv (.t 39), none, none, []⟩])
  .ret)) .skip))
  (.seq (.reg [⟨(some 40), .mv (.t 7), none, none, []⟩, ⟨(some 41), .bin .add (.v (.int .i64 1)) (.t 40), none, none, []⟩, ⟨(some 42), .slarr 24 1 (.t 5) (some (.v (.int .i64 1))) (some (.t 41)) none, none, none, []⟩, ⟨(some 43), .b2s (.t 42), none, none, []⟩, ⟨(some 4), .mv (.t 43), none, none, []⟩])
  .ret)))))))) .skip))
  (.seq (.reg [⟨(some 45), .mv (.t 0), none, none, []⟩, ⟨(some 46), .conv .u64 (.t 45), none, none, []⟩, ⟨(some 47), .mv (.t 1), none, none, []⟩, ⟨(some 48), .mv (.t 0), none, none, []⟩, ⟨(some 49), .bin .lss (.t 48) (.v (.int .i64 0)), none, none, []⟩, ⟨(some 50), .call 78 [(.v .nils), (.t 46), (.t 47), (.t 49), (.v (.bool false))], none, none, []⟩, ⟨(some 44), .mv (.t 50), none, none, []⟩, ⟨(some 51), .extract (.t 44) 0, none, none, []⟩, ⟨(some 52), .extract (.t 44) 1, none, none, []⟩, ⟨(some 8), .mv (.t 51), none, none, []⟩, ⟨(some 9), .mv (.t 52), none, none, []⟩])
  (.seq (.reg [⟨(some 53), .mv (.t 9), none, none, []⟩, ⟨(some 4), .mv (.t 53), none, none, []⟩])
  .ret))))⟩
/-- pochoir/wide.Div -/
def s64 : SFn :=
 ⟨33, [.cell 4 (some 2), .tmp 5, .tmp 6],
  (.seq (.reg [⟨(some 2), .box 47 (.t 0), none, none, []⟩, ⟨(some 4), .box 47 (.v (.agg [(.int .u64 0), (.int .u64 0)])), none, none, []⟩, ⟨(some 5), .mv (.v (.int .u64 0)), none, none, []⟩, ⟨(some 6), .mv (.v (.int .i64 0)), none, none, []⟩])
  (.seq (.seq (.reg [⟨(some 10), .mv (.t 1), none, none, []⟩, ⟨(some 11), .bin .eql (.t 10) (.v (.int .u64 0)), none, none, []⟩])
  (.cond (.t 11) (.seq (.reg [⟨(some 12), .build [(.int .u64 0), (.int .u64 0)] [], none, none, []⟩, ⟨none, .store 2 (.t 4) (.t 12), none, none, []⟩, ⟨(some 5), .mv (.v (.int .u64 0)), none, none, []⟩, ⟨(some 6), .mv (.v (.int .i64 13)), none, none, []⟩])
  .ret) .skip))
  (.seq (.regd [⟨(some 13), .faddr 0 (.t 2), none, (some []), []⟩, ⟨(some 14), .load none (.t 13), none, (some []), []⟩, ⟨(some 15), .mv (.t 1), none, (some []), []⟩, ⟨(some 16), .bin .quo (.t 14) (.t 15), none, (some []), []⟩, ⟨(some 17), .faddr 0 (.t 2), none, (some []), []⟩, ⟨(some 18), .load none (.t 17), none, (some []), []⟩, ⟨(some 19), .mv (.t 1), none, (some []), []⟩, ⟨(some 20), .bin .rem (.t 18) (.t 19), none, (some []), []⟩, ⟨(some 7), .mv (.t 16), none, (some []), []⟩, ⟨(some 8), .mv (.t 20), none, (some []), []⟩])
  (.seq (.reg [⟨(some 22), .mv (.t 8), none, none, []⟩, ⟨(some 23), .faddr 1 (.t 2), none, none, []⟩, ⟨(some 24), .load none (.t 23), none, none, []⟩, ⟨(some 25), .mv (.t 1), none, none, []⟩, ⟨(some 26), .call 79 [(.t 22), (.t 24), (.t 25)], none, none, []⟩, ⟨(some 21), .mv (.t 26), none, none, []⟩, ⟨(some 27), .extract (.t 21) 0, none, none, []⟩, ⟨(some 28), .extract (.t 21) 1, none, none, []⟩, ⟨(some 9), .mv (.t 27), none, none, []⟩, ⟨(some 8), .mv (.t 28), none, none, []⟩])
  (.seq (.reg [⟨(some 29), .mv (.t 7), none, none, []⟩, ⟨(some 30), .mv (.t 9), none, none, []⟩, ⟨(some 31), .build [(.int .u64 0), (.int .u64 0)] [(0, 1, (.t 29)), (1, 1, (.t 30))], none, none, []⟩, ⟨(some 32), .mv (.t 8), none, none, []⟩, ⟨none, .store 2 (.t 4) (.t 31), none, none, []⟩, ⟨(some 5), .mv (.t 32), none, none, []⟩, ⟨(some 6), .mv (.v (.int .i64 0)), none, none, []⟩])
  .ret)))))⟩
/-- math/bits.Mul64 -/
def s65 : SFn :=
 ⟨51, [.tmp 4, .tmp 5],
  (.seq (.reg [⟨(some 4), .mv (.v (.int .u64 0)), none, none, []⟩, ⟨(some 5), .mv (.v (.int .u64 0)), none, none, []⟩])
  (.seq (.reg [⟨(some 14), .mv (.t 0), none, none, []⟩, ⟨(some 15), .bin .and (.t 14) (.v (.int .u64 4294967295)), none, none, []⟩, ⟨(some 6), .mv (.t 15), none, none, []⟩])
  (.seq (.reg [⟨(some 16), .mv (.t 0), none, none, []⟩, ⟨(some 17), .bin .shr (.t 16) (.v (.int .u64 32)), none, none, []⟩, ⟨(some 7), .mv (.t 17), none, none, []⟩])
  (.seq (.reg [⟨(some 18), .mv (.t 1), none, none, []⟩, ⟨(some 19), .bin .and (.t 18) (.v (.int .u64 4294967295)), none, none, []⟩, ⟨(some 8), .mv (.t 19), none, none, []⟩])
  (.seq (.reg [⟨(some 20), .mv (.t 1), none, none, []⟩, ⟨(some 21), .bin .shr (.t 20) (.v (.int .u64 32)), none, none, []⟩, ⟨(some 9), .mv (.t 21), none, none, []⟩])
  (.seq (.reg [⟨(some 22), .mv (.t 6), none, none, []⟩, ⟨(some 23), .mv (.t 8), none, none, []⟩, ⟨(some 24), .bin .mul (.t 22) (.t 23), none, none, []⟩, ⟨(some 10), .mv (.t 24), none, none, []⟩])
  (.seq (.reg [⟨(some 25), .mv (.t 7), none, none, []⟩, ⟨(some 26), .mv (.t 8), none, none, []⟩, ⟨(some 27), .bin .mul (.t 25) (.t 26), none, none, []⟩, ⟨(some 28), .mv (.t 10), none, none, []⟩, ⟨(some 29), .bin .shr (.t 28) (.v (.int .u64 32)), none, none, []⟩, ⟨(some 30), .bin .add (.t 27) (.t 29), none, none, []⟩, ⟨(some 11), .mv (.t 30), none, none, []⟩])
  (.seq (.reg [⟨(some 31), .mv (.t 11), none, none, []⟩, ⟨(some 32), .bin .and (.t 31) (.v (.int .u64 4294967295)), none, none, []⟩, ⟨(some 12), .mv (.t 32), none, none, []⟩])
  (.seq (.reg [⟨(some 33), .mv (.t 11), none, none, []⟩, ⟨(some 34), .bin .shr (.t 33) (.v (.int .u64 32)), none, none, []⟩, ⟨(some 13), .mv (.t 34), none, none, []⟩])
  (.seq (.reg [⟨(some 35), .mv (.t 12), none, none, []⟩, ⟨(some 36), .mv (.t 6), none, none, []⟩, ⟨(some 37), .mv (.t 9), none, none, []⟩, ⟨(some 38), .bin .mul (.t 36) (.t 37), none, none, []⟩, ⟨(some 39), .bin .add (.t 35) (.t 38), none, none, []⟩, ⟨(some 12), .mv (.t 39), none, none, []⟩])
  (.seq (.reg [⟨(some 40), .mv (.t 7), none, none, []⟩, ⟨(some 41), .mv (.t 9), none, none, []⟩, ⟨(some 42), .bin .mul (.t 40) (.t 41), none, none, []⟩, ⟨(some 43), .mv (.t 13), none, none, []⟩, ⟨(some 44), .bin .add (.t 42) (.t 43), none, none, []⟩, ⟨(some 45), .mv (.t 12), none, none, []⟩, ⟨(some 46), .bin .shr (.t 45) (.v (.int .u64 32)), none, none, []⟩, ⟨(some 47), .bin .add (.t 44) (.t 46), none, none, []⟩, ⟨(some 4), .mv (.t 47), none, none, []⟩])
  (.seq (.reg [⟨(some 48), .mv (.t 0), none, none, []⟩, ⟨(some 49), .mv (.t 1), none, none, []⟩, ⟨(some 50), .bin .mul (.t 48) (.t 49), none, none, []⟩, ⟨(some 5), .mv (.t 50), none, none, []⟩])
  .ret))))))))))))⟩
/-- math/bits.TrailingZeros64 -/
def s66 : SFn :=
 ⟨14, [.tmp 2],
  (.seq (.reg [⟨(some 2), .mv (.v (.int .i64 0)), none, none, []⟩])
  (.seq (.seq (.reg [⟨(some 3), .mv (.t 0), none, none, []⟩, ⟨(some 4), .bin .eql (.t 3) (.v (.int .u64 0)), none, none, []⟩])
  (.cond (.t 4) (.seq (.reg [⟨(some 2), .mv (.v (.int .i64 64)), none, none, []⟩])
  .ret) .skip))
  (.seq (.reg [⟨(some 5), .mv (.t 0), none, none, []⟩, ⟨(some 6), .mv (.t 0), none, none, []⟩, ⟨(some 7), .un .neg (.t 6), none, none, []⟩, ⟨(some 8), .bin .and (.t 5) (.t 7), none, none, []⟩, ⟨(some 9), .bin .mul (.t 8) (.v (.int .u64 285870213051353865)), none, none, []⟩, ⟨(some 10), .bin .shr (.t 9) (.v (.int .u64 58)), none, none, []⟩, ⟨(some 11), .iarr 64 1 (.v (.pv [(.int .u8 0), (.int .u8 1), (.int .u8 56), (.int .u8 2), (.int .u8 57), (.int .u8 49), (.int .u8 28), (.int .u8 3), (.int .u8 61), (.int .u8 58), (.int .u8 42), (.int .u8 50), (.int .u8 38), (.int .u8 29), (.int .u8 17), (.int .u8 4), (.int .u8 62), (.int .u8 47), (.int .u8 59), (.int .u8 36), (.int .u8 45), (.int .u8 43), (.int .u8 51), (.int .u8 22), (.int .u8 53), (.int .u8 39), (.int .u8 33), (.int .u8 30), (.int .u8 24), (.int .u8 18), (.int .u8 12), (.int .u8 5), (.int .u8 63), (.int .u8 55), (.int .u8 48), (.int .u8 27), (.int .u8 60), (.int .u8 41), (.int .u8 37), (.int .u8 16), (.int .u8 46), (.int .u8 35), (.int .u8 44), (.int .u8 21), (.int .u8 52), (.int .u8 32), (.int .u8 23), (.int .u8 11), (.int .u8 54), (.int .u8 26), (.int .u8 40), (.int .u8 15), (.int .u8 34), (.int .u8 20), (.int .u8 31), (.int .u8 10), (.int .u8 25), (.int .u8 14), (.int .u8 19), (.int .u8 9), (.int .u8 13), (.int .u8 8), (.int .u8 7), (.int .u8 6)])) (.t 10), none, none, []⟩, ⟨(some 12), .load none (.t 11), none, none, []⟩, ⟨(some 13), .conv .i64 (.t 12), none, none, []⟩, ⟨(some 2), .mv (.t 13), none, none, []⟩])
  .ret)))⟩
/-- pochoir/wide.right -/
def s67 : SFn :=
 ⟨28, [.cell 4 (some 2)],
  (.seq (.reg [⟨(some 2), .box 47 (.t 0), none, none, []⟩, ⟨(some 4), .box 47 (.v (.agg [(.int .u64 0), (.int .u64 0)])), none, none, []⟩])
  (.seq (.seq (.reg [⟨(some 5), .mv (.t 1), none, none, []⟩, ⟨(some 6), .bin .geq (.t 5) (.v (.int .u64 64)), none, none, []⟩])
  (.cond (.t 6) (.seq (.reg [⟨(some 7), .faddr 0 (.t 2), none, none, []⟩, ⟨(some 8), .load none (.t 7), none, none, []⟩, ⟨(some 9), .mv (.t 1), none, none, []⟩, ⟨(some 10), .bin .sub (.t 9) (.v (.int .u64 64)), none, none, []⟩, ⟨(some 11), .bin .shr (.t 8) (.t 10), none, none, []⟩, ⟨(some 12), .build [(.int .u64 0), (.int .u64 0)] [(1, 1, (.t 11))], none, none, []⟩, ⟨none, .store 2 (.t 4) (.t 12), none, none, []⟩])
  .ret) .skip))
  (.seq (.reg [⟨(some 13), .faddr 0 (.t 2), none, none, []⟩, ⟨(some 14), .load none (.t 13), none, none, []⟩, ⟨(some 15), .mv (.t 1), none, none, []⟩, ⟨(some 16), .bin .shr (.t 14) (.t 15), none, none, []⟩, ⟨(some 17), .faddr 1 (.t 2), none, none, []⟩, ⟨(some 18), .load none (.t 17), none, none, []⟩, ⟨(some 19), .mv (.t 1), none, none, []⟩, ⟨(some 20), .bin .shr (.t 18) (.t 19), none, none, []⟩, ⟨(some 21), .faddr 0 (.t 2), none, none, []⟩, ⟨(some 22), .load none (.t 21), none, none, []⟩, ⟨(some 23), .mv (.t 1), none, none, []⟩, ⟨(some 24), .bin .sub (.v (.int .u64 64)) (.t 23), none, none, []⟩, ⟨(some 25), .bin .shl (.t 22) (.t 24), none, none, []⟩, ⟨(some 26), .bin .or (.t 20) (.t 25), none, none, []⟩, ⟨(some 27), .build [(.int .u64 0), (.int .u64 0)] [(0, 1, (.t 16)), (1, 1, (.t 26))], none, none, []⟩, ⟨none, .store 2 (.t 4) (.t 27), none, none, []⟩])
  .ret)))⟩
/-- pochoir/wide.Bits -/
def s68 : SFn :=
 ⟨13, [.tmp 2],
  (.seq (.reg [⟨(some 1), .box 47 (.t 0), none, none, []⟩, ⟨(some 2), .mv (.v (.int .i64 0)), none, none, []⟩])
  (.seq (.seq (.reg [⟨(some 3), .faddr 0 (.t 1), none, none, []⟩, ⟨(some 4), .load none (.t 3), none, none, []⟩, ⟨(some 5), .bin .neq (.t 4) (.v (.int .u64 0)), none, none, []⟩])
  (.cond (.t 5) (.seq (.reg [⟨(some 6), .faddr 0 (.t 1), none, none, []⟩, ⟨(some 7), .load none (.t 6), none, none, []⟩, ⟨(some 8), .call 80 [(.t 7)], none, none, []⟩, ⟨(some 9), .bin .add (.v (.int .i64 64)) (.t 8), none, none, []⟩, ⟨(some 2), .mv (.t 9), none, none, []⟩])
  .ret) .skip))
  (.seq (.reg [⟨(some 10), .faddr 1 (.t 1), none, none, []⟩, ⟨(some 11), .load none (.t 10), none, none, []⟩, ⟨(some 12), .call 80 [(.t 11)], none, none, []⟩, ⟨(some 2), .mv (.t 12), none, none, []⟩])
  .ret)))⟩
/-- pochoir/wide.left -/
def s69 : SFn :=
 ⟨28, [.cell 4 (some 2)],
  (.seq (.reg [⟨(some 2), .box 47 (.t 0), none, none, []⟩, ⟨(some 4), .box 47 (.v (.agg [(.int .u64 0), (.int .u64 0)])), none, none, []⟩])
  (.seq (.seq (.reg [⟨(some 5), .mv (.t 1), none, none, []⟩, ⟨(some 6), .bin .geq (.t 5) (.v (.int .u64 64)), none, none, []⟩])
  (.cond (.t 6) (.seq (.reg [⟨(some 7), .faddr 1 (.t 2), none, none, []⟩, ⟨(some 8), .load none (.t 7), none, none, []⟩, ⟨(some 9), .mv (.t 1), none, none, []⟩, ⟨(some 10), .bin .sub (.t 9) (.v (.int .u64 64)), none, none, []⟩, ⟨(some 11), .bin .shl (.t 8) (.t 10), none, none, []⟩, ⟨(some 12), .build [(.int .u64 0), (.int .u64 0)] [(0, 1, (.t 11))], none, none, []⟩, ⟨none, .store 2 (.t 4) (.t 12), none, none, []⟩])
  .ret) .skip))
  (.seq (.reg [⟨(some 13), .faddr 0 (.t 2), none, none, []⟩, ⟨(some 14), .load none (.t 13), none, none, []⟩, ⟨(some 15), .mv (.t 1), none, none, []⟩, ⟨(some 16), .bin .shl (.t 14) (.t 15), none, none, []⟩, ⟨(some 17), .faddr 1 (.t 2), none, none, []⟩, ⟨(some 18), .load none (.t 17), none, none, []⟩, ⟨(some 19), .mv (.t 1), none, none, []⟩, ⟨(some 20), .bin .sub (.v (.int .u64 64)) (.t 19), none, none, []⟩, ⟨(some 21), .bin .shr (.t 18) (.t 20), none, none, []⟩, ⟨(some 22), .bin .or (.t 16) (.t 21), none, none, []⟩, ⟨(some 23), .faddr 1 (.t 2), none, none, []⟩, ⟨(some 24), .load none (.t 23), none, none, []⟩, ⟨(some 25), .mv (.t 1), none, none, []⟩, ⟨(some 26), .bin .shl (.t 24) (.t 25), none, none, []⟩, ⟨(some 27), .build [(.int .u64 0), (.int .u64 0)] [(0, 1, (.t 22)), (1, 1, (.t 26))], none, none, []⟩, ⟨none, .store 2 (.t 4) (.t 27), none, none, []⟩])
  .ret)))⟩
/-- cmp.isNaN[uint64] -/
def s71 : SFn :=
 ⟨6, [.tmp 2],
  (.seq (.reg [⟨(some 2), .mv (.v (.bool false)), none, none, []⟩])
  (.seq (.reg [⟨(some 3), .mv (.t 0), none, none, []⟩, ⟨(some 4), .mv (.t 0), none, none, []⟩, ⟨(some 5), .bin .neq (.t 3) (.t 4), none, none, []⟩, ⟨(some 2), .mv (.t 5), none, none, []⟩])
  .ret))⟩
/-- pochoir/pochoirref02.at -/
def s72 : SFn :=
 ⟨13, [.tmp 4],
  (.seq (.reg [⟨(some 4), .mv (.v (.int .u64 0)), none, none, []⟩])
  (.seq (.seq (.reg [⟨(some 5), .mv (.t 1), none, none, []⟩, ⟨(some 6), .mv (.t 0), none, none, []⟩, ⟨(some 7), .len false (.t 6), none, none, []⟩, ⟨(some 8), .bin .lss (.t 5) (.t 7), none, none, []⟩])
  (.cond (.t 8) (.seq (.reg [⟨(some 9), .mv (.t 0), none, none, []⟩, ⟨(some 10), .mv (.t 1), none, none, []⟩, ⟨(some 11), .iaddr 1 (.t 9) (.t 10), none, none, []⟩, ⟨(some 12), .load none (.t 11), none, none, []⟩, ⟨(some 4), .mv (.t 12), none, none, []⟩])
  .ret) .skip))
  (.seq (.reg [⟨(some 4), .mv (.v (.int .u64 0)), none, none, []⟩])
  .ret)))⟩
/-- pochoir/pochoirref02.trim -/
def s73 : SFn :=
 ⟨21, [.tmp 2],
  (.seq (.reg [⟨(some 2), .mv (.v .nils), none, none, []⟩])
  (.seq (.reg [⟨(some 4), .mv (.t 0), none, none, []⟩, ⟨(some 5), .len false (.t 4), none, none, []⟩, ⟨(some 3), .mv (.t 5), none, none, []⟩])
  (.seq (.block 0 (.loop (.seq (.seq (.reg [⟨(some 6), .mv (.t 3), none, none, []⟩, ⟨(some 7), .bin .gtr (.t 6) (.v (.int .i64 0)), none, none, []⟩, ⟨(some 8), .mv (.t 7), none, none, []⟩, ⟨(some 9), .mv (.t 0), (some (8, true)), none, []⟩, ⟨(some 10), .mv (.t 3), (some (8, true)), none, []⟩, ⟨(some 11), .bin .sub (.t 10) (.v (.int .i64 1)), (some (8, true)), none, []⟩, ⟨(some 12), .iaddr 1 (.t 9) (.t 11), (some (8, true)), none, []⟩, ⟨(some 13), .load none (.t 12), (some (8, true)), none, []⟩, ⟨(some 14), .bin .eql (.t 13) (.v (.int .u64 0)), (some (8, true)), none, []⟩, ⟨(some 15), .pick (.t 8) (.t 14) (.v (.bool false)), none, none, []⟩])
  (.cond (.t 15) .skip (.exit 0)))
  (.block 1 (.reg [⟨(some 16), .mv (.t 3), none, none, []⟩, ⟨(some 17), .bin .sub (.t 16) (.v (.int .i64 1)), none, none, []⟩, ⟨(some 3), .mv (.t 17), none, none, []⟩])))))
  (.seq (.reg [⟨(some 18), .mv (.t 0), none, none, []⟩, ⟨(some 19), .mv (.t 3), none, none, []⟩, ⟨(some 20), .slc 1 (.t 18) none (some (.t 19)) none, none, none, []⟩, ⟨(some 2), .mv (.t 20), none, none, []⟩])
  .ret))))⟩
/-- internal/strconv.small -/
def s75 : SFn :=
 ⟨15, [.tmp 2],
  (.seq (.reg [⟨(some 2), .mv (.v (.str ⟨#[]⟩)), none, none, []⟩])
  (.seq (.seq (.reg [⟨(some 3), .mv (.t 0), none, none, []⟩, ⟨(some 4), .bin .lss (.t 3) (.v (.int .i64 10)), none, none, []⟩])
  (.cond (.t 4) (.seq (.reg [⟨(some 5), .mv (.t 0), none, none, []⟩, ⟨(some 6), .mv (.t 0), none, none, []⟩, ⟨(some 7), .bin .add (.t 6) (.v (.int .i64 1)), none, none, []⟩, ⟨(some 8), .slstr (.v (.str ⟨#[48, 49, 50, 51, 52, 53, 54, 55, 56, 57, 97, 98, 99, 100, 101, 102, 103, 104, 105, 106, 107, 108, 109, 110, 111, 112, 113, 114, 115, 116, 117, 118, 119, 120, 121, 122]⟩)) (some (.t 5)) (some (.t 7)), none, none, []⟩, ⟨(some 2), .mv (.t 8), none, none, []⟩])
  .ret) .skip))
  (.seq (.reg [⟨(some 9), .mv (.t 0), none, none, []⟩, ⟨(some 10), .bin .mul (.t 9) (.v (.int .i64 2)), none, none, []⟩, ⟨(some 11), .mv (.t 0), none, none, []⟩, ⟨(some 12), .bin .mul (.t 11) (.v (.int .i64 2)), none, none, []⟩, ⟨(some 13), .bin .add (.t 12) (.v (.int .i64 2)), none, none, []⟩, ⟨(some 14), .slstr (.v (.str ⟨#[48, 48, 48, 49, 48, 50, 48, 51, 48, 52, 48, 53, 48, 54, 48, 55, 48, 56, 48, 57, 49, 48, 49, 49, 49, 50, 49, 51, 49, 52, 49, 53, 49, 54, 49, 55, 49, 56, 49, 57, 50, 48, 50, 49, 50, 50, 50, 51, 50, 52, 50, 53, 50, 54, 50, 55, 50, 56, 50, 57, 51, 48, 51, 49, 51, 50, 51, 51, 51, 52, 51, 53, 51, 54, 51, 55, 51, 56, 51, 57, 52, 48, 52, 49, 52, 50, 52, 51, 52, 52, 52, 53, 52, 54, 52, 55, 52, 56, 52, 57, 53, 48, 53, 49, 53, 50, 53, 51, 53, 52, 53, 53, 53, 54, 53, 55, 53, 56, 53, 57, 54, 48, 54, 49, 54, 50, 54, 51, 54, 52, 54, 53, 54, 54, 54, 55, 54, 56, 54, 57, 55, 48, 55, 49, 55, 50, 55, 51, 55, 52, 55, 53, 55, 54, 55, 55, 55, 56, 55, 57, 56, 48, 56, 49, 56, 50, 56, 51, 56, 52, 56, 53, 56, 54, 56, 55, 56, 56, 56, 57, 57, 48, 57, 49, 57, 50, 57, 51, 57, 52, 57, 53, 57, 54, 57, 55, 57, 56, 57, 57]⟩)) (some (.t 10)) (some (.t 13)), none, none, []⟩, ⟨(some 2), .mv (.t 14), none, none, []⟩])
  .ret)))⟩
/-- internal/strconv.numDigits -/
def s76 : SFn :=
 ⟨15, [.tmp 2],
  (.seq (.reg [⟨(some 2), .mv (.v (.int .i64 0)), none, none, []⟩])
  (.seq (.reg [⟨(some 4), .mv (.t 0), none, none, []⟩, ⟨(some 5), .call 80 [(.t 4)], none, none, []⟩, ⟨(some 6), .call 81 [(.t 5)], none, none, []⟩, ⟨(some 3), .mv (.t 6), none, none, []⟩])
  (.seq (.reg [⟨(some 7), .mv (.t 3), none, none, []⟩, ⟨(some 8), .mv (.t 0), none, none, []⟩, ⟨(some 9), .mv (.t 3), none, none, []⟩, ⟨(some 10), .iarr 20 1 (.v (.pv [(.int .u64 1), (.int .u64 10), (.int .u64 100), (.int .u64 1000), (.int .u64 10000), (.int .u64 100000), (.int .u64 1000000), (.int .u64 10000000), (.int .u64 100000000), (.int .u64 1000000000), (.int .u64 10000000000), (.int .u64 100000000000), (.int .u64 1000000000000), (.int .u64 10000000000000), (.int .u64 100000000000000), (.int .u64 1000000000000000), (.int .u64 10000000000000000), (.int .u64 100000000000000000), (.int .u64 1000000000000000000), (.int .u64 10000000000000000000)])) (.t 9), none, none, []⟩, ⟨(some 11), .load none (.t 10), none, none, []⟩, ⟨(some 12), .bin .geq (.t 8) (.t 11), none, none, []⟩, ⟨(some 13), .call 82 [(.t 12)], none, none, []⟩, ⟨(some 14), .bin .add (.t 7) (.t 13), none, none, []⟩, ⟨(some 2), .mv (.t 14), none, none, []⟩])
  .ret)))⟩
/-- internal/strconv.formatBase10 -/
def s77 : SFn :=
 ⟨167, [],
  (.seq (.reg [⟨(some 17), .mv (.t 0), none, none, []⟩, ⟨(some 18), .len false (.t 17), none, none, []⟩, ⟨(some 4), .mv (.t 18), none, none, []⟩])
  (.seq (.block 0 (.loop (.seq (.seq (.reg [⟨(some 19), .mv (.t 4), none, none, []⟩, ⟨(some 20), .bin .geq (.t 19) (.v (.int .i64 8)), none, none, []⟩])
  (.cond (.t 20) .skip (.exit 0)))
  (.block 1 (.seq (.reg [⟨(some 21), .mv (.t 1), none, none, []⟩, ⟨(some 22), .bin .rem (.t 21) (.v (.int .u64 100000000)), none, none, []⟩, ⟨(some 23), .conv .u32 (.t 22), none, none, []⟩, ⟨(some 5), .mv (.t 23), none, none, []⟩])
  (.seq (.reg [⟨(some 24), .mv (.t 1), none, none, []⟩, ⟨(some 25), .bin .quo (.t 24) (.v (.int .u64 100000000)), none, none, []⟩, ⟨(some 1), .mv (.t 25), none, none, []⟩])
  (.seq (.reg [⟨(some 26), .mv (.t 5), none, none, []⟩, ⟨(some 27), .bin .quo (.t 26) (.v (.int .u32 10000)), none, none, []⟩, ⟨(some 28), .mv (.t 5), none, none, []⟩, ⟨(some 29), .bin .rem (.t 28) (.v (.int .u32 10000)), none, none, []⟩, ⟨(some 6), .mv (.t 27), none, none, []⟩, ⟨(some 7), .mv (.t 29), none, none, []⟩])
  (.seq (.reg [⟨(some 30), .mv (.t 7), none, none, []⟩, ⟨(some 31), .bin .quo (.t 30) (.v (.int .u32 100)), none, none, []⟩, ⟨(some 32), .bin .mul (.t 31) (.v (.int .u32 2)), none, none, []⟩, ⟨(some 33), .mv (.t 7), none, none, []⟩, ⟨(some 34), .bin .rem (.t 33) (.v (.int .u32 100)), none, none, []⟩, ⟨(some 35), .bin .mul (.t 34) (.v (.int .u32 2)), none, none, []⟩, ⟨(some 8), .mv (.t 32), none, none, []⟩, ⟨(some 9), .mv (.t 35), none, none, []⟩])
  (.seq (.reg [⟨(some 36), .mv (.t 6), none, none, []⟩, ⟨(some 37), .bin .quo (.t 36) (.v (.int .u32 100)), none, none, []⟩, ⟨(some 38), .bin .mul (.t 37) (.v (.int .u32 2)), none, none, []⟩, ⟨(some 39), .mv (.t 6), none, none, []⟩, ⟨(some 40), .bin .rem (.t 39) (.v (.int .u32 100)), none, none, []⟩, ⟨(some 41), .bin .mul (.t 40) (.v (.int .u32 2)), none, none, []⟩, ⟨(some 10), .mv (.t 38), none, none, []⟩, ⟨(some 11), .mv (.t 41), none, none, []⟩])
  (.seq (.regd [⟨(some 42), .mv (.t 0), none, (some []), []⟩, ⟨(some 43), .mv (.t 4), none, (some []), []⟩, ⟨(some 44), .bin .sub (.t 43) (.v (.int .i64 1)), none, (some []), []⟩, ⟨(some 45), .mv (.t 0), none, (some []), []⟩, ⟨(some 46), .mv (.t 4), none, (some []), []⟩, ⟨(some 47), .bin .sub (.t 46) (.v (.int .i64 2)), none, (some []), []⟩, ⟨(some 48), .mv (.t 9), none, (some []), []⟩, ⟨(some 49), .bin .add (.t 48) (.v (.int .u32 1)), none, (some []), []⟩, ⟨(some 50), .ixs (.v (.str ⟨#[48, 48, 48, 49, 48, 50, 48, 51, 48, 52, 48, 53, 48, 54, 48, 55, 48, 56, 48, 57, 49, 48, 49, 49, 49, 50, 49, 51, 49, 52, 49, 53, 49, 54, 49, 55, 49, 56, 49, 57, 50, 48, 50, 49, 50, 50, 50, 51, 50, 52, 50, 53, 50, 54, 50, 55, 50, 56, 50, 57, 51, 48, 51, 49, 51, 50, 51, 51, 51, 52, 51, 53, 51, 54, 51, 55, 51, 56, 51, 57, 52, 48, 52, 49, 52, 50, 52, 51, 52, 52, 52, 53, 52, 54, 52, 55, 52, 56, 52, 57, 53, 48, 53, 49, 53, 50, 53, 51, 53, 52, 53, 53, 53, 54, 53, 55, 53, 56, 53, 57, 54, 48, 54, 49, 54, 50, 54, 51, 54, 52, 54, 53, 54, 54, 54, 55, 54, 56, 54, 57, 55, 48, 55, 49, 55, 50, 55, 51, 55, 52, 55, 53, 55, 54, 55, 55, 55, 56, 55, 57, 56, 48, 56, 49, 56, 50, 56, 51, 56, 52, 56, 53, 56, 54, 56, 55, 56, 56, 56, 57, 57, 48, 57, 49, 57, 50, 57, 51, 57, 52, 57, 53, 57, 54, 57, 55, 57, 56, 57, 57]⟩)) (.t 49), none, (some []), []⟩, ⟨(some 51), .mv (.t 9), none, (some []), []⟩, ⟨(some 52), .ixs (.v (.str ⟨#[48, 48, 48, 49, 48, 50, 48, 51, 48, 52, 48, 53, 48, 54, 48, 55, 48, 56, 48, 57, 49, 48, 49, 49, 49, 50, 49, 51, 49, 52, 49, 53, 49, 54, 49, 55, 49, 56, 49, 57, 50, 48, 50, 49, 50, 50, 50, 51, 50, 52, 50, 53, 50, 54, 50, 55, 50, 56, 50, 57, 51, 48, 51, 49, 51, 50, 51, 51, 51, 52, 51, 53, 51, 54, 51, 55, 51, 56, 51, 57, 52, 48, 52, 49, 52, 50, 52, 51, 52, 52, 52, 53, 52, 54, 52, 55, 52, 56, 52, 57, 53, 48, 53, 49, 53, 50, 53, 51, 53, 52, 53, 53, 53, 54, 53, 55, 53, 56, 53, 57, 54, 48, 54, 49, 54, 50, 54, 51, 54, 52, 54, 53, 54, 54, 54, 55, 54, 56, 54, 57, 55, 48, 55, 49, 55, 50, 55, 51, 55, 52, 55, 53, 55, 54, 55, 55, 55, 56, 55, 57, 56, 48, 56, 49, 56, 50, 56, 51, 56, 52, 56, 53, 56, 54, 56, 55, 56, 56, 56, 57, 57, 48, 57, 49, 57, 50, 57, 51, 57, 52, 57, 53, 57, 54, 57, 55, 57, 56, 57, 57]⟩)) (.t 51), none, (some []), []⟩, ⟨(some 53), .iaddr 1 (.t 42) (.t 44), none, (some []), []⟩, ⟨none, .store 1 (.t 53) (.t 50), none, none, []⟩, ⟨(some 54), .iaddr 1 (.t 45) (.t 47), none, (some []), []⟩, ⟨none, .store 1 (.t 54) (.t 52), none, none, []⟩])
  (.seq (.regd [⟨(some 55), .mv (.t 0), none, (some []), []⟩, ⟨(some 56), .mv (.t 4), none, (some []), []⟩, ⟨(some 57), .bin .sub (.t 56) (.v (.int .i64 3)), none, (some []), []⟩, ⟨(some 58), .mv (.t 0), none, (some []), []⟩, ⟨(some 59), .mv (.t 4), none, (some []), []⟩, ⟨(some 60), .bin .sub (.t 59) (.v (.int .i64 4)), none, (some []), []⟩, ⟨(some 61), .mv (.t 8), none, (some []), []⟩, ⟨(some 62), .bin .add (.t 61) (.v (.int .u32 1)), none, (some []), []⟩, ⟨(some 63), .ixs (.v (.str ⟨#[48, 48, 48, 49, 48, 50, 48, 51, 48, 52, 48, 53, 48, 54, 48, 55, 48, 56, 48, 57, 49, 48, 49, 49, 49, 50, 49, 51, 49, 52, 49, 53, 49, 54, 49, 55, 49, 56, 49, 57, 50, 48, 50, 49, 50, 50, 50, 51, 50, 52, 50, 53, 50, 54, 50, 55, 50, 56, 50, 57, 51, 48, 51, 49, 51, 50, 51, 51, 51, 52, 51, 53, 51, 54, 51, 55, 51, 56, 51, 57, 52, 48, 52, 49, 52, 50, 52, 51, 52, 52, 52, 53, 52, 54, 52, 55, 52, 56, 52, 57, 53, 48, 53, 49, 53, 50, 53, 51, 53, 52, 53, 53, 53, 54, 53, 55, 53, 56, 53, 57, 54, 48, 54, 49, 54, 50, 54, 51, 54, 52, 54, 53, 54, 54, 54, 55, 54, 56, 54, 57, 55, 48, 55, 49, 55, 50, 55, 51, 55, 52, 55, 53, 55, 54, 55, 55, 55, 56, 55, 57, 56, 48, 56, 49, 56, 50, 56, 51, 56, 52, 56, 53, 56, 54, 56, 55, 56, 56, 56, 57, 57, 48, 57, 49, 57, 50, 57, 51, 57, 52, 57, 53, 57, 54, 57, 55, 57, 56, 57, 57]⟩)) (.t 62), none, (some []), []⟩, ⟨(some 64), .mv (.t 8), none, (some []), []⟩, ⟨(some 65), .ixs (.v (.str ⟨#[48, 48, 48, 49, 48, 50, 48, 51, 48, 52, 48, 53, 48, 54, 48, 55, 48, 56, 48, 57, 49, 48, 49, 49, 49, 50, 49, 51, 49, 52, 49, 53, 49, 54, 49, 55, 49, 56, 49, 57, 50, 48, 50, 49, 50, 50, 50, 51, 50, 52, 50, 53, 50, 54, 50, 55, 50, 56, 50, 57, 51, 48, 51, 49, 51, 50, 51, 51, 51, 52, 51, 53, 51, 54, 51, 55, 51, 56, 51, 57, 52, 48, 52, 49, 52, 50, 52, 51, 52, 52, 52, 53, 52, 54, 52, 55, 52, 56, 52, 57, 53, 48, 53, 49, 53, 50, 53, 51, 53, 52, 53, 53, 53, 54, 53, 55, 53, 56, 53, 57, 54, 48, 54, 49, 54, 50, 54, 51, 54, 52, 54, 53, 54, 54, 54, 55, 54, 56, 54, 57, 55, 48, 55, 49, 55, 50, 55, 51, 55, 52, 55, 53, 55, 54, 55, 55, 55, 56, 55, 57, 56, 48, 56, 49, 56, 50, 56, 51, 56, 52, 56, 53, 56, 54, 56, 55, 56, 56, 56, 57, 57, 48, 57, 49, 57, 50, 57, 51, 57, 52, 57, 53, 57, 54, 57, 55, 57, 56, 57, 57]⟩)) (.t 64), none, (some []), []⟩, ⟨(some 66), .iaddr 1 (.t 55) (.t 57), none, (some []), []⟩, ⟨none, .store 1 (.t 66) (.t 63), none, none, []⟩, ⟨(some 67), .iaddr 1 (.t 58) (.t 60), none, (some []), []⟩, ⟨none, .store 1 (.t 67) (.t 65), none, none, []⟩])
  (.seq (.regd [⟨(some 68), .mv (.t 0), none, (some []), []⟩, ⟨(some 69), .mv (.t 4), none, (some []), []⟩, ⟨(some 70), .bin .sub (.t 69) (.v (.int .i64 5)), none, (some []), []⟩, ⟨(some 71), .mv (.t 0), none, (some []), []⟩, ⟨(some 72), .mv (.t 4), none, (some []), []⟩, ⟨(some 73), .bin .sub (.t 72) (.v (.int .i64 6)), none, (some []), []⟩, ⟨(some 74), .mv (.t 11), none, (some []), []⟩, ⟨(some 75), .bin .add (.t 74) (.v (.int .u32 1)), none, (some []), []⟩, ⟨(some 76), .ixs (.v (.str ⟨#[48, 48, 48, 49, 48, 50, 48, 51, 48, 52, 48, 53, 48, 54, 48, 55, 48, 56, 48, 57, 49, 48, 49, 49, 49, 50, 49, 51, 49, 52, 49, 53, 49, 54, 49, 55, 49, 56, 49, 57, 50, 48, 50, 49, 50, 50, 50, 51, 50, 52, 50, 53, 50, 54, 50, 55, 50, 56, 50, 57, 51, 48, 51, 49, 51, 50, 51, 51, 51, 52, 51, 53, 51, 54, 51, 55, 51, 56, 51, 57, 52, 48, 52, 49, 52, 50, 52, 51, 52, 52, 52, 53, 52, 54, 52, 55, 52, 56, 52, 57, 53, 48, 53, 49, 53, 50, 53, 51, 53, 52, 53, 53, 53, 54, 53, 55, 53, 56, 53, 57, 54, 48, 54, 49, 54, 50, 54, 51, 54, 52, 54, 53, 54, 54, 54, 55, 54, 56, 54, 57, 55, 48, 55, 49, 55, 50, 55, 51, 55, 52, 55, 53, 55, 54, 55, 55, 55, 56, 55, 57, 56, 48, 56, 49, 56, 50, 56, 51, 56, 52, 56, 53, 56, 54, 56, 55, 56, 56, 56, 57, 57, 48, 57, 49, 57, 50, 57, 51, 57, 52, 57, 53, 57, 54, 57, 55, 57, 56, 57, 57]⟩)) (.t 75), none, (some []), []⟩, ⟨(some 77), .mv (.t 11), none, (some []), []⟩, ⟨(some 78), .ixs (.v (.str ⟨#[48, 48, 48, 49, 48, 50, 48, 51, 48, 52, 48, 53, 48, 54, 48, 55, 48, 56, 48, 57, 49, 48, 49, 49, 49, 50, 49, 51, 49, 52, 49, 53, 49, 54, 49, 55, 49, 56, 49, 57, 50, 48, 50, 49, 50, 50, 50, 51, 50, 52, 50, 53, 50, 54, 50, 55, 50, 56, 50, 57, 51, 48, 51, 49, 51, 50, 51, 51, 51, 52, 51, 53, 51, 54, 51, 55, 51, 56, 51, 57, 52, 48, 52, 49, 52, 50, 52, 51, 52, 52, 52, 53, 52, 54, 52, 55, 52, 56, 52, 57, 53, 48, 53, 49, 53, 50, 53, 51, 53, 52, 53, 53, 53, 54, 53, 55, 53, 56, 53, 57, 54, 48, 54, 49, 54, 50, 54, 51, 54, 52, 54, 53, 54, 54, 54, 55, 54, 56, 54, 57, 55, 48, 55, 49, 55, 50, 55, 51, 55, 52, 55, 53, 55, 54, 55, 55, 55, 56, 55, 57, 56, 48, 56, 49, 56, 50, 56, 51, 56, 52, 56, 53, 56, 54, 56, 55, 56, 56, 56, 57, 57, 48, 57, 49, 57, 50, 57, 51, 57, 52, 57, 53, 57, 54, 57, 55, 57, 56, 57, 57]⟩)) (.t 77), none, (some []), []⟩, ⟨(some 79), .iaddr 1 (.t 68) (.t 70), none, (some []), []⟩, ⟨none, .store 1 (.t 79) (.t 76), none, none, []⟩, ⟨(some 80), .iaddr 1 (.t 71) (.t 73), none, (some []), []⟩, ⟨none, .store 1 (.t 80) (.t 78), none, none, []⟩])
  (.seq (.regd [⟨(some 81), .mv (.t 0), none, (some []), []⟩, ⟨(some 82), .mv (.t 4), none, (some []), []⟩, ⟨(some 83), .bin .sub (.t 82) (.v (.int .i64 7)), none, (some []), []⟩, ⟨(some 84), .mv (.t 0), none, (some []), []⟩, ⟨(some 85), .mv (.t 4), none, (some []), []⟩, ⟨(some 86), .bin .sub (.t 85) (.v (.int .i64 8)), none, (some []), []⟩, ⟨(some 87), .mv (.t 10), none, (some []), []⟩, ⟨(some 88), .bin .add (.t 87) (.v (.int .u32 1)), none, (some []), []⟩, ⟨(some 89), .ixs (.v (.str ⟨#[48, 48, 48, 49, 48, 50, 48, 51, 48, 52, 48, 53, 48, 54, 48, 55, 48, 56, 48, 57, 49, 48, 49, 49, 49, 50, 49, 51, 49, 52, 49, 53, 49, 54, 49, 55, 49, 56, 49, 57, 50, 48, 50, 49, 50, 50, 50, 51, 50, 52, 50, 53, 50, 54, 50, 55, 50, 56, 50, 57, 51, 48, 51, 49, 51, 50, 51, 51, 51, 52, 51, 53, 51, 54, 51, 55, 51, 56, 51, 57, 52, 48, 52, 49, 52, 50, 52, 51, 52, 52, 52, 53, 52, 54, 52, 55, 52, 56, 52, 57, 53, 48, 53, 49, 53, 50, 53, 51, 53, 52, 53, 53, 53, 54, 53, 55, 53, 56, 53, 57, 54, 48, 54, 49, 54, 50, 54, 51, 54, 52, 54, 53, 54, 54, 54, 55, 54, 56, 54, 57, 55, 48, 55, 49, 55, 50, 55, 51, 55, 52, 55, 53, 55, 54, 55, 55, 55, 56, 55, 57, 56, 48, 56, 49, 56, 50, 56, 51, 56, 52, 56, 53, 56, 54, 56, 55, 56, 56, 56, 57, 57, 48, 57, 49, 57, 50, 57, 51, 57, 52, 57, 53, 57, 54, 57, 55, 57, 56, 57, 57]⟩)) (.t 88), none, (some []), []⟩, ⟨(some 90), .mv (.t 10), none, (some []), []⟩, ⟨(some 91), .ixs (.v (.str ⟨#[48, 48, 48, 49, 48, 50, 48, 51, 48, 52, 48, 53, 48, 54, 48, 55, 48, 56, 48, 57, 49, 48, 49, 49, 49, 50, 49, 51, 49, 52, 49, 53, 49, 54, 49, 55, 49, 56, 49, 57, 50, 48, 50, 49, 50, 50, 50, 51, 50, 52, 50, 53, 50, 54, 50, 55, 50, 56, 50, 57, 51, 48, 51, 49, 51, 50, 51, 51, 51, 52, 51, 53, 51, 54, 51, 55, 51, 56, 51, 57, 52, 48, 52, 49, 52, 50, 52, 51, 52, 52, 52, 53, 52, 54, 52, 55, 52, 56, 52, 57, 53, 48, 53, 49, 53, 50, 53, 51, 53, 52, 53, 53, 53, 54, 53, 55, 53, 56, 53, 57, 54, 48, 54, 49, 54, 50, 54, 51, 54, 52, 54, 53, 54, 54, 54, 55, 54, 56, 54, 57, 55, 48, 55, 49, 55, 50, 55, 51, 55, 52, 55, 53, 55, 54, 55, 55, 55, 56, 55, 57, 56, 48, 56, 49, 56, 50, 56, 51, 56, 52, 56, 53, 56, 54, 56, 55, 56, 56, 56, 57, 57, 48, 57, 49, 57, 50, 57, 51, 57, 52, 57, 53, 57, 54, 57, 55, 57, 56, 57, 57]⟩)) (.t 90), none, (some []), []⟩, ⟨(some 92), .iaddr 1 (.t 81) (.t 83), none, (some []), []⟩, ⟨none, .store 1 (.t 92) (.t 89), none, none, []⟩, ⟨(some 93), .iaddr 1 (.t 84) (.t 86), none, (some []), []⟩, ⟨none, .store 1 (.t 93) (.t 91), none, none, []⟩])
  (.reg [⟨(some 94), .mv (.t 4), none, none, []⟩, ⟨(some 95), .bin .sub (.t 94) (.v (.int .i64 8)), none, none, []⟩, ⟨(some 4), .mv (.t 95), none, none, []⟩]))))))))))))))
  (.seq (.reg [⟨(some 96), .mv (.t 1), none, none, []⟩, ⟨(some 97), .conv .u32 (.t 96), none, none, []⟩, ⟨(some 12), .mv (.t 97), none, none, []⟩])
  (.seq (.seq (.reg [⟨(some 98), .mv (.t 4), none, none, []⟩, ⟨(some 99), .bin .geq (.t 98) (.v (.int .i64 4)), none, none, []⟩])
  (.cond (.t 99) (.seq (.reg [⟨(some 100), .mv (.t 12), none, none, []⟩, ⟨(some 101), .bin .rem (.t 100) (.v (.int .u32 10000)), none, none, []⟩, ⟨(some 13), .mv (.t 101), none, none, []⟩])
  (.seq (.reg [⟨(some 102), .mv (.t 12), none, none, []⟩, ⟨(some 103), .bin .quo (.t 102) (.v (.int .u32 10000)), none, none, []⟩, ⟨(some 12), .mv (.t 103), none, none, []⟩])
  (.seq (.reg [⟨(some 104), .mv (.t 13), none, none, []⟩, ⟨(some 105), .bin .quo (.t 104) (.v (.int .u32 100)), none, none, []⟩, ⟨(some 106), .bin .mul (.t 105) (.v (.int .u32 2)), none, none, []⟩, ⟨(some 107), .mv (.t 13), none, none, []⟩, ⟨(some 108), .bin .rem (.t 107) (.v (.int .u32 100)), none, none, []⟩, ⟨(some 109), .bin .mul (.t 108) (.v (.int .u32 2)), none, none, []⟩, ⟨(some 14), .mv (.t 106), none, none, []⟩, ⟨(some 15), .mv (.t 109), none, none, []⟩])
  (.seq (.regd [⟨(some 110), .mv (.t 0), none, (some []), []⟩, ⟨(some 111), .mv (.t 4), none, (some []), []⟩, ⟨(some 112), .bin .sub (.t 111) (.v (.int .i64 1)), none, (some []), []⟩, ⟨(some 113), .mv (.t 0), none, (some []), []⟩, ⟨(some 114), .mv (.t 4), none, (some []), []⟩, ⟨(some 115), .bin .sub (.t 114) (.v (.int .i64 2)), none, (some []), []⟩, ⟨(some 116), .mv (.t 15), none, (some []), []⟩, ⟨(some 117), .bin .add (.t 116) (.v (.int .u32 1)), none, (some []), []⟩, ⟨(some 118), .ixs (.v (.str ⟨#[48, 48, 48, 49, 48, 50, 48, 51, 48, 52, 48, 53, 48, 54, 48, 55, 48, 56, 48, 57, 49, 48, 49, 49, 49, 50, 49, 51, 49, 52, 49, 53, 49, 54, 49, 55, 49, 56, 49, 57, 50, 48, 50, 49, 50, 50, 50, 51, 50, 52, 50, 53, 50, 54, 50, 55, 50, 56, 50, 57, 51, 48, 51, 49, 51, 50, 51, 51, 51, 52, 51, 53, 51, 54, 51, 55, 51, 56, 51, 57, 52, 48, 52, 49, 52, 50, 52, 51, 52, 52, 52, 53, 52, 54, 52, 55, 52, 56, 52, 57, 53, 48, 53, 49, 53, 50, 53, 51, 53, 52, 53, 53, 53, 54, 53, 55, 53, 56, 53, 57, 54, 48, 54, 49, 54, 50, 54, 51, 54, 52, 54, 53, 54, 54, 54, 55, 54, 56, 54, 57, 55, 48, 55, 49, 55, 50, 55, 51, 55, 52, 55, 53, 55, 54, 55, 55, 55, 56, 55, 57, 56, 48, 56, 49, 56, 50, 56, 51, 56, 52, 56, 53, 56, 54, 56, 55, 56, 56, 56, 57, 57, 48, 57, 49, 57, 50, 57, 51, 57, 52, 57, 53, 57, 54, 57, 55, 57, 56, 57, 57]⟩)) (.t 117), none, (some []), []⟩, ⟨(some 119), .mv (.t 15), none, (some []), []⟩, ⟨(some 120), .ixs (.v (.str ⟨#[48, 48, 48, 49, 48, 50, 48, 51, 48, 52, 48, 53, 48, 54, 48, 55, 48, 56, 48, 57, 49, 48, 49, 49, 49, 50, 49, 51, 49, 52, 49, 53, 49, 54, 49, 55, 49, 56, 49, 57, 50, 48, 50, 49, 50, 50, 50, 51, 50, 52, 50, 53, 50, 54, 50, 55, 50, 56, 50, 57, 51, 48, 51, 49, 51, 50, 51, 51, 51, 52, 51, 53, 51, 54, 51, 55, 51, 56, 51, 57, 52, 48, 52, 49, 52, 50, 52, 51, 52, 52, 52, 53, 52, 54, 52, 55, 52, 56, 52, 57, 53, 48, 53, 49, 53, 50, 53, 51, 53, 52, 53, 53, 53, 54, 53, 55, 53, 56, 53, 57, 54, 48, 54, 49, 54, 50, 54, 51, 54, 52, 54, 53, 54, 54, 54, 55, 54, 56, 54, 57, 55, 48, 55, 49, 55, 50, 55, 51, 55, 52, 55, 53, 55, 54, 55, 55, 55, 56, 55, 57, 56, 48, 56, 49, 56, 50, 56, 51, 56, 52, 56, 53, 56, 54, 56, 55, 56, 56, 56, 57, 57, 48, 57, 49, 57, 50, 57, 51, 57, 52, 57, 53, 57, 54, 57, 55, 57, 56, 57, 57]⟩)) (.t 119), none, (some []), []⟩, ⟨(some 121), .iaddr 1 (.t 110) (.t 112), none, (some []), []⟩, ⟨none, .store 1 (.t 121) (.t 118), none, none, []⟩, ⟨(some 122), .iaddr 1 (.t 113) (.t 115), none, (some []), []⟩, ⟨none, .store 1 (.t 122) (.t 120), none, none, []⟩])
  (.seq (.regd [⟨(some 123), .mv (.t 0), none, (some []), []⟩, ⟨(some 124), .mv (.t 4), none, (some []), []⟩, ⟨(some 125), .bin .sub (.t 124) (.v (.int .i64 3)), none, (some []), []⟩, ⟨(some 126), .mv (.t 0), none, (some []), []⟩, ⟨(some 127), .mv (.t 4), none, (some []), []⟩, ⟨(some 128), .bin .sub (.t 127) (.v (.int .i64 4)), none, (some []), []⟩, ⟨(some 129), .mv (.t 14), none, (some []), []⟩, ⟨(some 130), .bin .add (.t 129) (.v (.int .u32 1)), none, (some []), []⟩, ⟨(some 131), .ixs (.v (.str ⟨#[48, 48, 48, 49, 48, 50, 48, 51, 48, 52, 48, 53, 48, 54, 48, 55, 48, 56, 48, 57, 49, 48, 49, 49, 49, 50, 49, 51, 49, 52, 49, 53, 49, 54, 49, 55, 49, 56, 49, 57, 50, 48, 50, 49, 50, 50, 50, 51, 50, 52, 50, 53, 50, 54, 50, 55, 50, 56, 50, 57, 51, 48, 51, 49, 51, 50, 51, 51, 51, 52, 51, 53, 51, 54, 51, 55, 51, 56, 51, 57, 52, 48, 52, 49, 52, 50, 52, 51, 52, 52, 52, 53, 52, 54, 52, 55, 52, 56, 52, 57, 53, 48, 53, 49, 53, 50, 53, 51, 53, 52, 53, 53, 53, 54, 53, 55, 53, 56, 53, 57, 54, 48, 54, 49, 54, 50, 54, 51, 54, 52, 54, 53, 54, 54, 54, 55, 54, 56, 54, 57, 55, 48, 55, 49, 55, 50, 55, 51, 55, 52, 55, 53, 55, 54, 55, 55, 55, 56, 55, 57, 56, 48, 56, 49, 56, 50, 56, 51, 56, 52, 56, 53, 56, 54, 56, 55, 56, 56, 56, 57, 57, 48, 57, 49, 57, 50, 57, 51, 57, 52, 57, 53, 57, 54, 57, 55, 57, 56, 57, 57]⟩)) (.t 130), none, (some []), []⟩, ⟨(some 132), .mv (.t 14), none, (some []), []⟩, ⟨(some 133), .ixs (.v (.str ⟨#[48, 48, 48, 49, 48, 50, 48, 51, 48, 52, 48, 53, 48, 54, 48, 55, 48, 56, 48, 57, 49, 48, 49, 49, 49, 50, 49, 51, 49, 52, 49, 53, 49, 54, 49, 55, 49, 56, 49, 57, 50, 48, 50, 49, 50, 50, 50, 51, 50, 52, 50, 53, 50, 54, 50, 55, 50, 56, 50, 57, 51, 48, 51, 49, 51, 50, 51, 51, 51, 52, 51, 53, 51, 54, 51, 55, 51, 56, 51, 57, 52, 48, 52, 49, 52, 50, 52, 51, 52, 52, 52, 53, 52, 54, 52, 55, 52, 56, 52, 57, 53, 48, 53, 49, 53, 50, 53, 51, 53, 52, 53, 53, 53, 54, 53, 55, 53, 56, 53, 57, 54, 48, 54, 49, 54, 50, 54, 51, 54, 52, 54, 53, 54, 54, 54, 55, 54, 56, 54, 57, 55, 48, 55, 49, 55, 50, 55, 51, 55, 52, 55, 53, 55, 54, 55, 55, 55, 56, 55, 57, 56, 48, 56, 49, 56, 50, 56, 51, 56, 52, 56, 53, 56, 54, 56, 55, 56, 56, 56, 57, 57, 48, 57, 49, 57, 50, 57, 51, 57, 52, 57, 53, 57, 54, 57, 55, 57, 56, 57, 57]⟩)) (.t 132), none, (some []), []⟩, ⟨(some 134), .iaddr 1 (.t 123) (.t 125), none, (some []), []⟩, ⟨none, .store 1 (.t 134) (.t 131), none, none, []⟩, ⟨(some 135), .iaddr 1 (.t 126) (.t 128), none, (some []), []⟩, ⟨none, .store 1 (.t 135) (.t 133), none, none, []⟩])
  (.reg [⟨(some 136), .mv (.t 4), none, none, []⟩, ⟨(some 137), .bin .sub (.t 136) (.v (.int .i64 4)), none, none, []⟩, ⟨(some 4), .mv (.t 137), none, none, []⟩])))))) .skip))
  (.seq (.seq (.reg [⟨(some 138), .mv (.t 4), none, none, []⟩, ⟨(some 139), .bin .geq (.t 138) (.v (.int .i64 2)), none, none, []⟩])
  (.cond (.t 139) (.seq (.reg [⟨(some 140), .mv (.t 12), none, none, []⟩, ⟨(some 141), .bin .rem (.t 140) (.v (.int .u32 100)), none, none, []⟩, ⟨(some 142), .bin .mul (.t 141) (.v (.int .u32 2)), none, none, []⟩, ⟨(some 16), .mv (.t 142), none, none, []⟩])
  (.seq (.reg [⟨(some 143), .mv (.t 12), none, none, []⟩, ⟨(some 144), .bin .quo (.t 143) (.v (.int .u32 100)), none, none, []⟩, ⟨(some 12), .mv (.t 144), none, none, []⟩])
  (.seq (.regd [⟨(some 145), .mv (.t 0), none, (some []), []⟩, ⟨(some 146), .mv (.t 4), none, (some []), []⟩, ⟨(some 147), .bin .sub (.t 146) (.v (.int .i64 1)), none, (some []), []⟩, ⟨(some 148), .mv (.t 0), none, (some []), []⟩, ⟨(some 149), .mv (.t 4), none, (some []), []⟩, ⟨(some 150), .bin .sub (.t 149) (.v (.int .i64 2)), none, (some []), []⟩, ⟨(some 151), .mv (.t 16), none, (some []), []⟩, ⟨(some 152), .bin .add (.t 151) (.v (.int .u32 1)), none, (some []), []⟩, ⟨(some 153), .ixs (.v (.str ⟨#[48, 48, 48, 49, 48, 50, 48, 51, 48, 52, 48, 53, 48, 54, 48, 55, 48, 56, 48, 57, 49, 48, 49, 49, 49, 50, 49, 51, 49, 52, 49, 53, 49, 54, 49, 55, 49, 56, 49, 57, 50, 48, 50, 49, 50, 50, 50, 51, 50, 52, 50, 53, 50, 54, 50, 55, 50, 56, 50, 57, 51, 48, 51, 49, 51, 50, 51, 51, 51, 52, 51, 53, 51, 54, 51, 55, 51, 56, 51, 57, 52, 48, 52, 49, 52, 50, 52, 51, 52, 52, 52, 53, 52, 54, 52, 55, 52, 56, 52, 57, 53, 48, 53, 49, 53, 50, 53, 51, 53, 52, 53, 53, 53, 54, 53, 55, 53, 56, 53, 57, 54, 48, 54, 49, 54, 50, 54, 51, 54, 52, 54, 53, 54, 54, 54, 55, 54, 56, 54, 57, 55, 48, 55, 49, 55, 50, 55, 51, 55, 52, 55, 53, 55, 54, 55, 55, 55, 56, 55, 57, 56, 48, 56, 49, 56, 50, 56, 51, 56, 52, 56, 53, 56, 54, 56, 55, 56, 56, 56, 57, 57, 48, 57, 49, 57, 50, 57, 51, 57, 52, 57, 53, 57, 54, 57, 55, 57, 56, 57, 57]⟩)) (.t 152), none, (some []), []⟩, ⟨(some 154), .mv (.t 16), none, (some []), []⟩, ⟨(some 155), .ixs (.v (.str ⟨#[48, 48, 48, 49, 48, 50, 48, 51, 48, 52, 48, 53, 48, 54, 48, 55, 48, 56, 48, 57, 49, 48, 49, 49, 49, 50, 49, 51, 49, 52, 49, 53, 49, 54, 49, 55, 49, 56, 49, 57, 50, 48, 50, 49, 50, 50, 50, 51, 50, 52, 50, 53, 50, 54, 50, 55, 50, 56, 50, 57, 51, 48, 51, 49, 51, 50, 51, 51, 51, 52, 51, 53, 51, 54, 51, 55, 51, 56, 51, 57, 52, 48, 52, 49, 52, 50, 52, 51, 52, 52, 52, 53, 52, 54, 52, 55, 52, 56, 52, 57, 53, 48, 53, 49, 53, 50, 53, 51, 53, 52, 53, 53, 53, 54, 53, 55, 53, 56, 53, 57, 54, 48, 54, 49, 54, 50, 54, 51, 54, 52, 54, 53, 54, 54, 54, 55, 54, 56, 54, 57, 55, 48, 55, 49, 55, 50, 55, 51, 55, 52, 55, 53, 55, 54, 55, 55, 55, 56, 55, 57, 56, 48, 56, 49, 56, 50, 56, 51, 56, 52, 56, 53, 56, 54, 56, 55, 56, 56, 56, 57, 57, 48, 57, 49, 57, 50, 57, 51, 57, 52, 57, 53, 57, 54, 57, 55, 57, 56, 57, 57]⟩)) (.t 154), none, (some []), []⟩, ⟨(some 156), .iaddr 1 (.t 145) (.t 147), none, (some []), []⟩, ⟨none, .store 1 (.t 156) (.t 153), none, none, []⟩, ⟨(some 157), .iaddr 1 (.t 148) (.t 150), none, (some []), []⟩, ⟨none, .store 1 (.t 157) (.t 155), none, none, []⟩])
  (.reg [⟨(some 158), .mv (.t 4), none, none, []⟩, ⟨(some 159), .bin .sub (.t 158) (.v (.int .i64 2)), none, none, []⟩, ⟨(some 4), .mv (.t 159), none, none, []⟩])))) .skip))
  (.seq (.reg [⟨(some 160), .mv (.t 4), none, none, []⟩, ⟨(some 161), .bin .gtr (.t 160) (.v (.int .i64 0)), none, none, []⟩])
  (.cond (.t 161) (.reg [⟨(some 162), .mv (.t 0), none, none, []⟩, ⟨(some 163), .mv (.t 12), none, none, []⟩, ⟨(some 164), .bin .add (.v (.int .u32 48)) (.t 163), none, none, []⟩, ⟨(some 165), .conv .u8 (.t 164), none, none, []⟩, ⟨(some 166), .iaddr 1 (.t 162) (.v (.int .i64 0)), none, none, []⟩, ⟨none, .store 1 (.t 166) (.t 165), none, none, []⟩]) .skip)))))))⟩
/-- internal/strconv.formatBits -/
def s78 : SFn :=
 ⟨102, [.tmp 10, .tmp 11],
  (.seq (.reg [⟨(some 10), .mv (.v .nils), none, none, []⟩, ⟨(some 11), .mv (.v (.str ⟨#[]⟩)), none, none, []⟩])
  (.seq (.seq (.reg [⟨(some 19), .mv (.t 2), none, none, []⟩, ⟨(some 20), .bin .lss (.t 19) (.v (.int .i64 2)), none, none, []⟩, ⟨(some 21), .mv (.t 20), none, none, []⟩, ⟨(some 22), .mv (.t 2), (some (21, false)), none, []⟩, ⟨(some 23), .bin .eql (.t 22) (.v (.int .i64 10)), (some (21, false)), none, []⟩, ⟨(some 24), .pick (.t 21) (.v (.bool true)) (.t 23), none, none, []⟩, ⟨(some 25), .mv (.t 24), none, none, []⟩, ⟨(some 26), .mv (.t 2), (some (25, false)), none, []⟩, ⟨(some 27), .bin .gtr (.t 26) (.v (.int .i64 36)), (some (25, false)), none, []⟩, ⟨(some 28), .pick (.t 25) (.v (.bool true)) (.t 27), none, none, []⟩])
  (.cond (.t 28) (.reg [⟨(some 29), .bad, none, none, []⟩, ⟨none, .bad, none, none, []⟩]) .skip))
  (.seq (.reg [⟨(some 12), .box 107 (.v (.agg (List.replicate 65 (.int .u8 0)))), none, none, []⟩])
  (.seq (.reg [⟨(some 13), .mv (.v (.int .i64 65)), none, none, []⟩])
  (.seq (.seq (.reg [⟨(some 30), .mv (.t 3), none, none, []⟩])
  (.cond (.t 30) (.reg [⟨(some 31), .mv (.t 1), none, none, []⟩, ⟨(some 32), .un .neg (.t 31), none, none, []⟩, ⟨(some 1), .mv (.t 32), none, none, []⟩]) .skip))
  (.seq (.seq (.reg [⟨(some 33), .mv (.t 2), none, none, []⟩, ⟨(some 34), .call 83 [(.t 33)], none, none, []⟩])
  (.cond (.t 34) (.seq (.reg [⟨(some 35), .mv (.t 2), none, none, []⟩, ⟨(some 36), .conv .u64 (.t 35), none, none, []⟩, ⟨(some 37), .call 84 [(.t 36)], none, none, []⟩, ⟨(some 38), .conv .u64 (.t 37), none, none, []⟩, ⟨(some 14), .mv (.t 38), none, none, []⟩])
  (.seq (.reg [⟨(some 39), .mv (.t 2), none, none, []⟩, ⟨(some 40), .conv .u64 (.t 39), none, none, []⟩, ⟨(some 15), .mv (.t 40), none, none, []⟩])
  (.seq (.reg [⟨(some 41), .mv (.t 2), none, none, []⟩, ⟨(some 42), .conv .u64 (.t 41), none, none, []⟩, ⟨(some 43), .bin .sub (.t 42) (.v (.int .u64 1)), none, none, []⟩, ⟨(some 16), .mv (.t 43), none, none, []⟩])
  (.seq (.block 0 (.loop (.seq (.seq (.reg [⟨(some 44), .mv (.t 1), none, none, []⟩, ⟨(some 45), .mv (.t 15), none, none, []⟩, ⟨(some 46), .bin .geq (.t 44) (.t 45), none, none, []⟩])
  (.cond (.t 46) .skip (.exit 0)))
  (.block 1 (.seq (.reg [⟨(some 47), .mv (.t 13), none, none, []⟩, ⟨(some 48), .bin .sub (.t 47) (.v (.int .i64 1)), none, none, []⟩, ⟨(some 13), .mv (.t 48), none, none, []⟩])
  (.seq (.reg [⟨(some 49), .mv (.t 13), none, none, []⟩, ⟨(some 50), .mv (.t 1), none, none, []⟩, ⟨(some 51), .mv (.t 16), none, none, []⟩, ⟨(some 52), .bin .and (.t 50) (.t 51), none, none, []⟩, ⟨(some 53), .ixs (.v (.str ⟨#[48, 49, 50, 51, 52, 53, 54, 55, 56, 57, 97, 98, 99, 100, 101, 102, 103, 104, 105, 106, 107, 108, 109, 110, 111, 112, 113, 114, 115, 116, 117, 118, 119, 120, 121, 122]⟩)) (.t 52), none, none, []⟩, ⟨(some 54), .iarr 65 1 (.t 12) (.t 49), none, none, []⟩, ⟨none, .store 1 (.t 54) (.t 53), none, none, []⟩])
  (.reg [⟨(some 55), .mv (.t 1), none, none, []⟩, ⟨(some 56), .mv (.t 14), none, none, []⟩, ⟨(some 57), .bin .shr (.t 55) (.t 56), none, none, []⟩, ⟨(some 1), .mv (.t 57), none, none, []⟩])))))))
  (.seq (.reg [⟨(some 58), .mv (.t 13), none, none, []⟩, ⟨(some 59), .bin .sub (.t 58) (.v (.int .i64 1)), none, none, []⟩, ⟨(some 13), .mv (.t 59), none, none, []⟩])
  (.reg [⟨(some 60), .mv (.t 13), none, none, []⟩, ⟨(some 61), .mv (.t 1), none, none, []⟩, ⟨(some 62), .ixs (.v (.str ⟨#[48, 49, 50, 51, 52, 53, 54, 55, 56, 57, 97, 98, 99, 100, 101, 102, 103, 104, 105, 106, 107, 108, 109, 110, 111, 112, 113, 114, 115, 116, 117, 118, 119, 120, 121, 122]⟩)) (.t 61), none, none, []⟩, ⟨(some 63), .iarr 65 1 (.t 12) (.t 60), none, none, []⟩, ⟨none, .store 1 (.t 63) (.t 62), none, none, []⟩])))))) (.seq (.reg [⟨(some 64), .mv (.t 2), none, none, []⟩, ⟨(some 65), .conv .u64 (.t 64), none, none, []⟩, ⟨(some 17), .mv (.t 65), none, none, []⟩])
  (.seq (.block 2 (.loop (.seq (.seq (.reg [⟨(some 66), .mv (.t 1), none, none, []⟩, ⟨(some 67), .mv (.t 17), none, none, []⟩, ⟨(some 68), .bin .geq (.t 66) (.t 67), none, none, []⟩])
  (.cond (.t 68) .skip (.exit 2)))
  (.block 3 (.seq (.reg [⟨(some 69), .mv (.t 13), none, none, []⟩, ⟨(some 70), .bin .sub (.t 69) (.v (.int .i64 1)), none, none, []⟩, ⟨(some 13), .mv (.t 70), none, none, []⟩])
  (.seq (.reg [⟨(some 71), .mv (.t 1), none, none, []⟩, ⟨(some 72), .mv (.t 17), none, none, []⟩, ⟨(some 73), .bin .quo (.t 71) (.t 72), none, none, []⟩, ⟨(some 18), .mv (.t 73), none, none, []⟩])
  (.seq (.reg [⟨(some 74), .mv (.t 13), none, none, []⟩, ⟨(some 75), .mv (.t 1), none, none, []⟩, ⟨(some 76), .mv (.t 18), none, none, []⟩, ⟨(some 77), .mv (.t 17), none, none, []⟩, ⟨(some 78), .bin .mul (.t 76) (.t 77), none, none, []⟩, ⟨(some 79), .bin .sub (.t 75) (.t 78), none, none, []⟩, ⟨(some 80), .ixs (.v (.str ⟨#[48, 49, 50, 51, 52, 53, 54, 55, 56, 57, 97, 98, 99, 100, 101, 102, 103, 104, 105, 106, 107, 108, 109, 110, 111, 112, 113, 114, 115, 116, 117, 118, 119, 120, 121, 122]⟩)) (.t 79), none, none, []⟩, ⟨(some 81), .iarr 65 1 (.t 12) (.t 74), none, none, []⟩, ⟨none, .store 1 (.t 81) (.t 80), none, none, []⟩])
  (.reg [⟨(some 82), .mv (.t 18), none, none, []⟩, ⟨(some 1), .mv (.t 82), none, none, []⟩]))))))))
  (.seq (.reg [⟨(some 83), .mv (.t 13), none, none, []⟩, ⟨(some 84), .bin .sub (.t 83) (.v (.int .i64 1)), none, none, []⟩, ⟨(some 13), .mv (.t 84), none, none, []⟩])
  (.reg [⟨(some 85), .mv (.t 13), none, none, []⟩, ⟨(some 86), .mv (.t 1), none, none, []⟩, ⟨(some 87), .ixs (.v (.str ⟨#[48, 49, 50, 51, 52, 53, 54, 55, 56, 57, 97, 98, 99, 100, 101, 102, 103, 104, 105, 106, 107, 108, 109, 110, 111, 112, 113, 114, 115, 116, 117, 118, 119, 120, 121, 122]⟩)) (.t 86), none, none, []⟩, ⟨(some 88), .iarr 65 1 (.t 12) (.t 85), none, none, []⟩, ⟨none, .store 1 (.t 88) (.t 87), none, none, []⟩]))))))
  (.seq (.seq (.reg [⟨(some 89), .mv (.t 3), none, none, []⟩])
  (.cond (.t 89) (.seq (.reg [⟨(some 90), .mv (.t 13), none, none, []⟩, ⟨(some 91), .bin .sub (.t 90) (.v (.int .i64 1)), none, none, []⟩, ⟨(some 13), .mv (.t 91), none, none, []⟩])
  (.reg [⟨(some 92), .mv (.t 13), none, none, []⟩, ⟨(some 93), .iarr 65 1 (.t 12) (.t 92), none, none, []⟩, ⟨none, .store 1 (.t 93) (.v (.int .u8 45)), none, none, []⟩])) .skip))
  (.seq (.seq (.reg [⟨(some 94), .mv (.t 4), none, none, []⟩])
  (.cond (.t 94) (.seq (.reg [⟨(some 95), .mv (.t 0), none, none, []⟩, ⟨(some 96), .mv (.t 13), none, none, []⟩, ⟨(some 97), .slarr 65 1 (.t 12) (some (.t 96)) none none, none, none, []⟩, ⟨(some 98), .app 5 1 (.t 95) (.t 97), none, none, []⟩, ⟨(some 10), .mv (.t 98), none, none, []⟩])
  .ret) .skip))
  (.seq (.reg [⟨(some 99), .mv (.t 13), none, none, []⟩, ⟨(some 100), .slarr 65 1 (.t 12) (some (.t 99)) none none, none, none, []⟩, ⟨(some 101), .b2s (.t 100), none, none, []⟩, ⟨(some 11), .mv (.t 101), none, none, []⟩])
  .ret)))))))))⟩
/-- math/bits.Div64 -/
def s79 : SFn :=
 ⟨135, [.tmp 6, .tmp 7],
  (.seq (.reg [⟨(some 6), .mv (.v (.int .u64 0)), none, none, []⟩, ⟨(some 7), .mv (.v (.int .u64 0)), none, none, []⟩])
  (.seq (.seq (.reg [⟨(some 19), .mv (.t 2), none, none, []⟩, ⟨(some 20), .bin .eql (.t 19) (.v (.int .u64 0)), none, none, []⟩])
  (.cond (.t 20) (.reg [⟨(some 21), .bad, none, none, []⟩, ⟨none, .bad, none, none, []⟩]) .skip))
  (.seq (.seq (.reg [⟨(some 22), .mv (.t 2), none, none, []⟩, ⟨(some 23), .mv (.t 0), none, none, []⟩, ⟨(some 24), .bin .leq (.t 22) (.t 23), none, none, []⟩])
  (.cond (.t 24) (.reg [⟨(some 25), .bad, none, none, []⟩, ⟨none, .bad, none, none, []⟩]) .skip))
  (.seq (.seq (.reg [⟨(some 26), .mv (.t 0), none, none, []⟩, ⟨(some 27), .bin .eql (.t 26) (.v (.int .u64 0)), none, none, []⟩])
  (.cond (.t 27) (.seq (.regd [⟨(some 28), .mv (.t 1), none, (some []), []⟩, ⟨(some 29), .mv (.t 2), none, (some []), []⟩, ⟨(some 30), .bin .quo (.t 28) (.t 29), none, (some []), []⟩, ⟨(some 31), .mv (.t 1), none, (some []), []⟩, ⟨(some 32), .mv (.t 2), none, (some []), []⟩, ⟨(some 33), .bin .rem (.t 31) (.t 32), none, (some []), []⟩, ⟨(some 6), .mv (.t 30), none, (some []), []⟩, ⟨(some 7), .mv (.t 33), none, (some []), []⟩])
  .ret) .skip))
  (.seq (.reg [⟨(some 34), .mv (.t 2), none, none, []⟩, ⟨(some 35), .call 85 [(.t 34)], none, none, []⟩, ⟨(some 36), .conv .u64 (.t 35), none, none, []⟩, ⟨(some 8), .mv (.t 36), none, none, []⟩])
  (.seq (.reg [⟨(some 37), .mv (.t 2), none, none, []⟩, ⟨(some 38), .mv (.t 8), none, none, []⟩, ⟨(some 39), .bin .shl (.t 37) (.t 38), none, none, []⟩, ⟨(some 2), .mv (.t 39), none, none, []⟩])
  (.seq (.reg [⟨(some 40), .mv (.t 2), none, none, []⟩, ⟨(some 41), .bin .shr (.t 40) (.v (.int .u64 32)), none, none, []⟩, ⟨(some 9), .mv (.t 41), none, none, []⟩])
  (.seq (.reg [⟨(some 42), .mv (.t 2), none, none, []⟩, ⟨(some 43), .bin .and (.t 42) (.v (.int .u64 4294967295)), none, none, []⟩, ⟨(some 10), .mv (.t 43), none, none, []⟩])
  (.seq (.reg [⟨(some 44), .mv (.t 0), none, none, []⟩, ⟨(some 45), .mv (.t 8), none, none, []⟩, ⟨(some 46), .bin .shl (.t 44) (.t 45), none, none, []⟩, ⟨(some 47), .mv (.t 1), none, none, []⟩, ⟨(some 48), .mv (.t 8), none, none, []⟩, ⟨(some 49), .bin .sub (.v (.int .u64 64)) (.t 48), none, none, []⟩, ⟨(some 50), .bin .shr (.t 47) (.t 49), none, none, []⟩, ⟨(some 51), .bin .or (.t 46) (.t 50), none, none, []⟩, ⟨(some 11), .mv (.t 51), none, none, []⟩])
  (.seq (.reg [⟨(some 52), .mv (.t 1), none, none, []⟩, ⟨(some 53), .mv (.t 8), none, none, []⟩, ⟨(some 54), .bin .shl (.t 52) (.t 53), none, none, []⟩, ⟨(some 12), .mv (.t 54), none, none, []⟩])
  (.seq (.reg [⟨(some 55), .mv (.t 12), none, none, []⟩, ⟨(some 56), .bin .shr (.t 55) (.v (.int .u64 32)), none, none, []⟩, ⟨(some 13), .mv (.t 56), none, none, []⟩])
  (.seq (.reg [⟨(some 57), .mv (.t 12), none, none, []⟩, ⟨(some 58), .bin .and (.t 57) (.v (.int .u64 4294967295)), none, none, []⟩, ⟨(some 14), .mv (.t 58), none, none, []⟩])
  (.seq (.reg [⟨(some 59), .mv (.t 11), none, none, []⟩, ⟨(some 60), .mv (.t 9), none, none, []⟩, ⟨(some 61), .bin .quo (.t 59) (.t 60), none, none, []⟩, ⟨(some 15), .mv (.t 61), none, none, []⟩])
  (.seq (.reg [⟨(some 62), .mv (.t 11), none, none, []⟩, ⟨(some 63), .mv (.t 15), none, none, []⟩, ⟨(some 64), .mv (.t 9), none, none, []⟩, ⟨(some 65), .bin .mul (.t 63) (.t 64), none, none, []⟩, ⟨(some 66), .bin .sub (.t 62) (.t 65), none, none, []⟩, ⟨(some 16), .mv (.t 66), none, none, []⟩])
  (.seq (.block 0 (.loop (.seq (.seq (.reg [⟨(some 67), .mv (.t 15), none, none, []⟩, ⟨(some 68), .bin .geq (.t 67) (.v (.int .u64 4294967296)), none, none, []⟩, ⟨(some 69), .mv (.t 68), none, none, []⟩, ⟨(some 70), .mv (.t 15), (some (69, false)), none, []⟩, ⟨(some 71), .mv (.t 10), (some (69, false)), none, []⟩, ⟨(some 72), .bin .mul (.t 70) (.t 71), (some (69, false)), none, []⟩, ⟨(some 73), .mv (.t 16), (some (69, false)), none, []⟩, ⟨(some 74), .bin .mul (.v (.int .u64 4294967296)) (.t 73), (some (69, false)), none, []⟩, ⟨(some 75), .mv (.t 13), (some (69, false)), none, []⟩, ⟨(some 76), .bin .add (.t 74) (.t 75), (some (69, false)), none, []⟩, ⟨(some 77), .bin .gtr (.t 72) (.t 76), (some (69, false)), none, []⟩, ⟨(some 78), .pick (.t 69) (.v (.bool true)) (.t 77), none, none, []⟩])
  (.cond (.t 78) .skip (.exit 0)))
  (.block 1 (.seq (.reg [⟨(some 79), .mv (.t 15), none, none, []⟩, ⟨(some 80), .bin .sub (.t 79) (.v (.int .u64 1)), none, none, []⟩, ⟨(some 15), .mv (.t 80), none, none, []⟩])
  (.seq (.reg [⟨(some 81), .mv (.t 16), none, none, []⟩, ⟨(some 82), .mv (.t 9), none, none, []⟩, ⟨(some 83), .bin .add (.t 81) (.t 82), none, none, []⟩, ⟨(some 16), .mv (.t 83), none, none, []⟩])
  (.seq (.reg [⟨(some 84), .mv (.t 16), none, none, []⟩, ⟨(some 85), .bin .geq (.t 84) (.v (.int .u64 4294967296)), none, none, []⟩])
  (.cond (.t 85) (.exit 0) .skip))))))))
  (.seq (.reg [⟨(some 86), .mv (.t 11), none, none, []⟩, ⟨(some 87), .bin .mul (.t 86) (.v (.int .u64 4294967296)), none, none, []⟩, ⟨(some 88), .mv (.t 13), none, none, []⟩, ⟨(some 89), .bin .add (.t 87) (.t 88), none, none, []⟩, ⟨(some 90), .mv (.t 15), none, none, []⟩, ⟨(some 91), .mv (.t 2), none, none, []⟩, ⟨(some 92), .bin .mul (.t 90) (.t 91), none, none, []⟩, ⟨(some 93), .bin .sub (.t 89) (.t 92), none, none, []⟩, ⟨(some 17), .mv (.t 93), none, none, []⟩])
  (.seq (.reg [⟨(some 94), .mv (.t 17), none, none, []⟩, ⟨(some 95), .mv (.t 9), none, none, []⟩, ⟨(some 96), .bin .quo (.t 94) (.t 95), none, none, []⟩, ⟨(some 18), .mv (.t 96), none, none, []⟩])
  (.seq (.reg [⟨(some 97), .mv (.t 17), none, none, []⟩, ⟨(some 98), .mv (.t 18), none, none, []⟩, ⟨(some 99), .mv (.t 9), none, none, []⟩, ⟨(some 100), .bin .mul (.t 98) (.t 99), none, none, []⟩, ⟨(some 101), .bin .sub (.t 97) (.t 100), none, none, []⟩, ⟨(some 16), .mv (.t 101), none, none, []⟩])
  (.seq (.block 2 (.loop (.seq (.seq (.reg [⟨(some 102), .mv (.t 18), none, none, []⟩, ⟨(some 103), .bin .geq (.t 102) (.v (.int .u64 4294967296)), none, none, []⟩, ⟨(some 104), .mv (.t 103), none, none, []⟩, ⟨(some 105), .mv (.t 18), (some (104, false)), none, []⟩, ⟨(some 106), .mv (.t 10), (some (104, false)), none, []⟩, ⟨(some 107), .bin .mul (.t 105) (.t 106), (some (104, false)), none, []⟩, ⟨(some 108), .mv (.t 16), (some (104, false)), none, []⟩, ⟨(some 109), .bin .mul (.v (.int .u64 4294967296)) (.t 108), (some (104, false)), none, []⟩, ⟨(some 110), .mv (.t 14), (some (104, false)), none, []⟩, ⟨(some 111), .bin .add (.t 109) (.t 110), (some (104, false)), none, []⟩, ⟨(some 112), .bin .gtr (.t 107) (.t 111), (some (104, false)), none, []⟩, ⟨(some 113), .pick (.t 104) (.v (.bool true)) (.t 112), none, none, []⟩])
  (.cond (.t 113) .skip (.exit 2)))
  (.block 3 (.seq (.reg [⟨(some 114), .mv (.t 18), none, none, []⟩, ⟨(some 115), .bin .sub (.t 114) (.v (.int .u64 1)), none, none, []⟩, ⟨(some 18), .mv (.t 115), none, none, []⟩])
  (.seq (.reg [⟨(some 116), .mv (.t 16), none, none, []⟩, ⟨(some 117), .mv (.t 9), none, none, []⟩, ⟨(some 118), .bin .add (.t 116) (.t 117), none, none, []⟩, ⟨(some 16), .mv (.t 118), none, none, []⟩])
  (.seq (.reg [⟨(some 119), .mv (.t 16), none, none, []⟩, ⟨(some 120), .bin .geq (.t 119) (.v (.int .u64 4294967296)), none, none, []⟩])
  (.cond (.t 120) (.exit 2) .skip))))))))
  (.seq (.reg [⟨(some 121), .mv (.t 15), none, none, []⟩, ⟨(some 122), .bin .mul (.t 121) (.v (.int .u64 4294967296)), none, none, []⟩, ⟨(some 123), .mv (.t 18), none, none, []⟩, ⟨(some 124), .bin .add (.t 122) (.t 123), none, none, []⟩, ⟨(some 125), .mv (.t 17), none, none, []⟩, ⟨(some 126), .bin .mul (.t 125) (.v (.int .u64 4294967296)), none, none, []⟩, ⟨(some 127), .mv (.t 14), none, none, []⟩, ⟨(some 128), .bin .add (.t 126) (.t 127), none, none, []⟩, ⟨(some 129), .mv (.t 18), none, none, []⟩, ⟨(some 130), .mv (.t 2), none, none, []⟩, ⟨(some 131), .bin .mul (.t 129) (.t 130), none, none, []⟩, ⟨(some 132), .bin .sub (.t 128) (.t 131), none, none, []⟩, ⟨(some 133), .mv (.t 8), none, none, []⟩, ⟨(some 134), .bin .shr (.t 132) (.t 133), none, none, []⟩, ⟨(some 6), .mv (.t 124), none, none, []⟩, ⟨(some 7), .mv (.t 134), none, none, []⟩])
  .ret))))))))))))))))))))⟩
/-- math/bits.Len64 -/
def s80 : SFn :=
 ⟨25, [.tmp 2],
  (.seq (.reg [⟨(some 2), .mv (.v (.int .i64 0)), none, none, []⟩])
  (.seq (.seq (.reg [⟨(some 3), .mv (.t 0), none, none, []⟩, ⟨(some 4), .bin .geq (.t 3) (.v (.int .u64 4294967296)), none, none, []⟩])
  (.cond (.t 4) (.seq (.reg [⟨(some 5), .mv (.t 0), none, none, []⟩, ⟨(some 6), .bin .shr (.t 5) (.v (.int .u64 32)), none, none, []⟩, ⟨(some 0), .mv (.t 6), none, none, []⟩])
  (.reg [⟨(some 2), .mv (.v (.int .i64 32)), none, none, []⟩])) .skip))
  (.seq (.seq (.reg [⟨(some 7), .mv (.t 0), none, none, []⟩, ⟨(some 8), .bin .geq (.t 7) (.v (.int .u64 65536)), none, none, []⟩])
  (.cond (.t 8) (.seq (.reg [⟨(some 9), .mv (.t 0), none, none, []⟩, ⟨(some 10), .bin .shr (.t 9) (.v (.int .u64 16)), none, none, []⟩, ⟨(some 0), .mv (.t 10), none, none, []⟩])
  (.reg [⟨(some 11), .mv (.t 2), none, none, []⟩, ⟨(some 12), .bin .add (.t 11) (.v (.int .i64 16)), none, none, []⟩, ⟨(some 2), .mv (.t 12), none, none, []⟩])) .skip))
  (.seq (.seq (.reg [⟨(some 13), .mv (.t 0), none, none, []⟩, ⟨(some 14), .bin .geq (.t 13) (.v (.int .u64 256)), none, none, []⟩])
  (.cond (.t 14) (.seq (.reg [⟨(some 15), .mv (.t 0), none, none, []⟩, ⟨(some 16), .bin .shr (.t 15) (.v (.int .u64 8)), none, none, []⟩, ⟨(some 0), .mv (.t 16), none, none, []⟩])
  (.reg [⟨(some 17), .mv (.t 2), none, none, []⟩, ⟨(some 18), .bin .add (.t 17) (.v (.int .i64 8)), none, none, []⟩, ⟨(some 2), .mv (.t 18), none, none, []⟩])) .skip))
  (.seq (.reg [⟨(some 19), .mv (.t 2), none, none, []⟩, ⟨(some 20), .mv (.t 0), none, none, []⟩, ⟨(some 21), .conv .u8 (.t 20), none, none, []⟩, ⟨(some 22), .ixs (.v (.str ⟨#[0, 1, 2, 2, 3, 3, 3, 3, 4, 4, 4, 4, 4, 4, 4, 4, 5, 5, 5, 5, 5, 5, 5, 5, 5, 5, 5, 5, 5, 5, 5, 5, 6, 6, 6, 6, 6, 6, 6, 6, 6, 6, 6, 6, 6, 6, 6, 6, 6, 6, 6, 6, 6, 6, 6, 6, 6, 6, 6, 6, 6, 6, 6, 6, 7, 7, 7, 7, 7, 7, 7, 7, 7, 7, 7, 7, 7, 7, 7, 7, 7, 7, 7, 7, 7, 7, 7, 7, 7, 7, 7, 7, 7, 7, 7, 7, 7, 7, 7, 7, 7, 7, 7, 7, 7, 7, 7, 7, 7, 7, 7, 7, 7, 7, 7, 7, 7, 7, 7, 7, 7, 7, 7, 7, 7, 7, 7, 7, 8, 8, 8, 8, 8, 8, 8, 8, 8, 8, 8, 8, 8, 8, 8, 8, 8, 8, 8, 8, 8, 8, 8, 8, 8, 8, 8, 8, 8, 8, 8, 8, 8, 8, 8, 8, 8, 8, 8, 8, 8, 8, 8, 8, 8, 8, 8, 8, 8, 8, 8, 8, 8, 8, 8, 8, 8, 8, 8, 8, 8, 8, 8, 8, 8, 8, 8, 8, 8, 8, 8, 8, 8, 8, 8, 8, 8, 8, 8, 8, 8, 8, 8, 8, 8, 8, 8, 8, 8, 8, 8, 8, 8, 8, 8, 8, 8, 8, 8, 8, 8, 8, 8, 8, 8, 8, 8, 8, 8, 8, 8, 8, 8, 8, 8, 8, 8, 8, 8, 8, 8, 8, 8, 8, 8, 8, 8, 8]⟩)) (.t 21), none, none, []⟩, ⟨(some 23), .conv .i64 (.t 22), none, none, []⟩, ⟨(some 24), .bin .add (.t 19) (.t 23), none, none, []⟩, ⟨(some 2), .mv (.t 24), none, none, []⟩])
  .ret)))))⟩
/-- internal/strconv.log10Pow2 -/
def s81 : SFn :=
 ⟨6, [.tmp 2],
  (.seq (.reg [⟨(some 2), .mv (.v (.int .i64 0)), none, none, []⟩])
  (.seq (.reg [⟨(some 3), .mv (.t 0), none, none, []⟩, ⟨(some 4), .bin .mul (.t 3) (.v (.int .i64 78913)), none, none, []⟩, ⟨(some 5), .bin .shr (.t 4) (.v (.int .u64 18)), none, none, []⟩, ⟨(some 2), .mv (.t 5), none, none, []⟩])
  .ret))⟩
/-- internal/strconv.bool2[int] -/
def s82 : SFn :=
 ⟨4, [.tmp 2],
  (.seq (.reg [⟨(some 2), .mv (.v (.int .i64 0)), none, none, []⟩])
  (.seq (.seq (.reg [⟨(some 3), .mv (.t 0), none, none, []⟩])
  (.cond (.t 3) (.seq (.reg [⟨(some 2), .mv (.v (.int .i64 1)), none, none, []⟩])
  .ret) .skip))
  (.seq (.reg [⟨(some 2), .mv (.v (.int .i64 0)), none, none, []⟩])
  .ret)))⟩
/-- internal/strconv.isPowerOfTwo -/
def s83 : SFn :=
 ⟨8, [.tmp 2],
  (.seq (.reg [⟨(some 2), .mv (.v (.bool false)), none, none, []⟩])
  (.seq (.reg [⟨(some 3), .mv (.t 0), none, none, []⟩, ⟨(some 4), .mv (.t 0), none, none, []⟩, ⟨(some 5), .bin .sub (.t 4) (.v (.int .i64 1)), none, none, []⟩, ⟨(some 6), .bin .and (.t 3) (.t 5), none, none, []⟩, ⟨(some 7), .bin .eql (.t 6) (.v (.int .i64 0)), none, none, []⟩, ⟨(some 2), .mv (.t 7), none, none, []⟩])
  .ret))⟩
/-- math/bits.TrailingZeros -/
def s84 : SFn :=
 ⟨8, [.tmp 2],
  (.seq (.reg [⟨(some 2), .mv (.v (.int .i64 0)), none, none, []⟩])
  (.seq (.cond (.v (.bool false)) (.seq (.reg [⟨(some 3), .mv (.t 0), none, none, []⟩, ⟨(some 4), .conv .u32 (.t 3), none, none, []⟩, ⟨(some 5), .call 86 [(.t 4)], none, none, []⟩, ⟨(some 2), .mv (.t 5), none, none, []⟩])
  .ret) .skip)
  (.seq (.reg [⟨(some 6), .mv (.t 0), none, none, []⟩, ⟨(some 7), .call 66 [(.t 6)], none, none, []⟩, ⟨(some 2), .mv (.t 7), none, none, []⟩])
  .ret)))⟩
/-- math/bits.LeadingZeros64 -/
def s85 : SFn :=
 ⟨6, [.tmp 2],
  (.seq (.reg [⟨(some 2), .mv (.v (.int .i64 0)), none, none, []⟩])
  (.seq (.reg [⟨(some 3), .mv (.t 0), none, none, []⟩, ⟨(some 4), .call 80 [(.t 3)], none, none, []⟩, ⟨(some 5), .bin .sub (.v (.int .i64 64)) (.t 4), none, none, []⟩, ⟨(some 2), .mv (.t 5), none, none, []⟩])
  .ret))⟩
/-- math/bits.TrailingZeros32 -/
def s86 : SFn :=
 ⟨14, [.tmp 2],
  (.seq (.reg [⟨(some 2), .mv (.v (.int .i64 0)), none, none, []⟩])
  (.seq (.seq (.reg [⟨(some 3), .mv (.t 0), none, none, []⟩, ⟨(some 4), .bin .eql (.t 3) (.v (.int .u32 0)), none, none, []⟩])
  (.cond (.t 4) (.seq (.reg [⟨(some 2), .mv (.v (.int .i64 32)), none, none, []⟩])
  .ret) .skip))
  (.seq (.reg [⟨(some 5), .mv (.t 0), none, none, []⟩, ⟨(some 6), .mv (.t 0), none, none, []⟩, ⟨(some 7), .un .neg (.t 6), none, none, []⟩, ⟨(some 8), .bin .and (.t 5) (.t 7), none, none, []⟩, ⟨(some 9), .bin .mul (.t 8) (.v (.int .u32 125613361)), none, none, []⟩, ⟨(some 10), .bin .shr (.t 9) (.v (.int .u64 27)), none, none, []⟩, ⟨(some 11), .iarr 32 1 (.v (.pv [(.int .u8 0), (.int .u8 1), (.int .u8 28), (.int .u8 2), (.int .u8 29), (.int .u8 14), (.int .u8 24), (.int .u8 3), (.int .u8 30), (.int .u8 22), (.int .u8 20), (.int .u8 15), (.int .u8 25), (.int .u8 17), (.int .u8 4), (.int .u8 8), (.int .u8 31), (.int .u8 27), (.int .u8 13), (.int .u8 23), (.int .u8 21), (.int .u8 19), (.int .u8 16), (.int .u8 7), (.int .u8 26), (.int .u8 12), (.int .u8 18), (.int .u8 6), (.int .u8 11), (.int .u8 5), (.int .u8 10), (.int .u8 9)])) (.t 10), none, none, []⟩, ⟨(some 12), .load none (.t 11), none, none, []⟩, ⟨(some 13), .conv .i64 (.t 12), none, none, []⟩, ⟨(some 2), .mv (.t 13), none, none, []⟩])
  .ret)))⟩
def E : Nat → Option SFn
  | 3 => some s3
  | 4 => some s4
  | 5 => some s5
  | 6 => some s6
  | 7 => some s7
  | 8 => some s8
  | 9 => some s9
  | 10 => some s10
  | 11 => some s11
  | 12 => some s12
  | 13 => some s13
  | 14 => some s14
  | 15 => some s15
  | 16 => some s16
  | 17 => some s17
  | 18 => some s18
  | 19 => some s19
  | 20 => some s20
  | 21 => some s21
  | 22 => some s22
  | 23 => some s23
  | 24 => some s24
  | 25 => some s25
  | 26 => some s26
  | 27 => some s27
  | 28 => some s28
  | 29 => some s29
  | 30 => some s30
  | 31 => some s31
  | 32 => some s32
  | 33 => some s33
  | 34 => some s34
  | 35 => some s35
  | 36 => some s36
  | 37 => some s37
  | 38 => some s38
  | 39 => some s39
  | 40 => some s40
  | 41 => some s41
  | 42 => some s42
  | 43 => some s43
  | 44 => some s44
  | 45 => some s45
  | 46 => some s46
  | 47 => some s47
  | 48 => some s48
  | 49 => some s49
  | 50 => some s50
  | 51 => some s51
  | 52 => some s52
  | 53 => some s53
  | 54 => some s54
  | 55 => some s55
  | 56 => some s56
  | 57 => some s57
  | 58 => some s58
  | 59 => some s59
  | 60 => some s60
  | 61 => some s61
  | 62 => some s62
  | 63 => some s63
  | 64 => some s64
  | 65 => some s65
  | 66 => some s66
  | 67 => some s67
  | 68 => some s68
  | 69 => some s69
  | 71 => some s71
  | 72 => some s72
  | 73 => some s73
  | 75 => some s75
  | 76 => some s76
  | 77 => some s77
  | 78 => some s78
  | 79 => some s79
  | 80 => some s80
  | 81 => some s81
  | 82 => some s82
  | 83 => some s83
  | 84 => some s84
  | 85 => some s85
  | 86 => some s86
  | _ => none
def env0 : Env := { E := E, I := fun _ _ _ => none, isI := fun _ => false }
end Go.Proofs.YtdlolhkeckjipaaDoor
