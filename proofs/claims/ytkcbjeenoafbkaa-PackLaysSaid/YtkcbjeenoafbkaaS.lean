/- The slim functions of this seat, and the table of them. -/
import Derived.Test.YtkcbjeenoafbkaaDen2
set_option linter.unusedVariables false
namespace Go.Proofs.Ytkcbjeenoafbkaa
open Go.Den
/-- pochoir/pochoirlaw29.PackLays -/
def s9 : SFn :=
 ⟨67, [.tmp 6],
  (.seq (.reg [⟨(some 4), .box 61 (.t 1), none, none, []⟩, ⟨(some 6), .mv (.v (.bool false)), none, none, []⟩])
  (.seq (.seq (.reg [⟨(some 13), .call 33 [], none, none, []⟩, ⟨(some 14), .un .not (.t 13), none, none, []⟩])
  (.cond (.t 14) (.seq (.reg [⟨(some 6), .mv (.v (.bool false)), none, none, []⟩])
  .ret) .skip))
  (.seq (.seq (.reg [⟨(some 15), .mv (.t 0), none, none, []⟩, ⟨(some 16), .len false (.t 15), none, none, []⟩, ⟨(some 17), .bin .gtr (.t 16) (.v (.int .i64 40)), none, none, []⟩])
  (.cond (.t 17) (.seq (.reg [⟨(some 6), .mv (.v (.bool true)), none, none, []⟩])
  .ret) .skip))
  (.seq (.reg [⟨(some 19), .mv (.t 0), none, none, []⟩, ⟨(some 20), .load (some 2) (.t 4), none, none, []⟩, ⟨(some 21), .mv (.t 2), none, none, []⟩, ⟨(some 22), .call 34 [(.t 19), (.t 20), (.t 21)], none, none, []⟩, ⟨(some 18), .mv (.t 22), none, none, []⟩, ⟨(some 23), .extract (.t 18) 0, none, none, []⟩, ⟨(some 24), .extract (.t 18) 1, none, none, []⟩, ⟨(some 25), .extract (.t 18) 2, none, none, []⟩, ⟨(some 7), .mv (.t 23), none, none, []⟩, ⟨(some 8), .mv (.t 24), none, none, []⟩, ⟨(some 9), .mv (.t 25), none, none, []⟩])
  (.seq (.reg [⟨(some 27), .mv (.t 0), none, none, []⟩, ⟨(some 28), .load (some 2) (.t 4), none, none, []⟩, ⟨(some 29), .mv (.t 2), none, none, []⟩, ⟨(some 30), .call 35 [(.t 27), (.t 28), (.t 29)], none, none, []⟩, ⟨(some 26), .mv (.t 30), none, none, []⟩, ⟨(some 31), .extract (.t 26) 0, none, none, []⟩, ⟨(some 32), .extract (.t 26) 1, none, none, []⟩, ⟨(some 33), .extract (.t 26) 2, none, none, []⟩, ⟨(some 10), .mv (.t 31), none, none, []⟩, ⟨(some 11), .mv (.t 32), none, none, []⟩, ⟨(some 12), .mv (.t 33), none, none, []⟩])
  (.seq (.reg [⟨(some 34), .mv (.t 7), none, none, []⟩, ⟨(some 35), .mv (.t 10), none, none, []⟩, ⟨(some 36), .call 36 [(.t 34), (.t 35)], none, none, []⟩, ⟨(some 37), .mv (.t 36), none, none, []⟩, ⟨(some 38), .mv (.t 8), (some (37, true)), none, []⟩, ⟨(some 39), .mv (.t 11), (some (37, true)), none, []⟩, ⟨(some 40), .bin .eql (.t 38) (.t 39), (some (37, true)), none, []⟩, ⟨(some 41), .pick (.t 37) (.t 40) (.v (.bool false)), none, none, []⟩, ⟨(some 42), .mv (.t 41), none, none, []⟩, ⟨(some 43), .mv (.t 9), (some (42, true)), none, []⟩, ⟨(some 44), .mv (.t 12), (some (42, true)), none, []⟩, ⟨(some 45), .bin .eql (.t 43) (.t 44), (some (42, true)), none, []⟩, ⟨(some 46), .pick (.t 42) (.t 45) (.v (.bool false)), none, none, []⟩, ⟨(some 47), .mv (.t 46), none, none, []⟩, ⟨(some 48), .mv (.t 12), (some (47, true)), none, []⟩, ⟨(some 49), .bin .neq (.t 48) (.v (.int .i64 0)), (some (47, true)), none, []⟩, ⟨(some 50), .mv (.t 49), (some (47, true)), none, []⟩, ⟨(some 51), .mv (.t 0), (some (50, false)), none, []⟩, ⟨(some 52), .load (some 2) (.t 4), (some (50, false)), none, []⟩, ⟨(some 53), .mv (.t 2), (some (50, false)), none, []⟩, ⟨(some 54), .mv (.t 7), (some (50, false)), none, []⟩, ⟨(some 55), .call 37 [(.t 51), (.t 52), (.t 53), (.t 54)], (some (50, false)), none, []⟩, ⟨(some 56), .pick (.t 50) (.v (.bool true)) (.t 55), (some (47, true)), none, []⟩, ⟨(some 57), .pick (.t 47) (.t 56) (.v (.bool false)), none, none, []⟩, ⟨(some 58), .mv (.t 57), none, none, []⟩, ⟨(some 59), .mv (.t 0), (some (58, true)), none, []⟩, ⟨(some 60), .mv (.t 2), (some (58, true)), none, []⟩, ⟨(some 61), .call 38 [(.t 59), (.t 60)], (some (58, true)), none, []⟩, ⟨(some 62), .mv (.t 0), (some (58, true)), none, []⟩, ⟨(some 63), .mv (.t 2), (some (58, true)), none, []⟩, ⟨(some 64), .call 39 [(.t 62), (.t 63)], (some (58, true)), none, []⟩, ⟨(some 65), .bin .eql (.t 61) (.t 64), (some (58, true)), none, []⟩, ⟨(some 66), .pick (.t 58) (.t 65) (.v (.bool false)), none, none, []⟩, ⟨(some 6), .mv (.t 66), none, none, []⟩])
  .ret))))))⟩
/-- pochoir/pochoirlaw29.PackChecks -/
def s10 : SFn :=
 ⟨36, [.tmp 6],
  (.seq (.reg [⟨(some 4), .box 71 (.t 1), none, none, []⟩, ⟨(some 6), .mv (.v (.bool false)), none, none, []⟩])
  (.seq (.seq (.reg [⟨(some 8), .call 33 [], none, none, []⟩, ⟨(some 9), .un .not (.t 8), none, none, []⟩])
  (.cond (.t 9) (.seq (.reg [⟨(some 6), .mv (.v (.bool false)), none, none, []⟩])
  .ret) .skip))
  (.seq (.seq (.reg [⟨(some 10), .mv (.t 0), none, none, []⟩, ⟨(some 11), .len false (.t 10), none, none, []⟩, ⟨(some 12), .bin .gtr (.t 11) (.v (.int .i64 40)), none, none, []⟩, ⟨(some 13), .mv (.t 12), none, none, []⟩, ⟨(some 14), .mv (.t 2), (some (13, false)), none, []⟩, ⟨(some 15), .len false (.t 14), (some (13, false)), none, []⟩, ⟨(some 16), .bin .gtr (.t 15) (.v (.int .i64 50)), (some (13, false)), none, []⟩, ⟨(some 17), .pick (.t 13) (.v (.bool true)) (.t 16), none, none, []⟩])
  (.cond (.t 17) (.seq (.reg [⟨(some 6), .mv (.v (.bool true)), none, none, []⟩])
  .ret) .skip))
  (.seq (.reg [⟨(some 18), .iarr 3 1 (.t 4) (.v (.int .i64 0)), none, none, []⟩, ⟨(some 19), .load none (.t 18), none, none, []⟩, ⟨(some 20), .iarr 3 1 (.t 4) (.v (.int .i64 1)), none, none, []⟩, ⟨(some 21), .load none (.t 20), none, none, []⟩, ⟨(some 22), .build [(.int .i64 0), (.int .i64 0)] [(0, 1, (.t 19)), (1, 1, (.t 21))], none, none, []⟩, ⟨(some 7), .box 61 (.v (.agg [(.int .i64 0), (.int .i64 0)])), none, none, []⟩, ⟨none, .store 2 (.t 7) (.t 22), none, none, []⟩])
  (.seq (.regd [⟨(some 23), .mv (.t 0), none, (some []), []⟩, ⟨(some 24), .load (some 2) (.t 7), none, (some []), []⟩, ⟨(some 25), .iarr 3 1 (.t 4) (.v (.int .i64 2)), none, (some []), []⟩, ⟨(some 26), .load none (.t 25), none, (some []), []⟩, ⟨(some 27), .mv (.t 2), none, (some []), []⟩, ⟨(some 28), .call 37 [(.t 23), (.t 24), (.t 26), (.t 27)], none, none, [(none, (.t 7)), (none, (.t 4))]⟩, ⟨(some 29), .mv (.t 0), none, (some [5]), []⟩, ⟨(some 30), .load (some 2) (.t 7), none, (some [5]), []⟩, ⟨(some 31), .iarr 3 1 (.t 4) (.v (.int .i64 2)), none, (some [5]), []⟩, ⟨(some 32), .load none (.t 31), none, (some [5]), []⟩, ⟨(some 33), .mv (.t 2), none, (some [5]), []⟩, ⟨(some 34), .call 40 [(.t 29), (.t 30), (.t 32), (.t 33)], none, none, []⟩, ⟨(some 35), .eqs 0 [] false (.t 28) (.t 34), none, (some []), []⟩, ⟨(some 6), .mv (.t 35), none, (some []), []⟩])
  .ret)))))⟩
/-- pochoir/pochoirlaw29.PackHeads -/
def s12 : SFn :=
 ⟨70, [.tmp 6],
  (.seq (.reg [⟨(some 4), .box 71 (.t 1), none, none, []⟩, ⟨(some 6), .mv (.v (.bool false)), none, none, []⟩])
  (.seq (.seq (.reg [⟨(some 15), .call 33 [], none, none, []⟩, ⟨(some 16), .un .not (.t 15), none, none, []⟩])
  (.cond (.t 16) (.seq (.reg [⟨(some 6), .mv (.v (.bool false)), none, none, []⟩])
  .ret) .skip))
  (.seq (.seq (.reg [⟨(some 17), .mv (.t 0), none, none, []⟩, ⟨(some 18), .len false (.t 17), none, none, []⟩, ⟨(some 19), .bin .gtr (.t 18) (.v (.int .i64 30)), none, none, []⟩, ⟨(some 20), .mv (.t 19), none, none, []⟩, ⟨(some 21), .mv (.t 0), (some (20, false)), none, []⟩, ⟨(some 22), .len false (.t 21), (some (20, false)), none, []⟩, ⟨(some 23), .bin .eql (.t 22) (.v (.int .i64 0)), (some (20, false)), none, []⟩, ⟨(some 24), .pick (.t 20) (.v (.bool true)) (.t 23), none, none, []⟩])
  (.cond (.t 24) (.seq (.reg [⟨(some 6), .mv (.v (.bool true)), none, none, []⟩])
  .ret) .skip))
  (.seq (.reg [⟨(some 25), .iarr 3 1 (.t 4) (.v (.int .i64 0)), none, none, []⟩, ⟨(some 26), .load none (.t 25), none, none, []⟩, ⟨(some 27), .iarr 3 1 (.t 4) (.v (.int .i64 1)), none, none, []⟩, ⟨(some 28), .load none (.t 27), none, none, []⟩, ⟨(some 29), .build [(.int .i64 0), (.int .i64 0)] [(0, 1, (.t 26)), (1, 1, (.t 28))], none, none, []⟩, ⟨(some 7), .box 61 (.v (.agg [(.int .i64 0), (.int .i64 0)])), none, none, []⟩, ⟨none, .store 2 (.t 7) (.t 29), none, none, []⟩])
  (.seq (.reg [⟨(some 31), .mv (.t 0), none, none, []⟩, ⟨(some 32), .load (some 2) (.t 7), none, none, []⟩, ⟨(some 33), .iarr 3 1 (.t 4) (.v (.int .i64 2)), none, none, []⟩, ⟨(some 34), .load none (.t 33), none, none, []⟩, ⟨(some 35), .call 34 [(.t 31), (.t 32), (.t 34)], none, none, []⟩, ⟨(some 30), .mv (.t 35), none, none, []⟩, ⟨(some 36), .extract (.t 30) 0, none, none, []⟩, ⟨(some 37), .extract (.t 30) 1, none, none, []⟩, ⟨(some 38), .extract (.t 30) 2, none, none, []⟩, ⟨(some 8), .mv (.t 36), none, none, []⟩, ⟨(some 9), .mv (.t 37), none, none, []⟩, ⟨(some 10), .mv (.t 38), none, none, []⟩])
  (.seq (.reg [⟨(some 39), .mv (.t 2), none, none, []⟩, ⟨(some 40), .conv .i64 (.t 39), none, none, []⟩, ⟨(some 41), .mv (.t 0), none, none, []⟩, ⟨(some 42), .len false (.t 41), none, none, []⟩, ⟨(some 43), .bin .add (.t 42) (.v (.int .i64 1)), none, none, []⟩, ⟨(some 44), .bin .rem (.t 40) (.t 43), none, none, []⟩, ⟨(some 11), .mv (.t 44), none, none, []⟩])
  (.seq (.regd [⟨(some 46), .mv (.t 0), none, (some []), []⟩, ⟨(some 47), .mv (.t 11), none, (some []), []⟩, ⟨(some 48), .slc 2 (.t 46) none (some (.t 47)) none, none, (some []), []⟩, ⟨(some 49), .load (some 2) (.t 7), none, (some []), []⟩, ⟨(some 50), .iarr 3 1 (.t 4) (.v (.int .i64 2)), none, (some []), []⟩, ⟨(some 51), .load none (.t 50), none, (some []), []⟩, ⟨(some 52), .call 34 [(.t 48), (.t 49), (.t 51)], none, none, []⟩, ⟨(some 45), .mv (.t 52), none, (some []), []⟩, ⟨(some 53), .extract (.t 45) 0, none, (some []), []⟩, ⟨(some 54), .extract (.t 45) 1, none, (some []), []⟩, ⟨(some 55), .extract (.t 45) 2, none, (some []), []⟩, ⟨(some 12), .mv (.t 53), none, (some []), []⟩, ⟨(some 13), .mv (.t 54), none, (some []), []⟩, ⟨(some 14), .mv (.t 55), none, (some []), []⟩])
  (.seq (.seq (.reg [⟨(some 56), .mv (.t 10), none, none, []⟩, ⟨(some 57), .bin .neq (.t 56) (.v (.int .i64 0)), none, none, []⟩])
  (.cond (.t 57) (.seq (.reg [⟨(some 58), .mv (.t 8), none, none, []⟩, ⟨(some 59), .len false (.t 58), none, none, []⟩, ⟨(some 60), .bin .eql (.t 59) (.v (.int .i64 0)), none, none, []⟩, ⟨(some 6), .mv (.t 60), none, none, []⟩])
  .ret) .skip))
  (.seq (.reg [⟨(some 61), .mv (.t 14), none, none, []⟩, ⟨(some 62), .bin .eql (.t 61) (.v (.int .i64 0)), none, none, []⟩, ⟨(some 63), .mv (.t 62), none, none, []⟩, ⟨(some 64), .mv (.t 12), (some (63, true)), none, []⟩, ⟨(some 65), .mv (.t 8), (some (63, true)), none, []⟩, ⟨(some 66), .mv (.t 11), (some (63, true)), none, []⟩, ⟨(some 67), .slc 3 (.t 65) none (some (.t 66)) none, (some (63, true)), none, []⟩, ⟨(some 68), .call 36 [(.t 64), (.t 67)], (some (63, true)), none, []⟩, ⟨(some 69), .pick (.t 63) (.t 68) (.v (.bool false)), none, none, []⟩, ⟨(some 6), .mv (.t 69), none, none, []⟩])
  .ret)))))))))⟩
/-- pochoir/pochoirlaw29.awake -/
def s33 : SFn :=
 ⟨62, [.tmp 0],
  (.seq (.reg [⟨(some 0), .mv (.v (.bool false)), none, none, []⟩])
  (.seq (.reg [⟨(some 8), .build [(.int .i64 0), (.int .i64 0)] [(0, 1, (.v (.int .i64 4))), (1, 1, (.v (.int .i64 4)))], none, none, []⟩, ⟨(some 9), .build [(.int .i64 0), (.int .i64 0)] [(0, 1, (.v (.int .i64 6))), (1, 1, (.v (.int .i64 2)))], none, none, []⟩, ⟨(some 10), .bsl 61 [(.int .i64 0), (.int .i64 0), (.int .i64 0), (.int .i64 0)] 2 2 [(0, 2, (.t 8)), (2, 2, (.t 9))], none, none, []⟩, ⟨(some 1), .mv (.t 10), none, none, []⟩])
  (.seq (.reg [⟨(some 12), .mv (.t 1), none, none, []⟩, ⟨(some 13), .build [(.int .i64 0), (.int .i64 0)] [(0, 1, (.v (.int .i64 10))), (1, 1, (.v (.int .i64 10)))], none, none, []⟩, ⟨(some 14), .call 34 [(.t 12), (.t 13), (.v (.int .i64 0))], none, none, []⟩, ⟨(some 11), .mv (.t 14), none, none, []⟩, ⟨(some 15), .extract (.t 11) 0, none, none, []⟩, ⟨(some 16), .extract (.t 11) 1, none, none, []⟩, ⟨(some 17), .extract (.t 11) 2, none, none, []⟩, ⟨(some 2), .mv (.t 15), none, none, []⟩, ⟨(some 3), .mv (.t 16), none, none, []⟩, ⟨(some 4), .mv (.t 17), none, none, []⟩])
  (.seq (.reg [⟨(some 19), .mv (.t 1), none, none, []⟩, ⟨(some 20), .build [(.int .i64 0), (.int .i64 0)] [(0, 1, (.v (.int .i64 5))), (1, 1, (.v (.int .i64 10)))], none, none, []⟩, ⟨(some 21), .call 34 [(.t 19), (.t 20), (.v (.int .i64 0))], none, none, []⟩, ⟨(some 18), .mv (.t 21), none, none, []⟩, ⟨(some 22), .extract (.t 18) 0, none, none, []⟩, ⟨(some 23), .extract (.t 18) 1, none, none, []⟩, ⟨(some 24), .extract (.t 18) 2, none, none, []⟩, ⟨(some 5), .mv (.t 22), none, none, []⟩, ⟨(some 6), .mv (.t 23), none, none, []⟩, ⟨(some 7), .mv (.t 24), none, none, []⟩])
  (.seq (.reg [⟨(some 25), .mv (.t 2), none, none, []⟩, ⟨(some 26), .len false (.t 25), none, none, []⟩, ⟨(some 27), .bin .eql (.t 26) (.v (.int .i64 2)), none, none, []⟩, ⟨(some 28), .mv (.t 27), none, none, []⟩, ⟨(some 29), .mv (.t 2), (some (28, true)), none, []⟩, ⟨(some 30), .iaddr 3 (.t 29) (.v (.int .i64 1)), (some (28, true)), none, []⟩, ⟨(some 31), .load (some 3) (.t 30), (some (28, true)), none, []⟩, ⟨(some 32), .build [(.int .i64 0), (.int .i64 0), (.int .i64 0)] [(1, 1, (.v (.int .i64 4)))], (some (28, true)), none, []⟩, ⟨(some 33), .eqs 4 [1, 1, 1] false (.t 31) (.t 32), (some (28, true)), none, []⟩, ⟨(some 34), .pick (.t 28) (.t 33) (.v (.bool false)), none, none, []⟩, ⟨(some 35), .mv (.t 34), none, none, []⟩, ⟨(some 36), .mv (.t 3), (some (35, true)), none, []⟩, ⟨(some 37), .bin .eql (.t 36) (.v (.int .i64 1)), (some (35, true)), none, []⟩, ⟨(some 38), .pick (.t 35) (.t 37) (.v (.bool false)), none, none, []⟩, ⟨(some 39), .mv (.t 38), none, none, []⟩, ⟨(some 40), .mv (.t 4), (some (39, true)), none, []⟩, ⟨(some 41), .bin .eql (.t 40) (.v (.int .i64 0)), (some (39, true)), none, []⟩, ⟨(some 42), .pick (.t 39) (.t 41) (.v (.bool false)), none, none, []⟩, ⟨(some 43), .mv (.t 42), none, none, []⟩, ⟨(some 44), .mv (.t 6), (some (43, true)), none, []⟩, ⟨(some 45), .bin .eql (.t 44) (.v (.int .i64 1)), (some (43, true)), none, []⟩, ⟨(some 46), .pick (.t 43) (.t 45) (.v (.bool false)), none, none, []⟩, ⟨(some 47), .mv (.t 46), none, none, []⟩, ⟨(some 48), .mv (.t 7), (some (47, true)), none, []⟩, ⟨(some 49), .bin .eql (.t 48) (.v (.int .i64 11)), (some (47, true)), none, []⟩, ⟨(some 50), .pick (.t 47) (.t 49) (.v (.bool false)), none, none, []⟩, ⟨(some 51), .mv (.t 50), none, none, []⟩, ⟨(some 52), .mv (.t 1), (some (51, true)), none, []⟩, ⟨(some 53), .build [(.int .i64 0), (.int .i64 0)] [(0, 1, (.v (.int .i64 10))), (1, 1, (.v (.int .i64 10)))], (some (51, true)), none, []⟩, ⟨(some 54), .mv (.t 2), (some (51, true)), none, []⟩, ⟨(some 55), .call 37 [(.t 52), (.t 53), (.v (.int .i64 0)), (.t 54)], (some (51, true)), none, []⟩, ⟨(some 56), .pick (.t 51) (.t 55) (.v (.bool false)), none, none, []⟩, ⟨(some 57), .mv (.t 56), none, none, []⟩, ⟨(some 58), .mv (.t 1), (some (57, true)), none, []⟩, ⟨(some 59), .call 38 [(.t 58), (.v (.int .i64 1))], (some (57, true)), none, []⟩, ⟨(some 60), .bin .eql (.t 59) (.v (.int .i64 46)), (some (57, true)), none, []⟩, ⟨(some 61), .pick (.t 57) (.t 60) (.v (.bool false)), none, none, []⟩, ⟨(some 0), .mv (.t 61), none, none, []⟩])
  .ret)))))⟩
/-- pochoir/pack.Lay -/
def s34 : SFn :=
 ⟨90, [.tmp 6, .tmp 7, .tmp 8],
  (.seq (.reg [⟨(some 4), .box 61 (.t 1), none, none, []⟩, ⟨(some 6), .mv (.v .nils), none, none, []⟩, ⟨(some 7), .mv (.v (.int .i64 0)), none, none, []⟩, ⟨(some 8), .mv (.v (.int .i64 0)), none, none, []⟩])
  (.seq (.seq (.reg [⟨(some 18), .mv (.t 0), none, none, []⟩, ⟨(some 19), .load (some 2) (.t 4), none, none, []⟩, ⟨(some 20), .mv (.t 2), none, none, []⟩, ⟨(some 21), .call 61 [(.t 18), (.t 19), (.t 20)], none, none, []⟩, ⟨(some 22), .un .not (.t 21), none, none, []⟩])
  (.cond (.t 22) (.seq (.reg [⟨(some 6), .mv (.v .nils), none, none, []⟩, ⟨(some 7), .mv (.v (.int .i64 0)), none, none, []⟩, ⟨(some 8), .mv (.v (.int .i64 1)), none, none, []⟩])
  .ret) .skip))
  (.seq (.seq (.reg [⟨(some 23), .mv (.t 0), none, none, []⟩, ⟨(some 24), .len false (.t 23), none, none, []⟩, ⟨(some 25), .mv (.v (.int .i64 0)), none, none, []⟩])
  (.block 0 (.loop (.seq (.reg [⟨(some 26), .bin .lss (.t 25) (.t 24), none, none, []⟩])
  (.seq (.cond (.t 26) .skip (.exit 0))
  (.seq (.block 1 (.seq (.reg [⟨(some 27), .mv (.t 25), none, none, []⟩, ⟨(some 28), .iaddr 2 (.t 23) (.t 25), none, none, []⟩, ⟨(some 29), .load (some 2) (.t 28), none, none, []⟩, ⟨(some 10), .box 61 (.v (.agg [(.int .i64 0), (.int .i64 0)])), none, none, []⟩, ⟨(some 9), .mv (.t 27), none, none, []⟩, ⟨none, .store 2 (.t 10) (.t 29), none, none, []⟩])
  (.seq (.reg [⟨(some 30), .load (some 2) (.t 10), none, none, []⟩, ⟨(some 31), .mv (.t 2), none, none, []⟩, ⟨(some 32), .call 62 [(.t 30), (.t 31)], none, none, []⟩, ⟨(some 11), .box 61 (.v (.agg [(.int .i64 0), (.int .i64 0)])), none, none, []⟩, ⟨none, .store 2 (.t 11) (.t 32), none, none, []⟩])
  (.seq (.reg [⟨(some 33), .faddr 0 (.t 10), none, none, []⟩, ⟨(some 34), .load none (.t 33), none, none, []⟩, ⟨(some 35), .bin .gtr (.t 34) (.v (.int .i64 0)), none, none, []⟩, ⟨(some 36), .mv (.t 35), none, none, []⟩, ⟨(some 37), .faddr 0 (.t 11), (some (36, true)), none, []⟩, ⟨(some 38), .load none (.t 37), (some (36, true)), none, []⟩, ⟨(some 39), .faddr 0 (.t 4), (some (36, true)), none, []⟩, ⟨(some 40), .load none (.t 39), (some (36, true)), none, []⟩, ⟨(some 41), .bin .gtr (.t 38) (.t 40), (some (36, true)), none, []⟩, ⟨(some 42), .mv (.t 41), (some (36, true)), none, []⟩, ⟨(some 43), .faddr 1 (.t 11), (some (42, false)), none, []⟩, ⟨(some 44), .load none (.t 43), (some (42, false)), none, []⟩, ⟨(some 45), .faddr 1 (.t 4), (some (42, false)), none, []⟩, ⟨(some 46), .load none (.t 45), (some (42, false)), none, []⟩, ⟨(some 47), .bin .gtr (.t 44) (.t 46), (some (42, false)), none, []⟩, ⟨(some 48), .pick (.t 42) (.v (.bool true)) (.t 47), (some (36, true)), none, []⟩, ⟨(some 49), .pick (.t 36) (.t 48) (.v (.bool false)), none, none, []⟩])
  (.cond (.t 49) (.seq (.reg [⟨(some 50), .mv (.t 9), none, none, []⟩, ⟨(some 6), .mv (.v .nils), none, none, []⟩, ⟨(some 7), .mv (.t 50), none, none, []⟩, ⟨(some 8), .mv (.v (.int .i64 11)), none, none, []⟩])
  .ret) .skip)))))
  (.reg [⟨(some 51), .bin .add (.t 25) (.v (.int .i64 1)), none, none, []⟩, ⟨(some 25), .mv (.t 51), none, none, []⟩])))))))
  (.seq (.reg [⟨(some 52), .load (some 2) (.t 4), none, none, []⟩, ⟨(some 53), .build [(.int .i64 0), (.int .i64 0), .nils] [(0, 2, (.t 52))], none, none, []⟩, ⟨(some 54), .box 106 (.t 53), none, none, []⟩, ⟨(some 12), .mv (.t 54), none, none, []⟩])
  (.seq (.reg [⟨(some 55), .mv (.t 0), none, none, []⟩, ⟨(some 56), .len false (.t 55), none, none, []⟩, ⟨(some 57), .mksl 76 [(.int .i64 0), (.int .i64 0), (.int .i64 0)] (.t 56) (.t 56), none, none, []⟩, ⟨(some 13), .mv (.t 57), none, none, []⟩])
  (.seq (.seq (.reg [⟨(some 58), .mv (.t 0), none, none, []⟩, ⟨(some 59), .len false (.t 58), none, none, []⟩, ⟨(some 60), .mv (.v (.int .i64 0)), none, none, []⟩])
  (.block 2 (.loop (.seq (.reg [⟨(some 61), .bin .lss (.t 60) (.t 59), none, none, []⟩])
  (.seq (.cond (.t 61) .skip (.exit 2))
  (.seq (.block 3 (.seq (.reg [⟨(some 62), .mv (.t 60), none, none, []⟩, ⟨(some 63), .iaddr 2 (.t 58) (.t 60), none, none, []⟩, ⟨(some 64), .load (some 2) (.t 63), none, none, []⟩, ⟨(some 15), .box 61 (.v (.agg [(.int .i64 0), (.int .i64 0)])), none, none, []⟩, ⟨(some 14), .mv (.t 62), none, none, []⟩, ⟨none, .store 2 (.t 15) (.t 64), none, none, []⟩])
  (.seq (.seq (.reg [⟨(some 65), .faddr 0 (.t 15), none, none, []⟩, ⟨(some 66), .load none (.t 65), none, none, []⟩, ⟨(some 67), .bin .eql (.t 66) (.v (.int .i64 0)), none, none, []⟩])
  (.cond (.t 67) (.exit 3) .skip))
  (.seq (.reg [⟨(some 69), .mv (.t 12), none, none, []⟩, ⟨(some 70), .load (some 2) (.t 15), none, none, []⟩, ⟨(some 71), .mv (.t 2), none, none, []⟩, ⟨(some 72), .call 62 [(.t 70), (.t 71)], none, none, []⟩, ⟨(some 73), .call 63 [(.t 69), (.t 72)], none, none, []⟩, ⟨(some 68), .mv (.t 73), none, none, []⟩, ⟨(some 74), .extract (.t 68) 0, none, none, []⟩, ⟨(some 75), .extract (.t 68) 1, none, none, []⟩, ⟨(some 16), .box 76 (.v (.agg [(.int .i64 0), (.int .i64 0), (.int .i64 0)])), none, none, []⟩, ⟨none, .store 3 (.t 16) (.t 74), none, none, []⟩, ⟨(some 17), .mv (.t 75), none, none, []⟩])
  (.seq (.seq (.reg [⟨(some 76), .mv (.t 17), none, none, []⟩, ⟨(some 77), .bin .neq (.t 76) (.v (.int .i64 0)), none, none, []⟩])
  (.cond (.t 77) (.seq (.reg [⟨(some 78), .mv (.t 17), none, none, []⟩, ⟨(some 6), .mv (.v .nils), none, none, []⟩, ⟨(some 7), .mv (.v (.int .i64 0)), none, none, []⟩, ⟨(some 8), .mv (.t 78), none, none, []⟩])
  .ret) .skip))
  (.reg [⟨(some 79), .mv (.t 13), none, none, []⟩, ⟨(some 80), .mv (.t 14), none, none, []⟩, ⟨(some 81), .load (some 3) (.t 16), none, none, []⟩, ⟨(some 82), .iaddr 3 (.t 79) (.t 80), none, none, []⟩, ⟨none, .store 3 (.t 82) (.t 81), none, none, []⟩]))))))
  (.reg [⟨(some 83), .bin .add (.t 60) (.v (.int .i64 1)), none, none, []⟩, ⟨(some 60), .mv (.t 83), none, none, []⟩])))))))
  (.seq (.regd [⟨(some 84), .mv (.t 13), none, (some []), []⟩, ⟨(some 85), .mv (.t 12), none, (some []), []⟩, ⟨(some 86), .nilck (.t 85), none, (some []), []⟩, ⟨(some 87), .faddr 2 (.t 86), none, (some []), []⟩, ⟨(some 88), .load none (.t 87), none, none, []⟩, ⟨(some 89), .len false (.t 88), none, (some []), []⟩, ⟨(some 6), .mv (.t 84), none, (some []), []⟩, ⟨(some 7), .mv (.t 89), none, (some []), []⟩, ⟨(some 8), .mv (.v (.int .i64 0)), none, (some []), []⟩])
  .ret)))))))⟩
/-- pochoir/pochoirref29.Lay -/
def s35 : SFn :=
 ⟨161, [.tmp 6, .tmp 7, .tmp 8],
  (.seq (.reg [⟨(some 4), .box 61 (.t 1), none, none, []⟩, ⟨(some 6), .mv (.v .nils), none, none, []⟩, ⟨(some 7), .mv (.v (.int .i64 0)), none, none, []⟩, ⟨(some 8), .mv (.v (.int .i64 0)), none, none, []⟩])
  (.seq (.seq (.reg [⟨(some 17), .mv (.t 0), none, none, []⟩, ⟨(some 18), .load (some 2) (.t 4), none, none, []⟩, ⟨(some 19), .mv (.t 2), none, none, []⟩, ⟨(some 20), .call 64 [(.t 17), (.t 18), (.t 19)], none, none, []⟩, ⟨(some 21), .un .not (.t 20), none, none, []⟩])
  (.cond (.t 21) (.seq (.reg [⟨(some 6), .mv (.v .nils), none, none, []⟩, ⟨(some 7), .mv (.v (.int .i64 0)), none, none, []⟩, ⟨(some 8), .mv (.v (.int .i64 1)), none, none, []⟩])
  .ret) .skip))
  (.seq (.seq (.reg [⟨(some 9), .mv (.v (.int .i64 0)), none, none, []⟩])
  (.block 0 (.loop (.seq (.seq (.reg [⟨(some 22), .mv (.t 9), none, none, []⟩, ⟨(some 23), .mv (.t 0), none, none, []⟩, ⟨(some 24), .len false (.t 23), none, none, []⟩, ⟨(some 25), .bin .lss (.t 22) (.t 24), none, none, []⟩])
  (.cond (.t 25) .skip (.exit 0)))
  (.seq (.block 1 (.seq (.regd [⟨(some 28), .mv (.t 0), none, (some []), []⟩, ⟨(some 29), .mv (.t 9), none, (some []), []⟩, ⟨(some 30), .iaddr 2 (.t 28) (.t 29), none, (some []), []⟩, ⟨(some 31), .faddr 0 (.t 30), none, (some []), []⟩, ⟨(some 32), .load none (.t 31), none, none, []⟩, ⟨(some 33), .bin .gtr (.t 32) (.v (.int .i64 0)), none, (some []), []⟩, ⟨(some 34), .mv (.t 33), none, (some []), []⟩, ⟨(some 35), .mv (.t 0), (some (34, true)), (some []), []⟩, ⟨(some 36), .mv (.t 9), (some (34, true)), (some []), []⟩, ⟨(some 37), .iaddr 2 (.t 35) (.t 36), (some (34, true)), (some []), []⟩, ⟨(some 38), .faddr 0 (.t 37), (some (34, true)), (some []), []⟩, ⟨(some 39), .load none (.t 38), (some (34, true)), (some []), []⟩, ⟨(some 40), .mv (.t 2), (some (34, true)), (some []), []⟩, ⟨(some 41), .bin .add (.t 39) (.t 40), (some (34, true)), (some []), []⟩, ⟨(some 42), .faddr 0 (.t 4), (some (34, true)), (some []), []⟩, ⟨(some 43), .load none (.t 42), (some (34, true)), (some []), []⟩, ⟨(some 44), .bin .gtr (.t 41) (.t 43), (some (34, true)), (some []), []⟩, ⟨(some 45), .mv (.t 44), (some (34, true)), (some []), []⟩, ⟨(some 46), .mv (.t 0), (some (45, false)), (some []), []⟩, ⟨(some 47), .mv (.t 9), (some (45, false)), (some []), []⟩, ⟨(some 48), .iaddr 2 (.t 46) (.t 47), (some (45, false)), (some []), []⟩, ⟨(some 49), .faddr 1 (.t 48), (some (45, false)), (some []), []⟩, ⟨(some 50), .load none (.t 49), (some (45, false)), (some []), []⟩, ⟨(some 51), .mv (.t 2), (some (45, false)), (some []), []⟩, ⟨(some 52), .bin .add (.t 50) (.t 51), (some (45, false)), (some []), []⟩, ⟨(some 53), .faddr 1 (.t 4), (some (45, false)), (some []), []⟩, ⟨(some 54), .load none (.t 53), (some (45, false)), (some []), []⟩, ⟨(some 55), .bin .gtr (.t 52) (.t 54), (some (45, false)), (some []), []⟩, ⟨(some 56), .pick (.t 45) (.v (.bool true)) (.t 55), (some (34, true)), (some []), []⟩, ⟨(some 57), .pick (.t 34) (.t 56) (.v (.bool false)), none, (some []), []⟩])
  (.cond (.t 57) (.seq (.reg [⟨(some 58), .mv (.t 9), none, none, []⟩, ⟨(some 6), .mv (.v .nils), none, none, []⟩, ⟨(some 7), .mv (.t 58), none, none, []⟩, ⟨(some 8), .mv (.v (.int .i64 11)), none, none, []⟩])
  .ret) .skip)))
  (.reg [⟨(some 26), .mv (.t 9), none, none, []⟩, ⟨(some 27), .bin .add (.t 26) (.v (.int .i64 1)), none, none, []⟩, ⟨(some 9), .mv (.t 27), none, none, []⟩]))))))
  (.seq (.reg [⟨(some 10), .mv (.v .nils), none, none, []⟩])
  (.seq (.reg [⟨(some 11), .mv (.v .nils), none, none, []⟩])
  (.seq (.seq (.reg [⟨(some 12), .mv (.v (.int .i64 0)), none, none, []⟩])
  (.block 2 (.loop (.seq (.seq (.reg [⟨(some 59), .mv (.t 12), none, none, []⟩, ⟨(some 60), .mv (.t 0), none, none, []⟩, ⟨(some 61), .len false (.t 60), none, none, []⟩, ⟨(some 62), .bin .lss (.t 59) (.t 61), none, none, []⟩])
  (.cond (.t 62) .skip (.exit 2)))
  (.seq (.block 3 (.seq (.seq (.reg [⟨(some 65), .mv (.t 0), none, none, []⟩, ⟨(some 66), .mv (.t 12), none, none, []⟩, ⟨(some 67), .iaddr 2 (.t 65) (.t 66), none, none, []⟩, ⟨(some 68), .faddr 0 (.t 67), none, none, []⟩, ⟨(some 69), .load none (.t 68), none, none, []⟩, ⟨(some 70), .bin .eql (.t 69) (.v (.int .i64 0)), none, none, []⟩])
  (.cond (.t 70) (.seq (.reg [⟨(some 71), .mv (.t 11), none, none, []⟩, ⟨(some 72), .build [(.int .i64 0), (.int .i64 0), (.int .i64 0)] [], none, none, []⟩, ⟨(some 73), .bsl 76 [(.int .i64 0), (.int .i64 0), (.int .i64 0)] 1 3 [(0, 3, (.t 72))], none, none, []⟩, ⟨(some 74), .app 76 3 (.t 71) (.t 73), none, none, []⟩, ⟨(some 11), .mv (.t 74), none, none, []⟩])
  (.exit 3)) .skip))
  (.seq (.reg [⟨(some 75), .mv (.t 0), none, none, []⟩, ⟨(some 76), .mv (.t 12), none, none, []⟩, ⟨(some 77), .iaddr 2 (.t 75) (.t 76), none, none, []⟩, ⟨(some 78), .faddr 0 (.t 77), none, none, []⟩, ⟨(some 79), .load none (.t 78), none, none, []⟩, ⟨(some 80), .mv (.t 2), none, none, []⟩, ⟨(some 81), .bin .add (.t 79) (.t 80), none, none, []⟩, ⟨(some 13), .mv (.t 81), none, none, []⟩])
  (.seq (.reg [⟨(some 82), .mv (.t 0), none, none, []⟩, ⟨(some 83), .mv (.t 12), none, none, []⟩, ⟨(some 84), .iaddr 2 (.t 82) (.t 83), none, none, []⟩, ⟨(some 85), .faddr 1 (.t 84), none, none, []⟩, ⟨(some 86), .load none (.t 85), none, none, []⟩, ⟨(some 87), .mv (.t 2), none, none, []⟩, ⟨(some 88), .bin .add (.t 86) (.t 87), none, none, []⟩, ⟨(some 14), .mv (.t 88), none, none, []⟩])
  (.seq (.reg [⟨(some 15), .mv (.v (.int .i64 0)), none, none, []⟩])
  (.seq (.block 4 (.loop (.seq (.seq (.reg [⟨(some 89), .mv (.t 15), none, none, []⟩, ⟨(some 90), .mv (.t 10), none, none, []⟩, ⟨(some 91), .len false (.t 90), none, none, []⟩, ⟨(some 92), .bin .lss (.t 89) (.t 91), none, none, []⟩, ⟨(some 93), .mv (.t 92), none, none, []⟩, ⟨(some 94), .mv (.t 10), (some (93, true)), none, []⟩, ⟨(some 95), .mv (.t 15), (some (93, true)), none, []⟩, ⟨(some 96), .iaddr 1 (.t 94) (.t 95), (some (93, true)), none, []⟩, ⟨(some 97), .load none (.t 96), (some (93, true)), none, []⟩, ⟨(some 98), .mv (.t 13), (some (93, true)), none, []⟩, ⟨(some 99), .mv (.t 14), (some (93, true)), none, []⟩, ⟨(some 100), .call 65 [(.t 97), (.t 98), (.t 99)], (some (93, true)), none, []⟩, ⟨(some 101), .bin .lss (.t 100) (.v (.int .i64 0)), (some (93, true)), none, []⟩, ⟨(some 102), .pick (.t 93) (.t 101) (.v (.bool false)), none, none, []⟩])
  (.cond (.t 102) .skip (.exit 4)))
  (.block 5 (.reg [⟨(some 103), .mv (.t 15), none, none, []⟩, ⟨(some 104), .bin .add (.t 103) (.v (.int .i64 1)), none, none, []⟩, ⟨(some 15), .mv (.t 104), none, none, []⟩])))))
  (.seq (.seq (.reg [⟨(some 105), .mv (.t 15), none, none, []⟩, ⟨(some 106), .mv (.t 10), none, none, []⟩, ⟨(some 107), .len false (.t 106), none, none, []⟩, ⟨(some 108), .bin .eql (.t 105) (.t 107), none, none, []⟩])
  (.cond (.t 108) (.seq (.seq (.reg [⟨(some 109), .mv (.t 15), none, none, []⟩, ⟨(some 110), .bin .eql (.t 109) (.v (.int .i64 16)), none, none, []⟩])
  (.cond (.t 110) (.seq (.reg [⟨(some 6), .mv (.v .nils), none, none, []⟩, ⟨(some 7), .mv (.v (.int .i64 0)), none, none, []⟩, ⟨(some 8), .mv (.v (.int .i64 10)), none, none, []⟩])
  .ret) .skip))
  (.reg [⟨(some 111), .mv (.t 10), none, none, []⟩, ⟨(some 112), .faddr 0 (.t 4), none, none, []⟩, ⟨(some 113), .load none (.t 112), none, none, []⟩, ⟨(some 114), .faddr 1 (.t 4), none, none, []⟩, ⟨(some 115), .load none (.t 114), none, none, []⟩, ⟨(some 116), .build [(.int .i64 0), (.int .i64 0), (.int .i64 0), (.int .i64 0)] [(2, 1, (.t 113)), (3, 1, (.t 115))], none, none, []⟩, ⟨(some 117), .bsl 112 [(.int .i64 0), (.int .i64 0), (.int .i64 0), (.int .i64 0)] 1 4 [(0, 4, (.t 116))], none, none, []⟩, ⟨(some 118), .bsl 110 [.nils] 1 1 [(0, 1, (.t 117))], none, none, []⟩, ⟨(some 119), .app 110 1 (.t 111) (.t 118), none, none, []⟩, ⟨(some 10), .mv (.t 119), none, none, []⟩])) .skip))
  (.seq (.regd [⟨(some 120), .mv (.t 10), none, (some []), []⟩, ⟨(some 121), .mv (.t 15), none, (some []), []⟩, ⟨(some 122), .iaddr 1 (.t 120) (.t 121), none, (some []), []⟩, ⟨(some 123), .load none (.t 122), none, (some []), []⟩, ⟨(some 124), .mv (.t 10), none, (some []), []⟩, ⟨(some 125), .mv (.t 15), none, (some []), []⟩, ⟨(some 126), .iaddr 1 (.t 124) (.t 125), none, (some []), []⟩, ⟨(some 127), .load none (.t 126), none, (some []), []⟩, ⟨(some 128), .mv (.t 13), none, (some []), []⟩, ⟨(some 129), .mv (.t 14), none, (some []), []⟩, ⟨(some 130), .call 65 [(.t 127), (.t 128), (.t 129)], none, (some []), []⟩, ⟨(some 131), .iaddr 4 (.t 123) (.t 130), none, (some []), []⟩, ⟨(some 132), .load (some 4) (.t 131), none, (some []), []⟩, ⟨(some 16), .box 112 (.v (.agg [(.int .i64 0), (.int .i64 0), (.int .i64 0), (.int .i64 0)])), none, (some [10]), []⟩, ⟨none, .store 4 (.t 16) (.t 132), none, none, []⟩])
  (.seq (.reg [⟨(some 133), .mv (.t 11), none, none, []⟩, ⟨(some 134), .mv (.t 15), none, none, []⟩, ⟨(some 135), .faddr 0 (.t 16), none, none, []⟩, ⟨(some 136), .load none (.t 135), none, none, []⟩, ⟨(some 137), .faddr 1 (.t 16), none, none, []⟩, ⟨(some 138), .load none (.t 137), none, none, []⟩, ⟨(some 139), .build [(.int .i64 0), (.int .i64 0), (.int .i64 0)] [(0, 1, (.t 134)), (1, 1, (.t 136)), (2, 1, (.t 138))], none, none, []⟩, ⟨(some 140), .bsl 76 [(.int .i64 0), (.int .i64 0), (.int .i64 0)] 1 3 [(0, 3, (.t 139))], none, none, []⟩, ⟨(some 141), .app 76 3 (.t 133) (.t 140), none, none, []⟩, ⟨(some 11), .mv (.t 141), none, none, []⟩])
  (.regd [⟨(some 142), .mv (.t 10), none, (some []), []⟩, ⟨(some 143), .mv (.t 15), none, (some []), []⟩, ⟨(some 144), .mv (.t 10), none, (some []), []⟩, ⟨(some 145), .mv (.t 15), none, (some []), []⟩, ⟨(some 146), .iaddr 1 (.t 144) (.t 145), none, (some []), []⟩, ⟨(some 147), .load none (.t 146), none, (some []), []⟩, ⟨(some 148), .faddr 0 (.t 16), none, (some []), []⟩, ⟨(some 149), .load none (.t 148), none, (some []), []⟩, ⟨(some 150), .faddr 1 (.t 16), none, (some []), []⟩, ⟨(some 151), .load none (.t 150), none, (some []), []⟩, ⟨(some 152), .mv (.t 13), none, (some []), []⟩, ⟨(some 153), .mv (.t 14), none, (some []), []⟩, ⟨(some 154), .build [(.int .i64 0), (.int .i64 0), (.int .i64 0), (.int .i64 0)] [(0, 1, (.t 149)), (1, 1, (.t 151)), (2, 1, (.t 152)), (3, 1, (.t 153))], none, (some []), []⟩, ⟨(some 155), .call 67 [(.t 147), (.t 154)], none, none, []⟩, ⟨(some 156), .call 66 [(.t 155)], none, none, []⟩, ⟨(some 157), .iaddr 1 (.t 142) (.t 143), none, (some []), []⟩, ⟨none, .store 1 (.t 157) (.t 156), none, none, []⟩]))))))))))
  (.reg [⟨(some 63), .mv (.t 12), none, none, []⟩, ⟨(some 64), .bin .add (.t 63) (.v (.int .i64 1)), none, none, []⟩, ⟨(some 12), .mv (.t 64), none, none, []⟩]))))))
  (.seq (.reg [⟨(some 158), .mv (.t 11), none, none, []⟩, ⟨(some 159), .mv (.t 10), none, none, []⟩, ⟨(some 160), .len false (.t 159), none, none, []⟩, ⟨(some 6), .mv (.t 158), none, none, []⟩, ⟨(some 7), .mv (.t 160), none, none, []⟩, ⟨(some 8), .mv (.v (.int .i64 0)), none, none, []⟩])
  .ret)))))))⟩
/-- pochoir/pochoirref29.Same -/
def s36 : SFn :=
 ⟨26, [.tmp 4],
  (.seq (.reg [⟨(some 4), .mv (.v (.bool false)), none, none, []⟩])
  (.seq (.seq (.reg [⟨(some 6), .mv (.t 0), none, none, []⟩, ⟨(some 7), .len false (.t 6), none, none, []⟩, ⟨(some 8), .mv (.t 1), none, none, []⟩, ⟨(some 9), .len false (.t 8), none, none, []⟩, ⟨(some 10), .bin .neq (.t 7) (.t 9), none, none, []⟩])
  (.cond (.t 10) (.seq (.reg [⟨(some 4), .mv (.v (.bool false)), none, none, []⟩])
  .ret) .skip))
  (.seq (.seq (.reg [⟨(some 5), .mv (.v (.int .i64 0)), none, none, []⟩])
  (.block 0 (.loop (.seq (.seq (.reg [⟨(some 11), .mv (.t 5), none, none, []⟩, ⟨(some 12), .mv (.t 0), none, none, []⟩, ⟨(some 13), .len false (.t 12), none, none, []⟩, ⟨(some 14), .bin .lss (.t 11) (.t 13), none, none, []⟩])
  (.cond (.t 14) .skip (.exit 0)))
  (.seq (.block 1 (.seq (.regd [⟨(some 17), .mv (.t 0), none, (some []), []⟩, ⟨(some 18), .mv (.t 5), none, (some []), []⟩, ⟨(some 19), .iaddr 3 (.t 17) (.t 18), none, (some []), []⟩, ⟨(some 20), .load (some 3) (.t 19), none, (some []), []⟩, ⟨(some 21), .mv (.t 1), none, (some []), []⟩, ⟨(some 22), .mv (.t 5), none, (some []), []⟩, ⟨(some 23), .iaddr 3 (.t 21) (.t 22), none, (some []), []⟩, ⟨(some 24), .load (some 3) (.t 23), none, (some []), []⟩, ⟨(some 25), .eqs 4 [1, 1, 1] true (.t 20) (.t 24), none, (some []), []⟩])
  (.cond (.t 25) (.seq (.reg [⟨(some 4), .mv (.v (.bool false)), none, none, []⟩])
  .ret) .skip)))
  (.reg [⟨(some 15), .mv (.t 5), none, none, []⟩, ⟨(some 16), .bin .add (.t 15) (.v (.int .i64 1)), none, none, []⟩, ⟨(some 5), .mv (.t 16), none, none, []⟩]))))))
  (.seq (.reg [⟨(some 4), .mv (.v (.bool true)), none, none, []⟩])
  .ret))))⟩
/-- pochoir/pack.Check -/
def s37 : SFn :=
 ⟨97, [.tmp 8],
  (.seq (.reg [⟨(some 5), .box 61 (.t 1), none, none, []⟩, ⟨(some 8), .mv (.v (.bool false)), none, none, []⟩])
  (.seq (.seq (.reg [⟨(some 16), .mv (.t 0), none, none, []⟩, ⟨(some 17), .load (some 2) (.t 5), none, none, []⟩, ⟨(some 18), .mv (.t 2), none, none, []⟩, ⟨(some 19), .call 61 [(.t 16), (.t 17), (.t 18)], none, none, []⟩, ⟨(some 20), .un .not (.t 19), none, none, []⟩, ⟨(some 21), .mv (.t 20), none, none, []⟩, ⟨(some 22), .mv (.t 3), (some (21, false)), none, []⟩, ⟨(some 23), .len false (.t 22), (some (21, false)), none, []⟩, ⟨(some 24), .mv (.t 0), (some (21, false)), none, []⟩, ⟨(some 25), .len false (.t 24), (some (21, false)), none, []⟩, ⟨(some 26), .bin .neq (.t 23) (.t 25), (some (21, false)), none, []⟩, ⟨(some 27), .pick (.t 21) (.v (.bool true)) (.t 26), none, none, []⟩])
  (.cond (.t 27) (.seq (.reg [⟨(some 8), .mv (.v (.bool false)), none, none, []⟩])
  .ret) .skip))
  (.seq (.reg [⟨(some 28), .faddr 0 (.t 5), none, none, []⟩, ⟨(some 29), .load none (.t 28), none, none, []⟩, ⟨(some 30), .faddr 1 (.t 5), none, none, []⟩, ⟨(some 31), .load none (.t 30), none, none, []⟩, ⟨(some 32), .build [(.int .i64 0), (.int .i64 0), (.int .i64 0), (.int .i64 0)] [(2, 1, (.t 29)), (3, 1, (.t 31))], none, none, []⟩, ⟨(some 9), .box 112 (.v (.agg [(.int .i64 0), (.int .i64 0), (.int .i64 0), (.int .i64 0)])), none, none, []⟩, ⟨none, .store 4 (.t 9) (.t 32), none, none, []⟩])
  (.seq (.reg [⟨(some 33), .mkmap, none, none, []⟩, ⟨(some 10), .mv (.t 33), none, none, []⟩])
  (.seq (.seq (.reg [⟨(some 34), .mv (.t 0), none, none, []⟩, ⟨(some 35), .len false (.t 34), none, none, []⟩, ⟨(some 36), .mv (.v (.int .i64 0)), none, none, []⟩])
  (.block 0 (.loop (.seq (.reg [⟨(some 37), .bin .lss (.t 36) (.t 35), none, none, []⟩])
  (.seq (.cond (.t 37) .skip (.exit 0))
  (.seq (.block 1 (.seq (.reg [⟨(some 38), .mv (.t 36), none, none, []⟩, ⟨(some 39), .iaddr 2 (.t 34) (.t 36), none, none, []⟩, ⟨(some 40), .load (some 2) (.t 39), none, none, []⟩, ⟨(some 12), .box 61 (.v (.agg [(.int .i64 0), (.int .i64 0)])), none, none, []⟩, ⟨(some 11), .mv (.t 38), none, none, []⟩, ⟨none, .store 2 (.t 12) (.t 40), none, none, []⟩])
  (.seq (.seq (.reg [⟨(some 41), .faddr 0 (.t 12), none, none, []⟩, ⟨(some 42), .load none (.t 41), none, none, []⟩, ⟨(some 43), .bin .eql (.t 42) (.v (.int .i64 0)), none, none, []⟩])
  (.cond (.t 43) (.exit 1) .skip))
  (.seq (.regd [⟨(some 44), .load (some 2) (.t 12), none, (some []), []⟩, ⟨(some 45), .mv (.t 2), none, (some []), []⟩, ⟨(some 46), .mv (.t 3), none, (some []), []⟩, ⟨(some 47), .mv (.t 11), none, (some []), []⟩, ⟨(some 48), .iaddr 3 (.t 46) (.t 47), none, (some []), []⟩, ⟨(some 49), .load (some 3) (.t 48), none, (some []), []⟩, ⟨(some 50), .call 68 [(.t 44), (.t 45), (.t 49)], none, (some []), []⟩, ⟨(some 13), .box 112 (.v (.agg [(.int .i64 0), (.int .i64 0), (.int .i64 0), (.int .i64 0)])), none, (some [6]), []⟩, ⟨none, .store 4 (.t 13) (.t 50), none, none, []⟩])
  (.seq (.seq (.reg [⟨(some 51), .mv (.t 3), none, none, []⟩, ⟨(some 52), .mv (.t 11), none, none, []⟩, ⟨(some 53), .iaddr 3 (.t 51) (.t 52), none, none, []⟩, ⟨(some 54), .faddr 0 (.t 53), none, none, []⟩, ⟨(some 55), .load none (.t 54), none, none, []⟩, ⟨(some 56), .call 69 [(.t 55), (.v (.int .i64 0)), (.v (.int .i64 15))], none, none, []⟩, ⟨(some 57), .un .not (.t 56), none, none, []⟩, ⟨(some 58), .mv (.t 57), none, none, []⟩, ⟨(some 59), .load (some 4) (.t 9), (some (58, false)), none, []⟩, ⟨(some 60), .load (some 4) (.t 13), (some (58, false)), none, []⟩, ⟨(some 61), .call 70 [(.t 59), (.t 60)], (some (58, false)), none, []⟩, ⟨(some 62), .un .not (.t 61), (some (58, false)), none, []⟩, ⟨(some 63), .pick (.t 58) (.v (.bool true)) (.t 62), none, none, []⟩])
  (.cond (.t 63) (.seq (.reg [⟨(some 8), .mv (.v (.bool false)), none, none, []⟩])
  .ret) .skip))
  (.seq (.seq (.reg [⟨(some 64), .mv (.t 10), none, none, []⟩, ⟨(some 65), .mv (.t 3), none, none, []⟩, ⟨(some 66), .mv (.t 11), none, none, []⟩, ⟨(some 67), .iaddr 3 (.t 65) (.t 66), none, none, []⟩, ⟨(some 68), .faddr 0 (.t 67), none, none, []⟩, ⟨(some 69), .load none (.t 68), none, none, []⟩, ⟨(some 70), .lookup [] .nils false (.t 64) (.t 69), none, none, []⟩, ⟨(some 71), .len false (.t 70), none, none, []⟩, ⟨(some 72), .mv (.v (.int .i64 0)), none, none, []⟩])
  (.block 2 (.loop (.seq (.reg [⟨(some 73), .bin .lss (.t 72) (.t 71), none, none, []⟩])
  (.seq (.cond (.t 73) .skip (.exit 2))
  (.seq (.block 3 (.seq (.reg [⟨(some 74), .iaddr 4 (.t 70) (.t 72), none, none, []⟩, ⟨(some 75), .load (some 4) (.t 74), none, none, []⟩, ⟨(some 15), .box 112 (.v (.agg [(.int .i64 0), (.int .i64 0), (.int .i64 0), (.int .i64 0)])), none, none, []⟩, ⟨none, .store 4 (.t 15) (.t 75), none, none, []⟩])
  (.seq (.reg [⟨(some 76), .load (some 4) (.t 13), none, none, []⟩, ⟨(some 77), .load (some 4) (.t 15), none, none, []⟩, ⟨(some 78), .call 71 [(.t 76), (.t 77)], none, none, []⟩])
  (.cond (.t 78) (.seq (.reg [⟨(some 8), .mv (.v (.bool false)), none, none, []⟩])
  .ret) .skip))))
  (.reg [⟨(some 79), .bin .add (.t 72) (.v (.int .i64 1)), none, none, []⟩, ⟨(some 72), .mv (.t 79), none, none, []⟩])))))))
  (.regd [⟨(some 80), .mv (.t 10), none, (some []), []⟩, ⟨(some 81), .mv (.t 3), none, (some []), []⟩, ⟨(some 82), .mv (.t 11), none, (some []), []⟩, ⟨(some 83), .iaddr 3 (.t 81) (.t 82), none, (some []), []⟩, ⟨(some 84), .faddr 0 (.t 83), none, (some []), []⟩, ⟨(some 85), .load none (.t 84), none, (some []), []⟩, ⟨(some 86), .mv (.t 10), none, (some []), []⟩, ⟨(some 87), .mv (.t 3), none, (some []), []⟩, ⟨(some 88), .mv (.t 11), none, (some []), []⟩, ⟨(some 89), .iaddr 3 (.t 87) (.t 88), none, (some []), []⟩, ⟨(some 90), .faddr 0 (.t 89), none, (some []), []⟩, ⟨(some 91), .load none (.t 90), none, (some []), []⟩, ⟨(some 92), .lookup [] .nils false (.t 86) (.t 91), none, (some []), []⟩, ⟨(some 93), .load (some 4) (.t 13), none, (some []), []⟩, ⟨(some 94), .bsl 112 [(.int .i64 0), (.int .i64 0), (.int .i64 0), (.int .i64 0)] 1 4 [(0, 4, (.t 93))], none, (some []), []⟩, ⟨(some 95), .app 112 4 (.t 92) (.t 94), none, none, [(none, (.t 84))]⟩, ⟨none, .mapup [] (.t 80) (.t 85) (.t 95), none, none, []⟩])))))))
  (.reg [⟨(some 96), .bin .add (.t 36) (.v (.int .i64 1)), none, none, []⟩, ⟨(some 36), .mv (.t 96), none, none, []⟩])))))))
  (.seq (.reg [⟨(some 8), .mv (.v (.bool true)), none, none, []⟩])
  .ret))))))⟩
/-- pochoir/pack.Used -/
def s38 : SFn :=
 ⟨37, [.tmp 4],
  (.seq (.reg [⟨(some 4), .mv (.v (.int .i64 0)), none, none, []⟩])
  (.seq (.seq (.reg [⟨(some 8), .mv (.t 1), none, none, []⟩, ⟨(some 9), .call 69 [(.t 8), (.v (.int .i64 0)), (.v (.int .i64 16))], none, none, []⟩, ⟨(some 10), .un .not (.t 9), none, none, []⟩])
  (.cond (.t 10) (.seq (.reg [⟨(some 4), .mv (.v (.int .i64 0)), none, none, []⟩])
  .ret) .skip))
  (.seq (.reg [⟨(some 5), .mv (.v (.int .i64 0)), none, none, []⟩])
  (.seq (.seq (.reg [⟨(some 11), .mv (.t 0), none, none, []⟩, ⟨(some 12), .len false (.t 11), none, none, []⟩, ⟨(some 13), .mv (.v (.int .i64 0)), none, none, []⟩])
  (.block 0 (.loop (.seq (.reg [⟨(some 14), .bin .lss (.t 13) (.t 12), none, none, []⟩])
  (.seq (.cond (.t 14) .skip (.exit 0))
  (.seq (.block 1 (.seq (.reg [⟨(some 15), .iaddr 2 (.t 11) (.t 13), none, none, []⟩, ⟨(some 16), .load (some 2) (.t 15), none, none, []⟩, ⟨(some 7), .box 61 (.v (.agg [(.int .i64 0), (.int .i64 0)])), none, none, []⟩, ⟨none, .store 2 (.t 7) (.t 16), none, none, []⟩])
  (.seq (.reg [⟨(some 17), .load (some 2) (.t 7), none, none, []⟩, ⟨(some 18), .call 72 [(.t 17)], none, none, []⟩, ⟨(some 19), .mv (.t 18), none, none, []⟩, ⟨(some 20), .faddr 0 (.t 7), (some (19, true)), none, []⟩, ⟨(some 21), .load none (.t 20), (some (19, true)), none, []⟩, ⟨(some 22), .bin .gtr (.t 21) (.v (.int .i64 0)), (some (19, true)), none, []⟩, ⟨(some 23), .pick (.t 19) (.t 22) (.v (.bool false)), none, none, []⟩])
  (.cond (.t 23) (.reg [⟨(some 24), .mv (.t 5), none, none, []⟩, ⟨(some 25), .faddr 0 (.t 7), none, none, []⟩, ⟨(some 26), .load none (.t 25), none, none, []⟩, ⟨(some 27), .mv (.t 1), none, none, []⟩, ⟨(some 28), .bin .add (.t 26) (.t 27), none, none, []⟩, ⟨(some 29), .faddr 1 (.t 7), none, none, []⟩, ⟨(some 30), .load none (.t 29), none, none, []⟩, ⟨(some 31), .mv (.t 1), none, none, []⟩, ⟨(some 32), .bin .add (.t 30) (.t 31), none, none, []⟩, ⟨(some 33), .bin .mul (.t 28) (.t 32), none, none, []⟩, ⟨(some 34), .bin .add (.t 24) (.t 33), none, none, []⟩, ⟨(some 5), .mv (.t 34), none, none, []⟩]) .skip))))
  (.reg [⟨(some 35), .bin .add (.t 13) (.v (.int .i64 1)), none, none, []⟩, ⟨(some 13), .mv (.t 35), none, none, []⟩])))))))
  (.seq (.reg [⟨(some 36), .mv (.t 5), none, none, []⟩, ⟨(some 4), .mv (.t 36), none, none, []⟩])
  .ret)))))⟩
/-- pochoir/pochoirref29.Used -/
def s39 : SFn :=
 ⟨50, [.tmp 4],
  (.seq (.reg [⟨(some 4), .mv (.v (.int .i64 0)), none, none, []⟩])
  (.seq (.seq (.reg [⟨(some 7), .mv (.t 1), none, none, []⟩, ⟨(some 8), .bin .lss (.t 7) (.v (.int .i64 0)), none, none, []⟩, ⟨(some 9), .mv (.t 8), none, none, []⟩, ⟨(some 10), .mv (.t 1), (some (9, false)), none, []⟩, ⟨(some 11), .bin .gtr (.t 10) (.v (.int .i64 16)), (some (9, false)), none, []⟩, ⟨(some 12), .pick (.t 9) (.v (.bool true)) (.t 11), none, none, []⟩])
  (.cond (.t 12) (.seq (.reg [⟨(some 4), .mv (.v (.int .i64 0)), none, none, []⟩])
  .ret) .skip))
  (.seq (.reg [⟨(some 5), .mv (.v (.int .i64 0)), none, none, []⟩])
  (.seq (.seq (.reg [⟨(some 6), .mv (.v (.int .i64 0)), none, none, []⟩])
  (.block 0 (.loop (.seq (.seq (.reg [⟨(some 13), .mv (.t 6), none, none, []⟩, ⟨(some 14), .mv (.t 0), none, none, []⟩, ⟨(some 15), .len false (.t 14), none, none, []⟩, ⟨(some 16), .bin .lss (.t 13) (.t 15), none, none, []⟩])
  (.cond (.t 16) .skip (.exit 0)))
  (.seq (.block 1 (.seq (.reg [⟨(some 19), .mv (.t 0), none, none, []⟩, ⟨(some 20), .mv (.t 6), none, none, []⟩, ⟨(some 21), .iaddr 2 (.t 19) (.t 20), none, none, []⟩, ⟨(some 22), .load (some 2) (.t 21), none, none, []⟩, ⟨(some 23), .call 73 [(.t 22)], none, none, []⟩, ⟨(some 24), .mv (.t 23), none, none, []⟩, ⟨(some 25), .mv (.t 0), (some (24, true)), none, []⟩, ⟨(some 26), .mv (.t 6), (some (24, true)), none, []⟩, ⟨(some 27), .iaddr 2 (.t 25) (.t 26), (some (24, true)), none, []⟩, ⟨(some 28), .faddr 0 (.t 27), (some (24, true)), none, []⟩, ⟨(some 29), .load none (.t 28), (some (24, true)), none, []⟩, ⟨(some 30), .bin .gtr (.t 29) (.v (.int .i64 0)), (some (24, true)), none, []⟩, ⟨(some 31), .pick (.t 24) (.t 30) (.v (.bool false)), none, none, []⟩])
  (.cond (.t 31) (.regd [⟨(some 32), .mv (.t 5), none, (some []), []⟩, ⟨(some 33), .mv (.t 0), none, (some []), []⟩, ⟨(some 34), .mv (.t 6), none, (some []), []⟩, ⟨(some 35), .iaddr 2 (.t 33) (.t 34), none, (some []), []⟩, ⟨(some 36), .faddr 0 (.t 35), none, (some []), []⟩, ⟨(some 37), .load none (.t 36), none, (some []), []⟩, ⟨(some 38), .mv (.t 1), none, (some []), []⟩, ⟨(some 39), .bin .add (.t 37) (.t 38), none, (some []), []⟩, ⟨(some 40), .mv (.t 0), none, (some []), []⟩, ⟨(some 41), .mv (.t 6), none, (some []), []⟩, ⟨(some 42), .iaddr 2 (.t 40) (.t 41), none, (some []), []⟩, ⟨(some 43), .faddr 1 (.t 42), none, (some []), []⟩, ⟨(some 44), .load none (.t 43), none, (some []), []⟩, ⟨(some 45), .mv (.t 1), none, (some []), []⟩, ⟨(some 46), .bin .add (.t 44) (.t 45), none, (some []), []⟩, ⟨(some 47), .bin .mul (.t 39) (.t 46), none, (some []), []⟩, ⟨(some 48), .bin .add (.t 32) (.t 47), none, (some []), []⟩, ⟨(some 5), .mv (.t 48), none, (some []), []⟩]) .skip)))
  (.reg [⟨(some 17), .mv (.t 6), none, none, []⟩, ⟨(some 18), .bin .add (.t 17) (.v (.int .i64 1)), none, none, []⟩, ⟨(some 6), .mv (.t 18), none, none, []⟩]))))))
  (.seq (.reg [⟨(some 49), .mv (.t 5), none, none, []⟩, ⟨(some 4), .mv (.t 49), none, none, []⟩])
  .ret)))))⟩
/-- pochoir/pochoirref29.Check -/
def s40 : SFn :=
 ⟨145, [.tmp 8],
  (.seq (.reg [⟨(some 5), .box 61 (.t 1), none, none, []⟩, ⟨(some 8), .mv (.v (.bool false)), none, none, []⟩])
  (.seq (.seq (.reg [⟨(some 14), .mv (.t 0), none, none, []⟩, ⟨(some 15), .load (some 2) (.t 5), none, none, []⟩, ⟨(some 16), .mv (.t 2), none, none, []⟩, ⟨(some 17), .call 64 [(.t 14), (.t 15), (.t 16)], none, none, []⟩, ⟨(some 18), .un .not (.t 17), none, none, []⟩, ⟨(some 19), .mv (.t 18), none, none, []⟩, ⟨(some 20), .mv (.t 3), (some (19, false)), none, []⟩, ⟨(some 21), .len false (.t 20), (some (19, false)), none, []⟩, ⟨(some 22), .mv (.t 0), (some (19, false)), none, []⟩, ⟨(some 23), .len false (.t 22), (some (19, false)), none, []⟩, ⟨(some 24), .bin .neq (.t 21) (.t 23), (some (19, false)), none, []⟩, ⟨(some 25), .pick (.t 19) (.v (.bool true)) (.t 24), none, none, []⟩])
  (.cond (.t 25) (.seq (.reg [⟨(some 8), .mv (.v (.bool false)), none, none, []⟩])
  .ret) .skip))
  (.seq (.seq (.reg [⟨(some 9), .mv (.v (.int .i64 0)), none, none, []⟩])
  (.block 0 (.loop (.seq (.seq (.reg [⟨(some 26), .mv (.t 9), none, none, []⟩, ⟨(some 27), .mv (.t 0), none, none, []⟩, ⟨(some 28), .len false (.t 27), none, none, []⟩, ⟨(some 29), .bin .lss (.t 26) (.t 28), none, none, []⟩])
  (.cond (.t 29) .skip (.exit 0)))
  (.seq (.block 1 (.seq (.seq (.reg [⟨(some 32), .mv (.t 0), none, none, []⟩, ⟨(some 33), .mv (.t 9), none, none, []⟩, ⟨(some 34), .iaddr 2 (.t 32) (.t 33), none, none, []⟩, ⟨(some 35), .faddr 0 (.t 34), none, none, []⟩, ⟨(some 36), .load none (.t 35), none, none, []⟩, ⟨(some 37), .bin .eql (.t 36) (.v (.int .i64 0)), none, none, []⟩])
  (.cond (.t 37) (.exit 1) .skip))
  (.seq (.reg [⟨(some 38), .mv (.t 3), none, none, []⟩, ⟨(some 39), .mv (.t 9), none, none, []⟩, ⟨(some 40), .iaddr 3 (.t 38) (.t 39), none, none, []⟩, ⟨(some 41), .load (some 3) (.t 40), none, none, []⟩, ⟨(some 10), .box 76 (.v (.agg [(.int .i64 0), (.int .i64 0), (.int .i64 0)])), none, none, []⟩, ⟨none, .store 3 (.t 10) (.t 41), none, none, []⟩])
  (.seq (.regd [⟨(some 42), .faddr 1 (.t 10), none, (some []), []⟩, ⟨(some 43), .load none (.t 42), none, (some []), []⟩, ⟨(some 44), .faddr 2 (.t 10), none, (some []), []⟩, ⟨(some 45), .load none (.t 44), none, (some []), []⟩, ⟨(some 46), .mv (.t 0), none, (some []), []⟩, ⟨(some 47), .mv (.t 9), none, (some []), []⟩, ⟨(some 48), .iaddr 2 (.t 46) (.t 47), none, (some []), []⟩, ⟨(some 49), .faddr 0 (.t 48), none, (some []), []⟩, ⟨(some 50), .load none (.t 49), none, (some []), []⟩, ⟨(some 51), .mv (.t 2), none, (some []), []⟩, ⟨(some 52), .bin .add (.t 50) (.t 51), none, (some []), []⟩, ⟨(some 53), .mv (.t 0), none, (some []), []⟩, ⟨(some 54), .mv (.t 9), none, (some []), []⟩, ⟨(some 55), .iaddr 2 (.t 53) (.t 54), none, (some []), []⟩, ⟨(some 56), .faddr 1 (.t 55), none, (some []), []⟩, ⟨(some 57), .load none (.t 56), none, (some []), []⟩, ⟨(some 58), .mv (.t 2), none, (some []), []⟩, ⟨(some 59), .bin .add (.t 57) (.t 58), none, (some []), []⟩, ⟨(some 60), .build [(.int .i64 0), (.int .i64 0), (.int .i64 0), (.int .i64 0)] [(0, 1, (.t 43)), (1, 1, (.t 45)), (2, 1, (.t 52)), (3, 1, (.t 59))], none, (some []), []⟩, ⟨(some 11), .box 112 (.v (.agg [(.int .i64 0), (.int .i64 0), (.int .i64 0), (.int .i64 0)])), none, none, [(none, (.t 42)), (none, (.t 44)), (none, (.t 49)), (none, (.t 56))]⟩, ⟨none, .store 4 (.t 11) (.t 60), none, none, []⟩])
  (.seq (.seq (.reg [⟨(some 61), .faddr 0 (.t 10), none, none, []⟩, ⟨(some 62), .load none (.t 61), none, none, []⟩, ⟨(some 63), .bin .lss (.t 62) (.v (.int .i64 0)), none, none, []⟩, ⟨(some 64), .mv (.t 63), none, none, []⟩, ⟨(some 65), .faddr 0 (.t 10), (some (64, false)), none, []⟩, ⟨(some 66), .load none (.t 65), (some (64, false)), none, []⟩, ⟨(some 67), .bin .gtr (.t 66) (.v (.int .i64 15)), (some (64, false)), none, []⟩, ⟨(some 68), .pick (.t 64) (.v (.bool true)) (.t 67), none, none, []⟩, ⟨(some 69), .mv (.t 68), none, none, []⟩, ⟨(some 70), .load (some 4) (.t 11), (some (69, false)), none, []⟩, ⟨(some 71), .call 74 [(.t 70)], (some (69, false)), none, []⟩, ⟨(some 72), .un .not (.t 71), (some (69, false)), none, []⟩, ⟨(some 73), .pick (.t 69) (.v (.bool true)) (.t 72), none, none, []⟩, ⟨(some 74), .mv (.t 73), none, none, []⟩, ⟨(some 75), .faddr 0 (.t 11), (some (74, false)), none, []⟩, ⟨(some 76), .load none (.t 75), (some (74, false)), none, []⟩, ⟨(some 77), .faddr 2 (.t 11), (some (74, false)), none, []⟩, ⟨(some 78), .load none (.t 77), (some (74, false)), none, []⟩, ⟨(some 79), .bin .add (.t 76) (.t 78), (some (74, false)), none, []⟩, ⟨(some 80), .faddr 0 (.t 5), (some (74, false)), none, []⟩, ⟨(some 81), .load none (.t 80), (some (74, false)), none, []⟩, ⟨(some 82), .bin .gtr (.t 79) (.t 81), (some (74, false)), none, []⟩, ⟨(some 83), .pick (.t 74) (.v (.bool true)) (.t 82), none, none, []⟩, ⟨(some 84), .mv (.t 83), none, none, []⟩, ⟨(some 85), .faddr 1 (.t 11), (some (84, false)), none, []⟩, ⟨(some 86), .load none (.t 85), (some (84, false)), none, []⟩, ⟨(some 87), .faddr 3 (.t 11), (some (84, false)), none, []⟩, ⟨(some 88), .load none (.t 87), (some (84, false)), none, []⟩, ⟨(some 89), .bin .add (.t 86) (.t 88), (some (84, false)), none, []⟩, ⟨(some 90), .faddr 1 (.t 5), (some (84, false)), none, []⟩, ⟨(some 91), .load none (.t 90), (some (84, false)), none, []⟩, ⟨(some 92), .bin .gtr (.t 89) (.t 91), (some (84, false)), none, []⟩, ⟨(some 93), .pick (.t 84) (.v (.bool true)) (.t 92), none, none, []⟩])
  (.cond (.t 93) (.seq (.reg [⟨(some 8), .mv (.v (.bool false)), none, none, []⟩])
  .ret) .skip))
  (.seq (.reg [⟨(some 12), .mv (.v (.int .i64 0)), none, none, []⟩])
  (.block 2 (.loop (.seq (.seq (.reg [⟨(some 94), .mv (.t 12), none, none, []⟩, ⟨(some 95), .mv (.t 9), none, none, []⟩, ⟨(some 96), .bin .lss (.t 94) (.t 95), none, none, []⟩])
  (.cond (.t 96) .skip (.exit 2)))
  (.seq (.block 3 (.seq (.regd [⟨(some 99), .mv (.t 3), none, (some []), []⟩, ⟨(some 100), .mv (.t 12), none, (some []), []⟩, ⟨(some 101), .iaddr 3 (.t 99) (.t 100), none, (some []), []⟩, ⟨(some 102), .faddr 1 (.t 101), none, (some []), []⟩, ⟨(some 103), .load none (.t 102), none, (some []), []⟩, ⟨(some 104), .mv (.t 3), none, (some []), []⟩, ⟨(some 105), .mv (.t 12), none, (some []), []⟩, ⟨(some 106), .iaddr 3 (.t 104) (.t 105), none, (some []), []⟩, ⟨(some 107), .faddr 2 (.t 106), none, (some []), []⟩, ⟨(some 108), .load none (.t 107), none, (some []), []⟩, ⟨(some 109), .mv (.t 0), none, (some []), []⟩, ⟨(some 110), .mv (.t 12), none, (some []), []⟩, ⟨(some 111), .iaddr 2 (.t 109) (.t 110), none, (some []), []⟩, ⟨(some 112), .faddr 0 (.t 111), none, (some []), []⟩, ⟨(some 113), .load none (.t 112), none, (some []), []⟩, ⟨(some 114), .mv (.t 2), none, (some []), []⟩, ⟨(some 115), .bin .add (.t 113) (.t 114), none, (some []), []⟩, ⟨(some 116), .mv (.t 0), none, (some []), []⟩, ⟨(some 117), .mv (.t 12), none, (some []), []⟩, ⟨(some 118), .iaddr 2 (.t 116) (.t 117), none, (some []), []⟩, ⟨(some 119), .faddr 1 (.t 118), none, (some []), []⟩, ⟨(some 120), .load none (.t 119), none, (some []), []⟩, ⟨(some 121), .mv (.t 2), none, (some []), []⟩, ⟨(some 122), .bin .add (.t 120) (.t 121), none, (some []), []⟩, ⟨(some 123), .build [(.int .i64 0), (.int .i64 0), (.int .i64 0), (.int .i64 0)] [(0, 1, (.t 103)), (1, 1, (.t 108)), (2, 1, (.t 115)), (3, 1, (.t 122))], none, (some []), []⟩, ⟨(some 13), .box 112 (.v (.agg [(.int .i64 0), (.int .i64 0), (.int .i64 0), (.int .i64 0)])), none, none, [(none, (.t 102)), (none, (.t 107)), (none, (.t 112)), (none, (.t 119))]⟩, ⟨none, .store 4 (.t 13) (.t 123), none, none, []⟩])
  (.seq (.regd [⟨(some 124), .mv (.t 0), none, (some []), []⟩, ⟨(some 125), .mv (.t 12), none, (some []), []⟩, ⟨(some 126), .iaddr 2 (.t 124) (.t 125), none, (some []), []⟩, ⟨(some 127), .faddr 0 (.t 126), none, (some []), []⟩, ⟨(some 128), .load none (.t 127), none, none, []⟩, ⟨(some 129), .bin .gtr (.t 128) (.v (.int .i64 0)), none, (some []), []⟩, ⟨(some 130), .mv (.t 129), none, (some []), []⟩, ⟨(some 131), .mv (.t 3), (some (130, true)), (some []), []⟩, ⟨(some 132), .mv (.t 12), (some (130, true)), (some []), []⟩, ⟨(some 133), .iaddr 3 (.t 131) (.t 132), (some (130, true)), (some []), []⟩, ⟨(some 134), .faddr 0 (.t 133), (some (130, true)), (some []), []⟩, ⟨(some 135), .load none (.t 134), (some (130, true)), (some []), []⟩, ⟨(some 136), .faddr 0 (.t 10), (some (130, true)), (some []), []⟩, ⟨(some 137), .load none (.t 136), (some (130, true)), (some []), []⟩, ⟨(some 138), .bin .eql (.t 135) (.t 137), (some (130, true)), (some []), []⟩, ⟨(some 139), .pick (.t 130) (.t 138) (.v (.bool false)), none, (some []), []⟩, ⟨(some 140), .mv (.t 139), none, (some []), []⟩, ⟨(some 141), .load (some 4) (.t 11), (some (140, true)), (some []), []⟩, ⟨(some 142), .load (some 4) (.t 13), (some (140, true)), (some []), []⟩, ⟨(some 143), .call 75 [(.t 141), (.t 142)], (some (140, true)), none, []⟩, ⟨(some 144), .pick (.t 140) (.t 143) (.v (.bool false)), none, (some []), []⟩])
  (.cond (.t 144) (.seq (.reg [⟨(some 8), .mv (.v (.bool false)), none, none, []⟩])
  .ret) .skip))))
  (.reg [⟨(some 97), .mv (.t 12), none, none, []⟩, ⟨(some 98), .bin .add (.t 97) (.v (.int .i64 1)), none, none, []⟩, ⟨(some 12), .mv (.t 98), none, none, []⟩])))))))))))
  (.reg [⟨(some 30), .mv (.t 9), none, none, []⟩, ⟨(some 31), .bin .add (.t 30) (.v (.int .i64 1)), none, none, []⟩, ⟨(some 9), .mv (.t 31), none, none, []⟩]))))))
  (.seq (.reg [⟨(some 8), .mv (.v (.bool true)), none, none, []⟩])
  .ret))))⟩
/-- pochoir/pack.asked -/
def s61 : SFn :=
 ⟨39, [.tmp 6],
  (.seq (.reg [⟨(some 4), .box 61 (.t 1), none, none, []⟩, ⟨(some 6), .mv (.v (.bool false)), none, none, []⟩])
  (.seq (.seq (.reg [⟨(some 9), .faddr 0 (.t 4), none, none, []⟩, ⟨(some 10), .load none (.t 9), none, none, []⟩, ⟨(some 11), .call 69 [(.t 10), (.v (.int .i64 1)), (.v (.int .i64 1024))], none, none, []⟩, ⟨(some 12), .un .not (.t 11), none, none, []⟩, ⟨(some 13), .mv (.t 12), none, none, []⟩, ⟨(some 14), .faddr 1 (.t 4), (some (13, false)), none, []⟩, ⟨(some 15), .load none (.t 14), (some (13, false)), none, []⟩, ⟨(some 16), .call 69 [(.t 15), (.v (.int .i64 1)), (.v (.int .i64 1024))], (some (13, false)), none, []⟩, ⟨(some 17), .un .not (.t 16), (some (13, false)), none, []⟩, ⟨(some 18), .pick (.t 13) (.v (.bool true)) (.t 17), none, none, []⟩, ⟨(some 19), .mv (.t 18), none, none, []⟩, ⟨(some 20), .mv (.t 2), (some (19, false)), none, []⟩, ⟨(some 21), .call 69 [(.t 20), (.v (.int .i64 0)), (.v (.int .i64 16))], (some (19, false)), none, []⟩, ⟨(some 22), .un .not (.t 21), (some (19, false)), none, []⟩, ⟨(some 23), .pick (.t 19) (.v (.bool true)) (.t 22), none, none, []⟩, ⟨(some 24), .mv (.t 23), none, none, []⟩, ⟨(some 25), .mv (.t 0), (some (24, false)), none, []⟩, ⟨(some 26), .len false (.t 25), (some (24, false)), none, []⟩, ⟨(some 27), .bin .gtr (.t 26) (.v (.int .i64 1024)), (some (24, false)), none, []⟩, ⟨(some 28), .pick (.t 24) (.v (.bool true)) (.t 27), none, none, []⟩])
  (.cond (.t 28) (.seq (.reg [⟨(some 6), .mv (.v (.bool false)), none, none, []⟩])
  .ret) .skip))
  (.seq (.seq (.reg [⟨(some 29), .mv (.t 0), none, none, []⟩, ⟨(some 30), .len false (.t 29), none, none, []⟩, ⟨(some 31), .mv (.v (.int .i64 0)), none, none, []⟩])
  (.block 0 (.loop (.seq (.reg [⟨(some 32), .bin .lss (.t 31) (.t 30), none, none, []⟩])
  (.seq (.cond (.t 32) .skip (.exit 0))
  (.seq (.block 1 (.seq (.reg [⟨(some 33), .iaddr 2 (.t 29) (.t 31), none, none, []⟩, ⟨(some 34), .load (some 2) (.t 33), none, none, []⟩, ⟨(some 8), .box 61 (.v (.agg [(.int .i64 0), (.int .i64 0)])), none, none, []⟩, ⟨none, .store 2 (.t 8) (.t 34), none, none, []⟩])
  (.seq (.reg [⟨(some 35), .load (some 2) (.t 8), none, none, []⟩, ⟨(some 36), .call 72 [(.t 35)], none, none, []⟩, ⟨(some 37), .un .not (.t 36), none, none, []⟩])
  (.cond (.t 37) (.seq (.reg [⟨(some 6), .mv (.v (.bool false)), none, none, []⟩])
  .ret) .skip))))
  (.reg [⟨(some 38), .bin .add (.t 31) (.v (.int .i64 1)), none, none, []⟩, ⟨(some 31), .mv (.t 38), none, none, []⟩])))))))
  (.seq (.reg [⟨(some 6), .mv (.v (.bool true)), none, none, []⟩])
  .ret))))⟩
/-- pochoir/pack.padded -/
def s62 : SFn :=
 ⟨14, [.cell 4 (some 2)],
  (.seq (.reg [⟨(some 2), .box 61 (.t 0), none, none, []⟩, ⟨(some 4), .box 61 (.v (.agg [(.int .i64 0), (.int .i64 0)])), none, none, []⟩])
  (.seq (.reg [⟨(some 5), .faddr 0 (.t 2), none, none, []⟩, ⟨(some 6), .load none (.t 5), none, none, []⟩, ⟨(some 7), .mv (.t 1), none, none, []⟩, ⟨(some 8), .bin .add (.t 6) (.t 7), none, none, []⟩, ⟨(some 9), .faddr 1 (.t 2), none, none, []⟩, ⟨(some 10), .load none (.t 9), none, none, []⟩, ⟨(some 11), .mv (.t 1), none, none, []⟩, ⟨(some 12), .bin .add (.t 10) (.t 11), none, none, []⟩, ⟨(some 13), .build [(.int .i64 0), (.int .i64 0)] [(0, 1, (.t 8)), (1, 1, (.t 12))], none, none, []⟩, ⟨none, .store 2 (.t 4) (.t 13), none, none, []⟩])
  .ret))⟩
/-- (*pochoir/pack.pages).lay -/
def s63 : SFn :=
 ⟨87, [.cell 4 (some 3), .tmp 5],
  (.seq (.reg [⟨(some 3), .box 61 (.t 1), none, none, []⟩, ⟨(some 4), .box 76 (.v (.agg [(.int .i64 0), (.int .i64 0), (.int .i64 0)])), none, none, []⟩, ⟨(some 5), .mv (.v (.int .i64 0)), none, none, []⟩])
  (.seq (.reg [⟨(some 6), .mv (.v (.int .i64 0)), none, none, []⟩])
  (.block 0 (.loop (.seq (.block 1 (.seq (.seq (.reg [⟨(some 12), .mv (.t 6), none, none, []⟩, ⟨(some 13), .mv (.t 0), none, none, []⟩, ⟨(some 14), .nilck (.t 13), none, none, []⟩, ⟨(some 15), .faddr 2 (.t 14), none, none, []⟩, ⟨(some 16), .load none (.t 15), none, none, []⟩, ⟨(some 17), .len false (.t 16), none, none, []⟩, ⟨(some 18), .bin .eql (.t 12) (.t 17), none, none, []⟩])
  (.cond (.t 18) (.seq (.seq (.reg [⟨(some 19), .mv (.t 6), none, none, []⟩, ⟨(some 20), .bin .eql (.t 19) (.v (.int .i64 16)), none, none, []⟩])
  (.cond (.t 20) (.seq (.reg [⟨(some 21), .build [(.int .i64 0), (.int .i64 0), (.int .i64 0)] [], none, none, []⟩, ⟨none, .store 3 (.t 4) (.t 21), none, none, []⟩, ⟨(some 5), .mv (.v (.int .i64 10)), none, none, []⟩])
  .ret) .skip))
  (.regd [⟨(some 22), .mv (.t 0), none, (some []), []⟩, ⟨(some 23), .mv (.t 0), none, (some []), []⟩, ⟨(some 24), .nilck (.t 23), none, (some []), []⟩, ⟨(some 25), .faddr 2 (.t 24), none, (some []), []⟩, ⟨(some 26), .load none (.t 25), none, (some []), []⟩, ⟨(some 27), .mv (.t 0), none, (some []), []⟩, ⟨(some 28), .nilck (.t 27), none, (some []), []⟩, ⟨(some 29), .faddr 0 (.t 28), none, (some []), []⟩, ⟨(some 30), .faddr 0 (.t 29), none, (some []), []⟩, ⟨(some 31), .load none (.t 30), none, (some []), []⟩, ⟨(some 32), .mv (.t 0), none, (some []), []⟩, ⟨(some 33), .nilck (.t 32), none, (some []), []⟩, ⟨(some 34), .faddr 0 (.t 33), none, (some []), []⟩, ⟨(some 35), .faddr 1 (.t 34), none, (some []), []⟩, ⟨(some 36), .load none (.t 35), none, (some []), []⟩, ⟨(some 37), .build [(.int .i64 0), (.int .i64 0), (.int .i64 0), (.int .i64 0)] [(2, 1, (.t 31)), (3, 1, (.t 36))], none, (some []), []⟩, ⟨(some 38), .bsl 112 [(.int .i64 0), (.int .i64 0), (.int .i64 0), (.int .i64 0)] 1 4 [(0, 4, (.t 37))], none, none, [(none, (.t 25))]⟩, ⟨(some 39), .bsl 110 [.nils] 1 1 [(0, 1, (.t 38))], none, none, [(none, (.t 25))]⟩, ⟨(some 40), .app 110 1 (.t 26) (.t 39), none, none, []⟩, ⟨(some 41), .nilck (.t 22), none, (some []), []⟩, ⟨(some 42), .faddr 2 (.t 41), none, (some []), []⟩, ⟨none, .store 1 (.t 42) (.t 40), none, none, []⟩])) .skip))
  (.seq (.regd [⟨(some 44), .mv (.t 0), none, (some []), []⟩, ⟨(some 45), .nilck (.t 44), none, (some []), []⟩, ⟨(some 46), .faddr 2 (.t 45), none, (some []), []⟩, ⟨(some 47), .load none (.t 46), none, (some []), []⟩, ⟨(some 48), .mv (.t 6), none, (some []), []⟩, ⟨(some 49), .iaddr 1 (.t 47) (.t 48), none, (some []), []⟩, ⟨(some 50), .load none (.t 49), none, (some []), []⟩, ⟨(some 51), .load (some 2) (.t 3), none, (some []), []⟩, ⟨(some 52), .call 92 [(.t 50), (.t 51)], none, (some []), []⟩, ⟨(some 43), .mv (.t 52), none, (some []), []⟩, ⟨(some 53), .extract (.t 43) 0, none, (some []), []⟩, ⟨(some 54), .extract (.t 43) 1, none, (some []), []⟩, ⟨(some 7), .box 112 (.v (.agg [(.int .i64 0), (.int .i64 0), (.int .i64 0), (.int .i64 0)])), none, (some [8]), []⟩, ⟨none, .store 4 (.t 7) (.t 53), none, none, []⟩, ⟨(some 8), .mv (.t 54), none, (some []), []⟩])
  (.seq (.reg [⟨(some 55), .mv (.t 8), none, none, []⟩])
  (.cond (.t 55) (.seq (.reg [⟨(some 56), .faddr 0 (.t 7), none, none, []⟩, ⟨(some 57), .load none (.t 56), none, none, []⟩, ⟨(some 58), .faddr 1 (.t 7), none, none, []⟩, ⟨(some 59), .load none (.t 58), none, none, []⟩, ⟨(some 60), .faddr 0 (.t 3), none, none, []⟩, ⟨(some 61), .load none (.t 60), none, none, []⟩, ⟨(some 62), .faddr 1 (.t 3), none, none, []⟩, ⟨(some 63), .load none (.t 62), none, none, []⟩, ⟨(some 64), .build [(.int .i64 0), (.int .i64 0), (.int .i64 0), (.int .i64 0)] [(0, 1, (.t 57)), (1, 1, (.t 59)), (2, 1, (.t 61)), (3, 1, (.t 63))], none, none, []⟩, ⟨(some 9), .box 112 (.v (.agg [(.int .i64 0), (.int .i64 0), (.int .i64 0), (.int .i64 0)])), none, none, []⟩, ⟨none, .store 4 (.t 9) (.t 64), none, none, []⟩])
  (.seq (.regd [⟨(some 65), .mv (.t 0), none, (some []), []⟩, ⟨(some 66), .nilck (.t 65), none, (some []), []⟩, ⟨(some 67), .faddr 2 (.t 66), none, (some []), []⟩, ⟨(some 68), .load none (.t 67), none, (some []), []⟩, ⟨(some 69), .mv (.t 6), none, (some []), []⟩, ⟨(some 70), .mv (.t 0), none, (some []), []⟩, ⟨(some 71), .nilck (.t 70), none, (some []), []⟩, ⟨(some 72), .faddr 2 (.t 71), none, (some []), []⟩, ⟨(some 73), .load none (.t 72), none, (some []), []⟩, ⟨(some 74), .mv (.t 6), none, (some []), []⟩, ⟨(some 75), .iaddr 1 (.t 73) (.t 74), none, (some []), []⟩, ⟨(some 76), .load none (.t 75), none, (some []), []⟩, ⟨(some 77), .load (some 4) (.t 9), none, (some []), []⟩, ⟨(some 78), .call 94 [(.t 76), (.t 77)], none, none, [(none, (.t 67))]⟩, ⟨(some 79), .call 93 [(.t 78)], none, none, [(none, (.t 67))]⟩, ⟨(some 80), .iaddr 1 (.t 68) (.t 69), none, (some []), []⟩, ⟨none, .store 1 (.t 80) (.t 79), none, none, []⟩])
  (.seq (.reg [⟨(some 81), .mv (.t 6), none, none, []⟩, ⟨(some 82), .faddr 0 (.t 7), none, none, []⟩, ⟨(some 83), .load none (.t 82), none, none, []⟩, ⟨(some 84), .faddr 1 (.t 7), none, none, []⟩, ⟨(some 85), .load none (.t 84), none, none, []⟩, ⟨(some 86), .build [(.int .i64 0), (.int .i64 0), (.int .i64 0)] [(0, 1, (.t 81)), (1, 1, (.t 83)), (2, 1, (.t 85))], none, none, []⟩, ⟨none, .store 3 (.t 4) (.t 86), none, none, []⟩, ⟨(some 5), .mv (.v (.int .i64 0)), none, none, []⟩])
  .ret))) .skip)))))
  (.reg [⟨(some 10), .mv (.t 6), none, none, []⟩, ⟨(some 11), .bin .add (.t 10) (.v (.int .i64 1)), none, none, []⟩, ⟨(some 6), .mv (.t 11), none, none, []⟩]))))))⟩
/-- pochoir/pochoirref29.Asked -/
def s64 : SFn :=
 ⟨51, [.tmp 6],
  (.seq (.reg [⟨(some 4), .box 61 (.t 1), none, none, []⟩, ⟨(some 6), .mv (.v (.bool false)), none, none, []⟩])
  (.seq (.seq (.reg [⟨(some 8), .faddr 0 (.t 4), none, none, []⟩, ⟨(some 9), .load none (.t 8), none, none, []⟩, ⟨(some 10), .bin .lss (.t 9) (.v (.int .i64 1)), none, none, []⟩, ⟨(some 11), .mv (.t 10), none, none, []⟩, ⟨(some 12), .faddr 0 (.t 4), (some (11, false)), none, []⟩, ⟨(some 13), .load none (.t 12), (some (11, false)), none, []⟩, ⟨(some 14), .bin .gtr (.t 13) (.v (.int .i64 1024)), (some (11, false)), none, []⟩, ⟨(some 15), .pick (.t 11) (.v (.bool true)) (.t 14), none, none, []⟩, ⟨(some 16), .mv (.t 15), none, none, []⟩, ⟨(some 17), .faddr 1 (.t 4), (some (16, false)), none, []⟩, ⟨(some 18), .load none (.t 17), (some (16, false)), none, []⟩, ⟨(some 19), .bin .lss (.t 18) (.v (.int .i64 1)), (some (16, false)), none, []⟩, ⟨(some 20), .pick (.t 16) (.v (.bool true)) (.t 19), none, none, []⟩, ⟨(some 21), .mv (.t 20), none, none, []⟩, ⟨(some 22), .faddr 1 (.t 4), (some (21, false)), none, []⟩, ⟨(some 23), .load none (.t 22), (some (21, false)), none, []⟩, ⟨(some 24), .bin .gtr (.t 23) (.v (.int .i64 1024)), (some (21, false)), none, []⟩, ⟨(some 25), .pick (.t 21) (.v (.bool true)) (.t 24), none, none, []⟩, ⟨(some 26), .mv (.t 25), none, none, []⟩, ⟨(some 27), .mv (.t 2), (some (26, false)), none, []⟩, ⟨(some 28), .bin .lss (.t 27) (.v (.int .i64 0)), (some (26, false)), none, []⟩, ⟨(some 29), .pick (.t 26) (.v (.bool true)) (.t 28), none, none, []⟩, ⟨(some 30), .mv (.t 29), none, none, []⟩, ⟨(some 31), .mv (.t 2), (some (30, false)), none, []⟩, ⟨(some 32), .bin .gtr (.t 31) (.v (.int .i64 16)), (some (30, false)), none, []⟩, ⟨(some 33), .pick (.t 30) (.v (.bool true)) (.t 32), none, none, []⟩, ⟨(some 34), .mv (.t 33), none, none, []⟩, ⟨(some 35), .mv (.t 0), (some (34, false)), none, []⟩, ⟨(some 36), .len false (.t 35), (some (34, false)), none, []⟩, ⟨(some 37), .bin .gtr (.t 36) (.v (.int .i64 1024)), (some (34, false)), none, []⟩, ⟨(some 38), .pick (.t 34) (.v (.bool true)) (.t 37), none, none, []⟩])
  (.cond (.t 38) (.seq (.reg [⟨(some 6), .mv (.v (.bool false)), none, none, []⟩])
  .ret) .skip))
  (.seq (.seq (.reg [⟨(some 7), .mv (.v (.int .i64 0)), none, none, []⟩])
  (.block 0 (.loop (.seq (.seq (.reg [⟨(some 39), .mv (.t 7), none, none, []⟩, ⟨(some 40), .mv (.t 0), none, none, []⟩, ⟨(some 41), .len false (.t 40), none, none, []⟩, ⟨(some 42), .bin .lss (.t 39) (.t 41), none, none, []⟩])
  (.cond (.t 42) .skip (.exit 0)))
  (.seq (.block 1 (.seq (.reg [⟨(some 45), .mv (.t 0), none, none, []⟩, ⟨(some 46), .mv (.t 7), none, none, []⟩, ⟨(some 47), .iaddr 2 (.t 45) (.t 46), none, none, []⟩, ⟨(some 48), .load (some 2) (.t 47), none, none, []⟩, ⟨(some 49), .call 73 [(.t 48)], none, none, []⟩, ⟨(some 50), .un .not (.t 49), none, none, []⟩])
  (.cond (.t 50) (.seq (.reg [⟨(some 6), .mv (.v (.bool false)), none, none, []⟩])
  .ret) .skip)))
  (.reg [⟨(some 43), .mv (.t 7), none, none, []⟩, ⟨(some 44), .bin .add (.t 43) (.v (.int .i64 1)), none, none, []⟩, ⟨(some 7), .mv (.t 44), none, none, []⟩]))))))
  (.seq (.reg [⟨(some 6), .mv (.v (.bool true)), none, none, []⟩])
  .ret))))⟩
/-- pochoir/pochoirref29.best -/
def s65 : SFn :=
 ⟨50, [.tmp 6],
  (.seq (.reg [⟨(some 6), .mv (.v (.int .i64 0)), none, none, []⟩])
  (.seq (.reg [⟨(some 7), .mv (.v (.int .i64 (-1))), none, none, []⟩])
  (.seq (.seq (.reg [⟨(some 8), .mv (.v (.int .i64 0)), none, none, []⟩])
  (.block 0 (.loop (.seq (.seq (.reg [⟨(some 9), .mv (.t 8), none, none, []⟩, ⟨(some 10), .mv (.t 0), none, none, []⟩, ⟨(some 11), .len false (.t 10), none, none, []⟩, ⟨(some 12), .bin .lss (.t 9) (.t 11), none, none, []⟩])
  (.cond (.t 12) .skip (.exit 0)))
  (.seq (.block 1 (.seq (.regd [⟨(some 15), .mv (.t 0), none, (some []), []⟩, ⟨(some 16), .mv (.t 8), none, (some []), []⟩, ⟨(some 17), .iaddr 4 (.t 15) (.t 16), none, (some []), []⟩, ⟨(some 18), .faddr 2 (.t 17), none, (some []), []⟩, ⟨(some 19), .load none (.t 18), none, none, []⟩, ⟨(some 20), .mv (.t 1), none, (some []), []⟩, ⟨(some 21), .bin .geq (.t 19) (.t 20), none, (some []), []⟩, ⟨(some 22), .mv (.t 21), none, (some []), []⟩, ⟨(some 23), .mv (.t 0), (some (22, true)), (some []), []⟩, ⟨(some 24), .mv (.t 8), (some (22, true)), (some []), []⟩, ⟨(some 25), .iaddr 4 (.t 23) (.t 24), (some (22, true)), (some []), []⟩, ⟨(some 26), .faddr 3 (.t 25), (some (22, true)), (some []), []⟩, ⟨(some 27), .load none (.t 26), (some (22, true)), none, []⟩, ⟨(some 28), .mv (.t 2), (some (22, true)), (some []), []⟩, ⟨(some 29), .bin .geq (.t 27) (.t 28), (some (22, true)), (some []), []⟩, ⟨(some 30), .pick (.t 22) (.t 29) (.v (.bool false)), none, (some []), []⟩, ⟨(some 31), .mv (.t 30), none, (some []), []⟩, ⟨(some 32), .mv (.t 7), (some (31, true)), (some []), []⟩, ⟨(some 33), .bin .lss (.t 32) (.v (.int .i64 0)), (some (31, true)), (some []), []⟩, ⟨(some 34), .mv (.t 33), (some (31, true)), (some []), []⟩, ⟨(some 35), .mv (.t 0), (some (34, false)), (some []), []⟩, ⟨(some 36), .mv (.t 8), (some (34, false)), (some []), []⟩, ⟨(some 37), .iaddr 4 (.t 35) (.t 36), (some (34, false)), (some []), []⟩, ⟨(some 38), .load (some 4) (.t 37), (some (34, false)), (some []), []⟩, ⟨(some 39), .mv (.t 0), (some (34, false)), (some []), []⟩, ⟨(some 40), .mv (.t 7), (some (34, false)), (some []), []⟩, ⟨(some 41), .iaddr 4 (.t 39) (.t 40), (some (34, false)), (some []), []⟩, ⟨(some 42), .load (some 4) (.t 41), (some (34, false)), (some []), []⟩, ⟨(some 43), .mv (.t 1), (some (34, false)), (some []), []⟩, ⟨(some 44), .mv (.t 2), (some (34, false)), (some []), []⟩, ⟨(some 45), .call 95 [(.t 38), (.t 42), (.t 43), (.t 44)], (some (34, false)), none, []⟩, ⟨(some 46), .pick (.t 34) (.v (.bool true)) (.t 45), (some (31, true)), (some []), []⟩, ⟨(some 47), .pick (.t 31) (.t 46) (.v (.bool false)), none, (some []), []⟩])
  (.cond (.t 47) (.reg [⟨(some 48), .mv (.t 8), none, none, []⟩, ⟨(some 7), .mv (.t 48), none, none, []⟩]) .skip)))
  (.reg [⟨(some 13), .mv (.t 8), none, none, []⟩, ⟨(some 14), .bin .add (.t 13) (.v (.int .i64 1)), none, none, []⟩, ⟨(some 8), .mv (.t 14), none, none, []⟩]))))))
  (.seq (.reg [⟨(some 49), .mv (.t 7), none, none, []⟩, ⟨(some 6), .mv (.t 49), none, none, []⟩])
  .ret))))⟩
/-- pochoir/pochoirref28.Prune -/
def s66 : SFn :=
 ⟨60, [.tmp 2],
  (.seq (.reg [⟨(some 2), .mv (.v .nils), none, none, []⟩])
  (.seq (.reg [⟨(some 7), .mv (.t 0), none, none, []⟩, ⟨(some 8), .call 96 [(.t 7)], none, none, []⟩, ⟨(some 0), .mv (.t 8), none, none, []⟩])
  (.seq (.reg [⟨(some 3), .mv (.v .nils), none, none, []⟩])
  (.seq (.seq (.reg [⟨(some 4), .mv (.v (.int .i64 0)), none, none, []⟩])
  (.block 0 (.loop (.seq (.seq (.reg [⟨(some 9), .mv (.t 4), none, none, []⟩, ⟨(some 10), .mv (.t 0), none, none, []⟩, ⟨(some 11), .len false (.t 10), none, none, []⟩, ⟨(some 12), .bin .lss (.t 9) (.t 11), none, none, []⟩])
  (.cond (.t 12) .skip (.exit 0)))
  (.seq (.block 1 (.seq (.reg [⟨(some 5), .mv (.v (.bool true)), none, none, []⟩])
  (.seq (.seq (.reg [⟨(some 6), .mv (.v (.int .i64 0)), none, none, []⟩])
  (.block 2 (.loop (.seq (.seq (.reg [⟨(some 15), .mv (.t 6), none, none, []⟩, ⟨(some 16), .mv (.t 0), none, none, []⟩, ⟨(some 17), .len false (.t 16), none, none, []⟩, ⟨(some 18), .bin .lss (.t 15) (.t 17), none, none, []⟩])
  (.cond (.t 18) .skip (.exit 2)))
  (.seq (.block 3 (.seq (.regd [⟨(some 21), .mv (.t 6), none, (some []), []⟩, ⟨(some 22), .mv (.t 4), none, (some []), []⟩, ⟨(some 23), .bin .neq (.t 21) (.t 22), none, (some []), []⟩, ⟨(some 24), .mv (.t 23), none, (some []), []⟩, ⟨(some 25), .mv (.t 0), (some (24, true)), (some []), []⟩, ⟨(some 26), .mv (.t 6), (some (24, true)), (some []), []⟩, ⟨(some 27), .iaddr 4 (.t 25) (.t 26), (some (24, true)), (some []), []⟩, ⟨(some 28), .load (some 4) (.t 27), (some (24, true)), (some []), []⟩, ⟨(some 29), .mv (.t 0), (some (24, true)), (some []), []⟩, ⟨(some 30), .mv (.t 4), (some (24, true)), (some []), []⟩, ⟨(some 31), .iaddr 4 (.t 29) (.t 30), (some (24, true)), (some []), []⟩, ⟨(some 32), .load (some 4) (.t 31), (some (24, true)), (some []), []⟩, ⟨(some 33), .call 97 [(.t 28), (.t 32)], (some (24, true)), none, []⟩, ⟨(some 34), .pick (.t 24) (.t 33) (.v (.bool false)), none, (some []), []⟩, ⟨(some 35), .mv (.t 34), none, (some []), []⟩, ⟨(some 36), .mv (.t 0), (some (35, true)), (some []), []⟩, ⟨(some 37), .mv (.t 6), (some (35, true)), (some []), []⟩, ⟨(some 38), .iaddr 4 (.t 36) (.t 37), (some (35, true)), (some []), []⟩, ⟨(some 39), .load (some 4) (.t 38), (some (35, true)), (some []), []⟩, ⟨(some 40), .mv (.t 0), (some (35, true)), (some []), []⟩, ⟨(some 41), .mv (.t 4), (some (35, true)), (some []), []⟩, ⟨(some 42), .iaddr 4 (.t 40) (.t 41), (some (35, true)), (some []), []⟩, ⟨(some 43), .load (some 4) (.t 42), (some (35, true)), (some []), []⟩, ⟨(some 44), .eqs 4 [1, 1, 1, 1] true (.t 39) (.t 43), (some (35, true)), (some []), []⟩, ⟨(some 45), .mv (.t 44), (some (35, true)), (some []), []⟩, ⟨(some 46), .mv (.t 6), (some (45, false)), (some []), []⟩, ⟨(some 47), .mv (.t 4), (some (45, false)), (some []), []⟩, ⟨(some 48), .bin .lss (.t 46) (.t 47), (some (45, false)), (some []), []⟩, ⟨(some 49), .pick (.t 45) (.v (.bool true)) (.t 48), (some (35, true)), (some []), []⟩, ⟨(some 50), .pick (.t 35) (.t 49) (.v (.bool false)), none, (some []), []⟩])
  (.cond (.t 50) (.reg [⟨(some 5), .mv (.v (.bool false)), none, none, []⟩]) .skip)))
  (.reg [⟨(some 19), .mv (.t 6), none, none, []⟩, ⟨(some 20), .bin .add (.t 19) (.v (.int .i64 1)), none, none, []⟩, ⟨(some 6), .mv (.t 20), none, none, []⟩]))))))
  (.seq (.reg [⟨(some 51), .mv (.t 5), none, none, []⟩])
  (.cond (.t 51) (.reg [⟨(some 52), .mv (.t 3), none, none, []⟩, ⟨(some 53), .mv (.t 0), none, none, []⟩, ⟨(some 54), .mv (.t 4), none, none, []⟩, ⟨(some 55), .iaddr 4 (.t 53) (.t 54), none, none, []⟩, ⟨(some 56), .load (some 4) (.t 55), none, none, []⟩, ⟨(some 57), .bsl 112 [(.int .i64 0), (.int .i64 0), (.int .i64 0), (.int .i64 0)] 1 4 [(0, 4, (.t 56))], none, none, []⟩, ⟨(some 58), .app 112 4 (.t 52) (.t 57), none, none, []⟩, ⟨(some 3), .mv (.t 58), none, none, []⟩]) .skip)))))
  (.reg [⟨(some 13), .mv (.t 4), none, none, []⟩, ⟨(some 14), .bin .add (.t 13) (.v (.int .i64 1)), none, none, []⟩, ⟨(some 4), .mv (.t 14), none, none, []⟩]))))))
  (.seq (.reg [⟨(some 59), .mv (.t 3), none, none, []⟩, ⟨(some 2), .mv (.t 59), none, none, []⟩])
  .ret)))))⟩
/-- pochoir/pochoirref28.Cut -/
def s67 : SFn :=
 ⟨28, [.tmp 4],
  (.seq (.reg [⟨(some 3), .box 112 (.t 1), none, none, []⟩, ⟨(some 4), .mv (.v .nils), none, none, []⟩])
  (.seq (.reg [⟨(some 7), .mv (.t 0), none, none, []⟩, ⟨(some 8), .call 96 [(.t 7)], none, none, []⟩, ⟨(some 0), .mv (.t 8), none, none, []⟩])
  (.seq (.seq (.reg [⟨(some 9), .load (some 4) (.t 3), none, none, []⟩, ⟨(some 10), .call 74 [(.t 9)], none, none, []⟩, ⟨(some 11), .un .not (.t 10), none, none, []⟩])
  (.cond (.t 11) (.seq (.reg [⟨(some 12), .mv (.t 0), none, none, []⟩, ⟨(some 4), .mv (.t 12), none, none, []⟩])
  .ret) .skip))
  (.seq (.reg [⟨(some 5), .mv (.v .nils), none, none, []⟩])
  (.seq (.seq (.reg [⟨(some 6), .mv (.v (.int .i64 0)), none, none, []⟩])
  (.block 0 (.loop (.seq (.seq (.reg [⟨(some 13), .mv (.t 6), none, none, []⟩, ⟨(some 14), .mv (.t 0), none, none, []⟩, ⟨(some 15), .len false (.t 14), none, none, []⟩, ⟨(some 16), .bin .lss (.t 13) (.t 15), none, none, []⟩])
  (.cond (.t 16) .skip (.exit 0)))
  (.seq (.block 1 (.regd [⟨(some 19), .mv (.t 5), none, (some []), []⟩, ⟨(some 20), .mv (.t 0), none, (some []), []⟩, ⟨(some 21), .mv (.t 6), none, (some []), []⟩, ⟨(some 22), .iaddr 4 (.t 20) (.t 21), none, (some []), []⟩, ⟨(some 23), .load (some 4) (.t 22), none, (some []), []⟩, ⟨(some 24), .load (some 4) (.t 3), none, (some []), []⟩, ⟨(some 25), .call 98 [(.t 23), (.t 24)], none, none, []⟩, ⟨(some 26), .app 112 4 (.t 19) (.t 25), none, none, []⟩, ⟨(some 5), .mv (.t 26), none, (some []), []⟩]))
  (.reg [⟨(some 17), .mv (.t 6), none, none, []⟩, ⟨(some 18), .bin .add (.t 17) (.v (.int .i64 1)), none, none, []⟩, ⟨(some 6), .mv (.t 18), none, none, []⟩]))))))
  (.seq (.reg [⟨(some 27), .mv (.t 5), none, none, []⟩, ⟨(some 4), .mv (.t 27), none, none, []⟩])
  .ret))))))⟩
/-- pochoir/pack.piece -/
def s68 : SFn :=
 ⟨20, [.cell 6 (some 4)],
  (.seq (.reg [⟨(some 3), .box 61 (.t 0), none, none, []⟩, ⟨(some 5), .box 76 (.t 2), none, none, []⟩, ⟨(some 6), .box 112 (.v (.agg [(.int .i64 0), (.int .i64 0), (.int .i64 0), (.int .i64 0)])), none, none, []⟩])
  (.seq (.reg [⟨(some 7), .faddr 1 (.t 5), none, none, []⟩, ⟨(some 8), .load none (.t 7), none, none, []⟩, ⟨(some 9), .faddr 2 (.t 5), none, none, []⟩, ⟨(some 10), .load none (.t 9), none, none, []⟩, ⟨(some 11), .faddr 0 (.t 3), none, none, []⟩, ⟨(some 12), .load none (.t 11), none, none, []⟩, ⟨(some 13), .mv (.t 1), none, none, []⟩, ⟨(some 14), .bin .add (.t 12) (.t 13), none, none, []⟩, ⟨(some 15), .faddr 1 (.t 3), none, none, []⟩, ⟨(some 16), .load none (.t 15), none, none, []⟩, ⟨(some 17), .mv (.t 1), none, none, []⟩, ⟨(some 18), .bin .add (.t 16) (.t 17), none, none, []⟩, ⟨(some 19), .build [(.int .i64 0), (.int .i64 0), (.int .i64 0), (.int .i64 0)] [(0, 1, (.t 8)), (1, 1, (.t 10)), (2, 1, (.t 14)), (3, 1, (.t 18))], none, none, []⟩, ⟨none, .store 4 (.t 6) (.t 19), none, none, []⟩])
  .ret))⟩
/-- pochoir/pack.within -/
def s69 : SFn :=
 ⟨15, [.tmp 6],
  (.seq (.reg [⟨(some 6), .mv (.v (.bool false)), none, none, []⟩])
  (.seq (.reg [⟨(some 7), .mv (.t 0), none, none, []⟩, ⟨(some 8), .mv (.t 1), none, none, []⟩, ⟨(some 9), .bin .geq (.t 7) (.t 8), none, none, []⟩, ⟨(some 10), .mv (.t 9), none, none, []⟩, ⟨(some 11), .mv (.t 0), (some (10, true)), none, []⟩, ⟨(some 12), .mv (.t 2), (some (10, true)), none, []⟩, ⟨(some 13), .bin .leq (.t 11) (.t 12), (some (10, true)), none, []⟩, ⟨(some 14), .pick (.t 10) (.t 13) (.v (.bool false)), none, none, []⟩, ⟨(some 6), .mv (.t 14), none, none, []⟩])
  .ret))⟩
/-- pochoir/rect.Has -/
def s70 : SFn :=
 ⟨16, [.tmp 4],
  (.seq (.reg [⟨(some 2), .box 112 (.t 0), none, none, []⟩, ⟨(some 3), .box 112 (.t 1), none, none, []⟩, ⟨(some 4), .mv (.v (.bool false)), none, none, []⟩])
  (.seq (.reg [⟨(some 5), .load (some 4) (.t 2), none, none, []⟩, ⟨(some 6), .call 99 [(.t 5)], none, none, []⟩, ⟨(some 7), .mv (.t 6), none, none, []⟩, ⟨(some 8), .load (some 4) (.t 3), (some (7, true)), none, []⟩, ⟨(some 9), .call 99 [(.t 8)], (some (7, true)), none, []⟩, ⟨(some 10), .pick (.t 7) (.t 9) (.v (.bool false)), none, none, []⟩, ⟨(some 11), .mv (.t 10), none, none, []⟩, ⟨(some 12), .load (some 4) (.t 2), (some (11, true)), none, []⟩, ⟨(some 13), .load (some 4) (.t 3), (some (11, true)), none, []⟩, ⟨(some 14), .call 100 [(.t 12), (.t 13)], (some (11, true)), none, []⟩, ⟨(some 15), .pick (.t 11) (.t 14) (.v (.bool false)), none, none, []⟩, ⟨(some 4), .mv (.t 15), none, none, []⟩])
  .ret))⟩
/-- pochoir/rect.Meet -/
def s71 : SFn :=
 ⟨16, [.tmp 4],
  (.seq (.reg [⟨(some 2), .box 112 (.t 0), none, none, []⟩, ⟨(some 3), .box 112 (.t 1), none, none, []⟩, ⟨(some 4), .mv (.v (.bool false)), none, none, []⟩])
  (.seq (.reg [⟨(some 5), .load (some 4) (.t 2), none, none, []⟩, ⟨(some 6), .call 99 [(.t 5)], none, none, []⟩, ⟨(some 7), .mv (.t 6), none, none, []⟩, ⟨(some 8), .load (some 4) (.t 3), (some (7, true)), none, []⟩, ⟨(some 9), .call 99 [(.t 8)], (some (7, true)), none, []⟩, ⟨(some 10), .pick (.t 7) (.t 9) (.v (.bool false)), none, none, []⟩, ⟨(some 11), .mv (.t 10), none, none, []⟩, ⟨(some 12), .load (some 4) (.t 2), (some (11, true)), none, []⟩, ⟨(some 13), .load (some 4) (.t 3), (some (11, true)), none, []⟩, ⟨(some 14), .call 101 [(.t 12), (.t 13)], (some (11, true)), none, []⟩, ⟨(some 15), .pick (.t 11) (.t 14) (.v (.bool false)), none, none, []⟩, ⟨(some 4), .mv (.t 15), none, none, []⟩])
  .ret))⟩
/-- pochoir/pack.right -/
def s72 : SFn :=
 ⟨16, [.tmp 2],
  (.seq (.reg [⟨(some 1), .box 61 (.t 0), none, none, []⟩, ⟨(some 2), .mv (.v (.bool false)), none, none, []⟩])
  (.seq (.reg [⟨(some 3), .load (some 2) (.t 1), none, none, []⟩, ⟨(some 4), .build [(.int .i64 0), (.int .i64 0)] [], none, none, []⟩, ⟨(some 5), .eqs 4 [1, 1] false (.t 3) (.t 4), none, none, []⟩, ⟨(some 6), .mv (.t 5), none, none, []⟩, ⟨(some 7), .faddr 0 (.t 1), (some (6, false)), none, []⟩, ⟨(some 8), .load none (.t 7), (some (6, false)), none, []⟩, ⟨(some 9), .call 69 [(.t 8), (.v (.int .i64 1)), (.v (.int .i64 1024))], (some (6, false)), none, []⟩, ⟨(some 10), .mv (.t 9), (some (6, false)), none, []⟩, ⟨(some 11), .faddr 1 (.t 1), (some (10, true)), none, []⟩, ⟨(some 12), .load none (.t 11), (some (10, true)), none, []⟩, ⟨(some 13), .call 69 [(.t 12), (.v (.int .i64 1)), (.v (.int .i64 1024))], (some (10, true)), none, []⟩, ⟨(some 14), .pick (.t 10) (.t 13) (.v (.bool false)), (some (6, false)), none, []⟩, ⟨(some 15), .pick (.t 6) (.v (.bool true)) (.t 14), none, none, []⟩, ⟨(some 2), .mv (.t 15), none, none, []⟩])
  .ret))⟩
/-- pochoir/pochoirref29.Size -/
def s73 : SFn :=
 ⟨26, [.tmp 2],
  (.seq (.reg [⟨(some 1), .box 61 (.t 0), none, none, []⟩, ⟨(some 2), .mv (.v (.bool false)), none, none, []⟩])
  (.seq (.reg [⟨(some 3), .load (some 2) (.t 1), none, none, []⟩, ⟨(some 4), .build [(.int .i64 0), (.int .i64 0)] [], none, none, []⟩, ⟨(some 5), .eqs 4 [1, 1] false (.t 3) (.t 4), none, none, []⟩, ⟨(some 6), .mv (.t 5), none, none, []⟩, ⟨(some 7), .faddr 0 (.t 1), (some (6, false)), none, []⟩, ⟨(some 8), .load none (.t 7), (some (6, false)), none, []⟩, ⟨(some 9), .bin .geq (.t 8) (.v (.int .i64 1)), (some (6, false)), none, []⟩, ⟨(some 10), .mv (.t 9), (some (6, false)), none, []⟩, ⟨(some 11), .faddr 0 (.t 1), (some (10, true)), none, []⟩, ⟨(some 12), .load none (.t 11), (some (10, true)), none, []⟩, ⟨(some 13), .bin .leq (.t 12) (.v (.int .i64 1024)), (some (10, true)), none, []⟩, ⟨(some 14), .pick (.t 10) (.t 13) (.v (.bool false)), (some (6, false)), none, []⟩, ⟨(some 15), .mv (.t 14), (some (6, false)), none, []⟩, ⟨(some 16), .faddr 1 (.t 1), (some (15, true)), none, []⟩, ⟨(some 17), .load none (.t 16), (some (15, true)), none, []⟩, ⟨(some 18), .bin .geq (.t 17) (.v (.int .i64 1)), (some (15, true)), none, []⟩, ⟨(some 19), .pick (.t 15) (.t 18) (.v (.bool false)), (some (6, false)), none, []⟩, ⟨(some 20), .mv (.t 19), (some (6, false)), none, []⟩, ⟨(some 21), .faddr 1 (.t 1), (some (20, true)), none, []⟩, ⟨(some 22), .load none (.t 21), (some (20, true)), none, []⟩, ⟨(some 23), .bin .leq (.t 22) (.v (.int .i64 1024)), (some (20, true)), none, []⟩, ⟨(some 24), .pick (.t 20) (.t 23) (.v (.bool false)), (some (6, false)), none, []⟩, ⟨(some 25), .pick (.t 6) (.v (.bool true)) (.t 24), none, none, []⟩, ⟨(some 2), .mv (.t 25), none, none, []⟩])
  .ret))⟩
/-- pochoir/pochoirref28.May -/
def s74 : SFn :=
 ⟨47, [.tmp 2],
  (.seq (.reg [⟨(some 1), .box 112 (.t 0), none, none, []⟩, ⟨(some 2), .mv (.v (.bool false)), none, none, []⟩])
  (.seq (.reg [⟨(some 3), .faddr 0 (.t 1), none, none, []⟩, ⟨(some 4), .load none (.t 3), none, none, []⟩, ⟨(some 5), .bin .geq (.t 4) (.v (.int .i64 0)), none, none, []⟩, ⟨(some 6), .mv (.t 5), none, none, []⟩, ⟨(some 7), .faddr 1 (.t 1), (some (6, true)), none, []⟩, ⟨(some 8), .load none (.t 7), (some (6, true)), none, []⟩, ⟨(some 9), .bin .geq (.t 8) (.v (.int .i64 0)), (some (6, true)), none, []⟩, ⟨(some 10), .pick (.t 6) (.t 9) (.v (.bool false)), none, none, []⟩, ⟨(some 11), .mv (.t 10), none, none, []⟩, ⟨(some 12), .faddr 2 (.t 1), (some (11, true)), none, []⟩, ⟨(some 13), .load none (.t 12), (some (11, true)), none, []⟩, ⟨(some 14), .bin .geq (.t 13) (.v (.int .i64 1)), (some (11, true)), none, []⟩, ⟨(some 15), .pick (.t 11) (.t 14) (.v (.bool false)), none, none, []⟩, ⟨(some 16), .mv (.t 15), none, none, []⟩, ⟨(some 17), .faddr 3 (.t 1), (some (16, true)), none, []⟩, ⟨(some 18), .load none (.t 17), (some (16, true)), none, []⟩, ⟨(some 19), .bin .geq (.t 18) (.v (.int .i64 1)), (some (16, true)), none, []⟩, ⟨(some 20), .pick (.t 16) (.t 19) (.v (.bool false)), none, none, []⟩, ⟨(some 21), .mv (.t 20), none, none, []⟩, ⟨(some 22), .faddr 0 (.t 1), (some (21, true)), none, []⟩, ⟨(some 23), .load none (.t 22), (some (21, true)), none, []⟩, ⟨(some 24), .bin .leq (.t 23) (.v (.int .i64 1024)), (some (21, true)), none, []⟩, ⟨(some 25), .pick (.t 21) (.t 24) (.v (.bool false)), none, none, []⟩, ⟨(some 26), .mv (.t 25), none, none, []⟩, ⟨(some 27), .faddr 1 (.t 1), (some (26, true)), none, []⟩, ⟨(some 28), .load none (.t 27), (some (26, true)), none, []⟩, ⟨(some 29), .bin .leq (.t 28) (.v (.int .i64 1024)), (some (26, true)), none, []⟩, ⟨(some 30), .pick (.t 26) (.t 29) (.v (.bool false)), none, none, []⟩, ⟨(some 31), .mv (.t 30), none, none, []⟩, ⟨(some 32), .faddr 2 (.t 1), (some (31, true)), none, []⟩, ⟨(some 33), .load none (.t 32), (some (31, true)), none, []⟩, ⟨(some 34), .faddr 0 (.t 1), (some (31, true)), none, []⟩, ⟨(some 35), .load none (.t 34), (some (31, true)), none, []⟩, ⟨(some 36), .bin .sub (.v (.int .i64 1024)) (.t 35), (some (31, true)), none, []⟩, ⟨(some 37), .bin .leq (.t 33) (.t 36), (some (31, true)), none, []⟩, ⟨(some 38), .pick (.t 31) (.t 37) (.v (.bool false)), none, none, []⟩, ⟨(some 39), .mv (.t 38), none, none, []⟩, ⟨(some 40), .faddr 3 (.t 1), (some (39, true)), none, []⟩, ⟨(some 41), .load none (.t 40), (some (39, true)), none, []⟩, ⟨(some 42), .faddr 1 (.t 1), (some (39, true)), none, []⟩, ⟨(some 43), .load none (.t 42), (some (39, true)), none, []⟩, ⟨(some 44), .bin .sub (.v (.int .i64 1024)) (.t 43), (some (39, true)), none, []⟩, ⟨(some 45), .bin .leq (.t 41) (.t 44), (some (39, true)), none, []⟩, ⟨(some 46), .pick (.t 39) (.t 45) (.v (.bool false)), none, none, []⟩, ⟨(some 2), .mv (.t 46), none, none, []⟩])
  .ret))⟩
/-- pochoir/pochoirref28.Meet -/
def s75 : SFn :=
 ⟨43, [.tmp 4],
  (.seq (.reg [⟨(some 2), .box 112 (.t 0), none, none, []⟩, ⟨(some 3), .box 112 (.t 1), none, none, []⟩, ⟨(some 4), .mv (.v (.bool false)), none, none, []⟩])
  (.seq (.reg [⟨(some 5), .faddr 0 (.t 2), none, none, []⟩, ⟨(some 6), .load none (.t 5), none, none, []⟩, ⟨(some 7), .faddr 0 (.t 3), none, none, []⟩, ⟨(some 8), .load none (.t 7), none, none, []⟩, ⟨(some 9), .faddr 2 (.t 3), none, none, []⟩, ⟨(some 10), .load none (.t 9), none, none, []⟩, ⟨(some 11), .bin .add (.t 8) (.t 10), none, none, []⟩, ⟨(some 12), .bin .lss (.t 6) (.t 11), none, none, []⟩, ⟨(some 13), .mv (.t 12), none, none, []⟩, ⟨(some 14), .faddr 0 (.t 3), (some (13, true)), none, []⟩, ⟨(some 15), .load none (.t 14), (some (13, true)), none, []⟩, ⟨(some 16), .faddr 0 (.t 2), (some (13, true)), none, []⟩, ⟨(some 17), .load none (.t 16), (some (13, true)), none, []⟩, ⟨(some 18), .faddr 2 (.t 2), (some (13, true)), none, []⟩, ⟨(some 19), .load none (.t 18), (some (13, true)), none, []⟩, ⟨(some 20), .bin .add (.t 17) (.t 19), (some (13, true)), none, []⟩, ⟨(some 21), .bin .lss (.t 15) (.t 20), (some (13, true)), none, []⟩, ⟨(some 22), .pick (.t 13) (.t 21) (.v (.bool false)), none, none, []⟩, ⟨(some 23), .mv (.t 22), none, none, []⟩, ⟨(some 24), .faddr 1 (.t 2), (some (23, true)), none, []⟩, ⟨(some 25), .load none (.t 24), (some (23, true)), none, []⟩, ⟨(some 26), .faddr 1 (.t 3), (some (23, true)), none, []⟩, ⟨(some 27), .load none (.t 26), (some (23, true)), none, []⟩, ⟨(some 28), .faddr 3 (.t 3), (some (23, true)), none, []⟩, ⟨(some 29), .load none (.t 28), (some (23, true)), none, []⟩, ⟨(some 30), .bin .add (.t 27) (.t 29), (some (23, true)), none, []⟩, ⟨(some 31), .bin .lss (.t 25) (.t 30), (some (23, true)), none, []⟩, ⟨(some 32), .pick (.t 23) (.t 31) (.v (.bool false)), none, none, []⟩, ⟨(some 33), .mv (.t 32), none, none, []⟩, ⟨(some 34), .faddr 1 (.t 3), (some (33, true)), none, []⟩, ⟨(some 35), .load none (.t 34), (some (33, true)), none, []⟩, ⟨(some 36), .faddr 1 (.t 2), (some (33, true)), none, []⟩, ⟨(some 37), .load none (.t 36), (some (33, true)), none, []⟩, ⟨(some 38), .faddr 3 (.t 2), (some (33, true)), none, []⟩, ⟨(some 39), .load none (.t 38), (some (33, true)), none, []⟩, ⟨(some 40), .bin .add (.t 37) (.t 39), (some (33, true)), none, []⟩, ⟨(some 41), .bin .lss (.t 35) (.t 40), (some (33, true)), none, []⟩, ⟨(some 42), .pick (.t 33) (.t 41) (.v (.bool false)), none, none, []⟩, ⟨(some 4), .mv (.t 42), none, none, []⟩])
  .ret))⟩
/-- pochoir/pack.best -/
def s92 : SFn :=
 ⟨34, [.cell 4 (some 4), .tmp 5],
  (.seq (.reg [⟨(some 3), .box 61 (.t 1), none, none, []⟩, ⟨(some 4), .box 112 (.v (.agg [(.int .i64 0), (.int .i64 0), (.int .i64 0), (.int .i64 0)])), none, none, []⟩, ⟨(some 5), .mv (.v (.bool false)), none, none, []⟩])
  (.seq (.reg [⟨(some 6), .box 112 (.v (.agg [(.int .i64 0), (.int .i64 0), (.int .i64 0), (.int .i64 0)])), none, none, []⟩])
  (.seq (.reg [⟨(some 7), .mv (.v (.bool false)), none, none, []⟩])
  (.seq (.seq (.reg [⟨(some 10), .mv (.t 0), none, none, []⟩, ⟨(some 11), .len false (.t 10), none, none, []⟩, ⟨(some 12), .mv (.v (.int .i64 0)), none, none, []⟩])
  (.block 0 (.loop (.seq (.reg [⟨(some 13), .bin .lss (.t 12) (.t 11), none, none, []⟩])
  (.seq (.cond (.t 13) .skip (.exit 0))
  (.seq (.block 1 (.seq (.reg [⟨(some 14), .iaddr 4 (.t 10) (.t 12), none, none, []⟩, ⟨(some 15), .load (some 4) (.t 14), none, none, []⟩, ⟨(some 9), .box 112 (.v (.agg [(.int .i64 0), (.int .i64 0), (.int .i64 0), (.int .i64 0)])), none, none, []⟩, ⟨none, .store 4 (.t 9) (.t 15), none, none, []⟩])
  (.seq (.reg [⟨(some 16), .load (some 4) (.t 9), none, none, []⟩, ⟨(some 17), .load (some 2) (.t 3), none, none, []⟩, ⟨(some 18), .call 115 [(.t 16), (.t 17)], none, none, []⟩, ⟨(some 19), .mv (.t 18), none, none, []⟩, ⟨(some 20), .mv (.t 7), (some (19, true)), none, []⟩, ⟨(some 21), .un .not (.t 20), (some (19, true)), none, []⟩, ⟨(some 22), .mv (.t 21), (some (19, true)), none, []⟩, ⟨(some 23), .load (some 4) (.t 9), (some (22, false)), none, []⟩, ⟨(some 24), .load (some 4) (.t 6), (some (22, false)), none, []⟩, ⟨(some 25), .load (some 2) (.t 3), (some (22, false)), none, []⟩, ⟨(some 26), .call 116 [(.t 23), (.t 24), (.t 25)], (some (22, false)), none, []⟩, ⟨(some 27), .bin .lss (.t 26) (.v (.int .i64 0)), (some (22, false)), none, []⟩, ⟨(some 28), .pick (.t 22) (.v (.bool true)) (.t 27), (some (19, true)), none, []⟩, ⟨(some 29), .pick (.t 19) (.t 28) (.v (.bool false)), none, none, []⟩])
  (.cond (.t 29) (.reg [⟨(some 30), .load (some 4) (.t 9), none, none, []⟩, ⟨none, .store 4 (.t 6) (.t 30), none, none, []⟩, ⟨(some 7), .mv (.v (.bool true)), none, none, []⟩]) .skip))))
  (.reg [⟨(some 31), .bin .add (.t 12) (.v (.int .i64 1)), none, none, []⟩, ⟨(some 12), .mv (.t 31), none, none, []⟩])))))))
  (.seq (.reg [⟨(some 32), .load (some 4) (.t 6), none, none, []⟩, ⟨(some 33), .mv (.t 7), none, none, []⟩, ⟨none, .store 4 (.t 4) (.t 32), none, none, []⟩, ⟨(some 5), .mv (.t 33), none, none, []⟩])
  .ret)))))⟩
/-- pochoir/rect.Prune -/
def s93 : SFn :=
 ⟨36, [.tmp 2],
  (.seq (.reg [⟨(some 2), .mv (.v .nils), none, none, []⟩])
  (.seq (.reg [⟨(some 6), .mv (.t 0), none, none, []⟩, ⟨(some 7), .call 117 [(.t 6)], none, none, []⟩, ⟨(some 0), .mv (.t 7), none, none, []⟩])
  (.seq (.reg [⟨(some 3), .mv (.v .nils), none, none, []⟩])
  (.seq (.seq (.reg [⟨(some 8), .mv (.t 0), none, none, []⟩, ⟨(some 9), .len false (.t 8), none, none, []⟩, ⟨(some 10), .mv (.v (.int .i64 0)), none, none, []⟩])
  (.block 0 (.loop (.seq (.reg [⟨(some 11), .bin .lss (.t 10) (.t 9), none, none, []⟩])
  (.seq (.cond (.t 11) .skip (.exit 0))
  (.seq (.block 1 (.seq (.reg [⟨(some 12), .mv (.t 10), none, none, []⟩, ⟨(some 13), .iaddr 4 (.t 8) (.t 10), none, none, []⟩, ⟨(some 14), .load (some 4) (.t 13), none, none, []⟩, ⟨(some 5), .box 112 (.v (.agg [(.int .i64 0), (.int .i64 0), (.int .i64 0), (.int .i64 0)])), none, none, []⟩, ⟨(some 4), .mv (.t 12), none, none, []⟩, ⟨none, .store 4 (.t 5) (.t 14), none, none, []⟩])
  (.seq (.reg [⟨(some 15), .mv (.t 0), none, none, []⟩, ⟨(some 16), .mv (.t 4), none, none, []⟩, ⟨(some 17), .slc 4 (.t 15) none (some (.t 16)) none, none, none, []⟩, ⟨(some 18), .mkfn 119 [(.t 5)], none, none, []⟩, ⟨(some 19), .call 118 [(.t 17), (.t 18)], none, none, []⟩, ⟨(some 20), .un .not (.t 19), none, none, []⟩, ⟨(some 21), .mv (.t 20), none, none, []⟩, ⟨(some 22), .mv (.t 0), (some (21, true)), none, []⟩, ⟨(some 23), .mv (.t 4), (some (21, true)), none, []⟩, ⟨(some 24), .bin .add (.t 23) (.v (.int .i64 1)), (some (21, true)), none, []⟩, ⟨(some 25), .slc 4 (.t 22) (some (.t 24)) none none, (some (21, true)), none, []⟩, ⟨(some 26), .mkfn 120 [(.t 5)], (some (21, true)), none, []⟩, ⟨(some 27), .call 118 [(.t 25), (.t 26)], (some (21, true)), none, []⟩, ⟨(some 28), .un .not (.t 27), (some (21, true)), none, []⟩, ⟨(some 29), .pick (.t 21) (.t 28) (.v (.bool false)), none, none, []⟩])
  (.cond (.t 29) (.reg [⟨(some 30), .mv (.t 3), none, none, []⟩, ⟨(some 31), .load (some 4) (.t 5), none, none, []⟩, ⟨(some 32), .bsl 112 [(.int .i64 0), (.int .i64 0), (.int .i64 0), (.int .i64 0)] 1 4 [(0, 4, (.t 31))], none, none, []⟩, ⟨(some 33), .app 112 4 (.t 30) (.t 32), none, none, []⟩, ⟨(some 3), .mv (.t 33), none, none, []⟩]) .skip))))
  (.reg [⟨(some 34), .bin .add (.t 10) (.v (.int .i64 1)), none, none, []⟩, ⟨(some 10), .mv (.t 34), none, none, []⟩])))))))
  (.seq (.reg [⟨(some 35), .mv (.t 3), none, none, []⟩, ⟨(some 2), .mv (.t 35), none, none, []⟩])
  .ret)))))⟩
/-- pochoir/rect.Cut -/
def s94 : SFn :=
 ⟨26, [.tmp 4],
  (.seq (.reg [⟨(some 3), .box 112 (.t 1), none, none, []⟩, ⟨(some 4), .mv (.v .nils), none, none, []⟩])
  (.seq (.reg [⟨(some 8), .mv (.t 0), none, none, []⟩, ⟨(some 9), .call 117 [(.t 8)], none, none, []⟩, ⟨(some 0), .mv (.t 9), none, none, []⟩])
  (.seq (.seq (.reg [⟨(some 10), .load (some 4) (.t 3), none, none, []⟩, ⟨(some 11), .call 99 [(.t 10)], none, none, []⟩, ⟨(some 12), .un .not (.t 11), none, none, []⟩])
  (.cond (.t 12) (.seq (.reg [⟨(some 13), .mv (.t 0), none, none, []⟩, ⟨(some 4), .mv (.t 13), none, none, []⟩])
  .ret) .skip))
  (.seq (.reg [⟨(some 5), .mv (.v .nils), none, none, []⟩])
  (.seq (.seq (.reg [⟨(some 14), .mv (.t 0), none, none, []⟩, ⟨(some 15), .len false (.t 14), none, none, []⟩, ⟨(some 16), .mv (.v (.int .i64 0)), none, none, []⟩])
  (.block 0 (.loop (.seq (.reg [⟨(some 17), .bin .lss (.t 16) (.t 15), none, none, []⟩])
  (.seq (.cond (.t 17) .skip (.exit 0))
  (.seq (.block 1 (.seq (.reg [⟨(some 18), .iaddr 4 (.t 14) (.t 16), none, none, []⟩, ⟨(some 19), .load (some 4) (.t 18), none, none, []⟩, ⟨(some 7), .box 112 (.v (.agg [(.int .i64 0), (.int .i64 0), (.int .i64 0), (.int .i64 0)])), none, none, []⟩, ⟨none, .store 4 (.t 7) (.t 19), none, none, []⟩])
  (.reg [⟨(some 20), .mv (.t 5), none, none, []⟩, ⟨(some 21), .load (some 4) (.t 7), none, none, []⟩, ⟨(some 22), .load (some 4) (.t 3), none, none, []⟩, ⟨(some 23), .call 121 [(.t 20), (.t 21), (.t 22)], none, none, []⟩, ⟨(some 5), .mv (.t 23), none, none, []⟩])))
  (.reg [⟨(some 24), .bin .add (.t 16) (.v (.int .i64 1)), none, none, []⟩, ⟨(some 16), .mv (.t 24), none, none, []⟩])))))))
  (.seq (.reg [⟨(some 25), .mv (.t 5), none, none, []⟩, ⟨(some 4), .mv (.t 25), none, none, []⟩])
  .ret))))))⟩
/-- pochoir/pochoirref29.better -/
def s95 : SFn :=
 ⟨80, [.tmp 8],
  (.seq (.reg [⟨(some 4), .box 112 (.t 0), none, none, []⟩, ⟨(some 5), .box 112 (.t 1), none, none, []⟩, ⟨(some 8), .mv (.v (.bool false)), none, none, []⟩])
  (.seq (.reg [⟨(some 12), .faddr 2 (.t 4), none, none, []⟩, ⟨(some 13), .load none (.t 12), none, none, []⟩, ⟨(some 14), .mv (.t 2), none, none, []⟩, ⟨(some 15), .bin .sub (.t 13) (.t 14), none, none, []⟩, ⟨(some 16), .faddr 3 (.t 4), none, none, []⟩, ⟨(some 17), .load none (.t 16), none, none, []⟩, ⟨(some 18), .mv (.t 3), none, none, []⟩, ⟨(some 19), .bin .sub (.t 17) (.t 18), none, none, []⟩, ⟨(some 20), .mnmx false [(.t 15), (.t 19)], none, none, []⟩, ⟨(some 21), .faddr 2 (.t 4), none, none, []⟩, ⟨(some 22), .load none (.t 21), none, none, []⟩, ⟨(some 23), .mv (.t 2), none, none, []⟩, ⟨(some 24), .bin .sub (.t 22) (.t 23), none, none, []⟩, ⟨(some 25), .faddr 3 (.t 4), none, none, []⟩, ⟨(some 26), .load none (.t 25), none, none, []⟩, ⟨(some 27), .mv (.t 3), none, none, []⟩, ⟨(some 28), .bin .sub (.t 26) (.t 27), none, none, []⟩, ⟨(some 29), .mnmx true [(.t 24), (.t 28)], none, none, []⟩, ⟨(some 30), .faddr 1 (.t 4), none, none, []⟩, ⟨(some 31), .load none (.t 30), none, none, []⟩, ⟨(some 32), .faddr 0 (.t 4), none, none, []⟩, ⟨(some 33), .load none (.t 32), none, none, []⟩, ⟨(some 34), .bsl 3 [(.int .i64 0), (.int .i64 0), (.int .i64 0), (.int .i64 0)] 4 1 [(0, 1, (.t 20)), (1, 1, (.t 29)), (2, 1, (.t 31)), (3, 1, (.t 33))], none, none, []⟩, ⟨(some 9), .mv (.t 34), none, none, []⟩])
  (.seq (.reg [⟨(some 35), .faddr 2 (.t 5), none, none, []⟩, ⟨(some 36), .load none (.t 35), none, none, []⟩, ⟨(some 37), .mv (.t 2), none, none, []⟩, ⟨(some 38), .bin .sub (.t 36) (.t 37), none, none, []⟩, ⟨(some 39), .faddr 3 (.t 5), none, none, []⟩, ⟨(some 40), .load none (.t 39), none, none, []⟩, ⟨(some 41), .mv (.t 3), none, none, []⟩, ⟨(some 42), .bin .sub (.t 40) (.t 41), none, none, []⟩, ⟨(some 43), .mnmx false [(.t 38), (.t 42)], none, none, []⟩, ⟨(some 44), .faddr 2 (.t 5), none, none, []⟩, ⟨(some 45), .load none (.t 44), none, none, []⟩, ⟨(some 46), .mv (.t 2), none, none, []⟩, ⟨(some 47), .bin .sub (.t 45) (.t 46), none, none, []⟩, ⟨(some 48), .faddr 3 (.t 5), none, none, []⟩, ⟨(some 49), .load none (.t 48), none, none, []⟩, ⟨(some 50), .mv (.t 3), none, none, []⟩, ⟨(some 51), .bin .sub (.t 49) (.t 50), none, none, []⟩, ⟨(some 52), .mnmx true [(.t 47), (.t 51)], none, none, []⟩, ⟨(some 53), .faddr 1 (.t 5), none, none, []⟩, ⟨(some 54), .load none (.t 53), none, none, []⟩, ⟨(some 55), .faddr 0 (.t 5), none, none, []⟩, ⟨(some 56), .load none (.t 55), none, none, []⟩, ⟨(some 57), .bsl 3 [(.int .i64 0), (.int .i64 0), (.int .i64 0), (.int .i64 0)] 4 1 [(0, 1, (.t 43)), (1, 1, (.t 52)), (2, 1, (.t 54)), (3, 1, (.t 56))], none, none, []⟩, ⟨(some 10), .mv (.t 57), none, none, []⟩])
  (.seq (.seq (.reg [⟨(some 11), .mv (.v (.int .i64 0)), none, none, []⟩])
  (.block 0 (.loop (.seq (.seq (.reg [⟨(some 58), .mv (.t 11), none, none, []⟩, ⟨(some 59), .bin .lss (.t 58) (.v (.int .i64 4)), none, none, []⟩])
  (.cond (.t 59) .skip (.exit 0)))
  (.seq (.block 1 (.seq (.regd [⟨(some 62), .mv (.t 9), none, (some []), []⟩, ⟨(some 63), .mv (.t 11), none, (some []), []⟩, ⟨(some 64), .iaddr 1 (.t 62) (.t 63), none, (some []), []⟩, ⟨(some 65), .load none (.t 64), none, (some []), []⟩, ⟨(some 66), .mv (.t 10), none, (some []), []⟩, ⟨(some 67), .mv (.t 11), none, (some []), []⟩, ⟨(some 68), .iaddr 1 (.t 66) (.t 67), none, (some []), []⟩, ⟨(some 69), .load none (.t 68), none, (some []), []⟩, ⟨(some 70), .bin .neq (.t 65) (.t 69), none, (some []), []⟩])
  (.cond (.t 70) (.seq (.regd [⟨(some 71), .mv (.t 9), none, (some []), []⟩, ⟨(some 72), .mv (.t 11), none, (some []), []⟩, ⟨(some 73), .iaddr 1 (.t 71) (.t 72), none, (some []), []⟩, ⟨(some 74), .load none (.t 73), none, (some []), []⟩, ⟨(some 75), .mv (.t 10), none, (some []), []⟩, ⟨(some 76), .mv (.t 11), none, (some []), []⟩, ⟨(some 77), .iaddr 1 (.t 75) (.t 76), none, (some []), []⟩, ⟨(some 78), .load none (.t 77), none, (some []), []⟩, ⟨(some 79), .bin .lss (.t 74) (.t 78), none, (some []), []⟩, ⟨(some 8), .mv (.t 79), none, (some []), []⟩])
  .ret) .skip)))
  (.reg [⟨(some 60), .mv (.t 11), none, none, []⟩, ⟨(some 61), .bin .add (.t 60) (.v (.int .i64 1)), none, none, []⟩, ⟨(some 11), .mv (.t 61), none, none, []⟩]))))))
  (.seq (.reg [⟨(some 8), .mv (.v (.bool false)), none, none, []⟩])
  .ret)))))⟩
/-- pochoir/pochoirref28.those -/
def s96 : SFn :=
 ⟨24, [.tmp 2],
  (.seq (.reg [⟨(some 2), .mv (.v .nils), none, none, []⟩])
  (.seq (.reg [⟨(some 3), .mv (.v .nils), none, none, []⟩])
  (.seq (.seq (.reg [⟨(some 4), .mv (.v (.int .i64 0)), none, none, []⟩])
  (.block 0 (.loop (.seq (.seq (.reg [⟨(some 5), .mv (.t 4), none, none, []⟩, ⟨(some 6), .mv (.t 0), none, none, []⟩, ⟨(some 7), .len false (.t 6), none, none, []⟩, ⟨(some 8), .bin .lss (.t 5) (.t 7), none, none, []⟩])
  (.cond (.t 8) .skip (.exit 0)))
  (.seq (.block 1 (.seq (.reg [⟨(some 11), .mv (.t 0), none, none, []⟩, ⟨(some 12), .mv (.t 4), none, none, []⟩, ⟨(some 13), .iaddr 4 (.t 11) (.t 12), none, none, []⟩, ⟨(some 14), .load (some 4) (.t 13), none, none, []⟩, ⟨(some 15), .call 74 [(.t 14)], none, none, []⟩])
  (.cond (.t 15) (.reg [⟨(some 16), .mv (.t 3), none, none, []⟩, ⟨(some 17), .mv (.t 0), none, none, []⟩, ⟨(some 18), .mv (.t 4), none, none, []⟩, ⟨(some 19), .iaddr 4 (.t 17) (.t 18), none, none, []⟩, ⟨(some 20), .load (some 4) (.t 19), none, none, []⟩, ⟨(some 21), .bsl 112 [(.int .i64 0), (.int .i64 0), (.int .i64 0), (.int .i64 0)] 1 4 [(0, 4, (.t 20))], none, none, []⟩, ⟨(some 22), .app 112 4 (.t 16) (.t 21), none, none, []⟩, ⟨(some 3), .mv (.t 22), none, none, []⟩]) .skip)))
  (.reg [⟨(some 9), .mv (.t 4), none, none, []⟩, ⟨(some 10), .bin .add (.t 9) (.v (.int .i64 1)), none, none, []⟩, ⟨(some 4), .mv (.t 10), none, none, []⟩]))))))
  (.seq (.reg [⟨(some 23), .mv (.t 3), none, none, []⟩, ⟨(some 2), .mv (.t 23), none, none, []⟩])
  .ret))))⟩
/-- pochoir/pochoirref28.Has -/
def s97 : SFn :=
 ⟨43, [.tmp 4],
  (.seq (.reg [⟨(some 2), .box 112 (.t 0), none, none, []⟩, ⟨(some 3), .box 112 (.t 1), none, none, []⟩, ⟨(some 4), .mv (.v (.bool false)), none, none, []⟩])
  (.seq (.reg [⟨(some 5), .faddr 0 (.t 2), none, none, []⟩, ⟨(some 6), .load none (.t 5), none, none, []⟩, ⟨(some 7), .faddr 0 (.t 3), none, none, []⟩, ⟨(some 8), .load none (.t 7), none, none, []⟩, ⟨(some 9), .bin .leq (.t 6) (.t 8), none, none, []⟩, ⟨(some 10), .mv (.t 9), none, none, []⟩, ⟨(some 11), .faddr 1 (.t 2), (some (10, true)), none, []⟩, ⟨(some 12), .load none (.t 11), (some (10, true)), none, []⟩, ⟨(some 13), .faddr 1 (.t 3), (some (10, true)), none, []⟩, ⟨(some 14), .load none (.t 13), (some (10, true)), none, []⟩, ⟨(some 15), .bin .leq (.t 12) (.t 14), (some (10, true)), none, []⟩, ⟨(some 16), .pick (.t 10) (.t 15) (.v (.bool false)), none, none, []⟩, ⟨(some 17), .mv (.t 16), none, none, []⟩, ⟨(some 18), .faddr 0 (.t 3), (some (17, true)), none, []⟩, ⟨(some 19), .load none (.t 18), (some (17, true)), none, []⟩, ⟨(some 20), .faddr 2 (.t 3), (some (17, true)), none, []⟩, ⟨(some 21), .load none (.t 20), (some (17, true)), none, []⟩, ⟨(some 22), .bin .add (.t 19) (.t 21), (some (17, true)), none, []⟩, ⟨(some 23), .faddr 0 (.t 2), (some (17, true)), none, []⟩, ⟨(some 24), .load none (.t 23), (some (17, true)), none, []⟩, ⟨(some 25), .faddr 2 (.t 2), (some (17, true)), none, []⟩, ⟨(some 26), .load none (.t 25), (some (17, true)), none, []⟩, ⟨(some 27), .bin .add (.t 24) (.t 26), (some (17, true)), none, []⟩, ⟨(some 28), .bin .leq (.t 22) (.t 27), (some (17, true)), none, []⟩, ⟨(some 29), .pick (.t 17) (.t 28) (.v (.bool false)), none, none, []⟩, ⟨(some 30), .mv (.t 29), none, none, []⟩, ⟨(some 31), .faddr 1 (.t 3), (some (30, true)), none, []⟩, ⟨(some 32), .load none (.t 31), (some (30, true)), none, []⟩, ⟨(some 33), .faddr 3 (.t 3), (some (30, true)), none, []⟩, ⟨(some 34), .load none (.t 33), (some (30, true)), none, []⟩, ⟨(some 35), .bin .add (.t 32) (.t 34), (some (30, true)), none, []⟩, ⟨(some 36), .faddr 1 (.t 2), (some (30, true)), none, []⟩, ⟨(some 37), .load none (.t 36), (some (30, true)), none, []⟩, ⟨(some 38), .faddr 3 (.t 2), (some (30, true)), none, []⟩, ⟨(some 39), .load none (.t 38), (some (30, true)), none, []⟩, ⟨(some 40), .bin .add (.t 37) (.t 39), (some (30, true)), none, []⟩, ⟨(some 41), .bin .leq (.t 35) (.t 40), (some (30, true)), none, []⟩, ⟨(some 42), .pick (.t 30) (.t 41) (.v (.bool false)), none, none, []⟩, ⟨(some 4), .mv (.t 42), none, none, []⟩])
  .ret))⟩
/-- pochoir/pochoirref28.Left -/
def s98 : SFn :=
 ⟨98, [.tmp 4],
  (.seq (.reg [⟨(some 2), .box 112 (.t 0), none, none, []⟩, ⟨(some 3), .box 112 (.t 1), none, none, []⟩, ⟨(some 4), .mv (.v .nils), none, none, []⟩])
  (.seq (.seq (.reg [⟨(some 8), .load (some 4) (.t 2), none, none, []⟩, ⟨(some 9), .load (some 4) (.t 3), none, none, []⟩, ⟨(some 10), .call 75 [(.t 8), (.t 9)], none, none, []⟩, ⟨(some 11), .un .not (.t 10), none, none, []⟩])
  (.cond (.t 11) (.seq (.reg [⟨(some 12), .load (some 4) (.t 2), none, none, []⟩, ⟨(some 13), .bsl 112 [(.int .i64 0), (.int .i64 0), (.int .i64 0), (.int .i64 0)] 1 4 [(0, 4, (.t 12))], none, none, []⟩, ⟨(some 4), .mv (.t 13), none, none, []⟩])
  .ret) .skip))
  (.seq (.reg [⟨(some 14), .faddr 0 (.t 2), none, none, []⟩, ⟨(some 15), .load none (.t 14), none, none, []⟩, ⟨(some 16), .faddr 1 (.t 2), none, none, []⟩, ⟨(some 17), .load none (.t 16), none, none, []⟩, ⟨(some 18), .faddr 0 (.t 3), none, none, []⟩, ⟨(some 19), .load none (.t 18), none, none, []⟩, ⟨(some 20), .faddr 0 (.t 2), none, none, []⟩, ⟨(some 21), .load none (.t 20), none, none, []⟩, ⟨(some 22), .bin .sub (.t 19) (.t 21), none, none, []⟩, ⟨(some 23), .faddr 3 (.t 2), none, none, []⟩, ⟨(some 24), .load none (.t 23), none, none, []⟩, ⟨(some 25), .build [(.int .i64 0), (.int .i64 0), (.int .i64 0), (.int .i64 0)] [(0, 1, (.t 15)), (1, 1, (.t 17)), (2, 1, (.t 22)), (3, 1, (.t 24))], none, none, []⟩, ⟨(some 26), .faddr 0 (.t 3), none, none, []⟩, ⟨(some 27), .load none (.t 26), none, none, []⟩, ⟨(some 28), .faddr 2 (.t 3), none, none, []⟩, ⟨(some 29), .load none (.t 28), none, none, []⟩, ⟨(some 30), .bin .add (.t 27) (.t 29), none, none, []⟩, ⟨(some 31), .faddr 1 (.t 2), none, none, []⟩, ⟨(some 32), .load none (.t 31), none, none, []⟩, ⟨(some 33), .faddr 0 (.t 2), none, none, []⟩, ⟨(some 34), .load none (.t 33), none, none, []⟩, ⟨(some 35), .faddr 2 (.t 2), none, none, []⟩, ⟨(some 36), .load none (.t 35), none, none, []⟩, ⟨(some 37), .bin .add (.t 34) (.t 36), none, none, []⟩, ⟨(some 38), .faddr 0 (.t 3), none, none, []⟩, ⟨(some 39), .load none (.t 38), none, none, []⟩, ⟨(some 40), .bin .sub (.t 37) (.t 39), none, none, []⟩, ⟨(some 41), .faddr 2 (.t 3), none, none, []⟩, ⟨(some 42), .load none (.t 41), none, none, []⟩, ⟨(some 43), .bin .sub (.t 40) (.t 42), none, none, []⟩, ⟨(some 44), .faddr 3 (.t 2), none, none, []⟩, ⟨(some 45), .load none (.t 44), none, none, []⟩, ⟨(some 46), .build [(.int .i64 0), (.int .i64 0), (.int .i64 0), (.int .i64 0)] [(0, 1, (.t 30)), (1, 1, (.t 32)), (2, 1, (.t 43)), (3, 1, (.t 45))], none, none, []⟩, ⟨(some 47), .faddr 0 (.t 2), none, none, []⟩, ⟨(some 48), .load none (.t 47), none, none, []⟩, ⟨(some 49), .faddr 1 (.t 2), none, none, []⟩, ⟨(some 50), .load none (.t 49), none, none, []⟩, ⟨(some 51), .faddr 2 (.t 2), none, none, []⟩, ⟨(some 52), .load none (.t 51), none, none, []⟩, ⟨(some 53), .faddr 1 (.t 3), none, none, []⟩, ⟨(some 54), .load none (.t 53), none, none, []⟩, ⟨(some 55), .faddr 1 (.t 2), none, none, []⟩, ⟨(some 56), .load none (.t 55), none, none, []⟩, ⟨(some 57), .bin .sub (.t 54) (.t 56), none, none, []⟩, ⟨(some 58), .build [(.int .i64 0), (.int .i64 0), (.int .i64 0), (.int .i64 0)] [(0, 1, (.t 48)), (1, 1, (.t 50)), (2, 1, (.t 52)), (3, 1, (.t 57))], none, none, []⟩, ⟨(some 59), .faddr 0 (.t 2), none, none, []⟩, ⟨(some 60), .load none (.t 59), none, none, []⟩, ⟨(some 61), .faddr 1 (.t 3), none, none, []⟩, ⟨(some 62), .load none (.t 61), none, none, []⟩, ⟨(some 63), .faddr 3 (.t 3), none, none, []⟩, ⟨(some 64), .load none (.t 63), none, none, []⟩, ⟨(some 65), .bin .add (.t 62) (.t 64), none, none, []⟩, ⟨(some 66), .faddr 2 (.t 2), none, none, []⟩, ⟨(some 67), .load none (.t 66), none, none, []⟩, ⟨(some 68), .faddr 1 (.t 2), none, none, []⟩, ⟨(some 69), .load none (.t 68), none, none, []⟩, ⟨(some 70), .faddr 3 (.t 2), none, none, []⟩, ⟨(some 71), .load none (.t 70), none, none, []⟩, ⟨(some 72), .bin .add (.t 69) (.t 71), none, none, []⟩, ⟨(some 73), .faddr 1 (.t 3), none, none, []⟩, ⟨(some 74), .load none (.t 73), none, none, []⟩, ⟨(some 75), .bin .sub (.t 72) (.t 74), none, none, []⟩, ⟨(some 76), .faddr 3 (.t 3), none, none, []⟩, ⟨(some 77), .load none (.t 76), none, none, []⟩, ⟨(some 78), .bin .sub (.t 75) (.t 77), none, none, []⟩, ⟨(some 79), .build [(.int .i64 0), (.int .i64 0), (.int .i64 0), (.int .i64 0)] [(0, 1, (.t 60)), (1, 1, (.t 65)), (2, 1, (.t 67)), (3, 1, (.t 78))], none, none, []⟩, ⟨(some 80), .bsl 112 [(.int .i64 0), (.int .i64 0), (.int .i64 0), (.int .i64 0), (.int .i64 0), (.int .i64 0), (.int .i64 0), (.int .i64 0), (.int .i64 0), (.int .i64 0), (.int .i64 0), (.int .i64 0), (.int .i64 0), (.int .i64 0), (.int .i64 0), (.int .i64 0)] 4 4 [(0, 4, (.t 25)), (4, 4, (.t 46)), (8, 4, (.t 58)), (12, 4, (.t 79))], none, none, []⟩, ⟨(some 5), .mv (.t 80), none, none, []⟩])
  (.seq (.reg [⟨(some 6), .mv (.v .nils), none, none, []⟩])
  (.seq (.seq (.reg [⟨(some 7), .mv (.v (.int .i64 0)), none, none, []⟩])
  (.block 0 (.loop (.seq (.seq (.reg [⟨(some 81), .mv (.t 7), none, none, []⟩, ⟨(some 82), .bin .lss (.t 81) (.v (.int .i64 4)), none, none, []⟩])
  (.cond (.t 82) .skip (.exit 0)))
  (.seq (.block 1 (.seq (.reg [⟨(some 85), .mv (.t 5), none, none, []⟩, ⟨(some 86), .mv (.t 7), none, none, []⟩, ⟨(some 87), .iaddr 4 (.t 85) (.t 86), none, none, []⟩, ⟨(some 88), .load (some 4) (.t 87), none, none, []⟩, ⟨(some 89), .call 74 [(.t 88)], none, none, []⟩])
  (.cond (.t 89) (.reg [⟨(some 90), .mv (.t 6), none, none, []⟩, ⟨(some 91), .mv (.t 5), none, none, []⟩, ⟨(some 92), .mv (.t 7), none, none, []⟩, ⟨(some 93), .iaddr 4 (.t 91) (.t 92), none, none, []⟩, ⟨(some 94), .load (some 4) (.t 93), none, none, []⟩, ⟨(some 95), .bsl 112 [(.int .i64 0), (.int .i64 0), (.int .i64 0), (.int .i64 0)] 1 4 [(0, 4, (.t 94))], none, none, []⟩, ⟨(some 96), .app 112 4 (.t 90) (.t 95), none, none, []⟩, ⟨(some 6), .mv (.t 96), none, none, []⟩]) .skip)))
  (.reg [⟨(some 83), .mv (.t 7), none, none, []⟩, ⟨(some 84), .bin .add (.t 83) (.v (.int .i64 1)), none, none, []⟩, ⟨(some 7), .mv (.t 84), none, none, []⟩]))))))
  (.seq (.reg [⟨(some 97), .mv (.t 6), none, none, []⟩, ⟨(some 4), .mv (.t 97), none, none, []⟩])
  .ret))))))⟩
/-- pochoir/rect.May -/
def s99 : SFn :=
 ⟨47, [.tmp 2],
  (.seq (.reg [⟨(some 1), .box 112 (.t 0), none, none, []⟩, ⟨(some 2), .mv (.v (.bool false)), none, none, []⟩])
  (.seq (.reg [⟨(some 3), .faddr 0 (.t 1), none, none, []⟩, ⟨(some 4), .load none (.t 3), none, none, []⟩, ⟨(some 5), .bin .geq (.t 4) (.v (.int .i64 0)), none, none, []⟩, ⟨(some 6), .mv (.t 5), none, none, []⟩, ⟨(some 7), .faddr 0 (.t 1), (some (6, true)), none, []⟩, ⟨(some 8), .load none (.t 7), (some (6, true)), none, []⟩, ⟨(some 9), .bin .lss (.t 8) (.v (.int .i64 1024)), (some (6, true)), none, []⟩, ⟨(some 10), .pick (.t 6) (.t 9) (.v (.bool false)), none, none, []⟩, ⟨(some 11), .mv (.t 10), none, none, []⟩, ⟨(some 12), .faddr 1 (.t 1), (some (11, true)), none, []⟩, ⟨(some 13), .load none (.t 12), (some (11, true)), none, []⟩, ⟨(some 14), .bin .geq (.t 13) (.v (.int .i64 0)), (some (11, true)), none, []⟩, ⟨(some 15), .pick (.t 11) (.t 14) (.v (.bool false)), none, none, []⟩, ⟨(some 16), .mv (.t 15), none, none, []⟩, ⟨(some 17), .faddr 1 (.t 1), (some (16, true)), none, []⟩, ⟨(some 18), .load none (.t 17), (some (16, true)), none, []⟩, ⟨(some 19), .bin .lss (.t 18) (.v (.int .i64 1024)), (some (16, true)), none, []⟩, ⟨(some 20), .pick (.t 16) (.t 19) (.v (.bool false)), none, none, []⟩, ⟨(some 21), .mv (.t 20), none, none, []⟩, ⟨(some 22), .faddr 2 (.t 1), (some (21, true)), none, []⟩, ⟨(some 23), .load none (.t 22), (some (21, true)), none, []⟩, ⟨(some 24), .bin .geq (.t 23) (.v (.int .i64 1)), (some (21, true)), none, []⟩, ⟨(some 25), .pick (.t 21) (.t 24) (.v (.bool false)), none, none, []⟩, ⟨(some 26), .mv (.t 25), none, none, []⟩, ⟨(some 27), .faddr 2 (.t 1), (some (26, true)), none, []⟩, ⟨(some 28), .load none (.t 27), (some (26, true)), none, []⟩, ⟨(some 29), .faddr 0 (.t 1), (some (26, true)), none, []⟩, ⟨(some 30), .load none (.t 29), (some (26, true)), none, []⟩, ⟨(some 31), .bin .sub (.v (.int .i64 1024)) (.t 30), (some (26, true)), none, []⟩, ⟨(some 32), .bin .leq (.t 28) (.t 31), (some (26, true)), none, []⟩, ⟨(some 33), .pick (.t 26) (.t 32) (.v (.bool false)), none, none, []⟩, ⟨(some 34), .mv (.t 33), none, none, []⟩, ⟨(some 35), .faddr 3 (.t 1), (some (34, true)), none, []⟩, ⟨(some 36), .load none (.t 35), (some (34, true)), none, []⟩, ⟨(some 37), .bin .geq (.t 36) (.v (.int .i64 1)), (some (34, true)), none, []⟩, ⟨(some 38), .pick (.t 34) (.t 37) (.v (.bool false)), none, none, []⟩, ⟨(some 39), .mv (.t 38), none, none, []⟩, ⟨(some 40), .faddr 3 (.t 1), (some (39, true)), none, []⟩, ⟨(some 41), .load none (.t 40), (some (39, true)), none, []⟩, ⟨(some 42), .faddr 1 (.t 1), (some (39, true)), none, []⟩, ⟨(some 43), .load none (.t 42), (some (39, true)), none, []⟩, ⟨(some 44), .bin .sub (.v (.int .i64 1024)) (.t 43), (some (39, true)), none, []⟩, ⟨(some 45), .bin .leq (.t 41) (.t 44), (some (39, true)), none, []⟩, ⟨(some 46), .pick (.t 39) (.t 45) (.v (.bool false)), none, none, []⟩, ⟨(some 2), .mv (.t 46), none, none, []⟩])
  .ret))⟩
/-- pochoir/rect.has -/
def s100 : SFn :=
 ⟨43, [.tmp 4],
  (.seq (.reg [⟨(some 2), .box 112 (.t 0), none, none, []⟩, ⟨(some 3), .box 112 (.t 1), none, none, []⟩, ⟨(some 4), .mv (.v (.bool false)), none, none, []⟩])
  (.seq (.reg [⟨(some 5), .faddr 0 (.t 2), none, none, []⟩, ⟨(some 6), .load none (.t 5), none, none, []⟩, ⟨(some 7), .faddr 0 (.t 3), none, none, []⟩, ⟨(some 8), .load none (.t 7), none, none, []⟩, ⟨(some 9), .bin .leq (.t 6) (.t 8), none, none, []⟩, ⟨(some 10), .mv (.t 9), none, none, []⟩, ⟨(some 11), .faddr 1 (.t 2), (some (10, true)), none, []⟩, ⟨(some 12), .load none (.t 11), (some (10, true)), none, []⟩, ⟨(some 13), .faddr 1 (.t 3), (some (10, true)), none, []⟩, ⟨(some 14), .load none (.t 13), (some (10, true)), none, []⟩, ⟨(some 15), .bin .leq (.t 12) (.t 14), (some (10, true)), none, []⟩, ⟨(some 16), .pick (.t 10) (.t 15) (.v (.bool false)), none, none, []⟩, ⟨(some 17), .mv (.t 16), none, none, []⟩, ⟨(some 18), .faddr 0 (.t 2), (some (17, true)), none, []⟩, ⟨(some 19), .load none (.t 18), (some (17, true)), none, []⟩, ⟨(some 20), .faddr 2 (.t 2), (some (17, true)), none, []⟩, ⟨(some 21), .load none (.t 20), (some (17, true)), none, []⟩, ⟨(some 22), .bin .add (.t 19) (.t 21), (some (17, true)), none, []⟩, ⟨(some 23), .faddr 0 (.t 3), (some (17, true)), none, []⟩, ⟨(some 24), .load none (.t 23), (some (17, true)), none, []⟩, ⟨(some 25), .faddr 2 (.t 3), (some (17, true)), none, []⟩, ⟨(some 26), .load none (.t 25), (some (17, true)), none, []⟩, ⟨(some 27), .bin .add (.t 24) (.t 26), (some (17, true)), none, []⟩, ⟨(some 28), .bin .geq (.t 22) (.t 27), (some (17, true)), none, []⟩, ⟨(some 29), .pick (.t 17) (.t 28) (.v (.bool false)), none, none, []⟩, ⟨(some 30), .mv (.t 29), none, none, []⟩, ⟨(some 31), .faddr 1 (.t 2), (some (30, true)), none, []⟩, ⟨(some 32), .load none (.t 31), (some (30, true)), none, []⟩, ⟨(some 33), .faddr 3 (.t 2), (some (30, true)), none, []⟩, ⟨(some 34), .load none (.t 33), (some (30, true)), none, []⟩, ⟨(some 35), .bin .add (.t 32) (.t 34), (some (30, true)), none, []⟩, ⟨(some 36), .faddr 1 (.t 3), (some (30, true)), none, []⟩, ⟨(some 37), .load none (.t 36), (some (30, true)), none, []⟩, ⟨(some 38), .faddr 3 (.t 3), (some (30, true)), none, []⟩, ⟨(some 39), .load none (.t 38), (some (30, true)), none, []⟩, ⟨(some 40), .bin .add (.t 37) (.t 39), (some (30, true)), none, []⟩, ⟨(some 41), .bin .geq (.t 35) (.t 40), (some (30, true)), none, []⟩, ⟨(some 42), .pick (.t 30) (.t 41) (.v (.bool false)), none, none, []⟩, ⟨(some 4), .mv (.t 42), none, none, []⟩])
  .ret))⟩
/-- pochoir/rect.meet -/
def s101 : SFn :=
 ⟨41, [.tmp 4],
  (.seq (.reg [⟨(some 2), .box 112 (.t 0), none, none, []⟩, ⟨(some 3), .box 112 (.t 1), none, none, []⟩, ⟨(some 4), .mv (.v (.bool false)), none, none, []⟩])
  (.seq (.reg [⟨(some 5), .faddr 0 (.t 2), none, none, []⟩, ⟨(some 6), .load none (.t 5), none, none, []⟩, ⟨(some 7), .faddr 0 (.t 3), none, none, []⟩, ⟨(some 8), .load none (.t 7), none, none, []⟩, ⟨(some 9), .mnmx true [(.t 6), (.t 8)], none, none, []⟩, ⟨(some 10), .faddr 0 (.t 2), none, none, []⟩, ⟨(some 11), .load none (.t 10), none, none, []⟩, ⟨(some 12), .faddr 2 (.t 2), none, none, []⟩, ⟨(some 13), .load none (.t 12), none, none, []⟩, ⟨(some 14), .bin .add (.t 11) (.t 13), none, none, []⟩, ⟨(some 15), .faddr 0 (.t 3), none, none, []⟩, ⟨(some 16), .load none (.t 15), none, none, []⟩, ⟨(some 17), .faddr 2 (.t 3), none, none, []⟩, ⟨(some 18), .load none (.t 17), none, none, []⟩, ⟨(some 19), .bin .add (.t 16) (.t 18), none, none, []⟩, ⟨(some 20), .mnmx false [(.t 14), (.t 19)], none, none, []⟩, ⟨(some 21), .bin .lss (.t 9) (.t 20), none, none, []⟩, ⟨(some 22), .mv (.t 21), none, none, []⟩, ⟨(some 23), .faddr 1 (.t 2), (some (22, true)), none, []⟩, ⟨(some 24), .load none (.t 23), (some (22, true)), none, []⟩, ⟨(some 25), .faddr 1 (.t 3), (some (22, true)), none, []⟩, ⟨(some 26), .load none (.t 25), (some (22, true)), none, []⟩, ⟨(some 27), .mnmx true [(.t 24), (.t 26)], (some (22, true)), none, []⟩, ⟨(some 28), .faddr 1 (.t 2), (some (22, true)), none, []⟩, ⟨(some 29), .load none (.t 28), (some (22, true)), none, []⟩, ⟨(some 30), .faddr 3 (.t 2), (some (22, true)), none, []⟩, ⟨(some 31), .load none (.t 30), (some (22, true)), none, []⟩, ⟨(some 32), .bin .add (.t 29) (.t 31), (some (22, true)), none, []⟩, ⟨(some 33), .faddr 1 (.t 3), (some (22, true)), none, []⟩, ⟨(some 34), .load none (.t 33), (some (22, true)), none, []⟩, ⟨(some 35), .faddr 3 (.t 3), (some (22, true)), none, []⟩, ⟨(some 36), .load none (.t 35), (some (22, true)), none, []⟩, ⟨(some 37), .bin .add (.t 34) (.t 36), (some (22, true)), none, []⟩, ⟨(some 38), .mnmx false [(.t 32), (.t 37)], (some (22, true)), none, []⟩, ⟨(some 39), .bin .lss (.t 27) (.t 38), (some (22, true)), none, []⟩, ⟨(some 40), .pick (.t 22) (.t 39) (.v (.bool false)), none, none, []⟩, ⟨(some 4), .mv (.t 40), none, none, []⟩])
  .ret))⟩
/-- pochoir/pack.fits -/
def s115 : SFn :=
 ⟨17, [.tmp 4],
  (.seq (.reg [⟨(some 2), .box 112 (.t 0), none, none, []⟩, ⟨(some 3), .box 61 (.t 1), none, none, []⟩, ⟨(some 4), .mv (.v (.bool false)), none, none, []⟩])
  (.seq (.reg [⟨(some 5), .faddr 2 (.t 2), none, none, []⟩, ⟨(some 6), .load none (.t 5), none, none, []⟩, ⟨(some 7), .faddr 0 (.t 3), none, none, []⟩, ⟨(some 8), .load none (.t 7), none, none, []⟩, ⟨(some 9), .bin .geq (.t 6) (.t 8), none, none, []⟩, ⟨(some 10), .mv (.t 9), none, none, []⟩, ⟨(some 11), .faddr 3 (.t 2), (some (10, true)), none, []⟩, ⟨(some 12), .load none (.t 11), (some (10, true)), none, []⟩, ⟨(some 13), .faddr 1 (.t 3), (some (10, true)), none, []⟩, ⟨(some 14), .load none (.t 13), (some (10, true)), none, []⟩, ⟨(some 15), .bin .geq (.t 12) (.t 14), (some (10, true)), none, []⟩, ⟨(some 16), .pick (.t 10) (.t 15) (.v (.bool false)), none, none, []⟩, ⟨(some 4), .mv (.t 16), none, none, []⟩])
  .ret))⟩
/-- pochoir/pack.compare -/
def s116 : SFn :=
 ⟨65, [.tmp 6],
  (.seq (.reg [⟨(some 3), .box 112 (.t 0), none, none, []⟩, ⟨(some 4), .box 112 (.t 1), none, none, []⟩, ⟨(some 5), .box 61 (.t 2), none, none, []⟩, ⟨(some 6), .mv (.v (.int .i64 0)), none, none, []⟩])
  (.seq (.regd [⟨(some 9), .faddr 2 (.t 3), none, (some []), []⟩, ⟨(some 10), .load none (.t 9), none, (some []), []⟩, ⟨(some 11), .faddr 0 (.t 5), none, (some []), []⟩, ⟨(some 12), .load none (.t 11), none, (some []), []⟩, ⟨(some 13), .bin .sub (.t 10) (.t 12), none, (some []), []⟩, ⟨(some 14), .faddr 3 (.t 3), none, (some []), []⟩, ⟨(some 15), .load none (.t 14), none, (some []), []⟩, ⟨(some 16), .faddr 1 (.t 5), none, (some []), []⟩, ⟨(some 17), .load none (.t 16), none, (some []), []⟩, ⟨(some 18), .bin .sub (.t 15) (.t 17), none, (some []), []⟩, ⟨(some 19), .build [(.int .i64 0), (.int .i64 0)] [(0, 1, (.t 13)), (1, 1, (.t 18))], none, (some []), []⟩, ⟨(some 20), .faddr 2 (.t 4), none, (some []), []⟩, ⟨(some 21), .load none (.t 20), none, (some []), []⟩, ⟨(some 22), .faddr 0 (.t 5), none, (some []), []⟩, ⟨(some 23), .load none (.t 22), none, (some []), []⟩, ⟨(some 24), .bin .sub (.t 21) (.t 23), none, (some []), []⟩, ⟨(some 25), .faddr 3 (.t 4), none, (some []), []⟩, ⟨(some 26), .load none (.t 25), none, (some []), []⟩, ⟨(some 27), .faddr 1 (.t 5), none, (some []), []⟩, ⟨(some 28), .load none (.t 27), none, (some []), []⟩, ⟨(some 29), .bin .sub (.t 26) (.t 28), none, (some []), []⟩, ⟨(some 30), .build [(.int .i64 0), (.int .i64 0)] [(0, 1, (.t 24)), (1, 1, (.t 29))], none, (some []), []⟩, ⟨(some 7), .box 178 (.v (.agg [(.int .i64 0), (.int .i64 0)])), none, (some []), []⟩, ⟨(some 8), .box 178 (.v (.agg [(.int .i64 0), (.int .i64 0)])), none, (some [22]), []⟩, ⟨none, .store 2 (.t 7) (.t 19), none, none, [(none, (.t 20)), (none, (.t 22)), (none, (.t 25)), (none, (.t 27))]⟩, ⟨none, .store 2 (.t 8) (.t 30), none, none, []⟩])
  (.seq (.regd [⟨(some 31), .iarr 2 1 (.t 7) (.v (.int .i64 0)), none, (some []), []⟩, ⟨(some 32), .load none (.t 31), none, (some []), []⟩, ⟨(some 33), .iarr 2 1 (.t 7) (.v (.int .i64 1)), none, (some []), []⟩, ⟨(some 34), .load none (.t 33), none, (some []), []⟩, ⟨(some 35), .mnmx false [(.t 32), (.t 34)], none, (some []), []⟩, ⟨(some 36), .iarr 2 1 (.t 8) (.v (.int .i64 0)), none, (some []), []⟩, ⟨(some 37), .load none (.t 36), none, (some []), []⟩, ⟨(some 38), .iarr 2 1 (.t 8) (.v (.int .i64 1)), none, (some []), []⟩, ⟨(some 39), .load none (.t 38), none, (some []), []⟩, ⟨(some 40), .mnmx false [(.t 37), (.t 39)], none, (some []), []⟩, ⟨(some 41), .call 125 [(.t 35), (.t 40)], none, none, [(none, (.t 7)), (none, (.t 7)), (none, (.t 8)), (none, (.t 8)), (none, (.t 3)), (none, (.t 4)), (none, (.t 3)), (none, (.t 4))]⟩, ⟨(some 42), .iarr 2 1 (.t 7) (.v (.int .i64 0)), none, (some [10]), []⟩, ⟨(some 43), .load none (.t 42), none, (some [10]), []⟩, ⟨(some 44), .iarr 2 1 (.t 7) (.v (.int .i64 1)), none, (some [10]), []⟩, ⟨(some 45), .load none (.t 44), none, (some [10]), []⟩, ⟨(some 46), .mnmx true [(.t 43), (.t 45)], none, (some [10]), []⟩, ⟨(some 47), .iarr 2 1 (.t 8) (.v (.int .i64 0)), none, (some [10]), []⟩, ⟨(some 48), .load none (.t 47), none, (some [10]), []⟩, ⟨(some 49), .iarr 2 1 (.t 8) (.v (.int .i64 1)), none, (some [10]), []⟩, ⟨(some 50), .load none (.t 49), none, (some [10]), []⟩, ⟨(some 51), .mnmx true [(.t 48), (.t 50)], none, (some [10]), []⟩, ⟨(some 52), .call 125 [(.t 46), (.t 51)], none, none, [(none, (.t 3)), (none, (.t 4)), (none, (.t 3)), (none, (.t 4))]⟩, ⟨(some 53), .faddr 1 (.t 3), none, (some [10, 21]), []⟩, ⟨(some 54), .load none (.t 53), none, (some [10, 21]), []⟩, ⟨(some 55), .faddr 1 (.t 4), none, (some [10, 21]), []⟩, ⟨(some 56), .load none (.t 55), none, (some [10, 21]), []⟩, ⟨(some 57), .call 125 [(.t 54), (.t 56)], none, none, [(none, (.t 3)), (none, (.t 4))]⟩, ⟨(some 58), .faddr 0 (.t 3), none, (some [10, 21, 26]), []⟩, ⟨(some 59), .load none (.t 58), none, (some [10, 21, 26]), []⟩, ⟨(some 60), .faddr 0 (.t 4), none, (some [10, 21, 26]), []⟩, ⟨(some 61), .load none (.t 60), none, (some [10, 21, 26]), []⟩, ⟨(some 62), .call 125 [(.t 59), (.t 61)], none, none, []⟩, ⟨(some 63), .bsl 3 [(.int .i64 0), (.int .i64 0), (.int .i64 0), (.int .i64 0)] 4 1 [(0, 1, (.t 41)), (1, 1, (.t 52)), (2, 1, (.t 57)), (3, 1, (.t 62))], none, none, []⟩, ⟨(some 64), .call 124 [(.t 63)], none, none, []⟩, ⟨(some 6), .mv (.t 64), none, (some []), []⟩])
  .ret)))⟩
/-- pochoir/rect.those -/
def s117 : SFn :=
 ⟨6, [.tmp 2],
  (.seq (.reg [⟨(some 2), .mv (.v .nils), none, none, []⟩])
  (.seq (.reg [⟨(some 3), .mv (.t 0), none, none, []⟩, ⟨(some 4), .call 127 [(.t 3)], none, none, []⟩, ⟨(some 5), .call 126 [(.t 4), (.v (.fn 128 []))], none, none, []⟩, ⟨(some 2), .mv (.t 5), none, none, []⟩])
  .ret))⟩
/-- slices.ContainsFunc[[]pochoir/api.Rect,pochoir/api.Rect] -/
def s118 : SFn :=
 ⟨9, [.tmp 4],
  (.seq (.reg [⟨(some 4), .mv (.v (.bool false)), none, none, []⟩])
  (.seq (.reg [⟨(some 5), .mv (.t 0), none, none, []⟩, ⟨(some 6), .mv (.t 1), none, none, []⟩, ⟨(some 7), .call 129 [(.t 5), (.t 6)], none, none, []⟩, ⟨(some 8), .bin .geq (.t 7) (.v (.int .i64 0)), none, none, []⟩, ⟨(some 4), .mv (.t 8), none, none, []⟩])
  .ret))⟩
/-- pochoir/rect.Prune$1 -/
def s119 : SFn :=
 ⟨7, [.tmp 3],
  (.seq (.reg [⟨(some 2), .box 112 (.t 0), none, none, []⟩, ⟨(some 3), .mv (.v (.bool false)), none, none, []⟩])
  (.seq (.reg [⟨(some 4), .load (some 4) (.t 2), none, none, []⟩, ⟨(some 5), .load (some 4) (.t 1), none, none, []⟩, ⟨(some 6), .call 100 [(.t 4), (.t 5)], none, none, []⟩, ⟨(some 3), .mv (.t 6), none, none, []⟩])
  .ret))⟩
/-- pochoir/rect.Prune$2 -/
def s120 : SFn :=
 ⟨12, [.tmp 3],
  (.seq (.reg [⟨(some 2), .box 112 (.t 0), none, none, []⟩, ⟨(some 3), .mv (.v (.bool false)), none, none, []⟩])
  (.seq (.reg [⟨(some 4), .load (some 4) (.t 2), none, none, []⟩, ⟨(some 5), .load (some 4) (.t 1), none, none, []⟩, ⟨(some 6), .eqs 4 [1, 1, 1, 1] true (.t 4) (.t 5), none, none, []⟩, ⟨(some 7), .mv (.t 6), none, none, []⟩, ⟨(some 8), .load (some 4) (.t 2), (some (7, true)), none, []⟩, ⟨(some 9), .load (some 4) (.t 1), (some (7, true)), none, []⟩, ⟨(some 10), .call 100 [(.t 8), (.t 9)], (some (7, true)), none, []⟩, ⟨(some 11), .pick (.t 7) (.t 10) (.v (.bool false)), none, none, []⟩, ⟨(some 3), .mv (.t 11), none, none, []⟩])
  .ret))⟩
/-- pochoir/rect.left -/
def s121 : SFn :=
 ⟨108, [.tmp 6],
  (.seq (.reg [⟨(some 4), .box 112 (.t 1), none, none, []⟩, ⟨(some 5), .box 112 (.t 2), none, none, []⟩, ⟨(some 6), .mv (.v .nils), none, none, []⟩])
  (.seq (.seq (.reg [⟨(some 11), .load (some 4) (.t 4), none, none, []⟩, ⟨(some 12), .load (some 4) (.t 5), none, none, []⟩, ⟨(some 13), .call 101 [(.t 11), (.t 12)], none, none, []⟩, ⟨(some 14), .un .not (.t 13), none, none, []⟩])
  (.cond (.t 14) (.seq (.reg [⟨(some 15), .mv (.t 0), none, none, []⟩, ⟨(some 16), .load (some 4) (.t 4), none, none, []⟩, ⟨(some 17), .bsl 112 [(.int .i64 0), (.int .i64 0), (.int .i64 0), (.int .i64 0)] 1 4 [(0, 4, (.t 16))], none, none, []⟩, ⟨(some 18), .app 112 4 (.t 15) (.t 17), none, none, []⟩, ⟨(some 6), .mv (.t 18), none, none, []⟩])
  .ret) .skip))
  (.seq (.regd [⟨(some 19), .faddr 0 (.t 5), none, (some []), []⟩, ⟨(some 20), .load none (.t 19), none, (some []), []⟩, ⟨(some 21), .faddr 2 (.t 5), none, (some []), []⟩, ⟨(some 22), .load none (.t 21), none, (some []), []⟩, ⟨(some 23), .bin .add (.t 20) (.t 22), none, (some []), []⟩, ⟨(some 24), .faddr 1 (.t 5), none, (some []), []⟩, ⟨(some 25), .load none (.t 24), none, (some []), []⟩, ⟨(some 26), .faddr 3 (.t 5), none, (some []), []⟩, ⟨(some 27), .load none (.t 26), none, (some []), []⟩, ⟨(some 28), .bin .add (.t 25) (.t 27), none, (some []), []⟩, ⟨(some 7), .mv (.t 23), none, (some []), []⟩, ⟨(some 8), .mv (.t 28), none, (some []), []⟩])
  (.seq (.seq (.reg [⟨(some 29), .faddr 0 (.t 5), none, none, []⟩, ⟨(some 30), .load none (.t 29), none, none, []⟩, ⟨(some 31), .faddr 0 (.t 4), none, none, []⟩, ⟨(some 32), .load none (.t 31), none, none, []⟩, ⟨(some 33), .bin .gtr (.t 30) (.t 32), none, none, []⟩])
  (.cond (.t 33) (.reg [⟨(some 34), .mv (.t 0), none, none, []⟩, ⟨(some 35), .faddr 0 (.t 4), none, none, []⟩, ⟨(some 36), .load none (.t 35), none, none, []⟩, ⟨(some 37), .faddr 1 (.t 4), none, none, []⟩, ⟨(some 38), .load none (.t 37), none, none, []⟩, ⟨(some 39), .faddr 0 (.t 5), none, none, []⟩, ⟨(some 40), .load none (.t 39), none, none, []⟩, ⟨(some 41), .faddr 0 (.t 4), none, none, []⟩, ⟨(some 42), .load none (.t 41), none, none, []⟩, ⟨(some 43), .bin .sub (.t 40) (.t 42), none, none, []⟩, ⟨(some 44), .faddr 3 (.t 4), none, none, []⟩, ⟨(some 45), .load none (.t 44), none, none, []⟩, ⟨(some 46), .build [(.int .i64 0), (.int .i64 0), (.int .i64 0), (.int .i64 0)] [(0, 1, (.t 36)), (1, 1, (.t 38)), (2, 1, (.t 43)), (3, 1, (.t 45))], none, none, []⟩, ⟨(some 47), .bsl 112 [(.int .i64 0), (.int .i64 0), (.int .i64 0), (.int .i64 0)] 1 4 [(0, 4, (.t 46))], none, none, []⟩, ⟨(some 48), .app 112 4 (.t 34) (.t 47), none, none, []⟩, ⟨(some 0), .mv (.t 48), none, none, []⟩]) .skip))
  (.seq (.seq (.reg [⟨(some 49), .faddr 0 (.t 4), none, none, []⟩, ⟨(some 50), .load none (.t 49), none, none, []⟩, ⟨(some 51), .faddr 2 (.t 4), none, none, []⟩, ⟨(some 52), .load none (.t 51), none, none, []⟩, ⟨(some 53), .bin .add (.t 50) (.t 52), none, none, []⟩, ⟨(some 54), .mv (.t 7), none, none, []⟩, ⟨(some 55), .bin .sub (.t 53) (.t 54), none, none, []⟩, ⟨(some 9), .mv (.t 55), none, none, []⟩])
  (.seq (.reg [⟨(some 56), .mv (.t 9), none, none, []⟩, ⟨(some 57), .bin .gtr (.t 56) (.v (.int .i64 0)), none, none, []⟩])
  (.cond (.t 57) (.reg [⟨(some 58), .mv (.t 0), none, none, []⟩, ⟨(some 59), .mv (.t 7), none, none, []⟩, ⟨(some 60), .faddr 1 (.t 4), none, none, []⟩, ⟨(some 61), .load none (.t 60), none, none, []⟩, ⟨(some 62), .mv (.t 9), none, none, []⟩, ⟨(some 63), .faddr 3 (.t 4), none, none, []⟩, ⟨(some 64), .load none (.t 63), none, none, []⟩, ⟨(some 65), .build [(.int .i64 0), (.int .i64 0), (.int .i64 0), (.int .i64 0)] [(0, 1, (.t 59)), (1, 1, (.t 61)), (2, 1, (.t 62)), (3, 1, (.t 64))], none, none, []⟩, ⟨(some 66), .bsl 112 [(.int .i64 0), (.int .i64 0), (.int .i64 0), (.int .i64 0)] 1 4 [(0, 4, (.t 65))], none, none, []⟩, ⟨(some 67), .app 112 4 (.t 58) (.t 66), none, none, []⟩, ⟨(some 0), .mv (.t 67), none, none, []⟩]) .skip)))
  (.seq (.seq (.reg [⟨(some 68), .faddr 1 (.t 5), none, none, []⟩, ⟨(some 69), .load none (.t 68), none, none, []⟩, ⟨(some 70), .faddr 1 (.t 4), none, none, []⟩, ⟨(some 71), .load none (.t 70), none, none, []⟩, ⟨(some 72), .bin .gtr (.t 69) (.t 71), none, none, []⟩])
  (.cond (.t 72) (.reg [⟨(some 73), .mv (.t 0), none, none, []⟩, ⟨(some 74), .faddr 0 (.t 4), none, none, []⟩, ⟨(some 75), .load none (.t 74), none, none, []⟩, ⟨(some 76), .faddr 1 (.t 4), none, none, []⟩, ⟨(some 77), .load none (.t 76), none, none, []⟩, ⟨(some 78), .faddr 2 (.t 4), none, none, []⟩, ⟨(some 79), .load none (.t 78), none, none, []⟩, ⟨(some 80), .faddr 1 (.t 5), none, none, []⟩, ⟨(some 81), .load none (.t 80), none, none, []⟩, ⟨(some 82), .faddr 1 (.t 4), none, none, []⟩, ⟨(some 83), .load none (.t 82), none, none, []⟩, ⟨(some 84), .bin .sub (.t 81) (.t 83), none, none, []⟩, ⟨(some 85), .build [(.int .i64 0), (.int .i64 0), (.int .i64 0), (.int .i64 0)] [(0, 1, (.t 75)), (1, 1, (.t 77)), (2, 1, (.t 79)), (3, 1, (.t 84))], none, none, []⟩, ⟨(some 86), .bsl 112 [(.int .i64 0), (.int .i64 0), (.int .i64 0), (.int .i64 0)] 1 4 [(0, 4, (.t 85))], none, none, []⟩, ⟨(some 87), .app 112 4 (.t 73) (.t 86), none, none, []⟩, ⟨(some 0), .mv (.t 87), none, none, []⟩]) .skip))
  (.seq (.seq (.reg [⟨(some 88), .faddr 1 (.t 4), none, none, []⟩, ⟨(some 89), .load none (.t 88), none, none, []⟩, ⟨(some 90), .faddr 3 (.t 4), none, none, []⟩, ⟨(some 91), .load none (.t 90), none, none, []⟩, ⟨(some 92), .bin .add (.t 89) (.t 91), none, none, []⟩, ⟨(some 93), .mv (.t 8), none, none, []⟩, ⟨(some 94), .bin .sub (.t 92) (.t 93), none, none, []⟩, ⟨(some 10), .mv (.t 94), none, none, []⟩])
  (.seq (.reg [⟨(some 95), .mv (.t 10), none, none, []⟩, ⟨(some 96), .bin .gtr (.t 95) (.v (.int .i64 0)), none, none, []⟩])
  (.cond (.t 96) (.reg [⟨(some 97), .mv (.t 0), none, none, []⟩, ⟨(some 98), .faddr 0 (.t 4), none, none, []⟩, ⟨(some 99), .load none (.t 98), none, none, []⟩, ⟨(some 100), .mv (.t 8), none, none, []⟩, ⟨(some 101), .faddr 2 (.t 4), none, none, []⟩, ⟨(some 102), .load none (.t 101), none, none, []⟩, ⟨(some 103), .mv (.t 10), none, none, []⟩, ⟨(some 104), .build [(.int .i64 0), (.int .i64 0), (.int .i64 0), (.int .i64 0)] [(0, 1, (.t 99)), (1, 1, (.t 100)), (2, 1, (.t 102)), (3, 1, (.t 103))], none, none, []⟩, ⟨(some 105), .bsl 112 [(.int .i64 0), (.int .i64 0), (.int .i64 0), (.int .i64 0)] 1 4 [(0, 4, (.t 104))], none, none, []⟩, ⟨(some 106), .app 112 4 (.t 97) (.t 105), none, none, []⟩, ⟨(some 0), .mv (.t 106), none, none, []⟩]) .skip)))
  (.seq (.reg [⟨(some 107), .mv (.t 0), none, none, []⟩, ⟨(some 6), .mv (.t 107), none, none, []⟩])
  .ret))))))))⟩
/-- cmp.Or[int] -/
def s124 : SFn :=
 ⟨18, [.tmp 2],
  (.seq (.reg [⟨(some 2), .mv (.v (.int .i64 0)), none, none, []⟩])
  (.seq (.reg [⟨(some 3), .mv (.v (.int .i64 0)), none, none, []⟩])
  (.seq (.seq (.reg [⟨(some 6), .mv (.t 0), none, none, []⟩, ⟨(some 7), .len false (.t 6), none, none, []⟩, ⟨(some 8), .mv (.v (.int .i64 0)), none, none, []⟩])
  (.block 0 (.loop (.seq (.reg [⟨(some 9), .bin .lss (.t 8) (.t 7), none, none, []⟩])
  (.seq (.cond (.t 9) .skip (.exit 0))
  (.seq (.block 1 (.seq (.reg [⟨(some 10), .iaddr 1 (.t 6) (.t 8), none, none, []⟩, ⟨(some 11), .load none (.t 10), none, none, []⟩, ⟨(some 5), .mv (.t 11), none, none, []⟩])
  (.seq (.reg [⟨(some 12), .mv (.t 5), none, none, []⟩, ⟨(some 13), .mv (.t 3), none, none, []⟩, ⟨(some 14), .bin .neq (.t 12) (.t 13), none, none, []⟩])
  (.cond (.t 14) (.seq (.reg [⟨(some 15), .mv (.t 5), none, none, []⟩, ⟨(some 2), .mv (.t 15), none, none, []⟩])
  .ret) .skip))))
  (.reg [⟨(some 16), .bin .add (.t 8) (.v (.int .i64 1)), none, none, []⟩, ⟨(some 8), .mv (.t 16), none, none, []⟩])))))))
  (.seq (.reg [⟨(some 17), .mv (.t 3), none, none, []⟩, ⟨(some 2), .mv (.t 17), none, none, []⟩])
  .ret))))⟩
/-- cmp.Compare[int] -/
def s125 : SFn :=
 ⟨20, [.tmp 4],
  (.seq (.reg [⟨(some 4), .mv (.v (.int .i64 0)), none, none, []⟩])
  (.seq (.reg [⟨(some 7), .mv (.t 0), none, none, []⟩, ⟨(some 8), .call 130 [(.t 7)], none, none, []⟩, ⟨(some 5), .mv (.t 8), none, none, []⟩])
  (.seq (.reg [⟨(some 9), .mv (.t 1), none, none, []⟩, ⟨(some 10), .call 130 [(.t 9)], none, none, []⟩, ⟨(some 6), .mv (.t 10), none, none, []⟩])
  (.seq (.seq (.reg [⟨(some 11), .mv (.t 5), none, none, []⟩])
  (.cond (.t 11) (.seq (.seq (.reg [⟨(some 12), .mv (.t 6), none, none, []⟩])
  (.cond (.t 12) (.seq (.reg [⟨(some 4), .mv (.v (.int .i64 0)), none, none, []⟩])
  .ret) .skip))
  (.seq (.reg [⟨(some 4), .mv (.v (.int .i64 (-1))), none, none, []⟩])
  .ret)) .skip))
  (.seq (.seq (.reg [⟨(some 13), .mv (.t 6), none, none, []⟩])
  (.cond (.t 13) (.seq (.reg [⟨(some 4), .mv (.v (.int .i64 1)), none, none, []⟩])
  .ret) .skip))
  (.seq (.seq (.reg [⟨(some 14), .mv (.t 0), none, none, []⟩, ⟨(some 15), .mv (.t 1), none, none, []⟩, ⟨(some 16), .bin .lss (.t 14) (.t 15), none, none, []⟩])
  (.cond (.t 16) (.seq (.reg [⟨(some 4), .mv (.v (.int .i64 (-1))), none, none, []⟩])
  .ret) .skip))
  (.seq (.seq (.reg [⟨(some 17), .mv (.t 0), none, none, []⟩, ⟨(some 18), .mv (.t 1), none, none, []⟩, ⟨(some 19), .bin .gtr (.t 17) (.t 18), none, none, []⟩])
  (.cond (.t 19) (.seq (.reg [⟨(some 4), .mv (.v (.int .i64 1)), none, none, []⟩])
  .ret) .skip))
  (.seq (.reg [⟨(some 4), .mv (.v (.int .i64 0)), none, none, []⟩])
  .ret))))))))⟩
/-- slices.DeleteFunc[[]pochoir/api.Rect,pochoir/api.Rect] -/
def s126 : SFn :=
 ⟨42, [.tmp 4],
  (.seq (.reg [⟨(some 4), .mv (.v .nils), none, none, []⟩])
  (.seq (.reg [⟨(some 8), .mv (.t 0), none, none, []⟩, ⟨(some 9), .mv (.t 1), none, none, []⟩, ⟨(some 10), .call 129 [(.t 8), (.t 9)], none, none, []⟩, ⟨(some 5), .mv (.t 10), none, none, []⟩])
  (.seq (.seq (.reg [⟨(some 11), .mv (.t 5), none, none, []⟩, ⟨(some 12), .bin .eql (.t 11) (.v (.int .i64 (-1))), none, none, []⟩])
  (.cond (.t 12) (.seq (.reg [⟨(some 13), .mv (.t 0), none, none, []⟩, ⟨(some 4), .mv (.t 13), none, none, []⟩])
  .ret) .skip))
  (.seq (.seq (.reg [⟨(some 14), .mv (.t 5), none, none, []⟩, ⟨(some 15), .bin .add (.t 14) (.v (.int .i64 1)), none, none, []⟩, ⟨(some 6), .mv (.t 15), none, none, []⟩])
  (.block 0 (.loop (.seq (.seq (.reg [⟨(some 16), .mv (.t 6), none, none, []⟩, ⟨(some 17), .mv (.t 0), none, none, []⟩, ⟨(some 18), .len false (.t 17), none, none, []⟩, ⟨(some 19), .bin .lss (.t 16) (.t 18), none, none, []⟩])
  (.cond (.t 19) .skip (.exit 0)))
  (.seq (.block 1 (.seq (.reg [⟨(some 22), .mv (.t 0), none, none, []⟩, ⟨(some 23), .mv (.t 6), none, none, []⟩, ⟨(some 24), .iaddr 4 (.t 22) (.t 23), none, none, []⟩, ⟨(some 25), .load (some 4) (.t 24), none, none, []⟩, ⟨(some 7), .box 112 (.v (.agg [(.int .i64 0), (.int .i64 0), (.int .i64 0), (.int .i64 0)])), none, none, []⟩, ⟨none, .store 4 (.t 7) (.t 25), none, none, []⟩])
  (.seq (.reg [⟨(some 26), .mv (.t 1), none, none, []⟩, ⟨(some 27), .load (some 4) (.t 7), none, none, []⟩, ⟨(some 28), .callv (.t 26) [(.t 27)], none, none, []⟩, ⟨(some 29), .un .not (.t 28), none, none, []⟩])
  (.cond (.t 29) (.seq (.reg [⟨(some 30), .mv (.t 0), none, none, []⟩, ⟨(some 31), .mv (.t 5), none, none, []⟩, ⟨(some 32), .load (some 4) (.t 7), none, none, []⟩, ⟨(some 33), .iaddr 4 (.t 30) (.t 31), none, none, []⟩, ⟨none, .store 4 (.t 33) (.t 32), none, none, []⟩])
  (.reg [⟨(some 34), .mv (.t 5), none, none, []⟩, ⟨(some 35), .bin .add (.t 34) (.v (.int .i64 1)), none, none, []⟩, ⟨(some 5), .mv (.t 35), none, none, []⟩])) .skip))))
  (.reg [⟨(some 20), .mv (.t 6), none, none, []⟩, ⟨(some 21), .bin .add (.t 20) (.v (.int .i64 1)), none, none, []⟩, ⟨(some 6), .mv (.t 21), none, none, []⟩]))))))
  (.seq (.reg [⟨(some 36), .mv (.t 0), none, none, []⟩, ⟨(some 37), .mv (.t 5), none, none, []⟩, ⟨(some 38), .slc 4 (.t 36) (some (.t 37)) none none, none, none, []⟩, ⟨none, .clear [(.int .i64 0), (.int .i64 0), (.int .i64 0), (.int .i64 0)] (.t 38), none, none, []⟩])
  (.seq (.reg [⟨(some 39), .mv (.t 0), none, none, []⟩, ⟨(some 40), .mv (.t 5), none, none, []⟩, ⟨(some 41), .slc 4 (.t 39) none (some (.t 40)) none, none, none, []⟩, ⟨(some 4), .mv (.t 41), none, none, []⟩])
  .ret))))))⟩
/-- slices.Clone[[]pochoir/api.Rect,pochoir/api.Rect] -/
def s127 : SFn :=
 ⟨8, [.tmp 2],
  (.seq (.reg [⟨(some 2), .mv (.v .nils), none, none, []⟩])
  (.seq (.seq (.reg [⟨(some 3), .mv (.t 0), none, none, []⟩, ⟨(some 4), .eqs 2 [] false (.t 3) (.v .nils), none, none, []⟩])
  (.cond (.t 4) (.seq (.reg [⟨(some 2), .mv (.v .nils), none, none, []⟩])
  .ret) .skip))
  (.seq (.reg [⟨(some 5), .bsl 112 [] 0 4 [], none, none, []⟩, ⟨(some 6), .mv (.t 0), none, none, []⟩, ⟨(some 7), .app 112 4 (.t 5) (.t 6), none, none, []⟩, ⟨(some 2), .mv (.t 7), none, none, []⟩])
  .ret)))⟩
/-- pochoir/rect.those$1 -/
def s128 : SFn :=
 ⟨6, [.tmp 2],
  (.seq (.reg [⟨(some 1), .box 112 (.t 0), none, none, []⟩, ⟨(some 2), .mv (.v (.bool false)), none, none, []⟩])
  (.seq (.reg [⟨(some 3), .load (some 4) (.t 1), none, none, []⟩, ⟨(some 4), .call 99 [(.t 3)], none, none, []⟩, ⟨(some 5), .un .not (.t 4), none, none, []⟩, ⟨(some 2), .mv (.t 5), none, none, []⟩])
  .ret))⟩
/-- slices.IndexFunc[[]pochoir/api.Rect,pochoir/api.Rect] -/
def s129 : SFn :=
 ⟨19, [.tmp 4],
  (.seq (.reg [⟨(some 4), .mv (.v (.int .i64 0)), none, none, []⟩])
  (.seq (.seq (.reg [⟨(some 6), .mv (.t 0), none, none, []⟩, ⟨(some 7), .len false (.t 6), none, none, []⟩, ⟨(some 8), .mv (.v (.int .i64 0)), none, none, []⟩])
  (.block 0 (.loop (.seq (.reg [⟨(some 9), .bin .lss (.t 8) (.t 7), none, none, []⟩])
  (.seq (.cond (.t 9) .skip (.exit 0))
  (.seq (.block 1 (.seq (.reg [⟨(some 10), .mv (.t 8), none, none, []⟩, ⟨(some 5), .mv (.t 10), none, none, []⟩])
  (.seq (.reg [⟨(some 11), .mv (.t 1), none, none, []⟩, ⟨(some 12), .mv (.t 0), none, none, []⟩, ⟨(some 13), .mv (.t 5), none, none, []⟩, ⟨(some 14), .iaddr 4 (.t 12) (.t 13), none, none, []⟩, ⟨(some 15), .load (some 4) (.t 14), none, none, []⟩, ⟨(some 16), .callv (.t 11) [(.t 15)], none, none, []⟩])
  (.cond (.t 16) (.seq (.reg [⟨(some 17), .mv (.t 5), none, none, []⟩, ⟨(some 4), .mv (.t 17), none, none, []⟩])
  .ret) .skip))))
  (.reg [⟨(some 18), .bin .add (.t 8) (.v (.int .i64 1)), none, none, []⟩, ⟨(some 8), .mv (.t 18), none, none, []⟩])))))))
  (.seq (.reg [⟨(some 4), .mv (.v (.int .i64 (-1))), none, none, []⟩])
  .ret)))⟩
/-- cmp.isNaN[int] -/
def s130 : SFn :=
 ⟨6, [.tmp 2],
  (.seq (.reg [⟨(some 2), .mv (.v (.bool false)), none, none, []⟩])
  (.seq (.reg [⟨(some 3), .mv (.t 0), none, none, []⟩, ⟨(some 4), .mv (.t 0), none, none, []⟩, ⟨(some 5), .bin .neq (.t 3) (.t 4), none, none, []⟩, ⟨(some 2), .mv (.t 5), none, none, []⟩])
  .ret))⟩
def E : Nat → Option SFn
  | 9 => some s9
  | 10 => some s10
  | 12 => some s12
  | 33 => some s33
  | 34 => some s34
  | 35 => some s35
  | 36 => some s36
  | 37 => some s37
  | 38 => some s38
  | 39 => some s39
  | 40 => some s40
  | 61 => some s61
  | 62 => some s62
  | 63 => some s63
  | 64 => some s64
  | 65 => some s65
  | 66 => some s66
  | 67 => some s67
  | 68 => some s68
  | 69 => some s69
  | 70 => some s70
  | 71 => some s71
  | 72 => some s72
  | 73 => some s73
  | 74 => some s74
  | 75 => some s75
  | 92 => some s92
  | 93 => some s93
  | 94 => some s94
  | 95 => some s95
  | 96 => some s96
  | 97 => some s97
  | 98 => some s98
  | 99 => some s99
  | 100 => some s100
  | 101 => some s101
  | 115 => some s115
  | 116 => some s116
  | 117 => some s117
  | 118 => some s118
  | 119 => some s119
  | 120 => some s120
  | 121 => some s121
  | 124 => some s124
  | 125 => some s125
  | 126 => some s126
  | 127 => some s127
  | 128 => some s128
  | 129 => some s129
  | 130 => some s130
  | _ => none
def env0 : Env := { E := E, I := fun _ _ _ => none, isI := fun _ => false }
end Go.Proofs.Ytkcbjeenoafbkaa
