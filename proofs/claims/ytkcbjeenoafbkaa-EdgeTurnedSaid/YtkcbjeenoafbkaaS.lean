/- The slim functions of this seat, and the table of them. -/
import Derived.Test.YtkcbjeenoafbkaaDen2
set_option linter.unusedVariables false
namespace Go.Proofs.Ytkcbjeenoafbkaa
open Go.Den
/-- pochoir/pochoirlaw16.EdgeMakes -/
def s3 : SFn :=
 ⟨46, [.tmp 4],
  (.seq (.reg [⟨(some 4), .mv (.v (.bool false)), none, none, []⟩])
  (.seq (.seq (.reg [⟨(some 9), .call 13 [], none, none, []⟩, ⟨(some 10), .un .not (.t 9), none, none, []⟩])
  (.cond (.t 10) (.seq (.reg [⟨(some 4), .mv (.v (.bool false)), none, none, []⟩])
  .ret) .skip))
  (.seq (.seq (.reg [⟨(some 11), .mv (.t 0), none, none, []⟩, ⟨(some 12), .call 14 [(.t 11)], none, none, []⟩, ⟨(some 13), .un .not (.t 12), none, none, []⟩])
  (.cond (.t 13) (.seq (.reg [⟨(some 4), .mv (.v (.bool true)), none, none, []⟩])
  .ret) .skip))
  (.seq (.reg [⟨(some 15), .mv (.t 0), none, none, []⟩, ⟨(some 16), .mv (.t 1), none, none, []⟩, ⟨(some 17), .call 15 [(.t 15), (.t 16)], none, none, []⟩, ⟨(some 14), .mv (.t 17), none, none, []⟩, ⟨(some 18), .extract (.t 14) 0, none, none, []⟩, ⟨(some 19), .extract (.t 14) 1, none, none, []⟩, ⟨(some 5), .mv (.t 18), none, none, []⟩, ⟨(some 6), .mv (.t 19), none, none, []⟩])
  (.seq (.reg [⟨(some 21), .mv (.t 0), none, none, []⟩, ⟨(some 22), .mv (.t 1), none, none, []⟩, ⟨(some 23), .call 16 [(.t 21), (.t 22)], none, none, []⟩, ⟨(some 20), .mv (.t 23), none, none, []⟩, ⟨(some 24), .extract (.t 20) 0, none, none, []⟩, ⟨(some 25), .extract (.t 20) 1, none, none, []⟩, ⟨(some 7), .mv (.t 24), none, none, []⟩, ⟨(some 8), .mv (.t 25), none, none, []⟩])
  (.seq (.reg [⟨(some 26), .mv (.t 5), none, none, []⟩, ⟨(some 27), .mv (.t 7), none, none, []⟩, ⟨(some 28), .call 17 [(.t 26), (.t 27)], none, none, []⟩, ⟨(some 29), .mv (.t 28), none, none, []⟩, ⟨(some 30), .mv (.t 6), (some (29, true)), none, []⟩, ⟨(some 31), .mv (.t 8), (some (29, true)), none, []⟩, ⟨(some 32), .bin .eql (.t 30) (.t 31), (some (29, true)), none, []⟩, ⟨(some 33), .pick (.t 29) (.t 32) (.v (.bool false)), none, none, []⟩, ⟨(some 34), .mv (.t 33), none, none, []⟩, ⟨(some 35), .mv (.t 8), (some (34, true)), none, []⟩, ⟨(some 36), .bin .neq (.t 35) (.v (.int .i64 0)), (some (34, true)), none, []⟩, ⟨(some 37), .mv (.t 36), (some (34, true)), none, []⟩, ⟨(some 38), .mv (.t 5), (some (37, false)), none, []⟩, ⟨(some 39), .call 18 [(.t 38)], (some (37, false)), none, []⟩, ⟨(some 40), .mv (.t 39), (some (37, false)), none, []⟩, ⟨(some 41), .mv (.t 5), (some (40, true)), none, []⟩, ⟨(some 42), .call 19 [(.t 41)], (some (40, true)), none, []⟩, ⟨(some 43), .pick (.t 40) (.t 42) (.v (.bool false)), (some (37, false)), none, []⟩, ⟨(some 44), .pick (.t 37) (.v (.bool true)) (.t 43), (some (34, true)), none, []⟩, ⟨(some 45), .pick (.t 34) (.t 44) (.v (.bool false)), none, none, []⟩, ⟨(some 4), .mv (.t 45), none, none, []⟩])
  .ret))))))⟩
/-- pochoir/pochoirlaw16.EdgeAsks -/
def s4 : SFn :=
 ⟨53, [.tmp 2],
  (.seq (.reg [⟨(some 2), .mv (.v (.bool false)), none, none, []⟩])
  (.seq (.seq (.reg [⟨(some 9), .call 13 [], none, none, []⟩, ⟨(some 10), .un .not (.t 9), none, none, []⟩])
  (.cond (.t 10) (.seq (.reg [⟨(some 2), .mv (.v (.bool false)), none, none, []⟩])
  .ret) .skip))
  (.seq (.seq (.reg [⟨(some 11), .mv (.t 0), none, none, []⟩, ⟨(some 12), .len false (.t 11), none, none, []⟩, ⟨(some 13), .bin .gtr (.t 12) (.v (.int .i64 60)), none, none, []⟩])
  (.cond (.t 13) (.seq (.reg [⟨(some 2), .mv (.v (.bool true)), none, none, []⟩])
  .ret) .skip))
  (.seq (.reg [⟨(some 15), .mv (.t 0), none, none, []⟩, ⟨(some 16), .call 20 [(.t 15)], none, none, []⟩, ⟨(some 14), .mv (.t 16), none, none, []⟩, ⟨(some 17), .extract (.t 14) 0, none, none, []⟩, ⟨(some 18), .extract (.t 14) 1, none, none, []⟩, ⟨(some 19), .extract (.t 14) 2, none, none, []⟩, ⟨(some 3), .box 35 (.v (.agg [(.int .i64 0), (.int .i64 0)])), none, none, []⟩, ⟨(some 4), .box 35 (.v (.agg [(.int .i64 0), (.int .i64 0)])), none, none, []⟩, ⟨none, .store 2 (.t 3) (.t 17), none, none, []⟩, ⟨none, .store 2 (.t 4) (.t 18), none, none, []⟩, ⟨(some 5), .mv (.t 19), none, none, []⟩])
  (.seq (.reg [⟨(some 21), .mv (.t 0), none, none, []⟩, ⟨(some 22), .call 21 [(.t 21)], none, none, []⟩, ⟨(some 20), .mv (.t 22), none, none, []⟩, ⟨(some 23), .extract (.t 20) 0, none, none, []⟩, ⟨(some 24), .extract (.t 20) 1, none, none, []⟩, ⟨(some 25), .extract (.t 20) 2, none, none, []⟩, ⟨(some 6), .box 35 (.v (.agg [(.int .i64 0), (.int .i64 0)])), none, none, []⟩, ⟨(some 7), .box 35 (.v (.agg [(.int .i64 0), (.int .i64 0)])), none, none, []⟩, ⟨none, .store 2 (.t 6) (.t 23), none, none, []⟩, ⟨none, .store 2 (.t 7) (.t 24), none, none, []⟩, ⟨(some 8), .mv (.t 25), none, none, []⟩])
  (.seq (.reg [⟨(some 26), .load (some 2) (.t 3), none, none, []⟩, ⟨(some 27), .load (some 2) (.t 6), none, none, []⟩, ⟨(some 28), .eqs 4 [1, 1] false (.t 26) (.t 27), none, none, []⟩, ⟨(some 29), .mv (.t 28), none, none, []⟩, ⟨(some 30), .load (some 2) (.t 4), (some (29, true)), none, []⟩, ⟨(some 31), .load (some 2) (.t 7), (some (29, true)), none, []⟩, ⟨(some 32), .eqs 4 [1, 1] false (.t 30) (.t 31), (some (29, true)), none, []⟩, ⟨(some 33), .pick (.t 29) (.t 32) (.v (.bool false)), none, none, []⟩, ⟨(some 34), .mv (.t 33), none, none, []⟩, ⟨(some 35), .mv (.t 5), (some (34, true)), none, []⟩, ⟨(some 36), .mv (.t 8), (some (34, true)), none, []⟩, ⟨(some 37), .eqs 0 [] false (.t 35) (.t 36), (some (34, true)), none, []⟩, ⟨(some 38), .pick (.t 34) (.t 37) (.v (.bool false)), none, none, []⟩, ⟨(some 39), .mv (.t 38), none, none, []⟩, ⟨(some 40), .mv (.t 0), (some (39, true)), none, []⟩, ⟨(some 41), .call 19 [(.t 40)], (some (39, true)), none, []⟩, ⟨(some 42), .mv (.t 0), (some (39, true)), none, []⟩, ⟨(some 43), .call 22 [(.t 42)], (some (39, true)), none, []⟩, ⟨(some 44), .eqs 0 [] false (.t 41) (.t 43), (some (39, true)), none, []⟩, ⟨(some 45), .pick (.t 39) (.t 44) (.v (.bool false)), none, none, []⟩, ⟨(some 46), .mv (.t 45), none, none, []⟩, ⟨(some 47), .mv (.t 0), (some (46, true)), none, []⟩, ⟨(some 48), .call 18 [(.t 47)], (some (46, true)), none, []⟩, ⟨(some 49), .mv (.t 0), (some (46, true)), none, []⟩, ⟨(some 50), .call 23 [(.t 49)], (some (46, true)), none, []⟩, ⟨(some 51), .eqs 0 [] false (.t 48) (.t 50), (some (46, true)), none, []⟩, ⟨(some 52), .pick (.t 46) (.t 51) (.v (.bool false)), none, none, []⟩, ⟨(some 2), .mv (.t 52), none, none, []⟩])
  .ret))))))⟩
/-- pochoir/pochoirlaw16.EdgeTurned -/
def s5 : SFn :=
 ⟨89, [.tmp 4],
  (.seq (.reg [⟨(some 4), .mv (.v (.bool false)), none, none, []⟩])
  (.seq (.seq (.reg [⟨(some 10), .call 13 [], none, none, []⟩, ⟨(some 11), .un .not (.t 10), none, none, []⟩])
  (.cond (.t 11) (.seq (.reg [⟨(some 4), .mv (.v (.bool false)), none, none, []⟩])
  .ret) .skip))
  (.seq (.seq (.reg [⟨(some 12), .mv (.t 0), none, none, []⟩, ⟨(some 13), .len false (.t 12), none, none, []⟩, ⟨(some 14), .bin .eql (.t 13) (.v (.int .i64 0)), none, none, []⟩, ⟨(some 15), .mv (.t 14), none, none, []⟩, ⟨(some 16), .mv (.t 0), (some (15, false)), none, []⟩, ⟨(some 17), .len false (.t 16), (some (15, false)), none, []⟩, ⟨(some 18), .bin .gtr (.t 17) (.v (.int .i64 60)), (some (15, false)), none, []⟩, ⟨(some 19), .pick (.t 15) (.v (.bool true)) (.t 18), none, none, []⟩, ⟨(some 20), .mv (.t 19), none, none, []⟩, ⟨(some 21), .mv (.t 1), (some (20, false)), none, []⟩, ⟨(some 22), .bin .lss (.t 21) (.v (.int .i64 0)), (some (20, false)), none, []⟩, ⟨(some 23), .pick (.t 20) (.v (.bool true)) (.t 22), none, none, []⟩, ⟨(some 24), .mv (.t 23), none, none, []⟩, ⟨(some 25), .mv (.t 1), (some (24, false)), none, []⟩, ⟨(some 26), .mv (.t 0), (some (24, false)), none, []⟩, ⟨(some 27), .len false (.t 26), (some (24, false)), none, []⟩, ⟨(some 28), .bin .geq (.t 25) (.t 27), (some (24, false)), none, []⟩, ⟨(some 29), .pick (.t 24) (.v (.bool true)) (.t 28), none, none, []⟩, ⟨(some 30), .mv (.t 29), none, none, []⟩, ⟨(some 31), .mv (.t 0), (some (30, false)), none, []⟩, ⟨(some 32), .mv (.t 1), (some (30, false)), none, []⟩, ⟨(some 33), .iaddr 3 (.t 31) (.t 32), (some (30, false)), none, []⟩, ⟨(some 34), .faddr 2 (.t 33), (some (30, false)), none, []⟩, ⟨(some 35), .load none (.t 34), (some (30, false)), none, []⟩, ⟨(some 36), .un .not (.t 35), (some (30, false)), none, []⟩, ⟨(some 37), .pick (.t 30) (.v (.bool true)) (.t 36), none, none, []⟩, ⟨(some 38), .mv (.t 37), none, none, []⟩, ⟨(some 39), .mv (.t 0), (some (38, false)), none, []⟩, ⟨(some 40), .bsl 38 [.nils] 1 1 [(0, 1, (.t 39))], (some (38, false)), none, []⟩, ⟨(some 41), .call 24 [(.t 40)], (some (38, false)), none, []⟩, ⟨(some 42), .un .not (.t 41), (some (38, false)), none, []⟩, ⟨(some 43), .pick (.t 38) (.v (.bool true)) (.t 42), none, none, []⟩])
  (.cond (.t 43) (.seq (.reg [⟨(some 4), .mv (.v (.bool true)), none, none, []⟩])
  .ret) .skip))
  (.seq (.reg [⟨(some 45), .mv (.t 0), none, none, []⟩, ⟨(some 46), .bsl 38 [.nils] 1 1 [(0, 1, (.t 45))], none, none, []⟩, ⟨(some 47), .call 15 [(.t 46), (.v (.int .i64 3))], none, none, []⟩, ⟨(some 44), .mv (.t 47), none, none, []⟩, ⟨(some 48), .extract (.t 44) 0, none, none, []⟩, ⟨(some 49), .extract (.t 44) 1, none, none, []⟩, ⟨(some 5), .mv (.t 48), none, none, []⟩, ⟨(some 6), .mv (.t 49), none, none, []⟩])
  (.seq (.regd [⟨(some 51), .bsl 40 [] 0 3 [], none, none, []⟩, ⟨(some 52), .mv (.t 0), none, (some [0]), []⟩, ⟨(some 53), .mv (.t 1), none, (some [0]), []⟩, ⟨(some 54), .slc 3 (.t 52) (some (.t 53)) none none, none, (some [0]), []⟩, ⟨(some 55), .app 40 3 (.t 51) (.t 54), none, none, []⟩, ⟨(some 56), .mv (.t 0), none, (some [0, 4]), []⟩, ⟨(some 57), .mv (.t 1), none, (some [0, 4]), []⟩, ⟨(some 58), .slc 3 (.t 56) none (some (.t 57)) none, none, (some [0, 4]), []⟩, ⟨(some 59), .app 40 3 (.t 55) (.t 58), none, none, []⟩, ⟨(some 60), .bsl 38 [.nils] 1 1 [(0, 1, (.t 59))], none, none, []⟩, ⟨(some 61), .call 15 [(.t 60), (.v (.int .i64 3))], none, none, []⟩, ⟨(some 50), .mv (.t 61), none, (some []), []⟩, ⟨(some 62), .extract (.t 50) 0, none, (some []), []⟩, ⟨(some 63), .extract (.t 50) 1, none, (some []), []⟩, ⟨(some 7), .mv (.t 62), none, (some []), []⟩, ⟨(some 8), .mv (.t 63), none, (some []), []⟩])
  (.seq (.seq (.reg [⟨(some 64), .mv (.t 5), none, none, []⟩, ⟨(some 65), .len false (.t 64), none, none, []⟩, ⟨(some 66), .mv (.t 7), none, none, []⟩, ⟨(some 67), .len false (.t 66), none, none, []⟩, ⟨(some 68), .bin .neq (.t 65) (.t 67), none, none, []⟩])
  (.cond (.t 68) (.seq (.reg [⟨(some 4), .mv (.v (.bool false)), none, none, []⟩])
  .ret) .skip))
  (.seq (.seq (.reg [⟨(some 69), .mv (.t 5), none, none, []⟩, ⟨(some 70), .len false (.t 69), none, none, []⟩, ⟨(some 71), .mv (.v (.int .i64 0)), none, none, []⟩])
  (.block 0 (.loop (.seq (.reg [⟨(some 72), .bin .lss (.t 71) (.t 70), none, none, []⟩])
  (.seq (.cond (.t 72) .skip (.exit 0))
  (.seq (.block 1 (.seq (.reg [⟨(some 73), .mv (.t 71), none, none, []⟩, ⟨(some 9), .mv (.t 73), none, none, []⟩])
  (.seq (.regd [⟨(some 74), .bsl 80 [] 0 8 [], none, none, []⟩, ⟨(some 75), .mv (.t 5), none, (some [0]), []⟩, ⟨(some 76), .mv (.t 9), none, (some [0]), []⟩, ⟨(some 77), .slc 8 (.t 75) (some (.t 76)) none none, none, (some [0]), []⟩, ⟨(some 78), .app 80 8 (.t 74) (.t 77), none, none, []⟩, ⟨(some 79), .mv (.t 5), none, (some [0, 4]), []⟩, ⟨(some 80), .mv (.t 9), none, (some [0, 4]), []⟩, ⟨(some 81), .slc 8 (.t 79) none (some (.t 80)) none, none, (some [0, 4]), []⟩, ⟨(some 82), .app 80 8 (.t 78) (.t 81), none, none, []⟩, ⟨(some 83), .mv (.t 7), none, (some [0, 4, 8]), []⟩, ⟨(some 84), .call 17 [(.t 82), (.t 83)], none, none, []⟩])
  (.cond (.t 84) (.seq (.reg [⟨(some 4), .mv (.v (.bool true)), none, none, []⟩])
  .ret) .skip))))
  (.reg [⟨(some 85), .bin .add (.t 71) (.v (.int .i64 1)), none, none, []⟩, ⟨(some 71), .mv (.t 85), none, none, []⟩])))))))
  (.seq (.reg [⟨(some 86), .mv (.t 5), none, none, []⟩, ⟨(some 87), .len false (.t 86), none, none, []⟩, ⟨(some 88), .bin .eql (.t 87) (.v (.int .i64 0)), none, none, []⟩, ⟨(some 4), .mv (.t 88), none, none, []⟩])
  .ret))))))))⟩
/-- pochoir/pochoirlaw16.awake -/
def s13 : SFn :=
 ⟨71, [.tmp 0],
  (.seq (.reg [⟨(some 0), .mv (.v (.bool false)), none, none, []⟩])
  (.seq (.reg [⟨(some 7), .build [(.int .i64 0), (.int .i64 0), (.bool false)] [(2, 1, (.v (.bool true)))], none, none, []⟩, ⟨(some 8), .build [(.int .i64 0), (.int .i64 0), (.bool false)] [(0, 1, (.v (.int .i64 10))), (2, 1, (.v (.bool true)))], none, none, []⟩, ⟨(some 9), .bsl 40 [(.int .i64 0), (.int .i64 0), (.bool false), (.int .i64 0), (.int .i64 0), (.bool false)] 2 3 [(0, 3, (.t 7)), (3, 3, (.t 8))], none, none, []⟩, ⟨(some 10), .bsl 38 [.nils] 1 1 [(0, 1, (.t 9))], none, none, []⟩, ⟨(some 11), .call 15 [(.t 10), (.v (.int .i64 1))], none, none, []⟩, ⟨(some 6), .mv (.t 11), none, none, []⟩, ⟨(some 12), .extract (.t 6) 0, none, none, []⟩, ⟨(some 13), .extract (.t 6) 1, none, none, []⟩, ⟨(some 1), .mv (.t 12), none, none, []⟩, ⟨(some 2), .mv (.t 13), none, none, []⟩])
  (.seq (.reg [⟨(some 15), .mv (.t 1), none, none, []⟩, ⟨(some 16), .call 20 [(.t 15)], none, none, []⟩, ⟨(some 14), .mv (.t 16), none, none, []⟩, ⟨(some 17), .extract (.t 14) 0, none, none, []⟩, ⟨(some 18), .extract (.t 14) 1, none, none, []⟩, ⟨(some 19), .extract (.t 14) 2, none, none, []⟩, ⟨(some 3), .box 35 (.v (.agg [(.int .i64 0), (.int .i64 0)])), none, none, []⟩, ⟨(some 4), .box 35 (.v (.agg [(.int .i64 0), (.int .i64 0)])), none, none, []⟩, ⟨none, .store 2 (.t 3) (.t 17), none, none, []⟩, ⟨none, .store 2 (.t 4) (.t 18), none, none, []⟩, ⟨(some 5), .mv (.t 19), none, none, []⟩])
  (.seq (.reg [⟨(some 20), .mv (.t 2), none, none, []⟩, ⟨(some 21), .bin .eql (.t 20) (.v (.int .i64 0)), none, none, []⟩, ⟨(some 22), .mv (.t 21), none, none, []⟩, ⟨(some 23), .mv (.t 1), (some (22, true)), none, []⟩, ⟨(some 24), .len false (.t 23), (some (22, true)), none, []⟩, ⟨(some 25), .bin .eql (.t 24) (.v (.int .i64 2)), (some (22, true)), none, []⟩, ⟨(some 26), .pick (.t 22) (.t 25) (.v (.bool false)), none, none, []⟩, ⟨(some 27), .mv (.t 26), none, none, []⟩, ⟨(some 28), .mv (.t 1), (some (27, true)), none, []⟩, ⟨(some 29), .iaddr 8 (.t 28) (.v (.int .i64 0)), (some (27, true)), none, []⟩, ⟨(some 30), .faddr 6 (.t 29), (some (27, true)), none, []⟩, ⟨(some 31), .load (some 2) (.t 30), (some (27, true)), none, []⟩, ⟨(some 32), .build [(.int .i64 0), (.int .i64 0)] [(0, 1, (.v (.int .i64 20)))], (some (27, true)), none, []⟩, ⟨(some 33), .eqs 4 [1, 1] false (.t 31) (.t 32), (some (27, true)), none, []⟩, ⟨(some 34), .pick (.t 27) (.t 33) (.v (.bool false)), none, none, []⟩, ⟨(some 35), .mv (.t 34), none, none, []⟩, ⟨(some 36), .mv (.t 1), (some (35, true)), none, []⟩, ⟨(some 37), .iaddr 8 (.t 36) (.v (.int .i64 0)), (some (35, true)), none, []⟩, ⟨(some 38), .faddr 1 (.t 37), (some (35, true)), none, []⟩, ⟨(some 39), .load none (.t 38), (some (35, true)), none, []⟩, ⟨(some 40), .un .not (.t 39), (some (35, true)), none, []⟩, ⟨(some 41), .pick (.t 35) (.t 40) (.v (.bool false)), none, none, []⟩, ⟨(some 42), .mv (.t 41), none, none, []⟩, ⟨(some 43), .mv (.t 1), (some (42, true)), none, []⟩, ⟨(some 44), .iaddr 8 (.t 43) (.v (.int .i64 1)), (some (42, true)), none, []⟩, ⟨(some 45), .faddr 6 (.t 44), (some (42, true)), none, []⟩, ⟨(some 46), .load (some 2) (.t 45), (some (42, true)), none, []⟩, ⟨(some 47), .build [(.int .i64 0), (.int .i64 0)] [], (some (42, true)), none, []⟩, ⟨(some 48), .eqs 4 [1, 1] false (.t 46) (.t 47), (some (42, true)), none, []⟩, ⟨(some 49), .pick (.t 42) (.t 48) (.v (.bool false)), none, none, []⟩, ⟨(some 50), .mv (.t 49), none, none, []⟩, ⟨(some 51), .load (some 2) (.t 3), (some (50, true)), none, []⟩, ⟨(some 52), .build [(.int .i64 0), (.int .i64 0)] [], (some (50, true)), none, []⟩, ⟨(some 53), .eqs 4 [1, 1] false (.t 51) (.t 52), (some (50, true)), none, []⟩, ⟨(some 54), .pick (.t 50) (.t 53) (.v (.bool false)), none, none, []⟩, ⟨(some 55), .mv (.t 54), none, none, []⟩, ⟨(some 56), .load (some 2) (.t 4), (some (55, true)), none, []⟩, ⟨(some 57), .build [(.int .i64 0), (.int .i64 0)] [(0, 1, (.v (.int .i64 20)))], (some (55, true)), none, []⟩, ⟨(some 58), .eqs 4 [1, 1] false (.t 56) (.t 57), (some (55, true)), none, []⟩, ⟨(some 59), .pick (.t 55) (.t 58) (.v (.bool false)), none, none, []⟩, ⟨(some 60), .mv (.t 59), none, none, []⟩, ⟨(some 61), .mv (.t 5), (some (60, true)), none, []⟩, ⟨(some 62), .pick (.t 60) (.t 61) (.v (.bool false)), none, none, []⟩, ⟨(some 63), .mv (.t 62), none, none, []⟩, ⟨(some 64), .mv (.t 1), (some (63, true)), none, []⟩, ⟨(some 65), .call 19 [(.t 64)], (some (63, true)), none, []⟩, ⟨(some 66), .pick (.t 63) (.t 65) (.v (.bool false)), none, none, []⟩, ⟨(some 67), .mv (.t 66), none, none, []⟩, ⟨(some 68), .mv (.t 1), (some (67, true)), none, []⟩, ⟨(some 69), .call 18 [(.t 68)], (some (67, true)), none, []⟩, ⟨(some 70), .pick (.t 67) (.t 69) (.v (.bool false)), none, none, []⟩, ⟨(some 0), .mv (.t 70), none, none, []⟩])
  .ret))))⟩
/-- pochoir/pochoirlaw16.few -/
def s14 : SFn :=
 ⟨18, [.tmp 2],
  (.seq (.reg [⟨(some 2), .mv (.v (.bool false)), none, none, []⟩])
  (.seq (.seq (.reg [⟨(some 5), .mv (.t 0), none, none, []⟩, ⟨(some 6), .len false (.t 5), none, none, []⟩, ⟨(some 7), .mv (.v (.int .i64 0)), none, none, []⟩])
  (.block 0 (.loop (.seq (.reg [⟨(some 8), .bin .lss (.t 7) (.t 6), none, none, []⟩])
  (.seq (.cond (.t 8) .skip (.exit 0))
  (.seq (.block 1 (.seq (.reg [⟨(some 9), .iaddr 1 (.t 5) (.t 7), none, none, []⟩, ⟨(some 10), .load none (.t 9), none, none, []⟩, ⟨(some 4), .mv (.t 10), none, none, []⟩])
  (.seq (.reg [⟨(some 11), .mv (.t 4), none, none, []⟩, ⟨(some 12), .len false (.t 11), none, none, []⟩, ⟨(some 13), .bin .gtr (.t 12) (.v (.int .i64 60)), none, none, []⟩])
  (.cond (.t 13) (.seq (.reg [⟨(some 2), .mv (.v (.bool false)), none, none, []⟩])
  .ret) .skip))))
  (.reg [⟨(some 14), .bin .add (.t 7) (.v (.int .i64 1)), none, none, []⟩, ⟨(some 7), .mv (.t 14), none, none, []⟩])))))))
  (.seq (.reg [⟨(some 15), .mv (.t 0), none, none, []⟩, ⟨(some 16), .len false (.t 15), none, none, []⟩, ⟨(some 17), .bin .leq (.t 16) (.v (.int .i64 20)), none, none, []⟩, ⟨(some 2), .mv (.t 17), none, none, []⟩])
  .ret)))⟩
/-- pochoir/edge.Edges -/
def s15 : SFn :=
 ⟨35, [.tmp 4, .tmp 5],
  (.seq (.reg [⟨(some 4), .mv (.v .nils), none, none, []⟩, ⟨(some 5), .mv (.v (.int .i64 0)), none, none, []⟩])
  (.seq (.seq (.reg [⟨(some 9), .mv (.t 0), none, none, []⟩, ⟨(some 10), .call 41 [(.t 9)], none, none, []⟩, ⟨(some 11), .un .not (.t 10), none, none, []⟩, ⟨(some 12), .mv (.t 11), none, none, []⟩, ⟨(some 13), .mv (.t 1), (some (12, false)), none, []⟩, ⟨(some 14), .bin .lss (.t 13) (.v (.int .i64 1)), (some (12, false)), none, []⟩, ⟨(some 15), .pick (.t 12) (.v (.bool true)) (.t 14), none, none, []⟩, ⟨(some 16), .mv (.t 15), none, none, []⟩, ⟨(some 17), .mv (.t 1), (some (16, false)), none, []⟩, ⟨(some 18), .bin .gtr (.t 17) (.v (.int .i64 128)), (some (16, false)), none, []⟩, ⟨(some 19), .pick (.t 16) (.v (.bool true)) (.t 18), none, none, []⟩])
  (.cond (.t 19) (.seq (.reg [⟨(some 4), .mv (.v .nils), none, none, []⟩, ⟨(some 5), .mv (.v (.int .i64 1)), none, none, []⟩])
  .ret) .skip))
  (.seq (.reg [⟨(some 6), .mv (.v .nils), none, none, []⟩])
  (.seq (.seq (.reg [⟨(some 20), .mv (.t 0), none, none, []⟩, ⟨(some 21), .len false (.t 20), none, none, []⟩, ⟨(some 22), .mv (.v (.int .i64 0)), none, none, []⟩])
  (.block 0 (.loop (.seq (.reg [⟨(some 23), .bin .lss (.t 22) (.t 21), none, none, []⟩])
  (.seq (.cond (.t 23) .skip (.exit 0))
  (.seq (.block 1 (.seq (.reg [⟨(some 24), .mv (.t 22), none, none, []⟩, ⟨(some 25), .iaddr 1 (.t 20) (.t 22), none, none, []⟩, ⟨(some 26), .load none (.t 25), none, none, []⟩, ⟨(some 7), .mv (.t 24), none, none, []⟩, ⟨(some 8), .mv (.t 26), none, none, []⟩])
  (.reg [⟨(some 27), .mv (.t 6), none, none, []⟩, ⟨(some 28), .mv (.t 8), none, none, []⟩, ⟨(some 29), .mv (.t 1), none, none, []⟩, ⟨(some 30), .mv (.t 7), none, none, []⟩, ⟨(some 31), .call 42 [(.t 28), (.t 29), (.t 30)], none, none, []⟩, ⟨(some 32), .app 80 8 (.t 27) (.t 31), none, none, []⟩, ⟨(some 6), .mv (.t 32), none, none, []⟩])))
  (.reg [⟨(some 33), .bin .add (.t 22) (.v (.int .i64 1)), none, none, []⟩, ⟨(some 22), .mv (.t 33), none, none, []⟩])))))))
  (.seq (.reg [⟨(some 34), .mv (.t 6), none, none, []⟩, ⟨(some 4), .mv (.t 34), none, none, []⟩, ⟨(some 5), .mv (.v (.int .i64 0)), none, none, []⟩])
  .ret)))))⟩
/-- pochoir/pochoirref16.Edges -/
def s16 : SFn :=
 ⟨35, [.tmp 4, .tmp 5],
  (.seq (.reg [⟨(some 4), .mv (.v .nils), none, none, []⟩, ⟨(some 5), .mv (.v (.int .i64 0)), none, none, []⟩])
  (.seq (.seq (.reg [⟨(some 8), .mv (.t 0), none, none, []⟩, ⟨(some 9), .call 24 [(.t 8)], none, none, []⟩, ⟨(some 10), .un .not (.t 9), none, none, []⟩, ⟨(some 11), .mv (.t 10), none, none, []⟩, ⟨(some 12), .mv (.t 1), (some (11, false)), none, []⟩, ⟨(some 13), .bin .lss (.t 12) (.v (.int .i64 1)), (some (11, false)), none, []⟩, ⟨(some 14), .pick (.t 11) (.v (.bool true)) (.t 13), none, none, []⟩, ⟨(some 15), .mv (.t 14), none, none, []⟩, ⟨(some 16), .mv (.t 1), (some (15, false)), none, []⟩, ⟨(some 17), .bin .gtr (.t 16) (.v (.int .i64 128)), (some (15, false)), none, []⟩, ⟨(some 18), .pick (.t 15) (.v (.bool true)) (.t 17), none, none, []⟩])
  (.cond (.t 18) (.seq (.reg [⟨(some 4), .mv (.v .nils), none, none, []⟩, ⟨(some 5), .mv (.v (.int .i64 1)), none, none, []⟩])
  .ret) .skip))
  (.seq (.reg [⟨(some 6), .mv (.v .nils), none, none, []⟩])
  (.seq (.seq (.reg [⟨(some 7), .mv (.v (.int .i64 0)), none, none, []⟩])
  (.block 0 (.loop (.seq (.seq (.reg [⟨(some 19), .mv (.t 7), none, none, []⟩, ⟨(some 20), .mv (.t 0), none, none, []⟩, ⟨(some 21), .len false (.t 20), none, none, []⟩, ⟨(some 22), .bin .lss (.t 19) (.t 21), none, none, []⟩])
  (.cond (.t 22) .skip (.exit 0)))
  (.seq (.block 1 (.reg [⟨(some 25), .mv (.t 6), none, none, []⟩, ⟨(some 26), .mv (.t 0), none, none, []⟩, ⟨(some 27), .mv (.t 7), none, none, []⟩, ⟨(some 28), .iaddr 1 (.t 26) (.t 27), none, none, []⟩, ⟨(some 29), .load none (.t 28), none, none, []⟩, ⟨(some 30), .mv (.t 1), none, none, []⟩, ⟨(some 31), .mv (.t 7), none, none, []⟩, ⟨(some 32), .call 43 [(.t 29), (.t 30), (.t 31)], none, none, []⟩, ⟨(some 33), .app 80 8 (.t 25) (.t 32), none, none, []⟩, ⟨(some 6), .mv (.t 33), none, none, []⟩]))
  (.reg [⟨(some 23), .mv (.t 7), none, none, []⟩, ⟨(some 24), .bin .add (.t 23) (.v (.int .i64 1)), none, none, []⟩, ⟨(some 7), .mv (.t 24), none, none, []⟩]))))))
  (.seq (.reg [⟨(some 34), .mv (.t 6), none, none, []⟩, ⟨(some 4), .mv (.t 34), none, none, []⟩, ⟨(some 5), .mv (.v (.int .i64 0)), none, none, []⟩])
  .ret)))))⟩
/-- pochoir/pochoirref16.Same -/
def s17 : SFn :=
 ⟨26, [.tmp 4],
  (.seq (.reg [⟨(some 4), .mv (.v (.bool false)), none, none, []⟩])
  (.seq (.seq (.reg [⟨(some 6), .mv (.t 0), none, none, []⟩, ⟨(some 7), .len false (.t 6), none, none, []⟩, ⟨(some 8), .mv (.t 1), none, none, []⟩, ⟨(some 9), .len false (.t 8), none, none, []⟩, ⟨(some 10), .bin .neq (.t 7) (.t 9), none, none, []⟩])
  (.cond (.t 10) (.seq (.reg [⟨(some 4), .mv (.v (.bool false)), none, none, []⟩])
  .ret) .skip))
  (.seq (.seq (.reg [⟨(some 5), .mv (.v (.int .i64 0)), none, none, []⟩])
  (.block 0 (.loop (.seq (.seq (.reg [⟨(some 11), .mv (.t 5), none, none, []⟩, ⟨(some 12), .mv (.t 0), none, none, []⟩, ⟨(some 13), .len false (.t 12), none, none, []⟩, ⟨(some 14), .bin .lss (.t 11) (.t 13), none, none, []⟩])
  (.cond (.t 14) .skip (.exit 0)))
  (.seq (.block 1 (.seq (.regd [⟨(some 17), .mv (.t 0), none, (some []), []⟩, ⟨(some 18), .mv (.t 5), none, (some []), []⟩, ⟨(some 19), .iaddr 8 (.t 17) (.t 18), none, (some []), []⟩, ⟨(some 20), .load (some 8) (.t 19), none, (some []), []⟩, ⟨(some 21), .mv (.t 1), none, (some []), []⟩, ⟨(some 22), .mv (.t 5), none, (some []), []⟩, ⟨(some 23), .iaddr 8 (.t 21) (.t 22), none, (some []), []⟩, ⟨(some 24), .load (some 8) (.t 23), none, (some []), []⟩, ⟨(some 25), .eqs 4 [1, 0, 1, 1, 1, 1, 1, 1] true (.t 20) (.t 24), none, (some []), []⟩])
  (.cond (.t 25) (.seq (.reg [⟨(some 4), .mv (.v (.bool false)), none, none, []⟩])
  .ret) .skip)))
  (.reg [⟨(some 15), .mv (.t 5), none, none, []⟩, ⟨(some 16), .bin .add (.t 15) (.v (.int .i64 1)), none, none, []⟩, ⟨(some 5), .mv (.t 16), none, none, []⟩]))))))
  (.seq (.reg [⟨(some 4), .mv (.v (.bool true)), none, none, []⟩])
  .ret))))⟩
/-- pochoir/edge.May -/
def s18 : SFn :=
 ⟨44, [.tmp 2],
  (.seq (.reg [⟨(some 2), .mv (.v (.bool false)), none, none, []⟩])
  (.seq (.seq (.reg [⟨(some 5), .mv (.t 0), none, none, []⟩, ⟨(some 6), .len false (.t 5), none, none, []⟩, ⟨(some 7), .bin .gtr (.t 6) (.v (.int .i64 8192)), none, none, []⟩, ⟨(some 8), .mv (.t 7), none, none, []⟩, ⟨(some 9), .mv (.t 0), (some (8, false)), none, []⟩, ⟨(some 10), .call 19 [(.t 9)], (some (8, false)), none, []⟩, ⟨(some 11), .un .not (.t 10), (some (8, false)), none, []⟩, ⟨(some 12), .pick (.t 8) (.v (.bool true)) (.t 11), none, none, []⟩])
  (.cond (.t 12) (.seq (.reg [⟨(some 2), .mv (.v (.bool false)), none, none, []⟩])
  .ret) .skip))
  (.seq (.seq (.reg [⟨(some 13), .mv (.t 0), none, none, []⟩, ⟨(some 14), .len false (.t 13), none, none, []⟩, ⟨(some 15), .mv (.v (.int .i64 0)), none, none, []⟩])
  (.block 0 (.loop (.seq (.reg [⟨(some 16), .bin .lss (.t 15) (.t 14), none, none, []⟩])
  (.seq (.cond (.t 16) .skip (.exit 0))
  (.seq (.block 1 (.seq (.reg [⟨(some 17), .iaddr 8 (.t 13) (.t 15), none, none, []⟩, ⟨(some 18), .load (some 8) (.t 17), none, none, []⟩, ⟨(some 4), .box 80 (.v (.agg [(.int .i64 0), (.bool false), (.int .i64 0), (.int .i64 0), (.int .i64 0), (.int .i64 0), (.int .i64 0), (.int .i64 0)])), none, none, []⟩, ⟨none, .store 8 (.t 4) (.t 18), none, none, []⟩])
  (.seq (.reg [⟨(some 19), .faddr 2 (.t 4), none, none, []⟩, ⟨(some 20), .load (some 2) (.t 19), none, none, []⟩, ⟨(some 21), .faddr 4 (.t 4), none, none, []⟩, ⟨(some 22), .load (some 2) (.t 21), none, none, []⟩, ⟨(some 23), .faddr 6 (.t 4), none, none, []⟩, ⟨(some 24), .load (some 2) (.t 23), none, none, []⟩, ⟨(some 25), .bsl 35 [(.int .i64 0), (.int .i64 0), (.int .i64 0), (.int .i64 0), (.int .i64 0), (.int .i64 0)] 3 2 [(0, 2, (.t 20)), (2, 2, (.t 22)), (4, 2, (.t 24))], none, none, []⟩, ⟨(some 26), .call 44 [(.t 25)], none, none, []⟩, ⟨(some 27), .un .not (.t 26), none, none, []⟩, ⟨(some 28), .mv (.t 27), none, none, []⟩, ⟨(some 29), .load (some 8) (.t 4), (some (28, false)), none, []⟩, ⟨(some 30), .call 45 [(.t 29)], (some (28, false)), none, []⟩, ⟨(some 31), .pick (.t 28) (.v (.bool true)) (.t 30), none, none, []⟩, ⟨(some 32), .mv (.t 31), none, none, []⟩, ⟨(some 33), .faddr 1 (.t 4), (some (32, false)), none, []⟩, ⟨(some 34), .load none (.t 33), (some (32, false)), none, []⟩, ⟨(some 35), .un .not (.t 34), (some (32, false)), none, []⟩, ⟨(some 36), .mv (.t 35), (some (32, false)), none, []⟩, ⟨(some 37), .faddr 4 (.t 4), (some (36, true)), none, []⟩, ⟨(some 38), .load (some 2) (.t 37), (some (36, true)), none, []⟩, ⟨(some 39), .build [(.int .i64 0), (.int .i64 0)] [], (some (36, true)), none, []⟩, ⟨(some 40), .eqs 4 [1, 1] true (.t 38) (.t 39), (some (36, true)), none, []⟩, ⟨(some 41), .pick (.t 36) (.t 40) (.v (.bool false)), (some (32, false)), none, []⟩, ⟨(some 42), .pick (.t 32) (.v (.bool true)) (.t 41), none, none, []⟩])
  (.cond (.t 42) (.seq (.reg [⟨(some 2), .mv (.v (.bool false)), none, none, []⟩])
  .ret) .skip))))
  (.reg [⟨(some 43), .bin .add (.t 15) (.v (.int .i64 1)), none, none, []⟩, ⟨(some 15), .mv (.t 43), none, none, []⟩])))))))
  (.seq (.reg [⟨(some 2), .mv (.v (.bool true)), none, none, []⟩])
  .ret))))⟩
/-- pochoir/edge.Closed -/
def s19 : SFn :=
 ⟨51, [.tmp 2],
  (.seq (.reg [⟨(some 2), .mv (.v (.bool false)), none, none, []⟩])
  (.seq (.block 0 (.loop (.seq (.seq (.reg [⟨(some 4), .mv (.t 0), none, none, []⟩, ⟨(some 5), .len false (.t 4), none, none, []⟩, ⟨(some 6), .bin .gtr (.t 5) (.v (.int .i64 0)), none, none, []⟩])
  (.cond (.t 6) .skip (.exit 0)))
  (.block 1 (.seq (.reg [⟨(some 3), .mv (.v (.int .i64 1)), none, none, []⟩])
  (.seq (.block 2 (.loop (.seq (.seq (.regd [⟨(some 7), .mv (.t 3), none, (some []), []⟩, ⟨(some 8), .mv (.t 0), none, (some []), []⟩, ⟨(some 9), .len false (.t 8), none, (some []), []⟩, ⟨(some 10), .bin .lss (.t 7) (.t 9), none, (some []), []⟩, ⟨(some 11), .mv (.t 10), none, (some []), []⟩, ⟨(some 12), .mv (.t 0), (some (11, true)), (some []), []⟩, ⟨(some 13), .mv (.t 3), (some (11, true)), (some []), []⟩, ⟨(some 14), .iaddr 8 (.t 12) (.t 13), (some (11, true)), (some []), []⟩, ⟨(some 15), .faddr 0 (.t 14), (some (11, true)), (some []), []⟩, ⟨(some 16), .load none (.t 15), (some (11, true)), (some []), []⟩, ⟨(some 17), .mv (.t 0), (some (11, true)), (some []), []⟩, ⟨(some 18), .iaddr 8 (.t 17) (.v (.int .i64 0)), (some (11, true)), (some []), []⟩, ⟨(some 19), .faddr 0 (.t 18), (some (11, true)), (some []), []⟩, ⟨(some 20), .load none (.t 19), (some (11, true)), (some []), []⟩, ⟨(some 21), .bin .eql (.t 16) (.t 20), (some (11, true)), (some []), []⟩, ⟨(some 22), .pick (.t 11) (.t 21) (.v (.bool false)), none, (some []), []⟩])
  (.cond (.t 22) .skip (.exit 2)))
  (.block 3 (.seq (.seq (.regd [⟨(some 23), .mv (.t 0), none, (some []), []⟩, ⟨(some 24), .mv (.t 3), none, (some []), []⟩, ⟨(some 25), .iaddr 8 (.t 23) (.t 24), none, (some []), []⟩, ⟨(some 26), .faddr 2 (.t 25), none, (some []), []⟩, ⟨(some 27), .load (some 2) (.t 26), none, (some []), []⟩, ⟨(some 28), .mv (.t 0), none, (some []), []⟩, ⟨(some 29), .mv (.t 3), none, (some []), []⟩, ⟨(some 30), .bin .sub (.t 29) (.v (.int .i64 1)), none, (some []), []⟩, ⟨(some 31), .iaddr 8 (.t 28) (.t 30), none, (some []), []⟩, ⟨(some 32), .faddr 6 (.t 31), none, (some []), []⟩, ⟨(some 33), .load (some 2) (.t 32), none, (some []), []⟩, ⟨(some 34), .eqs 4 [1, 1] true (.t 27) (.t 33), none, (some []), []⟩])
  (.cond (.t 34) (.seq (.reg [⟨(some 2), .mv (.v (.bool false)), none, none, []⟩])
  .ret) .skip))
  (.reg [⟨(some 35), .mv (.t 3), none, none, []⟩, ⟨(some 36), .bin .add (.t 35) (.v (.int .i64 1)), none, none, []⟩, ⟨(some 3), .mv (.t 36), none, none, []⟩]))))))
  (.seq (.seq (.regd [⟨(some 37), .mv (.t 0), none, (some []), []⟩, ⟨(some 38), .mv (.t 3), none, (some []), []⟩, ⟨(some 39), .bin .sub (.t 38) (.v (.int .i64 1)), none, (some []), []⟩, ⟨(some 40), .iaddr 8 (.t 37) (.t 39), none, (some []), []⟩, ⟨(some 41), .faddr 6 (.t 40), none, (some []), []⟩, ⟨(some 42), .load (some 2) (.t 41), none, (some []), []⟩, ⟨(some 43), .mv (.t 0), none, (some []), []⟩, ⟨(some 44), .iaddr 8 (.t 43) (.v (.int .i64 0)), none, (some []), []⟩, ⟨(some 45), .faddr 2 (.t 44), none, (some []), []⟩, ⟨(some 46), .load (some 2) (.t 45), none, (some []), []⟩, ⟨(some 47), .eqs 4 [1, 1] true (.t 42) (.t 46), none, (some []), []⟩])
  (.cond (.t 47) (.seq (.reg [⟨(some 2), .mv (.v (.bool false)), none, none, []⟩])
  .ret) .skip))
  (.reg [⟨(some 48), .mv (.t 0), none, none, []⟩, ⟨(some 49), .mv (.t 3), none, none, []⟩, ⟨(some 50), .slc 8 (.t 48) (some (.t 49)) none none, none, none, []⟩, ⟨(some 0), .mv (.t 50), none, none, []⟩]))))))))
  (.seq (.reg [⟨(some 2), .mv (.v (.bool true)), none, none, []⟩])
  .ret)))⟩
/-- pochoir/edge.Box -/
def s20 : SFn :=
 ⟨65, [.cell 2 (some 2), .cell 3 (some 2), .tmp 4],
  (.seq (.reg [⟨(some 2), .box 35 (.v (.agg [(.int .i64 0), (.int .i64 0)])), none, none, []⟩, ⟨(some 3), .box 35 (.v (.agg [(.int .i64 0), (.int .i64 0)])), none, none, []⟩, ⟨(some 4), .mv (.v (.bool false)), none, none, []⟩])
  (.seq (.seq (.reg [⟨(some 11), .mv (.t 0), none, none, []⟩, ⟨(some 12), .len false (.t 11), none, none, []⟩, ⟨(some 13), .bin .eql (.t 12) (.v (.int .i64 0)), none, none, []⟩])
  (.cond (.t 13) (.seq (.reg [⟨(some 14), .build [(.int .i64 0), (.int .i64 0)] [], none, none, []⟩, ⟨(some 15), .build [(.int .i64 0), (.int .i64 0)] [], none, none, []⟩, ⟨none, .store 2 (.t 2) (.t 14), none, none, []⟩, ⟨none, .store 2 (.t 3) (.t 15), none, none, []⟩, ⟨(some 4), .mv (.v (.bool false)), none, none, []⟩])
  .ret) .skip))
  (.seq (.regd [⟨(some 16), .mv (.t 0), none, (some []), []⟩, ⟨(some 17), .iaddr 8 (.t 16) (.v (.int .i64 0)), none, (some []), []⟩, ⟨(some 18), .faddr 2 (.t 17), none, (some []), []⟩, ⟨(some 19), .load (some 2) (.t 18), none, (some []), []⟩, ⟨(some 20), .mv (.t 0), none, (some []), []⟩, ⟨(some 21), .iaddr 8 (.t 20) (.v (.int .i64 0)), none, (some []), []⟩, ⟨(some 22), .faddr 2 (.t 21), none, (some []), []⟩, ⟨(some 23), .load (some 2) (.t 22), none, (some []), []⟩, ⟨(some 5), .box 35 (.v (.agg [(.int .i64 0), (.int .i64 0)])), none, (some []), []⟩, ⟨(some 6), .box 35 (.v (.agg [(.int .i64 0), (.int .i64 0)])), none, (some [8]), []⟩, ⟨none, .store 2 (.t 5) (.t 19), none, none, [(none, (.t 22))]⟩, ⟨none, .store 2 (.t 6) (.t 23), none, none, []⟩])
  (.seq (.seq (.reg [⟨(some 24), .mv (.t 0), none, none, []⟩, ⟨(some 25), .len false (.t 24), none, none, []⟩, ⟨(some 26), .mv (.v (.int .i64 0)), none, none, []⟩])
  (.block 0 (.loop (.seq (.reg [⟨(some 27), .bin .lss (.t 26) (.t 25), none, none, []⟩])
  (.seq (.cond (.t 27) .skip (.exit 0))
  (.seq (.block 1 (.seq (.reg [⟨(some 28), .iaddr 8 (.t 24) (.t 26), none, none, []⟩, ⟨(some 29), .load (some 8) (.t 28), none, none, []⟩, ⟨(some 8), .box 80 (.v (.agg [(.int .i64 0), (.bool false), (.int .i64 0), (.int .i64 0), (.int .i64 0), (.int .i64 0), (.int .i64 0), (.int .i64 0)])), none, none, []⟩, ⟨none, .store 8 (.t 8) (.t 29), none, none, []⟩])
  (.seq (.reg [⟨(some 30), .load (some 8) (.t 8), none, none, []⟩, ⟨(some 31), .call 46 [(.t 30)], none, none, []⟩, ⟨(some 32), .len false (.t 31), none, none, []⟩, ⟨(some 33), .mv (.v (.int .i64 0)), none, none, []⟩])
  (.block 2 (.loop (.seq (.reg [⟨(some 34), .bin .lss (.t 33) (.t 32), none, none, []⟩])
  (.seq (.cond (.t 34) .skip (.exit 2))
  (.seq (.block 3 (.seq (.reg [⟨(some 35), .iaddr 2 (.t 31) (.t 33), none, none, []⟩, ⟨(some 36), .load (some 2) (.t 35), none, none, []⟩, ⟨(some 10), .box 35 (.v (.agg [(.int .i64 0), (.int .i64 0)])), none, none, []⟩, ⟨none, .store 2 (.t 10) (.t 36), none, none, []⟩])
  (.seq (.regd [⟨(some 37), .faddr 0 (.t 5), none, (some []), []⟩, ⟨(some 38), .load none (.t 37), none, (some []), []⟩, ⟨(some 39), .faddr 0 (.t 10), none, (some []), []⟩, ⟨(some 40), .load none (.t 39), none, (some []), []⟩, ⟨(some 41), .mnmx false [(.t 38), (.t 40)], none, (some []), []⟩, ⟨(some 42), .faddr 1 (.t 5), none, (some []), []⟩, ⟨(some 43), .load none (.t 42), none, (some []), []⟩, ⟨(some 44), .faddr 1 (.t 10), none, (some []), []⟩, ⟨(some 45), .load none (.t 44), none, (some []), []⟩, ⟨(some 46), .mnmx false [(.t 43), (.t 45)], none, (some []), []⟩, ⟨(some 47), .faddr 0 (.t 5), none, (some []), []⟩, ⟨none, .store 1 (.t 47) (.t 41), none, none, [(none, (.t 44))]⟩, ⟨(some 48), .faddr 1 (.t 5), none, (some []), []⟩, ⟨none, .store 1 (.t 48) (.t 46), none, none, []⟩])
  (.regd [⟨(some 49), .faddr 0 (.t 6), none, (some []), []⟩, ⟨(some 50), .load none (.t 49), none, (some []), []⟩, ⟨(some 51), .faddr 0 (.t 10), none, (some []), []⟩, ⟨(some 52), .load none (.t 51), none, (some []), []⟩, ⟨(some 53), .mnmx true [(.t 50), (.t 52)], none, (some []), []⟩, ⟨(some 54), .faddr 1 (.t 6), none, (some []), []⟩, ⟨(some 55), .load none (.t 54), none, (some []), []⟩, ⟨(some 56), .faddr 1 (.t 10), none, (some []), []⟩, ⟨(some 57), .load none (.t 56), none, (some []), []⟩, ⟨(some 58), .mnmx true [(.t 55), (.t 57)], none, (some []), []⟩, ⟨(some 59), .faddr 0 (.t 6), none, (some []), []⟩, ⟨none, .store 1 (.t 59) (.t 53), none, none, [(none, (.t 56))]⟩, ⟨(some 60), .faddr 1 (.t 6), none, (some []), []⟩, ⟨none, .store 1 (.t 60) (.t 58), none, none, []⟩]))))
  (.reg [⟨(some 61), .bin .add (.t 33) (.v (.int .i64 1)), none, none, []⟩, ⟨(some 33), .mv (.t 61), none, none, []⟩])))))))))
  (.reg [⟨(some 62), .bin .add (.t 26) (.v (.int .i64 1)), none, none, []⟩, ⟨(some 26), .mv (.t 62), none, none, []⟩])))))))
  (.seq (.regd [⟨(some 63), .load (some 2) (.t 5), none, (some []), []⟩, ⟨(some 64), .load (some 2) (.t 6), none, (some []), []⟩, ⟨none, .store 2 (.t 2) (.t 63), none, none, [(none, (.t 6))]⟩, ⟨none, .store 2 (.t 3) (.t 64), none, none, []⟩, ⟨(some 4), .mv (.v (.bool true)), none, (some []), []⟩])
  .ret)))))⟩
/-- pochoir/pochoirref16.Box -/
def s21 : SFn :=
 ⟨76, [.cell 2 (some 2), .cell 3 (some 2), .tmp 4],
  (.seq (.reg [⟨(some 2), .box 35 (.v (.agg [(.int .i64 0), (.int .i64 0)])), none, none, []⟩, ⟨(some 3), .box 35 (.v (.agg [(.int .i64 0), (.int .i64 0)])), none, none, []⟩, ⟨(some 4), .mv (.v (.bool false)), none, none, []⟩])
  (.seq (.seq (.reg [⟨(some 10), .mv (.t 0), none, none, []⟩, ⟨(some 11), .len false (.t 10), none, none, []⟩, ⟨(some 12), .bin .eql (.t 11) (.v (.int .i64 0)), none, none, []⟩])
  (.cond (.t 12) (.seq (.reg [⟨(some 13), .build [(.int .i64 0), (.int .i64 0)] [], none, none, []⟩, ⟨(some 14), .build [(.int .i64 0), (.int .i64 0)] [], none, none, []⟩, ⟨none, .store 2 (.t 2) (.t 13), none, none, []⟩, ⟨none, .store 2 (.t 3) (.t 14), none, none, []⟩, ⟨(some 4), .mv (.v (.bool false)), none, none, []⟩])
  .ret) .skip))
  (.seq (.reg [⟨(some 15), .mv (.t 0), none, none, []⟩, ⟨(some 16), .iaddr 8 (.t 15) (.v (.int .i64 0)), none, none, []⟩, ⟨(some 17), .faddr 2 (.t 16), none, none, []⟩, ⟨(some 18), .load (some 2) (.t 17), none, none, []⟩, ⟨(some 5), .box 35 (.v (.agg [(.int .i64 0), (.int .i64 0)])), none, none, []⟩, ⟨none, .store 2 (.t 5) (.t 18), none, none, []⟩])
  (.seq (.reg [⟨(some 19), .mv (.t 0), none, none, []⟩, ⟨(some 20), .iaddr 8 (.t 19) (.v (.int .i64 0)), none, none, []⟩, ⟨(some 21), .faddr 2 (.t 20), none, none, []⟩, ⟨(some 22), .load (some 2) (.t 21), none, none, []⟩, ⟨(some 6), .box 35 (.v (.agg [(.int .i64 0), (.int .i64 0)])), none, none, []⟩, ⟨none, .store 2 (.t 6) (.t 22), none, none, []⟩])
  (.seq (.seq (.reg [⟨(some 7), .mv (.v (.int .i64 0)), none, none, []⟩])
  (.block 0 (.loop (.seq (.seq (.reg [⟨(some 23), .mv (.t 7), none, none, []⟩, ⟨(some 24), .mv (.t 0), none, none, []⟩, ⟨(some 25), .len false (.t 24), none, none, []⟩, ⟨(some 26), .bin .lss (.t 23) (.t 25), none, none, []⟩])
  (.cond (.t 26) .skip (.exit 0)))
  (.seq (.block 1 (.seq (.reg [⟨(some 29), .mv (.t 0), none, none, []⟩, ⟨(some 30), .mv (.t 7), none, none, []⟩, ⟨(some 31), .iaddr 8 (.t 29) (.t 30), none, none, []⟩, ⟨(some 32), .load (some 8) (.t 31), none, none, []⟩, ⟨(some 33), .call 47 [(.t 32)], none, none, []⟩, ⟨(some 8), .mv (.t 33), none, none, []⟩])
  (.seq (.reg [⟨(some 9), .mv (.v (.int .i64 0)), none, none, []⟩])
  (.block 2 (.loop (.seq (.seq (.reg [⟨(some 34), .mv (.t 9), none, none, []⟩, ⟨(some 35), .mv (.t 8), none, none, []⟩, ⟨(some 36), .len false (.t 35), none, none, []⟩, ⟨(some 37), .bin .lss (.t 34) (.t 36), none, none, []⟩])
  (.cond (.t 37) .skip (.exit 2)))
  (.seq (.block 3 (.seq (.regd [⟨(some 40), .faddr 0 (.t 5), none, (some []), []⟩, ⟨(some 41), .load none (.t 40), none, (some []), []⟩, ⟨(some 42), .mv (.t 8), none, (some []), []⟩, ⟨(some 43), .mv (.t 9), none, (some []), []⟩, ⟨(some 44), .iaddr 2 (.t 42) (.t 43), none, (some []), []⟩, ⟨(some 45), .faddr 0 (.t 44), none, (some []), []⟩, ⟨(some 46), .load none (.t 45), none, (some []), []⟩, ⟨(some 47), .mnmx false [(.t 41), (.t 46)], none, (some []), []⟩, ⟨(some 48), .faddr 1 (.t 5), none, (some []), []⟩, ⟨(some 49), .load none (.t 48), none, (some []), []⟩, ⟨(some 50), .mv (.t 8), none, (some []), []⟩, ⟨(some 51), .mv (.t 9), none, (some []), []⟩, ⟨(some 52), .iaddr 2 (.t 50) (.t 51), none, (some []), []⟩, ⟨(some 53), .faddr 1 (.t 52), none, (some []), []⟩, ⟨(some 54), .load none (.t 53), none, (some []), []⟩, ⟨(some 55), .mnmx false [(.t 49), (.t 54)], none, (some []), []⟩, ⟨(some 56), .build [(.int .i64 0), (.int .i64 0)] [(0, 1, (.t 47)), (1, 1, (.t 55))], none, (some []), []⟩, ⟨none, .store 2 (.t 5) (.t 56), none, none, []⟩])
  (.regd [⟨(some 57), .faddr 0 (.t 6), none, (some []), []⟩, ⟨(some 58), .load none (.t 57), none, (some []), []⟩, ⟨(some 59), .mv (.t 8), none, (some []), []⟩, ⟨(some 60), .mv (.t 9), none, (some []), []⟩, ⟨(some 61), .iaddr 2 (.t 59) (.t 60), none, (some []), []⟩, ⟨(some 62), .faddr 0 (.t 61), none, (some []), []⟩, ⟨(some 63), .load none (.t 62), none, (some []), []⟩, ⟨(some 64), .mnmx true [(.t 58), (.t 63)], none, (some []), []⟩, ⟨(some 65), .faddr 1 (.t 6), none, (some []), []⟩, ⟨(some 66), .load none (.t 65), none, (some []), []⟩, ⟨(some 67), .mv (.t 8), none, (some []), []⟩, ⟨(some 68), .mv (.t 9), none, (some []), []⟩, ⟨(some 69), .iaddr 2 (.t 67) (.t 68), none, (some []), []⟩, ⟨(some 70), .faddr 1 (.t 69), none, (some []), []⟩, ⟨(some 71), .load none (.t 70), none, (some []), []⟩, ⟨(some 72), .mnmx true [(.t 66), (.t 71)], none, (some []), []⟩, ⟨(some 73), .build [(.int .i64 0), (.int .i64 0)] [(0, 1, (.t 64)), (1, 1, (.t 72))], none, (some []), []⟩, ⟨none, .store 2 (.t 6) (.t 73), none, none, []⟩])))
  (.reg [⟨(some 38), .mv (.t 9), none, none, []⟩, ⟨(some 39), .bin .add (.t 38) (.v (.int .i64 1)), none, none, []⟩, ⟨(some 9), .mv (.t 39), none, none, []⟩]))))))))
  (.reg [⟨(some 27), .mv (.t 7), none, none, []⟩, ⟨(some 28), .bin .add (.t 27) (.v (.int .i64 1)), none, none, []⟩, ⟨(some 7), .mv (.t 28), none, none, []⟩]))))))
  (.seq (.regd [⟨(some 74), .load (some 2) (.t 5), none, (some []), []⟩, ⟨(some 75), .load (some 2) (.t 6), none, (some []), []⟩, ⟨none, .store 2 (.t 2) (.t 74), none, none, [(none, (.t 6))]⟩, ⟨none, .store 2 (.t 3) (.t 75), none, none, []⟩, ⟨(some 4), .mv (.v (.bool true)), none, (some []), []⟩])
  .ret))))))⟩
/-- pochoir/pochoirref16.Closed -/
def s22 : SFn :=
 ⟨75, [.tmp 2],
  (.seq (.reg [⟨(some 2), .mv (.v (.bool false)), none, none, []⟩])
  (.seq (.reg [⟨(some 3), .mv (.v (.int .i64 0)), none, none, []⟩])
  (.seq (.seq (.reg [⟨(some 4), .mv (.v (.int .i64 0)), none, none, []⟩])
  (.block 0 (.loop (.seq (.seq (.reg [⟨(some 6), .mv (.t 4), none, none, []⟩, ⟨(some 7), .mv (.t 0), none, none, []⟩, ⟨(some 8), .len false (.t 7), none, none, []⟩, ⟨(some 9), .bin .lss (.t 6) (.t 8), none, none, []⟩])
  (.cond (.t 9) .skip (.exit 0)))
  (.seq (.block 1 (.seq (.seq (.regd [⟨(some 12), .mv (.t 0), none, (some []), []⟩, ⟨(some 13), .mv (.t 4), none, (some []), []⟩, ⟨(some 14), .iaddr 8 (.t 12) (.t 13), none, (some []), []⟩, ⟨(some 15), .faddr 0 (.t 14), none, (some []), []⟩, ⟨(some 16), .load none (.t 15), none, (some []), []⟩, ⟨(some 17), .mv (.t 0), none, (some []), []⟩, ⟨(some 18), .mv (.t 3), none, (some []), []⟩, ⟨(some 19), .iaddr 8 (.t 17) (.t 18), none, (some []), []⟩, ⟨(some 20), .faddr 0 (.t 19), none, (some []), []⟩, ⟨(some 21), .load none (.t 20), none, (some []), []⟩, ⟨(some 22), .bin .neq (.t 16) (.t 21), none, (some []), []⟩])
  (.cond (.t 22) (.reg [⟨(some 23), .mv (.t 4), none, none, []⟩, ⟨(some 3), .mv (.t 23), none, none, []⟩]) .skip))
  (.seq (.regd [⟨(some 24), .mv (.t 4), none, (some []), []⟩, ⟨(some 25), .mv (.t 0), none, (some []), []⟩, ⟨(some 26), .len false (.t 25), none, (some []), []⟩, ⟨(some 27), .bin .sub (.t 26) (.v (.int .i64 1)), none, (some []), []⟩, ⟨(some 28), .bin .eql (.t 24) (.t 27), none, (some []), []⟩, ⟨(some 29), .mv (.t 28), none, (some []), []⟩, ⟨(some 30), .mv (.t 0), (some (29, false)), (some []), []⟩, ⟨(some 31), .mv (.t 4), (some (29, false)), (some []), []⟩, ⟨(some 32), .bin .add (.t 31) (.v (.int .i64 1)), (some (29, false)), (some []), []⟩, ⟨(some 33), .iaddr 8 (.t 30) (.t 32), (some (29, false)), (some []), []⟩, ⟨(some 34), .faddr 0 (.t 33), (some (29, false)), (some []), []⟩, ⟨(some 35), .load none (.t 34), (some (29, false)), (some []), []⟩, ⟨(some 36), .mv (.t 0), (some (29, false)), (some []), []⟩, ⟨(some 37), .mv (.t 4), (some (29, false)), (some []), []⟩, ⟨(some 38), .iaddr 8 (.t 36) (.t 37), (some (29, false)), (some []), []⟩, ⟨(some 39), .faddr 0 (.t 38), (some (29, false)), (some []), []⟩, ⟨(some 40), .load none (.t 39), (some (29, false)), (some []), []⟩, ⟨(some 41), .bin .neq (.t 35) (.t 40), (some (29, false)), (some []), []⟩, ⟨(some 42), .pick (.t 29) (.v (.bool true)) (.t 41), none, (some []), []⟩, ⟨(some 5), .mv (.t 42), none, (some []), []⟩])
  (.seq (.regd [⟨(some 43), .mv (.t 5), none, (some []), []⟩, ⟨(some 44), .mv (.t 43), none, (some []), []⟩, ⟨(some 45), .mv (.t 0), (some (44, true)), (some []), []⟩, ⟨(some 46), .mv (.t 4), (some (44, true)), (some []), []⟩, ⟨(some 47), .iaddr 8 (.t 45) (.t 46), (some (44, true)), (some []), []⟩, ⟨(some 48), .faddr 6 (.t 47), (some (44, true)), (some []), []⟩, ⟨(some 49), .load (some 2) (.t 48), (some (44, true)), (some []), []⟩, ⟨(some 50), .mv (.t 0), (some (44, true)), (some []), []⟩, ⟨(some 51), .mv (.t 3), (some (44, true)), (some []), []⟩, ⟨(some 52), .iaddr 8 (.t 50) (.t 51), (some (44, true)), (some []), []⟩, ⟨(some 53), .faddr 2 (.t 52), (some (44, true)), (some []), []⟩, ⟨(some 54), .load (some 2) (.t 53), (some (44, true)), (some []), []⟩, ⟨(some 55), .eqs 4 [1, 1] true (.t 49) (.t 54), (some (44, true)), (some []), []⟩, ⟨(some 56), .pick (.t 44) (.t 55) (.v (.bool false)), none, (some []), []⟩, ⟨(some 57), .mv (.t 56), none, (some []), []⟩, ⟨(some 58), .mv (.t 5), (some (57, false)), (some []), []⟩, ⟨(some 59), .un .not (.t 58), (some (57, false)), (some []), []⟩, ⟨(some 60), .mv (.t 59), (some (57, false)), (some []), []⟩, ⟨(some 61), .mv (.t 0), (some (60, true)), (some []), []⟩, ⟨(some 62), .mv (.t 4), (some (60, true)), (some []), []⟩, ⟨(some 63), .iaddr 8 (.t 61) (.t 62), (some (60, true)), (some []), []⟩, ⟨(some 64), .faddr 6 (.t 63), (some (60, true)), (some []), []⟩, ⟨(some 65), .load (some 2) (.t 64), (some (60, true)), (some []), []⟩, ⟨(some 66), .mv (.t 0), (some (60, true)), (some []), []⟩, ⟨(some 67), .mv (.t 4), (some (60, true)), (some []), []⟩, ⟨(some 68), .bin .add (.t 67) (.v (.int .i64 1)), (some (60, true)), (some []), []⟩, ⟨(some 69), .iaddr 8 (.t 66) (.t 68), (some (60, true)), (some []), []⟩, ⟨(some 70), .faddr 2 (.t 69), (some (60, true)), (some []), []⟩, ⟨(some 71), .load (some 2) (.t 70), (some (60, true)), (some []), []⟩, ⟨(some 72), .eqs 4 [1, 1] true (.t 65) (.t 71), (some (60, true)), (some []), []⟩, ⟨(some 73), .pick (.t 60) (.t 72) (.v (.bool false)), (some (57, false)), (some []), []⟩, ⟨(some 74), .pick (.t 57) (.v (.bool true)) (.t 73), none, (some []), []⟩])
  (.cond (.t 74) (.seq (.reg [⟨(some 2), .mv (.v (.bool false)), none, none, []⟩])
  .ret) .skip)))))
  (.reg [⟨(some 10), .mv (.t 4), none, none, []⟩, ⟨(some 11), .bin .add (.t 10) (.v (.int .i64 1)), none, none, []⟩, ⟨(some 4), .mv (.t 11), none, none, []⟩]))))))
  (.seq (.reg [⟨(some 2), .mv (.v (.bool true)), none, none, []⟩])
  .ret))))⟩
/-- pochoir/pochoirref16.May -/
def s23 : SFn :=
 ⟨21, [.tmp 2],
  (.seq (.reg [⟨(some 2), .mv (.v (.bool false)), none, none, []⟩])
  (.seq (.seq (.reg [⟨(some 4), .mv (.t 0), none, none, []⟩, ⟨(some 5), .len false (.t 4), none, none, []⟩, ⟨(some 6), .bin .gtr (.t 5) (.v (.int .i64 8192)), none, none, []⟩])
  (.cond (.t 6) (.seq (.reg [⟨(some 2), .mv (.v (.bool false)), none, none, []⟩])
  .ret) .skip))
  (.seq (.seq (.reg [⟨(some 3), .mv (.v (.int .i64 0)), none, none, []⟩])
  (.block 0 (.loop (.seq (.seq (.reg [⟨(some 7), .mv (.t 3), none, none, []⟩, ⟨(some 8), .mv (.t 0), none, none, []⟩, ⟨(some 9), .len false (.t 8), none, none, []⟩, ⟨(some 10), .bin .lss (.t 7) (.t 9), none, none, []⟩])
  (.cond (.t 10) .skip (.exit 0)))
  (.seq (.block 1 (.seq (.reg [⟨(some 13), .mv (.t 0), none, none, []⟩, ⟨(some 14), .mv (.t 3), none, none, []⟩, ⟨(some 15), .iaddr 8 (.t 13) (.t 14), none, none, []⟩, ⟨(some 16), .load (some 8) (.t 15), none, none, []⟩, ⟨(some 17), .call 48 [(.t 16)], none, none, []⟩, ⟨(some 18), .un .not (.t 17), none, none, []⟩])
  (.cond (.t 18) (.seq (.reg [⟨(some 2), .mv (.v (.bool false)), none, none, []⟩])
  .ret) .skip)))
  (.reg [⟨(some 11), .mv (.t 3), none, none, []⟩, ⟨(some 12), .bin .add (.t 11) (.v (.int .i64 1)), none, none, []⟩, ⟨(some 3), .mv (.t 12), none, none, []⟩]))))))
  (.seq (.reg [⟨(some 19), .mv (.t 0), none, none, []⟩, ⟨(some 20), .call 22 [(.t 19)], none, none, []⟩, ⟨(some 2), .mv (.t 20), none, none, []⟩])
  .ret))))⟩
/-- pochoir/pochoirref13.May -/
def s24 : SFn :=
 ⟨73, [.tmp 2],
  (.seq (.reg [⟨(some 2), .mv (.v (.bool false)), none, none, []⟩])
  (.seq (.seq (.reg [⟨(some 7), .mv (.t 0), none, none, []⟩, ⟨(some 8), .len false (.t 7), none, none, []⟩, ⟨(some 9), .bin .gtr (.t 8) (.v (.int .i64 256)), none, none, []⟩])
  (.cond (.t 9) (.seq (.reg [⟨(some 2), .mv (.v (.bool false)), none, none, []⟩])
  .ret) .skip))
  (.seq (.reg [⟨(some 3), .mv (.v (.int .i64 0)), none, none, []⟩])
  (.seq (.seq (.reg [⟨(some 4), .mv (.v (.int .i64 0)), none, none, []⟩])
  (.block 0 (.loop (.seq (.seq (.reg [⟨(some 10), .mv (.t 4), none, none, []⟩, ⟨(some 11), .mv (.t 0), none, none, []⟩, ⟨(some 12), .len false (.t 11), none, none, []⟩, ⟨(some 13), .bin .lss (.t 10) (.t 12), none, none, []⟩])
  (.cond (.t 13) .skip (.exit 0)))
  (.seq (.block 1 (.seq (.seq (.reg [⟨(some 16), .mv (.t 0), none, none, []⟩, ⟨(some 17), .mv (.t 4), none, none, []⟩, ⟨(some 18), .iaddr 1 (.t 16) (.t 17), none, none, []⟩, ⟨(some 19), .load none (.t 18), none, none, []⟩, ⟨(some 20), .len false (.t 19), none, none, []⟩, ⟨(some 21), .bin .eql (.t 20) (.v (.int .i64 0)), none, none, []⟩, ⟨(some 22), .mv (.t 21), none, none, []⟩, ⟨(some 23), .mv (.t 0), (some (22, false)), none, []⟩, ⟨(some 24), .mv (.t 4), (some (22, false)), none, []⟩, ⟨(some 25), .iaddr 1 (.t 23) (.t 24), (some (22, false)), none, []⟩, ⟨(some 26), .load none (.t 25), (some (22, false)), none, []⟩, ⟨(some 27), .len false (.t 26), (some (22, false)), none, []⟩, ⟨(some 28), .bin .gtr (.t 27) (.v (.int .i64 4096)), (some (22, false)), none, []⟩, ⟨(some 29), .pick (.t 22) (.v (.bool true)) (.t 28), none, none, []⟩])
  (.cond (.t 29) (.seq (.reg [⟨(some 2), .mv (.v (.bool false)), none, none, []⟩])
  .ret) .skip))
  (.seq (.reg [⟨(some 30), .mv (.t 3), none, none, []⟩, ⟨(some 31), .mv (.t 0), none, none, []⟩, ⟨(some 32), .mv (.t 4), none, none, []⟩, ⟨(some 33), .iaddr 1 (.t 31) (.t 32), none, none, []⟩, ⟨(some 34), .load none (.t 33), none, none, []⟩, ⟨(some 35), .len false (.t 34), none, none, []⟩, ⟨(some 36), .bin .add (.t 30) (.t 35), none, none, []⟩, ⟨(some 3), .mv (.t 36), none, none, []⟩])
  (.seq (.seq (.reg [⟨(some 37), .mv (.t 3), none, none, []⟩, ⟨(some 38), .bin .gtr (.t 37) (.v (.int .i64 4096)), none, none, []⟩])
  (.cond (.t 38) (.seq (.reg [⟨(some 2), .mv (.v (.bool false)), none, none, []⟩])
  .ret) .skip))
  (.seq (.reg [⟨(some 5), .mv (.v (.int .i64 0)), none, none, []⟩])
  (.block 2 (.loop (.seq (.seq (.reg [⟨(some 39), .mv (.t 5), none, none, []⟩, ⟨(some 40), .mv (.t 0), none, none, []⟩, ⟨(some 41), .mv (.t 4), none, none, []⟩, ⟨(some 42), .iaddr 1 (.t 40) (.t 41), none, none, []⟩, ⟨(some 43), .load none (.t 42), none, none, []⟩, ⟨(some 44), .len false (.t 43), none, none, []⟩, ⟨(some 45), .bin .lss (.t 39) (.t 44), none, none, []⟩])
  (.cond (.t 45) .skip (.exit 2)))
  (.seq (.block 3 (.seq (.reg [⟨(some 48), .mv (.t 0), none, none, []⟩, ⟨(some 49), .mv (.t 4), none, none, []⟩, ⟨(some 50), .iaddr 1 (.t 48) (.t 49), none, none, []⟩, ⟨(some 51), .load none (.t 50), none, none, []⟩, ⟨(some 52), .mv (.t 5), none, none, []⟩, ⟨(some 53), .iaddr 3 (.t 51) (.t 52), none, none, []⟩, ⟨(some 54), .load (some 3) (.t 53), none, none, []⟩, ⟨(some 6), .box 40 (.v (.agg [(.int .i64 0), (.int .i64 0), (.bool false)])), none, none, []⟩, ⟨none, .store 3 (.t 6) (.t 54), none, none, []⟩])
  (.seq (.reg [⟨(some 55), .faddr 0 (.t 6), none, none, []⟩, ⟨(some 56), .load none (.t 55), none, none, []⟩, ⟨(some 57), .bin .lss (.t 56) (.v (.int .i64 (-32767))), none, none, []⟩, ⟨(some 58), .mv (.t 57), none, none, []⟩, ⟨(some 59), .faddr 0 (.t 6), (some (58, false)), none, []⟩, ⟨(some 60), .load none (.t 59), (some (58, false)), none, []⟩, ⟨(some 61), .bin .gtr (.t 60) (.v (.int .i64 32767)), (some (58, false)), none, []⟩, ⟨(some 62), .pick (.t 58) (.v (.bool true)) (.t 61), none, none, []⟩, ⟨(some 63), .mv (.t 62), none, none, []⟩, ⟨(some 64), .faddr 1 (.t 6), (some (63, false)), none, []⟩, ⟨(some 65), .load none (.t 64), (some (63, false)), none, []⟩, ⟨(some 66), .bin .lss (.t 65) (.v (.int .i64 (-32767))), (some (63, false)), none, []⟩, ⟨(some 67), .pick (.t 63) (.v (.bool true)) (.t 66), none, none, []⟩, ⟨(some 68), .mv (.t 67), none, none, []⟩, ⟨(some 69), .faddr 1 (.t 6), (some (68, false)), none, []⟩, ⟨(some 70), .load none (.t 69), (some (68, false)), none, []⟩, ⟨(some 71), .bin .gtr (.t 70) (.v (.int .i64 32767)), (some (68, false)), none, []⟩, ⟨(some 72), .pick (.t 68) (.v (.bool true)) (.t 71), none, none, []⟩])
  (.cond (.t 72) (.seq (.reg [⟨(some 2), .mv (.v (.bool false)), none, none, []⟩])
  .ret) .skip))))
  (.reg [⟨(some 46), .mv (.t 5), none, none, []⟩, ⟨(some 47), .bin .add (.t 46) (.v (.int .i64 1)), none, none, []⟩, ⟨(some 5), .mv (.t 47), none, none, []⟩]))))))))))
  (.reg [⟨(some 14), .mv (.t 4), none, none, []⟩, ⟨(some 15), .bin .add (.t 14) (.v (.int .i64 1)), none, none, []⟩, ⟨(some 4), .mv (.t 15), none, none, []⟩]))))))
  (.seq (.reg [⟨(some 2), .mv (.v (.bool true)), none, none, []⟩])
  .ret)))))⟩
/-- pochoir/glyf.May -/
def s41 : SFn :=
 ⟨44, [.tmp 2],
  (.seq (.reg [⟨(some 2), .mv (.v (.bool false)), none, none, []⟩])
  (.seq (.seq (.reg [⟨(some 8), .mv (.t 0), none, none, []⟩, ⟨(some 9), .len false (.t 8), none, none, []⟩, ⟨(some 10), .bin .gtr (.t 9) (.v (.int .i64 256)), none, none, []⟩])
  (.cond (.t 10) (.seq (.reg [⟨(some 2), .mv (.v (.bool false)), none, none, []⟩])
  .ret) .skip))
  (.seq (.reg [⟨(some 3), .mv (.v (.int .i64 0)), none, none, []⟩])
  (.seq (.seq (.reg [⟨(some 11), .mv (.t 0), none, none, []⟩, ⟨(some 12), .len false (.t 11), none, none, []⟩, ⟨(some 13), .mv (.v (.int .i64 0)), none, none, []⟩])
  (.block 0 (.loop (.seq (.reg [⟨(some 14), .bin .lss (.t 13) (.t 12), none, none, []⟩])
  (.seq (.cond (.t 14) .skip (.exit 0))
  (.seq (.block 1 (.seq (.reg [⟨(some 15), .iaddr 1 (.t 11) (.t 13), none, none, []⟩, ⟨(some 16), .load none (.t 15), none, none, []⟩, ⟨(some 5), .mv (.t 16), none, none, []⟩])
  (.seq (.seq (.reg [⟨(some 17), .mv (.t 3), none, none, []⟩, ⟨(some 18), .mv (.t 5), none, none, []⟩, ⟨(some 19), .len false (.t 18), none, none, []⟩, ⟨(some 20), .bin .add (.t 17) (.t 19), none, none, []⟩, ⟨(some 3), .mv (.t 20), none, none, []⟩])
  (.seq (.reg [⟨(some 21), .mv (.t 5), none, none, []⟩, ⟨(some 22), .len false (.t 21), none, none, []⟩, ⟨(some 23), .bin .eql (.t 22) (.v (.int .i64 0)), none, none, []⟩, ⟨(some 24), .mv (.t 23), none, none, []⟩, ⟨(some 25), .mv (.t 3), (some (24, false)), none, []⟩, ⟨(some 26), .bin .gtr (.t 25) (.v (.int .i64 4096)), (some (24, false)), none, []⟩, ⟨(some 27), .pick (.t 24) (.v (.bool true)) (.t 26), none, none, []⟩])
  (.cond (.t 27) (.seq (.reg [⟨(some 2), .mv (.v (.bool false)), none, none, []⟩])
  .ret) .skip)))
  (.seq (.reg [⟨(some 28), .mv (.t 5), none, none, []⟩, ⟨(some 29), .len false (.t 28), none, none, []⟩, ⟨(some 30), .mv (.v (.int .i64 0)), none, none, []⟩])
  (.block 2 (.loop (.seq (.reg [⟨(some 31), .bin .lss (.t 30) (.t 29), none, none, []⟩])
  (.seq (.cond (.t 31) .skip (.exit 2))
  (.seq (.block 3 (.seq (.reg [⟨(some 32), .iaddr 3 (.t 28) (.t 30), none, none, []⟩, ⟨(some 33), .load (some 3) (.t 32), none, none, []⟩, ⟨(some 7), .box 40 (.v (.agg [(.int .i64 0), (.int .i64 0), (.bool false)])), none, none, []⟩, ⟨none, .store 3 (.t 7) (.t 33), none, none, []⟩])
  (.seq (.reg [⟨(some 34), .faddr 0 (.t 7), none, none, []⟩, ⟨(some 35), .load none (.t 34), none, none, []⟩, ⟨(some 36), .call 76 [(.t 35)], none, none, []⟩, ⟨(some 37), .mv (.t 36), none, none, []⟩, ⟨(some 38), .faddr 1 (.t 7), (some (37, false)), none, []⟩, ⟨(some 39), .load none (.t 38), (some (37, false)), none, []⟩, ⟨(some 40), .call 76 [(.t 39)], (some (37, false)), none, []⟩, ⟨(some 41), .pick (.t 37) (.v (.bool true)) (.t 40), none, none, []⟩])
  (.cond (.t 41) (.seq (.reg [⟨(some 2), .mv (.v (.bool false)), none, none, []⟩])
  .ret) .skip))))
  (.reg [⟨(some 42), .bin .add (.t 30) (.v (.int .i64 1)), none, none, []⟩, ⟨(some 30), .mv (.t 42), none, none, []⟩]))))))))))
  (.reg [⟨(some 43), .bin .add (.t 13) (.v (.int .i64 1)), none, none, []⟩, ⟨(some 13), .mv (.t 43), none, none, []⟩])))))))
  (.seq (.reg [⟨(some 2), .mv (.v (.bool true)), none, none, []⟩])
  .ret)))))⟩
/-- pochoir/edge.contour -/
def s42 : SFn :=
 ⟨54, [.tmp 6],
  (.seq (.reg [⟨(some 6), .mv (.v .nils), none, none, []⟩])
  (.seq (.reg [⟨(some 7), .mv (.v .nils), none, none, []⟩])
  (.seq (.reg [⟨(some 13), .mv (.t 0), none, none, []⟩, ⟨(some 14), .mv (.t 1), none, none, []⟩, ⟨(some 15), .call 77 [(.t 13), (.t 14)], none, none, []⟩, ⟨(some 8), .mv (.t 15), none, none, []⟩])
  (.seq (.reg [⟨(some 16), .mv (.t 8), none, none, []⟩, ⟨(some 17), .iaddr 3 (.t 16) (.v (.int .i64 0)), none, none, []⟩, ⟨(some 18), .faddr 0 (.t 17), none, none, []⟩, ⟨(some 19), .load (some 2) (.t 18), none, none, []⟩, ⟨(some 9), .box 35 (.v (.agg [(.int .i64 0), (.int .i64 0)])), none, none, []⟩, ⟨none, .store 2 (.t 9) (.t 19), none, none, []⟩])
  (.seq (.reg [⟨(some 20), .mv (.t 2), none, none, []⟩, ⟨(some 21), .build [(.int .i64 0), (.bool false), (.int .i64 0), (.int .i64 0), (.int .i64 0), (.int .i64 0), (.int .i64 0), (.int .i64 0)] [(0, 1, (.t 20))], none, none, []⟩, ⟨(some 10), .box 80 (.v (.agg [(.int .i64 0), (.bool false), (.int .i64 0), (.int .i64 0), (.int .i64 0), (.int .i64 0), (.int .i64 0), (.int .i64 0)])), none, none, []⟩, ⟨none, .store 8 (.t 10) (.t 21), none, none, []⟩])
  (.seq (.seq (.reg [⟨(some 22), .mv (.t 8), none, none, []⟩, ⟨(some 23), .slc 3 (.t 22) (some (.v (.int .i64 1))) none none, none, none, []⟩, ⟨(some 24), .len false (.t 23), none, none, []⟩, ⟨(some 25), .mv (.v (.int .i64 0)), none, none, []⟩])
  (.block 0 (.loop (.seq (.reg [⟨(some 26), .bin .lss (.t 25) (.t 24), none, none, []⟩])
  (.seq (.cond (.t 26) .skip (.exit 0))
  (.seq (.block 1 (.seq (.reg [⟨(some 27), .iaddr 3 (.t 23) (.t 25), none, none, []⟩, ⟨(some 28), .load (some 3) (.t 27), none, none, []⟩, ⟨(some 12), .box 125 (.v (.agg [(.int .i64 0), (.int .i64 0), (.bool false)])), none, none, []⟩, ⟨none, .store 3 (.t 12) (.t 28), none, none, []⟩])
  (.seq (.seq (.reg [⟨(some 29), .faddr 2 (.t 12), none, none, []⟩, ⟨(some 30), .load none (.t 29), none, none, []⟩, ⟨(some 31), .un .not (.t 30), none, none, []⟩])
  (.cond (.t 31) (.seq (.regd [⟨(some 32), .faddr 0 (.t 12), none, (some []), []⟩, ⟨(some 33), .load (some 2) (.t 32), none, (some []), []⟩, ⟨(some 34), .faddr 1 (.t 10), none, (some []), []⟩, ⟨none, .store 1 (.t 34) (.v (.bool true)), none, none, [(none, (.t 32))]⟩, ⟨(some 35), .faddr 4 (.t 10), none, (some []), []⟩, ⟨none, .store 2 (.t 35) (.t 33), none, none, []⟩])
  (.exit 1)) .skip))
  (.seq (.regd [⟨(some 36), .load (some 2) (.t 9), none, (some []), []⟩, ⟨(some 37), .faddr 0 (.t 12), none, (some []), []⟩, ⟨(some 38), .load (some 2) (.t 37), none, (some []), []⟩, ⟨(some 39), .faddr 2 (.t 10), none, (some []), []⟩, ⟨none, .store 2 (.t 39) (.t 36), none, none, [(none, (.t 37))]⟩, ⟨(some 40), .faddr 6 (.t 10), none, (some []), []⟩, ⟨none, .store 2 (.t 40) (.t 38), none, none, []⟩])
  (.seq (.seq (.reg [⟨(some 41), .load (some 8) (.t 10), none, none, []⟩, ⟨(some 42), .call 45 [(.t 41)], none, none, []⟩, ⟨(some 43), .un .not (.t 42), none, none, []⟩])
  (.cond (.t 43) (.reg [⟨(some 44), .mv (.t 7), none, none, []⟩, ⟨(some 45), .load (some 8) (.t 10), none, none, []⟩, ⟨(some 46), .bsl 80 [(.int .i64 0), (.bool false), (.int .i64 0), (.int .i64 0), (.int .i64 0), (.int .i64 0), (.int .i64 0), (.int .i64 0)] 1 8 [(0, 8, (.t 45))], none, none, []⟩, ⟨(some 47), .app 80 8 (.t 44) (.t 46), none, none, []⟩, ⟨(some 7), .mv (.t 47), none, none, []⟩]) .skip))
  (.reg [⟨(some 48), .faddr 0 (.t 12), none, none, []⟩, ⟨(some 49), .load (some 2) (.t 48), none, none, []⟩, ⟨(some 50), .mv (.t 2), none, none, []⟩, ⟨(some 51), .build [(.int .i64 0), (.bool false), (.int .i64 0), (.int .i64 0), (.int .i64 0), (.int .i64 0), (.int .i64 0), (.int .i64 0)] [(0, 1, (.t 50))], none, none, []⟩, ⟨none, .store 2 (.t 9) (.t 49), none, none, []⟩, ⟨none, .store 8 (.t 10) (.t 51), none, none, []⟩]))))))
  (.reg [⟨(some 52), .bin .add (.t 25) (.v (.int .i64 1)), none, none, []⟩, ⟨(some 25), .mv (.t 52), none, none, []⟩])))))))
  (.seq (.reg [⟨(some 53), .mv (.t 7), none, none, []⟩, ⟨(some 6), .mv (.t 53), none, none, []⟩])
  .ret)))))))⟩
/-- pochoir/pochoirref16.contour -/
def s43 : SFn :=
 ⟨72, [.tmp 6],
  (.seq (.reg [⟨(some 6), .mv (.v .nils), none, none, []⟩])
  (.seq (.reg [⟨(some 11), .mv (.t 0), none, none, []⟩, ⟨(some 12), .mv (.t 1), none, none, []⟩, ⟨(some 13), .call 78 [(.t 11), (.t 12)], none, none, []⟩, ⟨(some 7), .mv (.t 13), none, none, []⟩])
  (.seq (.reg [⟨(some 14), .mv (.t 7), none, none, []⟩, ⟨(some 15), .mv (.t 7), none, none, []⟩, ⟨(some 16), .iaddr 3 (.t 15) (.v (.int .i64 0)), none, none, []⟩, ⟨(some 17), .load (some 3) (.t 16), none, none, []⟩, ⟨(some 18), .bsl 129 [(.int .i64 0), (.int .i64 0), (.bool false)] 1 3 [(0, 3, (.t 17))], none, none, []⟩, ⟨(some 19), .app 129 3 (.t 14) (.t 18), none, none, []⟩, ⟨(some 7), .mv (.t 19), none, none, []⟩])
  (.seq (.reg [⟨(some 8), .mv (.v .nils), none, none, []⟩])
  (.seq (.seq (.reg [⟨(some 9), .mv (.v (.int .i64 0)), none, none, []⟩])
  (.block 0 (.loop (.seq (.seq (.reg [⟨(some 20), .mv (.t 9), none, none, []⟩, ⟨(some 21), .mv (.t 7), none, none, []⟩, ⟨(some 22), .len false (.t 21), none, none, []⟩, ⟨(some 23), .bin .sub (.t 22) (.v (.int .i64 1)), none, none, []⟩, ⟨(some 24), .bin .lss (.t 20) (.t 23), none, none, []⟩])
  (.cond (.t 24) .skip (.exit 0)))
  (.block 1 (.seq (.reg [⟨(some 25), .mv (.t 2), none, none, []⟩, ⟨(some 26), .mv (.t 7), none, none, []⟩, ⟨(some 27), .mv (.t 9), none, none, []⟩, ⟨(some 28), .iaddr 3 (.t 26) (.t 27), none, none, []⟩, ⟨(some 29), .faddr 0 (.t 28), none, none, []⟩, ⟨(some 30), .load (some 2) (.t 29), none, none, []⟩, ⟨(some 31), .build [(.int .i64 0), (.bool false), (.int .i64 0), (.int .i64 0), (.int .i64 0), (.int .i64 0), (.int .i64 0), (.int .i64 0)] [(0, 1, (.t 25)), (2, 2, (.t 30))], none, none, []⟩, ⟨(some 10), .box 80 (.v (.agg [(.int .i64 0), (.bool false), (.int .i64 0), (.int .i64 0), (.int .i64 0), (.int .i64 0), (.int .i64 0), (.int .i64 0)])), none, none, []⟩, ⟨none, .store 8 (.t 10) (.t 31), none, none, []⟩])
  (.seq (.seq (.reg [⟨(some 32), .mv (.t 7), none, none, []⟩, ⟨(some 33), .mv (.t 9), none, none, []⟩, ⟨(some 34), .bin .add (.t 33) (.v (.int .i64 1)), none, none, []⟩, ⟨(some 35), .iaddr 3 (.t 32) (.t 34), none, none, []⟩, ⟨(some 36), .faddr 2 (.t 35), none, none, []⟩, ⟨(some 37), .load none (.t 36), none, none, []⟩])
  (.cond (.t 37) (.seq (.reg [⟨(some 38), .mv (.t 7), none, none, []⟩, ⟨(some 39), .mv (.t 9), none, none, []⟩, ⟨(some 40), .bin .add (.t 39) (.v (.int .i64 1)), none, none, []⟩, ⟨(some 41), .iaddr 3 (.t 38) (.t 40), none, none, []⟩, ⟨(some 42), .faddr 0 (.t 41), none, none, []⟩, ⟨(some 43), .load (some 2) (.t 42), none, none, []⟩, ⟨(some 44), .faddr 6 (.t 10), none, none, []⟩, ⟨none, .store 2 (.t 44) (.t 43), none, none, []⟩])
  (.reg [⟨(some 45), .mv (.t 9), none, none, []⟩, ⟨(some 46), .bin .add (.t 45) (.v (.int .i64 1)), none, none, []⟩, ⟨(some 9), .mv (.t 46), none, none, []⟩])) (.seq (.reg [⟨(some 47), .faddr 1 (.t 10), none, none, []⟩, ⟨none, .store 1 (.t 47) (.v (.bool true)), none, none, []⟩])
  (.seq (.reg [⟨(some 48), .mv (.t 7), none, none, []⟩, ⟨(some 49), .mv (.t 9), none, none, []⟩, ⟨(some 50), .bin .add (.t 49) (.v (.int .i64 1)), none, none, []⟩, ⟨(some 51), .iaddr 3 (.t 48) (.t 50), none, none, []⟩, ⟨(some 52), .faddr 0 (.t 51), none, none, []⟩, ⟨(some 53), .load (some 2) (.t 52), none, none, []⟩, ⟨(some 54), .faddr 4 (.t 10), none, none, []⟩, ⟨none, .store 2 (.t 54) (.t 53), none, none, []⟩])
  (.seq (.reg [⟨(some 55), .mv (.t 7), none, none, []⟩, ⟨(some 56), .mv (.t 9), none, none, []⟩, ⟨(some 57), .bin .add (.t 56) (.v (.int .i64 2)), none, none, []⟩, ⟨(some 58), .iaddr 3 (.t 55) (.t 57), none, none, []⟩, ⟨(some 59), .faddr 0 (.t 58), none, none, []⟩, ⟨(some 60), .load (some 2) (.t 59), none, none, []⟩, ⟨(some 61), .faddr 6 (.t 10), none, none, []⟩, ⟨none, .store 2 (.t 61) (.t 60), none, none, []⟩])
  (.reg [⟨(some 62), .mv (.t 9), none, none, []⟩, ⟨(some 63), .bin .add (.t 62) (.v (.int .i64 2)), none, none, []⟩, ⟨(some 9), .mv (.t 63), none, none, []⟩]))))))
  (.seq (.reg [⟨(some 64), .load (some 8) (.t 10), none, none, []⟩, ⟨(some 65), .call 79 [(.t 64)], none, none, []⟩, ⟨(some 66), .un .not (.t 65), none, none, []⟩])
  (.cond (.t 66) (.reg [⟨(some 67), .mv (.t 8), none, none, []⟩, ⟨(some 68), .load (some 8) (.t 10), none, none, []⟩, ⟨(some 69), .bsl 80 [(.int .i64 0), (.bool false), (.int .i64 0), (.int .i64 0), (.int .i64 0), (.int .i64 0), (.int .i64 0), (.int .i64 0)] 1 8 [(0, 8, (.t 68))], none, none, []⟩, ⟨(some 70), .app 80 8 (.t 67) (.t 69), none, none, []⟩, ⟨(some 8), .mv (.t 70), none, none, []⟩]) .skip)))))))))
  (.seq (.reg [⟨(some 71), .mv (.t 8), none, none, []⟩, ⟨(some 6), .mv (.t 71), none, none, []⟩])
  .ret))))))⟩
/-- pochoir/edge.fine -/
def s44 : SFn :=
 ⟨30, [.tmp 2],
  (.seq (.reg [⟨(some 2), .mv (.v (.bool false)), none, none, []⟩])
  (.seq (.seq (.reg [⟨(some 5), .mv (.t 0), none, none, []⟩, ⟨(some 6), .len false (.t 5), none, none, []⟩, ⟨(some 7), .mv (.v (.int .i64 0)), none, none, []⟩])
  (.block 0 (.loop (.seq (.reg [⟨(some 8), .bin .lss (.t 7) (.t 6), none, none, []⟩])
  (.seq (.cond (.t 8) .skip (.exit 0))
  (.seq (.block 1 (.seq (.reg [⟨(some 9), .iaddr 2 (.t 5) (.t 7), none, none, []⟩, ⟨(some 10), .load (some 2) (.t 9), none, none, []⟩, ⟨(some 4), .box 35 (.v (.agg [(.int .i64 0), (.int .i64 0)])), none, none, []⟩, ⟨none, .store 2 (.t 4) (.t 10), none, none, []⟩])
  (.seq (.reg [⟨(some 11), .faddr 0 (.t 4), none, none, []⟩, ⟨(some 12), .load none (.t 11), none, none, []⟩, ⟨(some 13), .bin .lss (.t 12) (.v (.int .i64 (-33554432))), none, none, []⟩, ⟨(some 14), .mv (.t 13), none, none, []⟩, ⟨(some 15), .faddr 0 (.t 4), (some (14, false)), none, []⟩, ⟨(some 16), .load none (.t 15), (some (14, false)), none, []⟩, ⟨(some 17), .bin .gtr (.t 16) (.v (.int .i64 33554432)), (some (14, false)), none, []⟩, ⟨(some 18), .pick (.t 14) (.v (.bool true)) (.t 17), none, none, []⟩, ⟨(some 19), .mv (.t 18), none, none, []⟩, ⟨(some 20), .faddr 1 (.t 4), (some (19, false)), none, []⟩, ⟨(some 21), .load none (.t 20), (some (19, false)), none, []⟩, ⟨(some 22), .bin .lss (.t 21) (.v (.int .i64 (-33554432))), (some (19, false)), none, []⟩, ⟨(some 23), .pick (.t 19) (.v (.bool true)) (.t 22), none, none, []⟩, ⟨(some 24), .mv (.t 23), none, none, []⟩, ⟨(some 25), .faddr 1 (.t 4), (some (24, false)), none, []⟩, ⟨(some 26), .load none (.t 25), (some (24, false)), none, []⟩, ⟨(some 27), .bin .gtr (.t 26) (.v (.int .i64 33554432)), (some (24, false)), none, []⟩, ⟨(some 28), .pick (.t 24) (.v (.bool true)) (.t 27), none, none, []⟩])
  (.cond (.t 28) (.seq (.reg [⟨(some 2), .mv (.v (.bool false)), none, none, []⟩])
  .ret) .skip))))
  (.reg [⟨(some 29), .bin .add (.t 7) (.v (.int .i64 1)), none, none, []⟩, ⟨(some 7), .mv (.t 29), none, none, []⟩])))))))
  (.seq (.reg [⟨(some 2), .mv (.v (.bool true)), none, none, []⟩])
  .ret)))⟩
/-- pochoir/edge.none -/
def s45 : SFn :=
 ⟨20, [.tmp 2],
  (.seq (.reg [⟨(some 1), .box 80 (.t 0), none, none, []⟩, ⟨(some 2), .mv (.v (.bool false)), none, none, []⟩])
  (.seq (.reg [⟨(some 3), .faddr 2 (.t 1), none, none, []⟩, ⟨(some 4), .load (some 2) (.t 3), none, none, []⟩, ⟨(some 5), .faddr 6 (.t 1), none, none, []⟩, ⟨(some 6), .load (some 2) (.t 5), none, none, []⟩, ⟨(some 7), .eqs 4 [1, 1] false (.t 4) (.t 6), none, none, []⟩, ⟨(some 8), .mv (.t 7), none, none, []⟩, ⟨(some 9), .faddr 1 (.t 1), (some (8, true)), none, []⟩, ⟨(some 10), .load none (.t 9), (some (8, true)), none, []⟩, ⟨(some 11), .un .not (.t 10), (some (8, true)), none, []⟩, ⟨(some 12), .mv (.t 11), (some (8, true)), none, []⟩, ⟨(some 13), .faddr 4 (.t 1), (some (12, false)), none, []⟩, ⟨(some 14), .load (some 2) (.t 13), (some (12, false)), none, []⟩, ⟨(some 15), .faddr 2 (.t 1), (some (12, false)), none, []⟩, ⟨(some 16), .load (some 2) (.t 15), (some (12, false)), none, []⟩, ⟨(some 17), .eqs 4 [1, 1] false (.t 14) (.t 16), (some (12, false)), none, []⟩, ⟨(some 18), .pick (.t 12) (.v (.bool true)) (.t 17), (some (8, true)), none, []⟩, ⟨(some 19), .pick (.t 8) (.t 18) (.v (.bool false)), none, none, []⟩, ⟨(some 2), .mv (.t 19), none, none, []⟩])
  .ret))⟩
/-- pochoir/edge.points -/
def s46 : SFn :=
 ⟨17, [.tmp 2],
  (.seq (.reg [⟨(some 1), .box 80 (.t 0), none, none, []⟩, ⟨(some 2), .mv (.v .nils), none, none, []⟩])
  (.seq (.seq (.reg [⟨(some 3), .faddr 1 (.t 1), none, none, []⟩, ⟨(some 4), .load none (.t 3), none, none, []⟩])
  (.cond (.t 4) (.seq (.reg [⟨(some 5), .faddr 2 (.t 1), none, none, []⟩, ⟨(some 6), .load (some 2) (.t 5), none, none, []⟩, ⟨(some 7), .faddr 4 (.t 1), none, none, []⟩, ⟨(some 8), .load (some 2) (.t 7), none, none, []⟩, ⟨(some 9), .faddr 6 (.t 1), none, none, []⟩, ⟨(some 10), .load (some 2) (.t 9), none, none, []⟩, ⟨(some 11), .bsl 35 [(.int .i64 0), (.int .i64 0), (.int .i64 0), (.int .i64 0), (.int .i64 0), (.int .i64 0)] 3 2 [(0, 2, (.t 6)), (2, 2, (.t 8)), (4, 2, (.t 10))], none, none, []⟩, ⟨(some 2), .mv (.t 11), none, none, []⟩])
  .ret) .skip))
  (.seq (.reg [⟨(some 12), .faddr 2 (.t 1), none, none, []⟩, ⟨(some 13), .load (some 2) (.t 12), none, none, []⟩, ⟨(some 14), .faddr 6 (.t 1), none, none, []⟩, ⟨(some 15), .load (some 2) (.t 14), none, none, []⟩, ⟨(some 16), .bsl 35 [(.int .i64 0), (.int .i64 0), (.int .i64 0), (.int .i64 0)] 2 2 [(0, 2, (.t 13)), (2, 2, (.t 15))], none, none, []⟩, ⟨(some 2), .mv (.t 16), none, none, []⟩])
  .ret)))⟩
/-- pochoir/pochoirref16.Points -/
def s47 : SFn :=
 ⟨17, [.tmp 2],
  (.seq (.reg [⟨(some 1), .box 80 (.t 0), none, none, []⟩, ⟨(some 2), .mv (.v .nils), none, none, []⟩])
  (.seq (.seq (.reg [⟨(some 3), .faddr 1 (.t 1), none, none, []⟩, ⟨(some 4), .load none (.t 3), none, none, []⟩])
  (.cond (.t 4) (.seq (.reg [⟨(some 5), .faddr 2 (.t 1), none, none, []⟩, ⟨(some 6), .load (some 2) (.t 5), none, none, []⟩, ⟨(some 7), .faddr 4 (.t 1), none, none, []⟩, ⟨(some 8), .load (some 2) (.t 7), none, none, []⟩, ⟨(some 9), .faddr 6 (.t 1), none, none, []⟩, ⟨(some 10), .load (some 2) (.t 9), none, none, []⟩, ⟨(some 11), .bsl 35 [(.int .i64 0), (.int .i64 0), (.int .i64 0), (.int .i64 0), (.int .i64 0), (.int .i64 0)] 3 2 [(0, 2, (.t 6)), (2, 2, (.t 8)), (4, 2, (.t 10))], none, none, []⟩, ⟨(some 2), .mv (.t 11), none, none, []⟩])
  .ret) .skip))
  (.seq (.reg [⟨(some 12), .faddr 2 (.t 1), none, none, []⟩, ⟨(some 13), .load (some 2) (.t 12), none, none, []⟩, ⟨(some 14), .faddr 6 (.t 1), none, none, []⟩, ⟨(some 15), .load (some 2) (.t 14), none, none, []⟩, ⟨(some 16), .bsl 35 [(.int .i64 0), (.int .i64 0), (.int .i64 0), (.int .i64 0)] 2 2 [(0, 2, (.t 13)), (2, 2, (.t 15))], none, none, []⟩, ⟨(some 2), .mv (.t 16), none, none, []⟩])
  .ret)))⟩
/-- pochoir/pochoirref16.One -/
def s48 : SFn :=
 ⟨31, [.tmp 2],
  (.seq (.reg [⟨(some 1), .box 80 (.t 0), none, none, []⟩, ⟨(some 2), .mv (.v (.bool false)), none, none, []⟩])
  (.seq (.reg [⟨(some 3), .faddr 2 (.t 1), none, none, []⟩, ⟨(some 4), .load (some 2) (.t 3), none, none, []⟩, ⟨(some 5), .call 80 [(.t 4)], none, none, []⟩, ⟨(some 6), .mv (.t 5), none, none, []⟩, ⟨(some 7), .faddr 4 (.t 1), (some (6, true)), none, []⟩, ⟨(some 8), .load (some 2) (.t 7), (some (6, true)), none, []⟩, ⟨(some 9), .call 80 [(.t 8)], (some (6, true)), none, []⟩, ⟨(some 10), .pick (.t 6) (.t 9) (.v (.bool false)), none, none, []⟩, ⟨(some 11), .mv (.t 10), none, none, []⟩, ⟨(some 12), .faddr 6 (.t 1), (some (11, true)), none, []⟩, ⟨(some 13), .load (some 2) (.t 12), (some (11, true)), none, []⟩, ⟨(some 14), .call 80 [(.t 13)], (some (11, true)), none, []⟩, ⟨(some 15), .pick (.t 11) (.t 14) (.v (.bool false)), none, none, []⟩, ⟨(some 16), .mv (.t 15), none, none, []⟩, ⟨(some 17), .load (some 8) (.t 1), (some (16, true)), none, []⟩, ⟨(some 18), .call 79 [(.t 17)], (some (16, true)), none, []⟩, ⟨(some 19), .un .not (.t 18), (some (16, true)), none, []⟩, ⟨(some 20), .pick (.t 16) (.t 19) (.v (.bool false)), none, none, []⟩, ⟨(some 21), .mv (.t 20), none, none, []⟩, ⟨(some 22), .faddr 1 (.t 1), (some (21, true)), none, []⟩, ⟨(some 23), .load none (.t 22), (some (21, true)), none, []⟩, ⟨(some 24), .mv (.t 23), (some (21, true)), none, []⟩, ⟨(some 25), .faddr 4 (.t 1), (some (24, false)), none, []⟩, ⟨(some 26), .load (some 2) (.t 25), (some (24, false)), none, []⟩, ⟨(some 27), .build [(.int .i64 0), (.int .i64 0)] [], (some (24, false)), none, []⟩, ⟨(some 28), .eqs 4 [1, 1] false (.t 26) (.t 27), (some (24, false)), none, []⟩, ⟨(some 29), .pick (.t 24) (.v (.bool true)) (.t 28), (some (21, true)), none, []⟩, ⟨(some 30), .pick (.t 21) (.t 29) (.v (.bool false)), none, none, []⟩, ⟨(some 2), .mv (.t 30), none, none, []⟩])
  .ret))⟩
/-- pochoir/glyf.far -/
def s76 : SFn :=
 ⟨9, [.tmp 2],
  (.seq (.reg [⟨(some 2), .mv (.v (.bool false)), none, none, []⟩])
  (.seq (.reg [⟨(some 3), .mv (.t 0), none, none, []⟩, ⟨(some 4), .bin .gtr (.t 3) (.v (.int .i64 32767)), none, none, []⟩, ⟨(some 5), .mv (.t 4), none, none, []⟩, ⟨(some 6), .mv (.t 0), (some (5, false)), none, []⟩, ⟨(some 7), .bin .lss (.t 6) (.v (.int .i64 (-32767))), (some (5, false)), none, []⟩, ⟨(some 8), .pick (.t 5) (.v (.bool true)) (.t 7), none, none, []⟩, ⟨(some 2), .mv (.t 8), none, none, []⟩])
  .ret))⟩
/-- pochoir/edge.way -/
def s77 : SFn :=
 ⟨91, [.tmp 4],
  (.seq (.reg [⟨(some 4), .mv (.v .nils), none, none, []⟩])
  (.seq (.reg [⟨(some 5), .mv (.v .nils), none, none, []⟩])
  (.seq (.reg [⟨(some 10), .mv (.t 0), none, none, []⟩, ⟨(some 11), .mv (.t 0), none, none, []⟩, ⟨(some 12), .len false (.t 11), none, none, []⟩, ⟨(some 13), .bin .sub (.t 12) (.v (.int .i64 1)), none, none, []⟩, ⟨(some 14), .iaddr 3 (.t 10) (.t 13), none, none, []⟩, ⟨(some 15), .load (some 3) (.t 14), none, none, []⟩, ⟨(some 6), .box 40 (.v (.agg [(.int .i64 0), (.int .i64 0), (.bool false)])), none, none, []⟩, ⟨none, .store 3 (.t 6) (.t 15), none, none, []⟩])
  (.seq (.reg [⟨(some 7), .mv (.v (.int .i64 (-1))), none, none, []⟩])
  (.seq (.seq (.reg [⟨(some 16), .mv (.t 0), none, none, []⟩, ⟨(some 17), .len false (.t 16), none, none, []⟩, ⟨(some 18), .mv (.v (.int .i64 0)), none, none, []⟩])
  (.block 0 (.loop (.seq (.reg [⟨(some 19), .bin .lss (.t 18) (.t 17), none, none, []⟩])
  (.seq (.cond (.t 19) .skip (.exit 0))
  (.seq (.block 1 (.seq (.reg [⟨(some 20), .iaddr 3 (.t 16) (.t 18), none, none, []⟩, ⟨(some 21), .load (some 3) (.t 20), none, none, []⟩, ⟨(some 9), .box 40 (.v (.agg [(.int .i64 0), (.int .i64 0), (.bool false)])), none, none, []⟩, ⟨none, .store 3 (.t 9) (.t 21), none, none, []⟩])
  (.seq (.seq (.reg [⟨(some 22), .faddr 2 (.t 9), none, none, []⟩, ⟨(some 23), .load none (.t 22), none, none, []⟩, ⟨(some 24), .un .not (.t 23), none, none, []⟩, ⟨(some 25), .mv (.t 24), none, none, []⟩, ⟨(some 26), .faddr 2 (.t 6), (some (25, true)), none, []⟩, ⟨(some 27), .load none (.t 26), (some (25, true)), none, []⟩, ⟨(some 28), .un .not (.t 27), (some (25, true)), none, []⟩, ⟨(some 29), .pick (.t 25) (.t 28) (.v (.bool false)), none, none, []⟩])
  (.cond (.t 29) (.reg [⟨(some 30), .mv (.t 5), none, none, []⟩, ⟨(some 31), .mv (.t 1), none, none, []⟩, ⟨(some 32), .faddr 0 (.t 9), none, none, []⟩, ⟨(some 33), .load none (.t 32), none, none, []⟩, ⟨(some 34), .faddr 0 (.t 6), none, none, []⟩, ⟨(some 35), .load none (.t 34), none, none, []⟩, ⟨(some 36), .bin .add (.t 33) (.t 35), none, none, []⟩, ⟨(some 37), .bin .mul (.t 31) (.t 36), none, none, []⟩, ⟨(some 38), .mv (.t 1), none, none, []⟩, ⟨(some 39), .faddr 1 (.t 9), none, none, []⟩, ⟨(some 40), .load none (.t 39), none, none, []⟩, ⟨(some 41), .faddr 1 (.t 6), none, none, []⟩, ⟨(some 42), .load none (.t 41), none, none, []⟩, ⟨(some 43), .bin .add (.t 40) (.t 42), none, none, []⟩, ⟨(some 44), .bin .mul (.t 38) (.t 43), none, none, []⟩, ⟨(some 45), .build [(.int .i64 0), (.int .i64 0)] [(0, 1, (.t 37)), (1, 1, (.t 44))], none, none, []⟩, ⟨(some 46), .build [(.int .i64 0), (.int .i64 0), (.bool false)] [(0, 2, (.t 45)), (2, 1, (.v (.bool true)))], none, none, []⟩, ⟨(some 47), .bsl 125 [(.int .i64 0), (.int .i64 0), (.bool false)] 1 3 [(0, 3, (.t 46))], none, none, []⟩, ⟨(some 48), .app 125 3 (.t 30) (.t 47), none, none, []⟩, ⟨(some 5), .mv (.t 48), none, none, []⟩]) .skip))
  (.seq (.seq (.reg [⟨(some 49), .faddr 2 (.t 9), none, none, []⟩, ⟨(some 50), .load none (.t 49), none, none, []⟩, ⟨(some 51), .mv (.t 50), none, none, []⟩, ⟨(some 52), .mv (.t 7), (some (51, true)), none, []⟩, ⟨(some 53), .bin .lss (.t 52) (.v (.int .i64 0)), (some (51, true)), none, []⟩, ⟨(some 54), .pick (.t 51) (.t 53) (.v (.bool false)), none, none, []⟩])
  (.cond (.t 54) (.reg [⟨(some 55), .mv (.t 5), none, none, []⟩, ⟨(some 56), .len false (.t 55), none, none, []⟩, ⟨(some 7), .mv (.t 56), none, none, []⟩]) .skip))
  (.seq (.reg [⟨(some 57), .mv (.t 5), none, none, []⟩, ⟨(some 58), .mv (.t 1), none, none, []⟩, ⟨(some 59), .bin .mul (.v (.int .i64 2)) (.t 58), none, none, []⟩, ⟨(some 60), .faddr 0 (.t 9), none, none, []⟩, ⟨(some 61), .load none (.t 60), none, none, []⟩, ⟨(some 62), .bin .mul (.t 59) (.t 61), none, none, []⟩, ⟨(some 63), .mv (.t 1), none, none, []⟩, ⟨(some 64), .bin .mul (.v (.int .i64 2)) (.t 63), none, none, []⟩, ⟨(some 65), .faddr 1 (.t 9), none, none, []⟩, ⟨(some 66), .load none (.t 65), none, none, []⟩, ⟨(some 67), .bin .mul (.t 64) (.t 66), none, none, []⟩, ⟨(some 68), .build [(.int .i64 0), (.int .i64 0)] [(0, 1, (.t 62)), (1, 1, (.t 67))], none, none, []⟩, ⟨(some 69), .faddr 2 (.t 9), none, none, []⟩, ⟨(some 70), .load none (.t 69), none, none, []⟩, ⟨(some 71), .build [(.int .i64 0), (.int .i64 0), (.bool false)] [(0, 2, (.t 68)), (2, 1, (.t 70))], none, none, []⟩, ⟨(some 72), .bsl 125 [(.int .i64 0), (.int .i64 0), (.bool false)] 1 3 [(0, 3, (.t 71))], none, none, []⟩, ⟨(some 73), .app 125 3 (.t 57) (.t 72), none, none, []⟩, ⟨(some 5), .mv (.t 73), none, none, []⟩])
  (.reg [⟨(some 74), .load (some 3) (.t 9), none, none, []⟩, ⟨none, .store 3 (.t 6) (.t 74), none, none, []⟩]))))))
  (.reg [⟨(some 75), .bin .add (.t 18) (.v (.int .i64 1)), none, none, []⟩, ⟨(some 18), .mv (.t 75), none, none, []⟩])))))))
  (.seq (.reg [⟨(some 76), .mv (.t 7), none, none, []⟩, ⟨(some 77), .mnmx true [(.t 76), (.v (.int .i64 0))], none, none, []⟩, ⟨(some 7), .mv (.t 77), none, none, []⟩])
  (.seq (.regd [⟨(some 78), .mv (.t 5), none, (some []), []⟩, ⟨(some 79), .mv (.t 7), none, (some []), []⟩, ⟨(some 80), .slc 3 (.t 78) (some (.t 79)) none none, none, (some []), []⟩, ⟨(some 81), .mv (.t 5), none, (some []), []⟩, ⟨(some 82), .mv (.t 7), none, (some []), []⟩, ⟨(some 83), .slc 3 (.t 81) none (some (.t 82)) none, none, (some []), []⟩, ⟨(some 84), .mv (.t 5), none, (some []), []⟩, ⟨(some 85), .mv (.t 7), none, (some []), []⟩, ⟨(some 86), .mv (.t 7), none, (some []), []⟩, ⟨(some 87), .bin .add (.t 86) (.v (.int .i64 1)), none, (some []), []⟩, ⟨(some 88), .slc 3 (.t 84) (some (.t 85)) (some (.t 87)) none, none, (some []), []⟩, ⟨(some 89), .bsl 122 [.nils, .nils, .nils] 3 1 [(0, 1, (.t 80)), (1, 1, (.t 83)), (2, 1, (.t 88))], none, none, []⟩, ⟨(some 90), .call 102 [(.t 89)], none, none, []⟩, ⟨(some 4), .mv (.t 90), none, (some []), []⟩])
  .ret)))))))⟩
/-- pochoir/pochoirref16.way -/
def s78 : SFn :=
 ⟨79, [.tmp 4],
  (.seq (.reg [⟨(some 4), .mv (.v .nils), none, none, []⟩])
  (.seq (.reg [⟨(some 5), .mv (.v .nils), none, none, []⟩])
  (.seq (.reg [⟨(some 10), .mv (.t 0), none, none, []⟩, ⟨(some 11), .len false (.t 10), none, none, []⟩, ⟨(some 6), .mv (.t 11), none, none, []⟩])
  (.seq (.seq (.reg [⟨(some 7), .mv (.v (.int .i64 0)), none, none, []⟩])
  (.block 0 (.loop (.seq (.seq (.reg [⟨(some 12), .mv (.t 7), none, none, []⟩, ⟨(some 13), .mv (.t 6), none, none, []⟩, ⟨(some 14), .bin .lss (.t 12) (.t 13), none, none, []⟩])
  (.cond (.t 14) .skip (.exit 0)))
  (.seq (.block 1 (.seq (.reg [⟨(some 17), .mv (.t 0), none, none, []⟩, ⟨(some 18), .mv (.t 7), none, none, []⟩, ⟨(some 19), .iaddr 3 (.t 17) (.t 18), none, none, []⟩, ⟨(some 20), .load (some 3) (.t 19), none, none, []⟩, ⟨(some 8), .box 40 (.v (.agg [(.int .i64 0), (.int .i64 0), (.bool false)])), none, none, []⟩, ⟨none, .store 3 (.t 8) (.t 20), none, none, []⟩])
  (.seq (.reg [⟨(some 21), .mv (.t 0), none, none, []⟩, ⟨(some 22), .mv (.t 7), none, none, []⟩, ⟨(some 23), .mv (.t 6), none, none, []⟩, ⟨(some 24), .bin .add (.t 22) (.t 23), none, none, []⟩, ⟨(some 25), .bin .sub (.t 24) (.v (.int .i64 1)), none, none, []⟩, ⟨(some 26), .mv (.t 6), none, none, []⟩, ⟨(some 27), .bin .rem (.t 25) (.t 26), none, none, []⟩, ⟨(some 28), .iaddr 3 (.t 21) (.t 27), none, none, []⟩, ⟨(some 29), .load (some 3) (.t 28), none, none, []⟩, ⟨(some 9), .box 40 (.v (.agg [(.int .i64 0), (.int .i64 0), (.bool false)])), none, none, []⟩, ⟨none, .store 3 (.t 9) (.t 29), none, none, []⟩])
  (.seq (.seq (.reg [⟨(some 30), .faddr 2 (.t 8), none, none, []⟩, ⟨(some 31), .load none (.t 30), none, none, []⟩, ⟨(some 32), .un .not (.t 31), none, none, []⟩, ⟨(some 33), .mv (.t 32), none, none, []⟩, ⟨(some 34), .faddr 2 (.t 9), (some (33, true)), none, []⟩, ⟨(some 35), .load none (.t 34), (some (33, true)), none, []⟩, ⟨(some 36), .un .not (.t 35), (some (33, true)), none, []⟩, ⟨(some 37), .pick (.t 33) (.t 36) (.v (.bool false)), none, none, []⟩])
  (.cond (.t 37) (.reg [⟨(some 38), .mv (.t 5), none, none, []⟩, ⟨(some 39), .mv (.t 1), none, none, []⟩, ⟨(some 40), .faddr 0 (.t 8), none, none, []⟩, ⟨(some 41), .load none (.t 40), none, none, []⟩, ⟨(some 42), .faddr 0 (.t 9), none, none, []⟩, ⟨(some 43), .load none (.t 42), none, none, []⟩, ⟨(some 44), .bin .add (.t 41) (.t 43), none, none, []⟩, ⟨(some 45), .bin .mul (.t 39) (.t 44), none, none, []⟩, ⟨(some 46), .mv (.t 1), none, none, []⟩, ⟨(some 47), .faddr 1 (.t 8), none, none, []⟩, ⟨(some 48), .load none (.t 47), none, none, []⟩, ⟨(some 49), .faddr 1 (.t 9), none, none, []⟩, ⟨(some 50), .load none (.t 49), none, none, []⟩, ⟨(some 51), .bin .add (.t 48) (.t 50), none, none, []⟩, ⟨(some 52), .bin .mul (.t 46) (.t 51), none, none, []⟩, ⟨(some 53), .build [(.int .i64 0), (.int .i64 0)] [(0, 1, (.t 45)), (1, 1, (.t 52))], none, none, []⟩, ⟨(some 54), .build [(.int .i64 0), (.int .i64 0), (.bool false)] [(0, 2, (.t 53)), (2, 1, (.v (.bool true)))], none, none, []⟩, ⟨(some 55), .bsl 129 [(.int .i64 0), (.int .i64 0), (.bool false)] 1 3 [(0, 3, (.t 54))], none, none, []⟩, ⟨(some 56), .app 129 3 (.t 38) (.t 55), none, none, []⟩, ⟨(some 5), .mv (.t 56), none, none, []⟩]) .skip))
  (.reg [⟨(some 57), .mv (.t 5), none, none, []⟩, ⟨(some 58), .mv (.t 1), none, none, []⟩, ⟨(some 59), .bin .mul (.v (.int .i64 2)) (.t 58), none, none, []⟩, ⟨(some 60), .faddr 0 (.t 8), none, none, []⟩, ⟨(some 61), .load none (.t 60), none, none, []⟩, ⟨(some 62), .bin .mul (.t 59) (.t 61), none, none, []⟩, ⟨(some 63), .mv (.t 1), none, none, []⟩, ⟨(some 64), .bin .mul (.v (.int .i64 2)) (.t 63), none, none, []⟩, ⟨(some 65), .faddr 1 (.t 8), none, none, []⟩, ⟨(some 66), .load none (.t 65), none, none, []⟩, ⟨(some 67), .bin .mul (.t 64) (.t 66), none, none, []⟩, ⟨(some 68), .build [(.int .i64 0), (.int .i64 0)] [(0, 1, (.t 62)), (1, 1, (.t 67))], none, none, []⟩, ⟨(some 69), .faddr 2 (.t 8), none, none, []⟩, ⟨(some 70), .load none (.t 69), none, none, []⟩, ⟨(some 71), .build [(.int .i64 0), (.int .i64 0), (.bool false)] [(0, 2, (.t 68)), (2, 1, (.t 70))], none, none, []⟩, ⟨(some 72), .bsl 129 [(.int .i64 0), (.int .i64 0), (.bool false)] 1 3 [(0, 3, (.t 71))], none, none, []⟩, ⟨(some 73), .app 129 3 (.t 57) (.t 72), none, none, []⟩, ⟨(some 5), .mv (.t 73), none, none, []⟩])))))
  (.reg [⟨(some 15), .mv (.t 7), none, none, []⟩, ⟨(some 16), .bin .add (.t 15) (.v (.int .i64 1)), none, none, []⟩, ⟨(some 7), .mv (.t 16), none, none, []⟩]))))))
  (.seq (.reg [⟨(some 74), .mv (.t 5), none, none, []⟩, ⟨(some 75), .mv (.t 0), none, none, []⟩, ⟨(some 76), .mv (.t 5), none, none, []⟩, ⟨(some 77), .call 104 [(.t 75), (.t 76)], none, none, []⟩, ⟨(some 78), .call 103 [(.t 74), (.t 77)], none, none, []⟩, ⟨(some 4), .mv (.t 78), none, none, []⟩])
  .ret)))))⟩
/-- pochoir/pochoirref16.same -/
def s79 : SFn :=
 ⟨20, [.tmp 2],
  (.seq (.reg [⟨(some 1), .box 80 (.t 0), none, none, []⟩, ⟨(some 2), .mv (.v (.bool false)), none, none, []⟩])
  (.seq (.reg [⟨(some 3), .faddr 2 (.t 1), none, none, []⟩, ⟨(some 4), .load (some 2) (.t 3), none, none, []⟩, ⟨(some 5), .faddr 6 (.t 1), none, none, []⟩, ⟨(some 6), .load (some 2) (.t 5), none, none, []⟩, ⟨(some 7), .eqs 4 [1, 1] false (.t 4) (.t 6), none, none, []⟩, ⟨(some 8), .mv (.t 7), none, none, []⟩, ⟨(some 9), .faddr 1 (.t 1), (some (8, true)), none, []⟩, ⟨(some 10), .load none (.t 9), (some (8, true)), none, []⟩, ⟨(some 11), .un .not (.t 10), (some (8, true)), none, []⟩, ⟨(some 12), .mv (.t 11), (some (8, true)), none, []⟩, ⟨(some 13), .faddr 2 (.t 1), (some (12, false)), none, []⟩, ⟨(some 14), .load (some 2) (.t 13), (some (12, false)), none, []⟩, ⟨(some 15), .faddr 4 (.t 1), (some (12, false)), none, []⟩, ⟨(some 16), .load (some 2) (.t 15), (some (12, false)), none, []⟩, ⟨(some 17), .eqs 4 [1, 1] false (.t 14) (.t 16), (some (12, false)), none, []⟩, ⟨(some 18), .pick (.t 12) (.v (.bool true)) (.t 17), (some (8, true)), none, []⟩, ⟨(some 19), .pick (.t 8) (.t 18) (.v (.bool false)), none, none, []⟩, ⟨(some 2), .mv (.t 19), none, none, []⟩])
  .ret))⟩
/-- pochoir/pochoirref16.fine -/
def s80 : SFn :=
 ⟨21, [.tmp 2],
  (.seq (.reg [⟨(some 1), .box 35 (.t 0), none, none, []⟩, ⟨(some 2), .mv (.v (.bool false)), none, none, []⟩])
  (.seq (.reg [⟨(some 3), .faddr 0 (.t 1), none, none, []⟩, ⟨(some 4), .load none (.t 3), none, none, []⟩, ⟨(some 5), .bin .geq (.t 4) (.v (.int .i64 (-33554432))), none, none, []⟩, ⟨(some 6), .mv (.t 5), none, none, []⟩, ⟨(some 7), .faddr 0 (.t 1), (some (6, true)), none, []⟩, ⟨(some 8), .load none (.t 7), (some (6, true)), none, []⟩, ⟨(some 9), .bin .leq (.t 8) (.v (.int .i64 33554432)), (some (6, true)), none, []⟩, ⟨(some 10), .pick (.t 6) (.t 9) (.v (.bool false)), none, none, []⟩, ⟨(some 11), .mv (.t 10), none, none, []⟩, ⟨(some 12), .faddr 1 (.t 1), (some (11, true)), none, []⟩, ⟨(some 13), .load none (.t 12), (some (11, true)), none, []⟩, ⟨(some 14), .bin .geq (.t 13) (.v (.int .i64 (-33554432))), (some (11, true)), none, []⟩, ⟨(some 15), .pick (.t 11) (.t 14) (.v (.bool false)), none, none, []⟩, ⟨(some 16), .mv (.t 15), none, none, []⟩, ⟨(some 17), .faddr 1 (.t 1), (some (16, true)), none, []⟩, ⟨(some 18), .load none (.t 17), (some (16, true)), none, []⟩, ⟨(some 19), .bin .leq (.t 18) (.v (.int .i64 33554432)), (some (16, true)), none, []⟩, ⟨(some 20), .pick (.t 16) (.t 19) (.v (.bool false)), none, none, []⟩, ⟨(some 2), .mv (.t 20), none, none, []⟩])
  .ret))⟩
/-- slices.Concat[[]pochoir/edge.node,pochoir/edge.node] -/
def s102 : SFn :=
 ⟨36, [.tmp 2],
  (.seq (.reg [⟨(some 2), .mv (.v .nils), none, none, []⟩])
  (.seq (.reg [⟨(some 3), .mv (.v (.int .i64 0)), none, none, []⟩])
  (.seq (.seq (.reg [⟨(some 9), .mv (.t 0), none, none, []⟩, ⟨(some 10), .len false (.t 9), none, none, []⟩, ⟨(some 11), .mv (.v (.int .i64 0)), none, none, []⟩])
  (.block 0 (.loop (.seq (.reg [⟨(some 12), .bin .lss (.t 11) (.t 10), none, none, []⟩])
  (.seq (.cond (.t 12) .skip (.exit 0))
  (.seq (.block 1 (.seq (.reg [⟨(some 13), .iaddr 1 (.t 9) (.t 11), none, none, []⟩, ⟨(some 14), .load none (.t 13), none, none, []⟩, ⟨(some 5), .mv (.t 14), none, none, []⟩])
  (.seq (.reg [⟨(some 15), .mv (.t 3), none, none, []⟩, ⟨(some 16), .mv (.t 5), none, none, []⟩, ⟨(some 17), .len false (.t 16), none, none, []⟩, ⟨(some 18), .bin .add (.t 15) (.t 17), none, none, []⟩, ⟨(some 3), .mv (.t 18), none, none, []⟩])
  (.seq (.reg [⟨(some 19), .mv (.t 3), none, none, []⟩, ⟨(some 20), .bin .lss (.t 19) (.v (.int .i64 0)), none, none, []⟩])
  (.cond (.t 20) (.reg [⟨(some 21), .bad, none, none, []⟩, ⟨none, .bad, none, none, []⟩]) .skip)))))
  (.reg [⟨(some 22), .bin .add (.t 11) (.v (.int .i64 1)), none, none, []⟩, ⟨(some 11), .mv (.t 22), none, none, []⟩])))))))
  (.seq (.reg [⟨(some 23), .mv (.t 3), none, none, []⟩, ⟨(some 24), .call 122 [(.v .nils), (.t 23)], none, none, []⟩, ⟨(some 6), .mv (.t 24), none, none, []⟩])
  (.seq (.seq (.reg [⟨(some 25), .mv (.t 0), none, none, []⟩, ⟨(some 26), .len false (.t 25), none, none, []⟩, ⟨(some 27), .mv (.v (.int .i64 0)), none, none, []⟩])
  (.block 2 (.loop (.seq (.reg [⟨(some 28), .bin .lss (.t 27) (.t 26), none, none, []⟩])
  (.seq (.cond (.t 28) .skip (.exit 2))
  (.seq (.block 3 (.seq (.reg [⟨(some 29), .iaddr 1 (.t 25) (.t 27), none, none, []⟩, ⟨(some 30), .load none (.t 29), none, none, []⟩, ⟨(some 8), .mv (.t 30), none, none, []⟩])
  (.reg [⟨(some 31), .mv (.t 6), none, none, []⟩, ⟨(some 32), .mv (.t 8), none, none, []⟩, ⟨(some 33), .app 125 3 (.t 31) (.t 32), none, none, []⟩, ⟨(some 6), .mv (.t 33), none, none, []⟩])))
  (.reg [⟨(some 34), .bin .add (.t 27) (.v (.int .i64 1)), none, none, []⟩, ⟨(some 27), .mv (.t 34), none, none, []⟩])))))))
  (.seq (.reg [⟨(some 35), .mv (.t 6), none, none, []⟩, ⟨(some 2), .mv (.t 35), none, none, []⟩])
  .ret))))))⟩
/-- pochoir/pochoirref16.turned -/
def s103 : SFn :=
 ⟨16, [.tmp 4],
  (.seq (.reg [⟨(some 4), .mv (.v .nils), none, none, []⟩])
  (.seq (.reg [⟨(some 6), .bsl 129 [] 0 3 [], none, none, []⟩, ⟨(some 7), .mv (.t 0), none, none, []⟩, ⟨(some 8), .mv (.t 1), none, none, []⟩, ⟨(some 9), .slc 3 (.t 7) (some (.t 8)) none none, none, none, []⟩, ⟨(some 10), .app 129 3 (.t 6) (.t 9), none, none, []⟩, ⟨(some 5), .mv (.t 10), none, none, []⟩])
  (.seq (.reg [⟨(some 11), .mv (.t 5), none, none, []⟩, ⟨(some 12), .mv (.t 0), none, none, []⟩, ⟨(some 13), .mv (.t 1), none, none, []⟩, ⟨(some 14), .slc 3 (.t 12) none (some (.t 13)) none, none, none, []⟩, ⟨(some 15), .app 129 3 (.t 11) (.t 14), none, none, []⟩, ⟨(some 4), .mv (.t 15), none, none, []⟩])
  .ret)))⟩
/-- pochoir/pochoirref16.begin -/
def s104 : SFn :=
 ⟨44, [.tmp 4],
  (.seq (.reg [⟨(some 4), .mv (.v (.int .i64 0)), none, none, []⟩])
  (.seq (.reg [⟨(some 5), .mv (.v (.int .i64 0)), none, none, []⟩])
  (.seq (.reg [⟨(some 8), .mv (.t 0), none, none, []⟩, ⟨(some 9), .len false (.t 8), none, none, []⟩, ⟨(some 6), .mv (.t 9), none, none, []⟩])
  (.seq (.seq (.reg [⟨(some 7), .mv (.v (.int .i64 0)), none, none, []⟩])
  (.block 0 (.loop (.seq (.seq (.reg [⟨(some 10), .mv (.t 7), none, none, []⟩, ⟨(some 11), .mv (.t 6), none, none, []⟩, ⟨(some 12), .bin .lss (.t 10) (.t 11), none, none, []⟩])
  (.cond (.t 12) .skip (.exit 0)))
  (.seq (.block 1 (.seq (.seq (.reg [⟨(some 15), .mv (.t 0), none, none, []⟩, ⟨(some 16), .mv (.t 7), none, none, []⟩, ⟨(some 17), .iaddr 3 (.t 15) (.t 16), none, none, []⟩, ⟨(some 18), .faddr 2 (.t 17), none, none, []⟩, ⟨(some 19), .load none (.t 18), none, none, []⟩, ⟨(some 20), .un .not (.t 19), none, none, []⟩, ⟨(some 21), .mv (.t 20), none, none, []⟩, ⟨(some 22), .mv (.t 0), (some (21, true)), none, []⟩, ⟨(some 23), .mv (.t 7), (some (21, true)), none, []⟩, ⟨(some 24), .mv (.t 6), (some (21, true)), none, []⟩, ⟨(some 25), .bin .add (.t 23) (.t 24), (some (21, true)), none, []⟩, ⟨(some 26), .bin .sub (.t 25) (.v (.int .i64 1)), (some (21, true)), none, []⟩, ⟨(some 27), .mv (.t 6), (some (21, true)), none, []⟩, ⟨(some 28), .bin .rem (.t 26) (.t 27), (some (21, true)), none, []⟩, ⟨(some 29), .iaddr 3 (.t 22) (.t 28), (some (21, true)), none, []⟩, ⟨(some 30), .faddr 2 (.t 29), (some (21, true)), none, []⟩, ⟨(some 31), .load none (.t 30), (some (21, true)), none, []⟩, ⟨(some 32), .un .not (.t 31), (some (21, true)), none, []⟩, ⟨(some 33), .pick (.t 21) (.t 32) (.v (.bool false)), none, none, []⟩])
  (.cond (.t 33) (.reg [⟨(some 34), .mv (.t 5), none, none, []⟩, ⟨(some 35), .bin .add (.t 34) (.v (.int .i64 1)), none, none, []⟩, ⟨(some 5), .mv (.t 35), none, none, []⟩]) .skip))
  (.seq (.seq (.reg [⟨(some 36), .mv (.t 0), none, none, []⟩, ⟨(some 37), .mv (.t 7), none, none, []⟩, ⟨(some 38), .iaddr 3 (.t 36) (.t 37), none, none, []⟩, ⟨(some 39), .faddr 2 (.t 38), none, none, []⟩, ⟨(some 40), .load none (.t 39), none, none, []⟩])
  (.cond (.t 40) (.seq (.reg [⟨(some 41), .mv (.t 5), none, none, []⟩, ⟨(some 4), .mv (.t 41), none, none, []⟩])
  .ret) .skip))
  (.reg [⟨(some 42), .mv (.t 5), none, none, []⟩, ⟨(some 43), .bin .add (.t 42) (.v (.int .i64 1)), none, none, []⟩, ⟨(some 5), .mv (.t 43), none, none, []⟩]))))
  (.reg [⟨(some 13), .mv (.t 7), none, none, []⟩, ⟨(some 14), .bin .add (.t 13) (.v (.int .i64 1)), none, none, []⟩, ⟨(some 7), .mv (.t 14), none, none, []⟩]))))))
  (.seq (.reg [⟨(some 4), .mv (.v (.int .i64 0)), none, none, []⟩])
  .ret)))))⟩
/-- slices.Grow[[]pochoir/edge.node,pochoir/edge.node] -/
def s122 : SFn :=
 ⟨27, [.tmp 4],
  (.seq (.reg [⟨(some 4), .mv (.v .nils), none, none, []⟩])
  (.seq (.seq (.reg [⟨(some 5), .mv (.t 1), none, none, []⟩, ⟨(some 6), .bin .lss (.t 5) (.v (.int .i64 0)), none, none, []⟩])
  (.cond (.t 6) (.reg [⟨(some 7), .bad, none, none, []⟩, ⟨none, .bad, none, none, []⟩]) .skip))
  (.seq (.seq (.reg [⟨(some 8), .mv (.t 1), none, none, []⟩, ⟨(some 9), .mv (.t 0), none, none, []⟩, ⟨(some 10), .cap (.t 9), none, none, []⟩, ⟨(some 11), .mv (.t 0), none, none, []⟩, ⟨(some 12), .len false (.t 11), none, none, []⟩, ⟨(some 13), .bin .sub (.t 10) (.t 12), none, none, []⟩, ⟨(some 14), .bin .sub (.t 8) (.t 13), none, none, []⟩, ⟨(some 1), .mv (.t 14), none, none, []⟩])
  (.seq (.reg [⟨(some 15), .mv (.t 1), none, none, []⟩, ⟨(some 16), .bin .gtr (.t 15) (.v (.int .i64 0)), none, none, []⟩])
  (.cond (.t 16) (.reg [⟨(some 17), .mv (.t 0), none, none, []⟩, ⟨(some 18), .mv (.t 0), none, none, []⟩, ⟨(some 19), .cap (.t 18), none, none, []⟩, ⟨(some 20), .slc 3 (.t 17) none (some (.t 19)) none, none, none, []⟩, ⟨(some 21), .mv (.t 1), none, none, []⟩, ⟨(some 22), .appn 125 [(.int .i64 0), (.int .i64 0), (.bool false)] (.t 20) (.t 21), none, none, []⟩, ⟨(some 23), .mv (.t 0), none, none, []⟩, ⟨(some 24), .len false (.t 23), none, none, []⟩, ⟨(some 25), .slc 3 (.t 22) none (some (.t 24)) none, none, none, []⟩, ⟨(some 0), .mv (.t 25), none, none, []⟩]) .skip)))
  (.seq (.reg [⟨(some 26), .mv (.t 0), none, none, []⟩, ⟨(some 4), .mv (.t 26), none, none, []⟩])
  .ret))))⟩
def E : Nat → Option SFn
  | 3 => some s3
  | 4 => some s4
  | 5 => some s5
  | 13 => some s13
  | 14 => some s14
  | 15 => some s15
  | 16 => some s16
  | 17 => some s17
  | 18 => some s18
  | 19 => some s19
  | 20 => some s20
  | 21 => some s21
  | 22 => some s22
  | 23 => some s23
  | 24 => some s24
  | 41 => some s41
  | 42 => some s42
  | 43 => some s43
  | 44 => some s44
  | 45 => some s45
  | 46 => some s46
  | 47 => some s47
  | 48 => some s48
  | 76 => some s76
  | 77 => some s77
  | 78 => some s78
  | 79 => some s79
  | 80 => some s80
  | 102 => some s102
  | 103 => some s103
  | 104 => some s104
  | 122 => some s122
  | _ => none
def env0 : Env := { E := E, I := fun _ _ _ => none, isI := fun _ => false }
end Go.Proofs.Ytkcbjeenoafbkaa
