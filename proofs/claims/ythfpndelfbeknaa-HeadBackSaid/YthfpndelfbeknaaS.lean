/- The slim functions of this seat, and the table of them. -/
import Derived.Test.YthfpndelfbeknaaDen2
set_option linter.unusedVariables false
namespace Go.Proofs.Ythfpndelfbeknaa
open Go.Den
/-- pochoir/pochoirlaw11.MetricReads -/
def s9 : SFn :=
 ⟨69, [.tmp 6],
  (.seq (.reg [⟨(some 3), .box 71 (.t 0), none, none, []⟩, ⟨(some 6), .mv (.v (.bool false)), none, none, []⟩])
  (.seq (.seq (.reg [⟨(some 15), .call 34 [], none, none, []⟩, ⟨(some 16), .un .not (.t 15), none, none, []⟩])
  (.cond (.t 16) (.seq (.reg [⟨(some 6), .mv (.v (.bool false)), none, none, []⟩])
  .ret) .skip))
  (.seq (.seq (.reg [⟨(some 17), .mv (.t 1), none, none, []⟩, ⟨(some 18), .len true (.t 17), none, none, []⟩, ⟨(some 19), .bin .gtr (.t 18) (.v (.int .i64 1000)), none, none, []⟩, ⟨(some 20), .mv (.t 19), none, none, []⟩, ⟨(some 21), .load (some 7) (.t 3), (some (20, false)), none, []⟩, ⟨(some 22), .call 35 [(.t 21)], (some (20, false)), none, []⟩, ⟨(some 23), .un .not (.t 22), (some (20, false)), none, []⟩, ⟨(some 24), .pick (.t 20) (.v (.bool true)) (.t 23), none, none, []⟩])
  (.cond (.t 24) (.seq (.reg [⟨(some 6), .mv (.v (.bool true)), none, none, []⟩])
  .ret) .skip))
  (.seq (.reg [⟨(some 26), .load (some 7) (.t 3), none, none, []⟩, ⟨(some 27), .mv (.t 1), none, none, []⟩, ⟨(some 28), .call 36 [(.t 26), (.t 27)], none, none, []⟩, ⟨(some 25), .mv (.t 28), none, none, []⟩, ⟨(some 29), .extract (.t 25) 0, none, none, []⟩, ⟨(some 30), .extract (.t 25) 1, none, none, []⟩, ⟨(some 7), .mv (.t 29), none, none, []⟩, ⟨(some 8), .mv (.t 30), none, none, []⟩])
  (.seq (.reg [⟨(some 32), .load (some 7) (.t 3), none, none, []⟩, ⟨(some 33), .mv (.t 1), none, none, []⟩, ⟨(some 34), .call 37 [(.t 32), (.t 33)], none, none, []⟩, ⟨(some 31), .mv (.t 34), none, none, []⟩, ⟨(some 35), .extract (.t 31) 0, none, none, []⟩, ⟨(some 36), .extract (.t 31) 1, none, none, []⟩, ⟨(some 9), .mv (.t 35), none, none, []⟩, ⟨(some 10), .mv (.t 36), none, none, []⟩])
  (.seq (.reg [⟨(some 38), .load (some 7) (.t 3), none, none, []⟩, ⟨(some 39), .mv (.t 1), none, none, []⟩, ⟨(some 40), .mv (.t 2), none, none, []⟩, ⟨(some 41), .call 38 [(.t 38), (.t 39), (.t 40)], none, none, []⟩, ⟨(some 37), .mv (.t 41), none, none, []⟩, ⟨(some 42), .extract (.t 37) 0, none, none, []⟩, ⟨(some 43), .extract (.t 37) 1, none, none, []⟩, ⟨(some 11), .mv (.t 42), none, none, []⟩, ⟨(some 12), .mv (.t 43), none, none, []⟩])
  (.seq (.reg [⟨(some 45), .load (some 7) (.t 3), none, none, []⟩, ⟨(some 46), .mv (.t 1), none, none, []⟩, ⟨(some 47), .mv (.t 2), none, none, []⟩, ⟨(some 48), .call 39 [(.t 45), (.t 46), (.t 47)], none, none, []⟩, ⟨(some 44), .mv (.t 48), none, none, []⟩, ⟨(some 49), .extract (.t 44) 0, none, none, []⟩, ⟨(some 50), .extract (.t 44) 1, none, none, []⟩, ⟨(some 13), .mv (.t 49), none, none, []⟩, ⟨(some 14), .mv (.t 50), none, none, []⟩])
  (.seq (.reg [⟨(some 51), .mv (.t 7), none, none, []⟩, ⟨(some 52), .mv (.t 9), none, none, []⟩, ⟨(some 53), .call 40 [(.t 51), (.t 52)], none, none, []⟩, ⟨(some 54), .mv (.t 53), none, none, []⟩, ⟨(some 55), .mv (.t 8), (some (54, true)), none, []⟩, ⟨(some 56), .mv (.t 10), (some (54, true)), none, []⟩, ⟨(some 57), .bin .eql (.t 55) (.t 56), (some (54, true)), none, []⟩, ⟨(some 58), .pick (.t 54) (.t 57) (.v (.bool false)), none, none, []⟩, ⟨(some 59), .mv (.t 58), none, none, []⟩, ⟨(some 60), .mv (.t 11), (some (59, true)), none, []⟩, ⟨(some 61), .mv (.t 13), (some (59, true)), none, []⟩, ⟨(some 62), .call 40 [(.t 60), (.t 61)], (some (59, true)), none, []⟩, ⟨(some 63), .pick (.t 59) (.t 62) (.v (.bool false)), none, none, []⟩, ⟨(some 64), .mv (.t 63), none, none, []⟩, ⟨(some 65), .mv (.t 12), (some (64, true)), none, []⟩, ⟨(some 66), .mv (.t 14), (some (64, true)), none, []⟩, ⟨(some 67), .bin .eql (.t 65) (.t 66), (some (64, true)), none, []⟩, ⟨(some 68), .pick (.t 64) (.t 67) (.v (.bool false)), none, none, []⟩, ⟨(some 6), .mv (.t 68), none, none, []⟩])
  .ret))))))))⟩
/-- pochoir/pochoirlaw11.MetricWidths -/
def s10 : SFn :=
 ⟨56, [.tmp 4],
  (.seq (.reg [⟨(some 2), .box 71 (.t 0), none, none, []⟩, ⟨(some 4), .mv (.v (.bool false)), none, none, []⟩])
  (.seq (.seq (.reg [⟨(some 11), .call 34 [], none, none, []⟩, ⟨(some 12), .un .not (.t 11), none, none, []⟩])
  (.cond (.t 12) (.seq (.reg [⟨(some 4), .mv (.v (.bool false)), none, none, []⟩])
  .ret) .skip))
  (.seq (.seq (.reg [⟨(some 13), .mv (.t 1), none, none, []⟩, ⟨(some 14), .len false (.t 13), none, none, []⟩, ⟨(some 15), .bin .gtr (.t 14) (.v (.int .i64 110)), none, none, []⟩, ⟨(some 16), .mv (.t 15), none, none, []⟩, ⟨(some 17), .load (some 7) (.t 2), (some (16, false)), none, []⟩, ⟨(some 18), .call 35 [(.t 17)], (some (16, false)), none, []⟩, ⟨(some 19), .un .not (.t 18), (some (16, false)), none, []⟩, ⟨(some 20), .pick (.t 16) (.v (.bool true)) (.t 19), none, none, []⟩])
  (.cond (.t 20) (.seq (.reg [⟨(some 4), .mv (.v (.bool true)), none, none, []⟩])
  .ret) .skip))
  (.seq (.reg [⟨(some 22), .load (some 7) (.t 2), none, none, []⟩, ⟨(some 23), .mv (.t 1), none, none, []⟩, ⟨(some 24), .call 41 [(.t 22), (.t 23)], none, none, []⟩, ⟨(some 21), .mv (.t 24), none, none, []⟩, ⟨(some 25), .extract (.t 21) 0, none, none, []⟩, ⟨(some 26), .extract (.t 21) 1, none, none, []⟩, ⟨(some 5), .mv (.t 25), none, none, []⟩, ⟨(some 6), .mv (.t 26), none, none, []⟩])
  (.seq (.reg [⟨(some 28), .load (some 7) (.t 2), none, none, []⟩, ⟨(some 29), .mv (.t 1), none, none, []⟩, ⟨(some 30), .call 42 [(.t 28), (.t 29)], none, none, []⟩, ⟨(some 27), .mv (.t 30), none, none, []⟩, ⟨(some 31), .extract (.t 27) 0, none, none, []⟩, ⟨(some 32), .extract (.t 27) 1, none, none, []⟩, ⟨(some 7), .mv (.t 31), none, none, []⟩, ⟨(some 8), .mv (.t 32), none, none, []⟩])
  (.seq (.seq (.reg [⟨(some 33), .mv (.t 5), none, none, []⟩, ⟨(some 34), .mv (.t 7), none, none, []⟩, ⟨(some 35), .bin .neq (.t 33) (.t 34), none, none, []⟩, ⟨(some 36), .mv (.t 35), none, none, []⟩, ⟨(some 37), .mv (.t 6), (some (36, false)), none, []⟩, ⟨(some 38), .mv (.t 8), (some (36, false)), none, []⟩, ⟨(some 39), .bin .neq (.t 37) (.t 38), (some (36, false)), none, []⟩, ⟨(some 40), .pick (.t 36) (.v (.bool true)) (.t 39), none, none, []⟩])
  (.cond (.t 40) (.seq (.reg [⟨(some 4), .mv (.v (.bool false)), none, none, []⟩])
  .ret) .skip))
  (.seq (.seq (.reg [⟨(some 41), .mv (.t 8), none, none, []⟩, ⟨(some 42), .bin .neq (.t 41) (.v (.int .i64 0)), none, none, []⟩])
  (.cond (.t 42) (.seq (.reg [⟨(some 4), .mv (.v (.bool true)), none, none, []⟩])
  .ret) .skip))
  (.seq (.reg [⟨(some 44), .load (some 7) (.t 2), none, none, []⟩, ⟨(some 45), .mv (.t 5), none, none, []⟩, ⟨(some 46), .call 36 [(.t 44), (.t 45)], none, none, []⟩, ⟨(some 43), .mv (.t 46), none, none, []⟩, ⟨(some 47), .extract (.t 43) 0, none, none, []⟩, ⟨(some 48), .extract (.t 43) 1, none, none, []⟩, ⟨(some 9), .mv (.t 47), none, none, []⟩, ⟨(some 10), .mv (.t 48), none, none, []⟩])
  (.seq (.reg [⟨(some 49), .mv (.t 9), none, none, []⟩, ⟨(some 50), .mv (.t 1), none, none, []⟩, ⟨(some 51), .call 40 [(.t 49), (.t 50)], none, none, []⟩, ⟨(some 52), .mv (.t 51), none, none, []⟩, ⟨(some 53), .mv (.t 10), (some (52, true)), none, []⟩, ⟨(some 54), .bin .eql (.t 53) (.v (.int .i64 0)), (some (52, true)), none, []⟩, ⟨(some 55), .pick (.t 52) (.t 54) (.v (.bool false)), none, none, []⟩, ⟨(some 4), .mv (.t 55), none, none, []⟩])
  .ret)))))))))⟩
/-- pochoir/pochoirlaw10.HeadBack -/
def s11 : SFn :=
 ⟨51, [.tmp 2],
  (.seq (.reg [⟨(some 1), .box 71 (.t 0), none, none, []⟩, ⟨(some 2), .mv (.v (.bool false)), none, none, []⟩])
  (.seq (.seq (.reg [⟨(some 7), .call 43 [], none, none, []⟩, ⟨(some 8), .un .not (.t 7), none, none, []⟩])
  (.cond (.t 8) (.seq (.reg [⟨(some 2), .mv (.v (.bool false)), none, none, []⟩])
  .ret) .skip))
  (.seq (.reg [⟨(some 10), .load (some 7) (.t 1), none, none, []⟩, ⟨(some 11), .call 44 [(.t 10)], none, none, []⟩, ⟨(some 9), .mv (.t 11), none, none, []⟩, ⟨(some 12), .extract (.t 9) 0, none, none, []⟩, ⟨(some 13), .extract (.t 9) 1, none, none, []⟩, ⟨(some 3), .mv (.t 12), none, none, []⟩, ⟨(some 4), .mv (.t 13), none, none, []⟩])
  (.seq (.seq (.regd [⟨(some 14), .load (some 7) (.t 1), none, (some []), []⟩, ⟨(some 15), .call 45 [(.t 14)], none, none, [(none, (.t 1))]⟩, ⟨(some 16), .load (some 7) (.t 1), none, (some [1]), []⟩, ⟨(some 17), .call 46 [(.t 16)], none, none, []⟩, ⟨(some 18), .eqs 0 [] true (.t 15) (.t 17), none, (some []), []⟩])
  (.cond (.t 18) (.seq (.reg [⟨(some 2), .mv (.v (.bool false)), none, none, []⟩])
  .ret) .skip))
  (.seq (.seq (.reg [⟨(some 19), .load (some 7) (.t 1), none, none, []⟩, ⟨(some 20), .call 46 [(.t 19)], none, none, []⟩, ⟨(some 21), .un .not (.t 20), none, none, []⟩])
  (.cond (.t 21) (.seq (.reg [⟨(some 22), .mv (.t 3), none, none, []⟩, ⟨(some 23), .len false (.t 22), none, none, []⟩, ⟨(some 24), .bin .eql (.t 23) (.v (.int .i64 0)), none, none, []⟩, ⟨(some 25), .mv (.t 24), none, none, []⟩, ⟨(some 26), .mv (.t 4), (some (25, true)), none, []⟩, ⟨(some 27), .bin .eql (.t 26) (.v (.int .i64 1)), (some (25, true)), none, []⟩, ⟨(some 28), .pick (.t 25) (.t 27) (.v (.bool false)), none, none, []⟩, ⟨(some 2), .mv (.t 28), none, none, []⟩])
  .ret) .skip))
  (.seq (.reg [⟨(some 30), .mv (.t 3), none, none, []⟩, ⟨(some 31), .call 47 [(.t 30)], none, none, []⟩, ⟨(some 29), .mv (.t 31), none, none, []⟩, ⟨(some 32), .extract (.t 29) 0, none, none, []⟩, ⟨(some 33), .extract (.t 29) 1, none, none, []⟩, ⟨(some 5), .box 71 (.v (.agg [(.int .i64 0), (.bool false), (.int .i64 0), (.int .i64 0), (.int .i64 0), (.int .i64 0), (.int .i64 0)])), none, none, []⟩, ⟨none, .store 7 (.t 5) (.t 32), none, none, []⟩, ⟨(some 6), .mv (.t 33), none, none, []⟩])
  (.seq (.reg [⟨(some 34), .mv (.t 4), none, none, []⟩, ⟨(some 35), .bin .eql (.t 34) (.v (.int .i64 0)), none, none, []⟩, ⟨(some 36), .mv (.t 35), none, none, []⟩, ⟨(some 37), .mv (.t 3), (some (36, true)), none, []⟩, ⟨(some 38), .load (some 7) (.t 1), (some (36, true)), none, []⟩, ⟨(some 39), .call 49 [(.t 38)], (some (36, true)), none, []⟩, ⟨(some 40), .call 48 [(.t 37), (.t 39)], (some (36, true)), none, []⟩, ⟨(some 41), .pick (.t 36) (.t 40) (.v (.bool false)), none, none, []⟩, ⟨(some 42), .mv (.t 41), none, none, []⟩, ⟨(some 43), .load (some 7) (.t 5), (some (42, true)), none, []⟩, ⟨(some 44), .load (some 7) (.t 1), (some (42, true)), none, []⟩, ⟨(some 45), .eqs 4 [1, 0, 1, 1, 1, 1, 1] false (.t 43) (.t 44), (some (42, true)), none, []⟩, ⟨(some 46), .pick (.t 42) (.t 45) (.v (.bool false)), none, none, []⟩, ⟨(some 47), .mv (.t 46), none, none, []⟩, ⟨(some 48), .mv (.t 6), (some (47, true)), none, []⟩, ⟨(some 49), .bin .eql (.t 48) (.v (.int .i64 0)), (some (47, true)), none, []⟩, ⟨(some 50), .pick (.t 47) (.t 49) (.v (.bool false)), none, none, []⟩, ⟨(some 2), .mv (.t 50), none, none, []⟩])
  .ret)))))))⟩
/-- pochoir/pochoirlaw10.HeadAny -/
def s12 : SFn :=
 ⟨51, [.tmp 2],
  (.seq (.reg [⟨(some 2), .mv (.v (.bool false)), none, none, []⟩])
  (.seq (.seq (.reg [⟨(some 9), .call 43 [], none, none, []⟩, ⟨(some 10), .un .not (.t 9), none, none, []⟩])
  (.cond (.t 10) (.seq (.reg [⟨(some 2), .mv (.v (.bool false)), none, none, []⟩])
  .ret) .skip))
  (.seq (.seq (.reg [⟨(some 11), .mv (.t 0), none, none, []⟩, ⟨(some 12), .len false (.t 11), none, none, []⟩, ⟨(some 13), .bin .gtr (.t 12) (.v (.int .i64 10)), none, none, []⟩])
  (.cond (.t 13) (.seq (.reg [⟨(some 2), .mv (.v (.bool true)), none, none, []⟩])
  .ret) .skip))
  (.seq (.seq (.reg [⟨(some 14), .mv (.t 0), none, none, []⟩, ⟨(some 15), .len false (.t 14), none, none, []⟩, ⟨(some 16), .mv (.v (.int .i64 0)), none, none, []⟩])
  (.block 0 (.loop (.seq (.reg [⟨(some 17), .bin .lss (.t 16) (.t 15), none, none, []⟩])
  (.seq (.cond (.t 17) .skip (.exit 0))
  (.seq (.block 1 (.seq (.reg [⟨(some 18), .iaddr 2 (.t 14) (.t 16), none, none, []⟩, ⟨(some 19), .load (some 2) (.t 18), none, none, []⟩, ⟨(some 4), .box 95 (.v (.agg [(.str ⟨#[]⟩), (.str ⟨#[]⟩)])), none, none, []⟩, ⟨none, .store 2 (.t 4) (.t 19), none, none, []⟩])
  (.seq (.reg [⟨(some 20), .faddr 1 (.t 4), none, none, []⟩, ⟨(some 21), .load none (.t 20), none, none, []⟩, ⟨(some 22), .len true (.t 21), none, none, []⟩, ⟨(some 23), .bin .gtr (.t 22) (.v (.int .i64 100)), none, none, []⟩])
  (.cond (.t 23) (.seq (.reg [⟨(some 2), .mv (.v (.bool true)), none, none, []⟩])
  .ret) .skip))))
  (.reg [⟨(some 24), .bin .add (.t 16) (.v (.int .i64 1)), none, none, []⟩, ⟨(some 16), .mv (.t 24), none, none, []⟩])))))))
  (.seq (.reg [⟨(some 26), .mv (.t 0), none, none, []⟩, ⟨(some 27), .call 47 [(.t 26)], none, none, []⟩, ⟨(some 25), .mv (.t 27), none, none, []⟩, ⟨(some 28), .extract (.t 25) 0, none, none, []⟩, ⟨(some 29), .extract (.t 25) 1, none, none, []⟩, ⟨(some 5), .box 71 (.v (.agg [(.int .i64 0), (.bool false), (.int .i64 0), (.int .i64 0), (.int .i64 0), (.int .i64 0), (.int .i64 0)])), none, none, []⟩, ⟨none, .store 7 (.t 5) (.t 28), none, none, []⟩, ⟨(some 6), .mv (.t 29), none, none, []⟩])
  (.seq (.reg [⟨(some 31), .mv (.t 0), none, none, []⟩, ⟨(some 32), .call 50 [(.t 31)], none, none, []⟩, ⟨(some 30), .mv (.t 32), none, none, []⟩, ⟨(some 33), .extract (.t 30) 0, none, none, []⟩, ⟨(some 34), .extract (.t 30) 1, none, none, []⟩, ⟨(some 7), .box 71 (.v (.agg [(.int .i64 0), (.bool false), (.int .i64 0), (.int .i64 0), (.int .i64 0), (.int .i64 0), (.int .i64 0)])), none, none, []⟩, ⟨none, .store 7 (.t 7) (.t 33), none, none, []⟩, ⟨(some 8), .mv (.t 34), none, none, []⟩])
  (.seq (.reg [⟨(some 35), .load (some 7) (.t 5), none, none, []⟩, ⟨(some 36), .load (some 7) (.t 7), none, none, []⟩, ⟨(some 37), .eqs 4 [1, 0, 1, 1, 1, 1, 1] false (.t 35) (.t 36), none, none, []⟩, ⟨(some 38), .mv (.t 37), none, none, []⟩, ⟨(some 39), .mv (.t 6), (some (38, true)), none, []⟩, ⟨(some 40), .mv (.t 8), (some (38, true)), none, []⟩, ⟨(some 41), .bin .eql (.t 39) (.t 40), (some (38, true)), none, []⟩, ⟨(some 42), .pick (.t 38) (.t 41) (.v (.bool false)), none, none, []⟩, ⟨(some 43), .mv (.t 42), none, none, []⟩, ⟨(some 44), .mv (.t 8), (some (43, true)), none, []⟩, ⟨(some 45), .bin .neq (.t 44) (.v (.int .i64 0)), (some (43, true)), none, []⟩, ⟨(some 46), .mv (.t 45), (some (43, true)), none, []⟩, ⟨(some 47), .load (some 7) (.t 5), (some (46, false)), none, []⟩, ⟨(some 48), .call 45 [(.t 47)], (some (46, false)), none, []⟩, ⟨(some 49), .pick (.t 46) (.v (.bool true)) (.t 48), (some (43, true)), none, []⟩, ⟨(some 50), .pick (.t 43) (.t 49) (.v (.bool false)), none, none, []⟩, ⟨(some 2), .mv (.t 50), none, none, []⟩])
  .ret)))))))⟩
/-- pochoir/pochoirlaw11.MetricPlaces -/
def s13 : SFn :=
 ⟨62, [.tmp 4],
  (.seq (.reg [⟨(some 2), .box 71 (.t 0), none, none, []⟩, ⟨(some 4), .mv (.v (.bool false)), none, none, []⟩])
  (.seq (.seq (.reg [⟨(some 11), .call 34 [], none, none, []⟩, ⟨(some 12), .un .not (.t 11), none, none, []⟩])
  (.cond (.t 12) (.seq (.reg [⟨(some 4), .mv (.v (.bool false)), none, none, []⟩])
  .ret) .skip))
  (.seq (.seq (.reg [⟨(some 13), .mv (.t 1), none, none, []⟩, ⟨(some 14), .len false (.t 13), none, none, []⟩, ⟨(some 15), .bin .gtr (.t 14) (.v (.int .i64 110)), none, none, []⟩, ⟨(some 16), .mv (.t 15), none, none, []⟩, ⟨(some 17), .load (some 7) (.t 2), (some (16, false)), none, []⟩, ⟨(some 18), .call 35 [(.t 17)], (some (16, false)), none, []⟩, ⟨(some 19), .un .not (.t 18), (some (16, false)), none, []⟩, ⟨(some 20), .pick (.t 16) (.v (.bool true)) (.t 19), none, none, []⟩])
  (.cond (.t 20) (.seq (.reg [⟨(some 4), .mv (.v (.bool true)), none, none, []⟩])
  .ret) .skip))
  (.seq (.reg [⟨(some 22), .load (some 7) (.t 2), none, none, []⟩, ⟨(some 23), .mv (.t 1), none, none, []⟩, ⟨(some 24), .call 51 [(.t 22), (.t 23)], none, none, []⟩, ⟨(some 21), .mv (.t 24), none, none, []⟩, ⟨(some 25), .extract (.t 21) 0, none, none, []⟩, ⟨(some 26), .extract (.t 21) 1, none, none, []⟩, ⟨(some 5), .mv (.t 25), none, none, []⟩, ⟨(some 6), .mv (.t 26), none, none, []⟩])
  (.seq (.reg [⟨(some 28), .load (some 7) (.t 2), none, none, []⟩, ⟨(some 29), .mv (.t 1), none, none, []⟩, ⟨(some 30), .call 52 [(.t 28), (.t 29)], none, none, []⟩, ⟨(some 27), .mv (.t 30), none, none, []⟩, ⟨(some 31), .extract (.t 27) 0, none, none, []⟩, ⟨(some 32), .extract (.t 27) 1, none, none, []⟩, ⟨(some 7), .mv (.t 31), none, none, []⟩, ⟨(some 8), .mv (.t 32), none, none, []⟩])
  (.seq (.seq (.reg [⟨(some 33), .mv (.t 5), none, none, []⟩, ⟨(some 34), .mv (.t 7), none, none, []⟩, ⟨(some 35), .bin .neq (.t 33) (.t 34), none, none, []⟩, ⟨(some 36), .mv (.t 35), none, none, []⟩, ⟨(some 37), .mv (.t 6), (some (36, false)), none, []⟩, ⟨(some 38), .mv (.t 8), (some (36, false)), none, []⟩, ⟨(some 39), .bin .neq (.t 37) (.t 38), (some (36, false)), none, []⟩, ⟨(some 40), .pick (.t 36) (.v (.bool true)) (.t 39), none, none, []⟩])
  (.cond (.t 40) (.seq (.reg [⟨(some 4), .mv (.v (.bool false)), none, none, []⟩])
  .ret) .skip))
  (.seq (.seq (.reg [⟨(some 41), .mv (.t 8), none, none, []⟩, ⟨(some 42), .bin .neq (.t 41) (.v (.int .i64 0)), none, none, []⟩])
  (.cond (.t 42) (.seq (.reg [⟨(some 4), .mv (.v (.bool true)), none, none, []⟩])
  .ret) .skip))
  (.seq (.regd [⟨(some 44), .load (some 7) (.t 2), none, (some []), []⟩, ⟨(some 45), .mv (.t 5), none, (some []), []⟩, ⟨(some 46), .mv (.t 1), none, (some []), []⟩, ⟨(some 47), .mv (.t 1), none, (some []), []⟩, ⟨(some 48), .len false (.t 47), none, (some []), []⟩, ⟨(some 49), .bin .sub (.t 48) (.v (.int .i64 1)), none, (some []), []⟩, ⟨(some 50), .iaddr 1 (.t 46) (.t 49), none, (some []), []⟩, ⟨(some 51), .load none (.t 50), none, (some []), []⟩, ⟨(some 52), .call 38 [(.t 44), (.t 45), (.t 51)], none, none, []⟩, ⟨(some 43), .mv (.t 52), none, (some []), []⟩, ⟨(some 53), .extract (.t 43) 0, none, (some []), []⟩, ⟨(some 54), .extract (.t 43) 1, none, (some []), []⟩, ⟨(some 9), .mv (.t 53), none, (some []), []⟩, ⟨(some 10), .mv (.t 54), none, (some []), []⟩])
  (.seq (.reg [⟨(some 55), .mv (.t 9), none, none, []⟩, ⟨(some 56), .mv (.t 1), none, none, []⟩, ⟨(some 57), .call 40 [(.t 55), (.t 56)], none, none, []⟩, ⟨(some 58), .mv (.t 57), none, none, []⟩, ⟨(some 59), .mv (.t 10), (some (58, true)), none, []⟩, ⟨(some 60), .bin .eql (.t 59) (.v (.int .i64 0)), (some (58, true)), none, []⟩, ⟨(some 61), .pick (.t 58) (.t 60) (.v (.bool false)), none, none, []⟩, ⟨(some 4), .mv (.t 61), none, none, []⟩])
  .ret)))))))))⟩
/-- pochoir/pochoirlaw11.awake -/
def s34 : SFn :=
 ⟨61, [.tmp 0],
  (.seq (.reg [⟨(some 0), .mv (.v (.bool false)), none, none, []⟩])
  (.seq (.reg [⟨(some 8), .build [(.int .i64 0), (.bool false), (.int .i64 0), (.int .i64 0), (.int .i64 0), (.int .i64 0), (.int .i64 0)] [(0, 1, (.v (.int .i64 16))), (2, 1, (.v (.int .i64 3))), (3, 1, (.v (.int .i64 1)))], none, none, []⟩, ⟨(some 1), .box 71 (.v (.agg [(.int .i64 0), (.bool false), (.int .i64 0), (.int .i64 0), (.int .i64 0), (.int .i64 0), (.int .i64 0)])), none, none, []⟩, ⟨none, .store 7 (.t 1) (.t 8), none, none, []⟩])
  (.seq (.reg [⟨(some 10), .load (some 7) (.t 1), none, none, []⟩, ⟨(some 11), .call 36 [(.t 10), (.v (.str ⟨#[1, 244, 0, 0, 0, 0, 0, 0]⟩))], none, none, []⟩, ⟨(some 9), .mv (.t 11), none, none, []⟩, ⟨(some 12), .extract (.t 9) 0, none, none, []⟩, ⟨(some 13), .extract (.t 9) 1, none, none, []⟩, ⟨(some 2), .mv (.t 12), none, none, []⟩, ⟨(some 3), .mv (.t 13), none, none, []⟩])
  (.seq (.reg [⟨(some 15), .load (some 7) (.t 1), none, none, []⟩, ⟨(some 16), .call 38 [(.t 15), (.v (.str ⟨#[0, 0, 0, 0, 0, 2, 0, 5]⟩)), (.v (.int .i64 10))], none, none, []⟩, ⟨(some 14), .mv (.t 16), none, none, []⟩, ⟨(some 17), .extract (.t 14) 0, none, none, []⟩, ⟨(some 18), .extract (.t 14) 1, none, none, []⟩, ⟨(some 4), .mv (.t 17), none, none, []⟩, ⟨(some 5), .mv (.t 18), none, none, []⟩])
  (.seq (.reg [⟨(some 20), .load (some 7) (.t 1), none, none, []⟩, ⟨(some 21), .bsl 3 [(.int .i64 0), (.int .i64 0), (.int .i64 0)] 3 1 [(0, 1, (.v (.int .i64 7))), (1, 1, (.v (.int .i64 7))), (2, 1, (.v (.int .i64 7)))], none, none, []⟩, ⟨(some 22), .call 41 [(.t 20), (.t 21)], none, none, []⟩, ⟨(some 19), .mv (.t 22), none, none, []⟩, ⟨(some 23), .extract (.t 19) 0, none, none, []⟩, ⟨(some 24), .extract (.t 19) 1, none, none, []⟩, ⟨(some 6), .mv (.t 23), none, none, []⟩, ⟨(some 7), .mv (.t 24), none, none, []⟩])
  (.seq (.reg [⟨(some 25), .mv (.t 3), none, none, []⟩, ⟨(some 26), .bin .eql (.t 25) (.v (.int .i64 0)), none, none, []⟩, ⟨(some 27), .mv (.t 26), none, none, []⟩, ⟨(some 28), .mv (.t 2), (some (27, true)), none, []⟩, ⟨(some 29), .len false (.t 28), (some (27, true)), none, []⟩, ⟨(some 30), .bin .eql (.t 29) (.v (.int .i64 3)), (some (27, true)), none, []⟩, ⟨(some 31), .pick (.t 27) (.t 30) (.v (.bool false)), none, none, []⟩, ⟨(some 32), .mv (.t 31), none, none, []⟩, ⟨(some 33), .mv (.t 2), (some (32, true)), none, []⟩, ⟨(some 34), .iaddr 1 (.t 33) (.v (.int .i64 2)), (some (32, true)), none, []⟩, ⟨(some 35), .load none (.t 34), (some (32, true)), none, []⟩, ⟨(some 36), .bin .eql (.t 35) (.v (.int .i64 500)), (some (32, true)), none, []⟩, ⟨(some 37), .pick (.t 32) (.t 36) (.v (.bool false)), none, none, []⟩, ⟨(some 38), .mv (.t 37), none, none, []⟩, ⟨(some 39), .mv (.t 5), (some (38, true)), none, []⟩, ⟨(some 40), .bin .eql (.t 39) (.v (.int .i64 0)), (some (38, true)), none, []⟩, ⟨(some 41), .pick (.t 38) (.t 40) (.v (.bool false)), none, none, []⟩, ⟨(some 42), .mv (.t 41), none, none, []⟩, ⟨(some 43), .mv (.t 4), (some (42, true)), none, []⟩, ⟨(some 44), .len false (.t 43), (some (42, true)), none, []⟩, ⟨(some 45), .bin .eql (.t 44) (.v (.int .i64 4)), (some (42, true)), none, []⟩, ⟨(some 46), .pick (.t 42) (.t 45) (.v (.bool false)), none, none, []⟩, ⟨(some 47), .mv (.t 46), none, none, []⟩, ⟨(some 48), .mv (.t 4), (some (47, true)), none, []⟩, ⟨(some 49), .iaddr 1 (.t 48) (.v (.int .i64 3)), (some (47, true)), none, []⟩, ⟨(some 50), .load none (.t 49), (some (47, true)), none, []⟩, ⟨(some 51), .bin .eql (.t 50) (.v (.int .i64 10)), (some (47, true)), none, []⟩, ⟨(some 52), .pick (.t 47) (.t 51) (.v (.bool false)), none, none, []⟩, ⟨(some 53), .mv (.t 52), none, none, []⟩, ⟨(some 54), .mv (.t 6), (some (53, true)), none, []⟩, ⟨(some 55), .bin .eql (.t 54) (.v (.str ⟨#[0, 7, 0, 0, 0, 0, 0, 0]⟩)), (some (53, true)), none, []⟩, ⟨(some 56), .pick (.t 53) (.t 55) (.v (.bool false)), none, none, []⟩, ⟨(some 57), .mv (.t 56), none, none, []⟩, ⟨(some 58), .mv (.t 7), (some (57, true)), none, []⟩, ⟨(some 59), .bin .eql (.t 58) (.v (.int .i64 0)), (some (57, true)), none, []⟩, ⟨(some 60), .pick (.t 57) (.t 59) (.v (.bool false)), none, none, []⟩, ⟨(some 0), .mv (.t 60), none, none, []⟩])
  .ret))))))⟩
/-- pochoir/pochoirlaw11.few -/
def s35 : SFn :=
 ⟨11, [.tmp 2],
  (.seq (.reg [⟨(some 1), .box 71 (.t 0), none, none, []⟩, ⟨(some 2), .mv (.v (.bool false)), none, none, []⟩])
  (.seq (.reg [⟨(some 3), .faddr 2 (.t 1), none, none, []⟩, ⟨(some 4), .load none (.t 3), none, none, []⟩, ⟨(some 5), .bin .leq (.t 4) (.v (.int .i64 100)), none, none, []⟩, ⟨(some 6), .mv (.t 5), none, none, []⟩, ⟨(some 7), .faddr 2 (.t 1), (some (6, false)), none, []⟩, ⟨(some 8), .load none (.t 7), (some (6, false)), none, []⟩, ⟨(some 9), .bin .gtr (.t 8) (.v (.int .i64 1024)), (some (6, false)), none, []⟩, ⟨(some 10), .pick (.t 6) (.v (.bool true)) (.t 9), none, none, []⟩, ⟨(some 2), .mv (.t 10), none, none, []⟩])
  .ret))⟩
/-- pochoir/metric.Widths -/
def s36 : SFn :=
 ⟨55, [.tmp 4, .tmp 5],
  (.seq (.reg [⟨(some 2), .box 71 (.t 0), none, none, []⟩, ⟨(some 4), .mv (.v .nils), none, none, []⟩, ⟨(some 5), .mv (.v (.int .i64 0)), none, none, []⟩])
  (.seq (.block 0 (.seq (.reg [⟨(some 10), .load (some 7) (.t 2), none, none, []⟩, ⟨(some 11), .call 45 [(.t 10)], none, none, []⟩, ⟨(some 12), .un .not (.t 11), none, none, []⟩, ⟨(some 9), .mv (.t 12), none, none, []⟩])
  (.cond (.t 9) (.seq (.reg [⟨(some 4), .mv (.v .nils), none, none, []⟩, ⟨(some 5), .mv (.v (.int .i64 1)), none, none, []⟩])
  .ret) (.seq (.reg [⟨(some 14), .mv (.t 1), none, none, []⟩, ⟨(some 15), .len true (.t 14), none, none, []⟩, ⟨(some 16), .faddr 2 (.t 2), none, none, []⟩, ⟨(some 17), .load none (.t 16), none, none, []⟩, ⟨(some 18), .faddr 3 (.t 2), none, none, []⟩, ⟨(some 19), .load none (.t 18), none, none, []⟩, ⟨(some 20), .bin .add (.t 17) (.t 19), none, none, []⟩, ⟨(some 21), .bin .mul (.v (.int .i64 2)) (.t 20), none, none, []⟩, ⟨(some 22), .bin .lss (.t 15) (.t 21), none, none, []⟩, ⟨(some 13), .mv (.t 22), none, none, []⟩])
  (.cond (.t 13) (.seq (.reg [⟨(some 4), .mv (.v .nils), none, none, []⟩, ⟨(some 5), .mv (.v (.int .i64 3)), none, none, []⟩])
  .ret) .skip)))))
  (.seq (.reg [⟨(some 23), .mv (.t 1), none, none, []⟩, ⟨(some 24), .call 80 [(.t 23)], none, none, []⟩, ⟨(some 6), .mv (.t 24), none, none, []⟩])
  (.seq (.reg [⟨(some 25), .faddr 2 (.t 2), none, none, []⟩, ⟨(some 26), .load none (.t 25), none, none, []⟩, ⟨(some 27), .mksl 3 [(.int .i64 0)] (.t 26) (.t 26), none, none, []⟩, ⟨(some 7), .mv (.t 27), none, none, []⟩])
  (.seq (.seq (.reg [⟨(some 28), .mv (.t 7), none, none, []⟩, ⟨(some 29), .len false (.t 28), none, none, []⟩, ⟨(some 30), .mv (.v (.int .i64 0)), none, none, []⟩])
  (.block 1 (.loop (.seq (.reg [⟨(some 31), .bin .lss (.t 30) (.t 29), none, none, []⟩])
  (.seq (.cond (.t 31) .skip (.exit 1))
  (.seq (.block 2 (.seq (.reg [⟨(some 32), .mv (.t 30), none, none, []⟩, ⟨(some 8), .mv (.t 32), none, none, []⟩])
  (.seq (.seq (.reg [⟨(some 33), .mv (.t 8), none, none, []⟩, ⟨(some 34), .faddr 3 (.t 2), none, none, []⟩, ⟨(some 35), .load none (.t 34), none, none, []⟩, ⟨(some 36), .bin .geq (.t 33) (.t 35), none, none, []⟩])
  (.cond (.t 36) (.seq (.reg [⟨(some 37), .mv (.t 7), none, none, []⟩, ⟨(some 38), .mv (.t 8), none, none, []⟩, ⟨(some 39), .mv (.t 7), none, none, []⟩, ⟨(some 40), .mv (.t 8), none, none, []⟩, ⟨(some 41), .bin .sub (.t 40) (.v (.int .i64 1)), none, none, []⟩, ⟨(some 42), .iaddr 1 (.t 39) (.t 41), none, none, []⟩, ⟨(some 43), .load none (.t 42), none, none, []⟩, ⟨(some 44), .iaddr 1 (.t 37) (.t 38), none, none, []⟩, ⟨none, .store 1 (.t 44) (.t 43), none, none, []⟩])
  (.exit 2)) .skip))
  (.seq (.reg [⟨(some 45), .mv (.t 7), none, none, []⟩, ⟨(some 46), .mv (.t 8), none, none, []⟩, ⟨(some 47), .mv (.t 6), none, none, []⟩, ⟨(some 48), .call 81 [(.t 47)], none, none, []⟩, ⟨(some 49), .conv .i64 (.t 48), none, none, []⟩, ⟨(some 50), .iaddr 1 (.t 45) (.t 46), none, none, []⟩, ⟨none, .store 1 (.t 50) (.t 49), none, none, []⟩])
  (.reg [⟨(some 51), .mv (.t 6), none, none, []⟩, ⟨(some 52), .call 82 [(.t 51), (.v (.int .i64 2))], none, none, []⟩])))))
  (.reg [⟨(some 53), .bin .add (.t 30) (.v (.int .i64 1)), none, none, []⟩, ⟨(some 30), .mv (.t 53), none, none, []⟩])))))))
  (.seq (.reg [⟨(some 54), .mv (.t 7), none, none, []⟩, ⟨(some 4), .mv (.t 54), none, none, []⟩, ⟨(some 5), .mv (.v (.int .i64 0)), none, none, []⟩])
  .ret))))))⟩
/-- pochoir/pochoirref11.Widths -/
def s37 : SFn :=
 ⟨54, [.tmp 4, .tmp 5],
  (.seq (.reg [⟨(some 2), .box 71 (.t 0), none, none, []⟩, ⟨(some 4), .mv (.v .nils), none, none, []⟩, ⟨(some 5), .mv (.v (.int .i64 0)), none, none, []⟩])
  (.seq (.seq (.reg [⟨(some 11), .load (some 7) (.t 2), none, none, []⟩, ⟨(some 12), .call 46 [(.t 11)], none, none, []⟩, ⟨(some 13), .un .not (.t 12), none, none, []⟩])
  (.cond (.t 13) (.seq (.reg [⟨(some 4), .mv (.v .nils), none, none, []⟩, ⟨(some 5), .mv (.v (.int .i64 1)), none, none, []⟩])
  .ret) .skip))
  (.seq (.seq (.reg [⟨(some 14), .mv (.t 1), none, none, []⟩, ⟨(some 15), .len true (.t 14), none, none, []⟩, ⟨(some 16), .faddr 3 (.t 2), none, none, []⟩, ⟨(some 17), .load none (.t 16), none, none, []⟩, ⟨(some 18), .bin .mul (.v (.int .i64 4)) (.t 17), none, none, []⟩, ⟨(some 19), .faddr 2 (.t 2), none, none, []⟩, ⟨(some 20), .load none (.t 19), none, none, []⟩, ⟨(some 21), .faddr 3 (.t 2), none, none, []⟩, ⟨(some 22), .load none (.t 21), none, none, []⟩, ⟨(some 23), .bin .sub (.t 20) (.t 22), none, none, []⟩, ⟨(some 24), .bin .mul (.v (.int .i64 2)) (.t 23), none, none, []⟩, ⟨(some 25), .bin .add (.t 18) (.t 24), none, none, []⟩, ⟨(some 26), .bin .lss (.t 15) (.t 25), none, none, []⟩])
  (.cond (.t 26) (.seq (.reg [⟨(some 4), .mv (.v .nils), none, none, []⟩, ⟨(some 5), .mv (.v (.int .i64 3)), none, none, []⟩])
  .ret) .skip))
  (.seq (.reg [⟨(some 6), .mv (.v .nils), none, none, []⟩])
  (.seq (.seq (.reg [⟨(some 7), .mv (.v (.int .i64 0)), none, none, []⟩])
  (.block 0 (.loop (.seq (.seq (.reg [⟨(some 27), .mv (.t 7), none, none, []⟩, ⟨(some 28), .faddr 2 (.t 2), none, none, []⟩, ⟨(some 29), .load none (.t 28), none, none, []⟩, ⟨(some 30), .bin .lss (.t 27) (.t 29), none, none, []⟩])
  (.cond (.t 30) .skip (.exit 0)))
  (.seq (.block 1 (.seq (.reg [⟨(some 33), .mv (.t 7), none, none, []⟩, ⟨(some 8), .mv (.t 33), none, none, []⟩])
  (.seq (.seq (.reg [⟨(some 34), .mv (.t 8), none, none, []⟩, ⟨(some 35), .faddr 3 (.t 2), none, none, []⟩, ⟨(some 36), .load none (.t 35), none, none, []⟩, ⟨(some 37), .bin .geq (.t 34) (.t 36), none, none, []⟩])
  (.cond (.t 37) (.reg [⟨(some 38), .faddr 3 (.t 2), none, none, []⟩, ⟨(some 39), .load none (.t 38), none, none, []⟩, ⟨(some 40), .bin .sub (.t 39) (.v (.int .i64 1)), none, none, []⟩, ⟨(some 8), .mv (.t 40), none, none, []⟩]) .skip))
  (.seq (.reg [⟨(some 42), .mv (.t 1), none, none, []⟩, ⟨(some 43), .mv (.t 8), none, none, []⟩, ⟨(some 44), .bin .mul (.v (.int .i64 4)) (.t 43), none, none, []⟩, ⟨(some 45), .call 83 [(.t 42), (.t 44)], none, none, []⟩, ⟨(some 41), .mv (.t 45), none, none, []⟩, ⟨(some 46), .extract (.t 41) 0, none, none, []⟩, ⟨(some 47), .extract (.t 41) 1, none, none, []⟩, ⟨(some 9), .mv (.t 46), none, none, []⟩, ⟨(some 10), .mv (.t 47), none, none, []⟩])
  (.reg [⟨(some 48), .mv (.t 6), none, none, []⟩, ⟨(some 49), .mv (.t 9), none, none, []⟩, ⟨(some 50), .conv .i64 (.t 49), none, none, []⟩, ⟨(some 51), .bsl 3 [(.int .i64 0)] 1 1 [(0, 1, (.t 50))], none, none, []⟩, ⟨(some 52), .app 3 1 (.t 48) (.t 51), none, none, []⟩, ⟨(some 6), .mv (.t 52), none, none, []⟩])))))
  (.reg [⟨(some 31), .mv (.t 7), none, none, []⟩, ⟨(some 32), .bin .add (.t 31) (.v (.int .i64 1)), none, none, []⟩, ⟨(some 7), .mv (.t 32), none, none, []⟩]))))))
  (.seq (.reg [⟨(some 53), .mv (.t 6), none, none, []⟩, ⟨(some 4), .mv (.t 53), none, none, []⟩, ⟨(some 5), .mv (.v (.int .i64 0)), none, none, []⟩])
  .ret))))))⟩
/-- pochoir/metric.Places -/
def s38 : SFn :=
 ⟨63, [.tmp 6, .tmp 7],
  (.seq (.reg [⟨(some 3), .box 71 (.t 0), none, none, []⟩, ⟨(some 6), .mv (.v .nils), none, none, []⟩, ⟨(some 7), .mv (.v (.int .i64 0)), none, none, []⟩])
  (.seq (.seq (.reg [⟨(some 13), .load (some 7) (.t 3), none, none, []⟩, ⟨(some 14), .call 45 [(.t 13)], none, none, []⟩, ⟨(some 15), .un .not (.t 14), none, none, []⟩])
  (.cond (.t 15) (.seq (.reg [⟨(some 6), .mv (.v .nils), none, none, []⟩, ⟨(some 7), .mv (.v (.int .i64 1)), none, none, []⟩])
  .ret) .skip))
  (.seq (.reg [⟨(some 8), .mv (.v (.int .i64 2)), none, none, []⟩])
  (.seq (.seq (.reg [⟨(some 16), .faddr 1 (.t 3), none, none, []⟩, ⟨(some 17), .load none (.t 16), none, none, []⟩])
  (.cond (.t 17) (.reg [⟨(some 8), .mv (.v (.int .i64 4)), none, none, []⟩]) .skip))
  (.seq (.seq (.reg [⟨(some 18), .mv (.t 1), none, none, []⟩, ⟨(some 19), .len true (.t 18), none, none, []⟩, ⟨(some 20), .mv (.t 8), none, none, []⟩, ⟨(some 21), .faddr 2 (.t 3), none, none, []⟩, ⟨(some 22), .load none (.t 21), none, none, []⟩, ⟨(some 23), .bin .add (.t 22) (.v (.int .i64 1)), none, none, []⟩, ⟨(some 24), .bin .mul (.t 20) (.t 23), none, none, []⟩, ⟨(some 25), .bin .lss (.t 19) (.t 24), none, none, []⟩])
  (.cond (.t 25) (.seq (.reg [⟨(some 6), .mv (.v .nils), none, none, []⟩, ⟨(some 7), .mv (.v (.int .i64 3)), none, none, []⟩])
  .ret) .skip))
  (.seq (.reg [⟨(some 26), .mv (.t 1), none, none, []⟩, ⟨(some 27), .call 80 [(.t 26)], none, none, []⟩, ⟨(some 9), .mv (.t 27), none, none, []⟩])
  (.seq (.reg [⟨(some 28), .faddr 2 (.t 3), none, none, []⟩, ⟨(some 29), .load none (.t 28), none, none, []⟩, ⟨(some 30), .bin .add (.t 29) (.v (.int .i64 1)), none, none, []⟩, ⟨(some 31), .mksl 3 [(.int .i64 0)] (.t 30) (.t 30), none, none, []⟩, ⟨(some 10), .mv (.t 31), none, none, []⟩])
  (.seq (.reg [⟨(some 11), .mv (.v (.int .i64 0)), none, none, []⟩])
  (.seq (.seq (.reg [⟨(some 32), .mv (.t 10), none, none, []⟩, ⟨(some 33), .len false (.t 32), none, none, []⟩, ⟨(some 34), .mv (.v (.int .i64 0)), none, none, []⟩])
  (.block 0 (.loop (.seq (.reg [⟨(some 35), .bin .lss (.t 34) (.t 33), none, none, []⟩])
  (.seq (.cond (.t 35) .skip (.exit 0))
  (.seq (.block 1 (.seq (.reg [⟨(some 36), .mv (.t 34), none, none, []⟩, ⟨(some 12), .mv (.t 36), none, none, []⟩])
  (.seq (.reg [⟨(some 37), .mv (.t 10), none, none, []⟩, ⟨(some 38), .mv (.t 12), none, none, []⟩, ⟨(some 39), .load (some 7) (.t 3), none, none, []⟩, ⟨(some 40), .mv (.t 9), none, none, []⟩, ⟨(some 41), .call 84 [(.t 39), (.t 40)], none, none, []⟩, ⟨(some 42), .iaddr 1 (.t 37) (.t 38), none, none, []⟩, ⟨none, .store 1 (.t 42) (.t 41), none, none, []⟩])
  (.seq (.seq (.reg [⟨(some 43), .mv (.t 10), none, none, []⟩, ⟨(some 44), .mv (.t 12), none, none, []⟩, ⟨(some 45), .iaddr 1 (.t 43) (.t 44), none, none, []⟩, ⟨(some 46), .load none (.t 45), none, none, []⟩, ⟨(some 47), .mv (.t 11), none, none, []⟩, ⟨(some 48), .bin .lss (.t 46) (.t 47), none, none, []⟩, ⟨(some 49), .mv (.t 48), none, none, []⟩, ⟨(some 50), .mv (.t 10), (some (49, false)), none, []⟩, ⟨(some 51), .mv (.t 12), (some (49, false)), none, []⟩, ⟨(some 52), .iaddr 1 (.t 50) (.t 51), (some (49, false)), none, []⟩, ⟨(some 53), .load none (.t 52), (some (49, false)), none, []⟩, ⟨(some 54), .mv (.t 2), (some (49, false)), none, []⟩, ⟨(some 55), .bin .gtr (.t 53) (.t 54), (some (49, false)), none, []⟩, ⟨(some 56), .pick (.t 49) (.v (.bool true)) (.t 55), none, none, []⟩])
  (.cond (.t 56) (.seq (.reg [⟨(some 6), .mv (.v .nils), none, none, []⟩, ⟨(some 7), .mv (.v (.int .i64 4)), none, none, []⟩])
  .ret) .skip))
  (.reg [⟨(some 57), .mv (.t 10), none, none, []⟩, ⟨(some 58), .mv (.t 12), none, none, []⟩, ⟨(some 59), .iaddr 1 (.t 57) (.t 58), none, none, []⟩, ⟨(some 60), .load none (.t 59), none, none, []⟩, ⟨(some 11), .mv (.t 60), none, none, []⟩])))))
  (.reg [⟨(some 61), .bin .add (.t 34) (.v (.int .i64 1)), none, none, []⟩, ⟨(some 34), .mv (.t 61), none, none, []⟩])))))))
  (.seq (.reg [⟨(some 62), .mv (.t 10), none, none, []⟩, ⟨(some 6), .mv (.t 62), none, none, []⟩, ⟨(some 7), .mv (.v (.int .i64 0)), none, none, []⟩])
  .ret))))))))))⟩
/-- pochoir/pochoirref11.Places -/
def s39 : SFn :=
 ⟨71, [.tmp 6, .tmp 7],
  (.seq (.reg [⟨(some 3), .box 71 (.t 0), none, none, []⟩, ⟨(some 6), .mv (.v .nils), none, none, []⟩, ⟨(some 7), .mv (.v (.int .i64 0)), none, none, []⟩])
  (.seq (.seq (.reg [⟨(some 17), .load (some 7) (.t 3), none, none, []⟩, ⟨(some 18), .call 46 [(.t 17)], none, none, []⟩, ⟨(some 19), .un .not (.t 18), none, none, []⟩])
  (.cond (.t 19) (.seq (.reg [⟨(some 6), .mv (.v .nils), none, none, []⟩, ⟨(some 7), .mv (.v (.int .i64 1)), none, none, []⟩])
  .ret) .skip))
  (.seq (.reg [⟨(some 8), .mv (.v (.int .i64 2)), none, none, []⟩])
  (.seq (.seq (.reg [⟨(some 20), .faddr 1 (.t 3), none, none, []⟩, ⟨(some 21), .load none (.t 20), none, none, []⟩])
  (.cond (.t 21) (.reg [⟨(some 8), .mv (.v (.int .i64 4)), none, none, []⟩]) .skip))
  (.seq (.seq (.reg [⟨(some 22), .mv (.t 1), none, none, []⟩, ⟨(some 23), .len true (.t 22), none, none, []⟩, ⟨(some 24), .mv (.t 8), none, none, []⟩, ⟨(some 25), .faddr 2 (.t 3), none, none, []⟩, ⟨(some 26), .load none (.t 25), none, none, []⟩, ⟨(some 27), .bin .add (.t 26) (.v (.int .i64 1)), none, none, []⟩, ⟨(some 28), .bin .mul (.t 24) (.t 27), none, none, []⟩, ⟨(some 29), .bin .lss (.t 23) (.t 28), none, none, []⟩])
  (.cond (.t 29) (.seq (.reg [⟨(some 6), .mv (.v .nils), none, none, []⟩, ⟨(some 7), .mv (.v (.int .i64 3)), none, none, []⟩])
  .ret) .skip))
  (.seq (.reg [⟨(some 9), .mv (.v .nils), none, none, []⟩])
  (.seq (.reg [⟨(some 10), .mv (.v (.int .i64 0)), none, none, []⟩])
  (.seq (.seq (.reg [⟨(some 11), .mv (.v (.int .i64 0)), none, none, []⟩])
  (.block 0 (.loop (.seq (.seq (.reg [⟨(some 30), .mv (.t 11), none, none, []⟩, ⟨(some 31), .faddr 2 (.t 3), none, none, []⟩, ⟨(some 32), .load none (.t 31), none, none, []⟩, ⟨(some 33), .bin .leq (.t 30) (.t 32), none, none, []⟩])
  (.cond (.t 33) .skip (.exit 0)))
  (.seq (.block 1 (.seq (.reg [⟨(some 12), .mv (.v (.int .i64 0)), none, none, []⟩])
  (.seq (.seq (.reg [⟨(some 36), .faddr 1 (.t 3), none, none, []⟩, ⟨(some 37), .load none (.t 36), none, none, []⟩])
  (.cond (.t 37) (.seq (.reg [⟨(some 39), .mv (.t 1), none, none, []⟩, ⟨(some 40), .mv (.t 11), none, none, []⟩, ⟨(some 41), .bin .mul (.v (.int .i64 4)) (.t 40), none, none, []⟩, ⟨(some 42), .call 85 [(.t 39), (.t 41)], none, none, []⟩, ⟨(some 38), .mv (.t 42), none, none, []⟩, ⟨(some 43), .extract (.t 38) 0, none, none, []⟩, ⟨(some 44), .extract (.t 38) 1, none, none, []⟩, ⟨(some 13), .mv (.t 43), none, none, []⟩, ⟨(some 14), .mv (.t 44), none, none, []⟩])
  (.reg [⟨(some 45), .mv (.t 13), none, none, []⟩, ⟨(some 46), .conv .i64 (.t 45), none, none, []⟩, ⟨(some 12), .mv (.t 46), none, none, []⟩])) (.seq (.reg [⟨(some 48), .mv (.t 1), none, none, []⟩, ⟨(some 49), .mv (.t 11), none, none, []⟩, ⟨(some 50), .bin .mul (.v (.int .i64 2)) (.t 49), none, none, []⟩, ⟨(some 51), .call 83 [(.t 48), (.t 50)], none, none, []⟩, ⟨(some 47), .mv (.t 51), none, none, []⟩, ⟨(some 52), .extract (.t 47) 0, none, none, []⟩, ⟨(some 53), .extract (.t 47) 1, none, none, []⟩, ⟨(some 15), .mv (.t 52), none, none, []⟩, ⟨(some 16), .mv (.t 53), none, none, []⟩])
  (.reg [⟨(some 54), .mv (.t 15), none, none, []⟩, ⟨(some 55), .conv .i64 (.t 54), none, none, []⟩, ⟨(some 56), .bin .mul (.v (.int .i64 2)) (.t 55), none, none, []⟩, ⟨(some 12), .mv (.t 56), none, none, []⟩]))))
  (.seq (.seq (.reg [⟨(some 57), .mv (.t 12), none, none, []⟩, ⟨(some 58), .mv (.t 10), none, none, []⟩, ⟨(some 59), .bin .lss (.t 57) (.t 58), none, none, []⟩, ⟨(some 60), .mv (.t 59), none, none, []⟩, ⟨(some 61), .mv (.t 12), (some (60, false)), none, []⟩, ⟨(some 62), .mv (.t 2), (some (60, false)), none, []⟩, ⟨(some 63), .bin .gtr (.t 61) (.t 62), (some (60, false)), none, []⟩, ⟨(some 64), .pick (.t 60) (.v (.bool true)) (.t 63), none, none, []⟩])
  (.cond (.t 64) (.seq (.reg [⟨(some 6), .mv (.v .nils), none, none, []⟩, ⟨(some 7), .mv (.v (.int .i64 4)), none, none, []⟩])
  .ret) .skip))
  (.seq (.reg [⟨(some 65), .mv (.t 12), none, none, []⟩, ⟨(some 10), .mv (.t 65), none, none, []⟩])
  (.reg [⟨(some 66), .mv (.t 9), none, none, []⟩, ⟨(some 67), .mv (.t 12), none, none, []⟩, ⟨(some 68), .bsl 3 [(.int .i64 0)] 1 1 [(0, 1, (.t 67))], none, none, []⟩, ⟨(some 69), .app 3 1 (.t 66) (.t 68), none, none, []⟩, ⟨(some 9), .mv (.t 69), none, none, []⟩]))))))
  (.reg [⟨(some 34), .mv (.t 11), none, none, []⟩, ⟨(some 35), .bin .add (.t 34) (.v (.int .i64 1)), none, none, []⟩, ⟨(some 11), .mv (.t 35), none, none, []⟩]))))))
  (.seq (.reg [⟨(some 70), .mv (.t 9), none, none, []⟩, ⟨(some 6), .mv (.t 70), none, none, []⟩, ⟨(some 7), .mv (.v (.int .i64 0)), none, none, []⟩])
  .ret)))))))))⟩
/-- pochoir/pochoirlaw11.ints -/
def s40 : SFn :=
 ⟨26, [.tmp 4],
  (.seq (.reg [⟨(some 4), .mv (.v (.bool false)), none, none, []⟩])
  (.seq (.seq (.reg [⟨(some 6), .mv (.t 0), none, none, []⟩, ⟨(some 7), .len false (.t 6), none, none, []⟩, ⟨(some 8), .mv (.t 1), none, none, []⟩, ⟨(some 9), .len false (.t 8), none, none, []⟩, ⟨(some 10), .bin .neq (.t 7) (.t 9), none, none, []⟩])
  (.cond (.t 10) (.seq (.reg [⟨(some 4), .mv (.v (.bool false)), none, none, []⟩])
  .ret) .skip))
  (.seq (.seq (.reg [⟨(some 11), .mv (.t 0), none, none, []⟩, ⟨(some 12), .len false (.t 11), none, none, []⟩, ⟨(some 13), .mv (.v (.int .i64 0)), none, none, []⟩])
  (.block 0 (.loop (.seq (.reg [⟨(some 14), .bin .lss (.t 13) (.t 12), none, none, []⟩])
  (.seq (.cond (.t 14) .skip (.exit 0))
  (.seq (.block 1 (.seq (.reg [⟨(some 15), .mv (.t 13), none, none, []⟩, ⟨(some 5), .mv (.t 15), none, none, []⟩])
  (.seq (.regd [⟨(some 16), .mv (.t 0), none, (some []), []⟩, ⟨(some 17), .mv (.t 5), none, (some []), []⟩, ⟨(some 18), .iaddr 1 (.t 16) (.t 17), none, (some []), []⟩, ⟨(some 19), .load none (.t 18), none, (some []), []⟩, ⟨(some 20), .mv (.t 1), none, (some []), []⟩, ⟨(some 21), .mv (.t 5), none, (some []), []⟩, ⟨(some 22), .iaddr 1 (.t 20) (.t 21), none, (some []), []⟩, ⟨(some 23), .load none (.t 22), none, (some []), []⟩, ⟨(some 24), .bin .neq (.t 19) (.t 23), none, (some []), []⟩])
  (.cond (.t 24) (.seq (.reg [⟨(some 4), .mv (.v (.bool false)), none, none, []⟩])
  .ret) .skip))))
  (.reg [⟨(some 25), .bin .add (.t 13) (.v (.int .i64 1)), none, none, []⟩, ⟨(some 13), .mv (.t 25), none, none, []⟩])))))))
  (.seq (.reg [⟨(some 4), .mv (.v (.bool true)), none, none, []⟩])
  .ret))))⟩
/-- pochoir/metric.Hmtx -/
def s41 : SFn :=
 ⟨59, [.tmp 4, .tmp 5],
  (.seq (.reg [⟨(some 2), .box 71 (.t 0), none, none, []⟩, ⟨(some 4), .mv (.v (.str ⟨#[]⟩)), none, none, []⟩, ⟨(some 5), .mv (.v (.int .i64 0)), none, none, []⟩])
  (.seq (.seq (.reg [⟨(some 9), .load (some 7) (.t 2), none, none, []⟩, ⟨(some 10), .call 45 [(.t 9)], none, none, []⟩, ⟨(some 11), .un .not (.t 10), none, none, []⟩, ⟨(some 12), .mv (.t 11), none, none, []⟩, ⟨(some 13), .mv (.t 1), (some (12, false)), none, []⟩, ⟨(some 14), .len false (.t 13), (some (12, false)), none, []⟩, ⟨(some 15), .faddr 2 (.t 2), (some (12, false)), none, []⟩, ⟨(some 16), .load none (.t 15), (some (12, false)), none, []⟩, ⟨(some 17), .bin .neq (.t 14) (.t 16), (some (12, false)), none, []⟩, ⟨(some 18), .pick (.t 12) (.v (.bool true)) (.t 17), none, none, []⟩])
  (.cond (.t 18) (.seq (.reg [⟨(some 4), .mv (.v (.str ⟨#[]⟩)), none, none, []⟩, ⟨(some 5), .mv (.v (.int .i64 1)), none, none, []⟩])
  .ret) .skip))
  (.seq (.reg [⟨(some 6), .box 132 (.v (.agg [.nilp, .nils])), none, none, []⟩])
  (.seq (.seq (.reg [⟨(some 19), .mv (.t 1), none, none, []⟩, ⟨(some 20), .len false (.t 19), none, none, []⟩, ⟨(some 21), .mv (.v (.int .i64 0)), none, none, []⟩])
  (.block 0 (.loop (.seq (.reg [⟨(some 22), .bin .lss (.t 21) (.t 20), none, none, []⟩])
  (.seq (.cond (.t 22) .skip (.exit 0))
  (.seq (.block 1 (.seq (.reg [⟨(some 23), .mv (.t 21), none, none, []⟩, ⟨(some 24), .iaddr 1 (.t 19) (.t 21), none, none, []⟩, ⟨(some 25), .load none (.t 24), none, none, []⟩, ⟨(some 7), .mv (.t 23), none, none, []⟩, ⟨(some 8), .mv (.t 25), none, none, []⟩])
  (.seq (.seq (.reg [⟨(some 26), .mv (.t 8), none, none, []⟩, ⟨(some 27), .bin .lss (.t 26) (.v (.int .i64 0)), none, none, []⟩, ⟨(some 28), .mv (.t 27), none, none, []⟩, ⟨(some 29), .mv (.t 8), (some (28, false)), none, []⟩, ⟨(some 30), .bin .gtr (.t 29) (.v (.int .i64 65535)), (some (28, false)), none, []⟩, ⟨(some 31), .pick (.t 28) (.v (.bool true)) (.t 30), none, none, []⟩, ⟨(some 32), .mv (.t 31), none, none, []⟩, ⟨(some 33), .mv (.t 7), (some (32, false)), none, []⟩, ⟨(some 34), .faddr 3 (.t 2), (some (32, false)), none, []⟩, ⟨(some 35), .load none (.t 34), (some (32, false)), none, []⟩, ⟨(some 36), .bin .geq (.t 33) (.t 35), (some (32, false)), none, []⟩, ⟨(some 37), .mv (.t 36), (some (32, false)), none, []⟩, ⟨(some 38), .mv (.t 8), (some (37, true)), none, []⟩, ⟨(some 39), .mv (.t 1), (some (37, true)), none, []⟩, ⟨(some 40), .mv (.t 7), (some (37, true)), none, []⟩, ⟨(some 41), .bin .sub (.t 40) (.v (.int .i64 1)), (some (37, true)), none, []⟩, ⟨(some 42), .iaddr 1 (.t 39) (.t 41), (some (37, true)), none, []⟩, ⟨(some 43), .load none (.t 42), (some (37, true)), none, []⟩, ⟨(some 44), .bin .neq (.t 38) (.t 43), (some (37, true)), none, []⟩, ⟨(some 45), .pick (.t 37) (.t 44) (.v (.bool false)), (some (32, false)), none, []⟩, ⟨(some 46), .pick (.t 32) (.v (.bool true)) (.t 45), none, none, []⟩])
  (.cond (.t 46) (.seq (.reg [⟨(some 4), .mv (.v (.str ⟨#[]⟩)), none, none, []⟩, ⟨(some 5), .mv (.v (.int .i64 1)), none, none, []⟩])
  .ret) .skip))
  (.seq (.seq (.reg [⟨(some 47), .mv (.t 7), none, none, []⟩, ⟨(some 48), .faddr 3 (.t 2), none, none, []⟩, ⟨(some 49), .load none (.t 48), none, none, []⟩, ⟨(some 50), .bin .lss (.t 47) (.t 49), none, none, []⟩])
  (.cond (.t 50) (.reg [⟨(some 51), .mv (.t 8), none, none, []⟩, ⟨(some 52), .conv .u16 (.t 51), none, none, []⟩, ⟨(some 53), .call 87 [(.t 52)], none, none, []⟩, ⟨(some 54), .call 86 [(.t 6), (.t 53)], none, none, []⟩]) .skip))
  (.reg [⟨(some 55), .call 87 [(.v (.int .u16 0))], none, none, []⟩, ⟨(some 56), .call 86 [(.t 6), (.t 55)], none, none, []⟩])))))
  (.reg [⟨(some 57), .bin .add (.t 21) (.v (.int .i64 1)), none, none, []⟩, ⟨(some 21), .mv (.t 57), none, none, []⟩])))))))
  (.seq (.reg [⟨(some 58), .call 88 [(.t 6)], none, none, []⟩, ⟨(some 4), .mv (.t 58), none, none, []⟩, ⟨(some 5), .mv (.v (.int .i64 0)), none, none, []⟩])
  .ret)))))⟩
/-- pochoir/pochoirref11.Hmtx -/
def s42 : SFn :=
 ⟨70, [.tmp 4, .tmp 5],
  (.seq (.reg [⟨(some 2), .box 71 (.t 0), none, none, []⟩, ⟨(some 4), .mv (.v (.str ⟨#[]⟩)), none, none, []⟩, ⟨(some 5), .mv (.v (.int .i64 0)), none, none, []⟩])
  (.seq (.seq (.reg [⟨(some 8), .load (some 7) (.t 2), none, none, []⟩, ⟨(some 9), .call 46 [(.t 8)], none, none, []⟩, ⟨(some 10), .un .not (.t 9), none, none, []⟩, ⟨(some 11), .mv (.t 10), none, none, []⟩, ⟨(some 12), .mv (.t 1), (some (11, false)), none, []⟩, ⟨(some 13), .len false (.t 12), (some (11, false)), none, []⟩, ⟨(some 14), .faddr 2 (.t 2), (some (11, false)), none, []⟩, ⟨(some 15), .load none (.t 14), (some (11, false)), none, []⟩, ⟨(some 16), .bin .neq (.t 13) (.t 15), (some (11, false)), none, []⟩, ⟨(some 17), .pick (.t 11) (.v (.bool true)) (.t 16), none, none, []⟩])
  (.cond (.t 17) (.seq (.reg [⟨(some 4), .mv (.v (.str ⟨#[]⟩)), none, none, []⟩, ⟨(some 5), .mv (.v (.int .i64 1)), none, none, []⟩])
  .ret) .skip))
  (.seq (.reg [⟨(some 6), .mv (.v (.str ⟨#[]⟩)), none, none, []⟩])
  (.seq (.seq (.reg [⟨(some 7), .mv (.v (.int .i64 0)), none, none, []⟩])
  (.block 0 (.loop (.seq (.seq (.reg [⟨(some 18), .mv (.t 7), none, none, []⟩, ⟨(some 19), .mv (.t 1), none, none, []⟩, ⟨(some 20), .len false (.t 19), none, none, []⟩, ⟨(some 21), .bin .lss (.t 18) (.t 20), none, none, []⟩])
  (.cond (.t 21) .skip (.exit 0)))
  (.seq (.block 1 (.seq (.seq (.regd [⟨(some 24), .mv (.t 1), none, (some []), []⟩, ⟨(some 25), .mv (.t 7), none, (some []), []⟩, ⟨(some 26), .iaddr 1 (.t 24) (.t 25), none, (some []), []⟩, ⟨(some 27), .load none (.t 26), none, none, []⟩, ⟨(some 28), .bin .lss (.t 27) (.v (.int .i64 0)), none, (some []), []⟩, ⟨(some 29), .mv (.t 28), none, (some []), []⟩, ⟨(some 30), .mv (.t 1), (some (29, false)), (some []), []⟩, ⟨(some 31), .mv (.t 7), (some (29, false)), (some []), []⟩, ⟨(some 32), .iaddr 1 (.t 30) (.t 31), (some (29, false)), (some []), []⟩, ⟨(some 33), .load none (.t 32), (some (29, false)), none, []⟩, ⟨(some 34), .bin .gtr (.t 33) (.v (.int .i64 65535)), (some (29, false)), (some []), []⟩, ⟨(some 35), .pick (.t 29) (.v (.bool true)) (.t 34), none, (some []), []⟩, ⟨(some 36), .mv (.t 35), none, (some []), []⟩, ⟨(some 37), .mv (.t 7), (some (36, false)), (some []), []⟩, ⟨(some 38), .faddr 3 (.t 2), (some (36, false)), (some []), []⟩, ⟨(some 39), .load none (.t 38), (some (36, false)), none, []⟩, ⟨(some 40), .bin .geq (.t 37) (.t 39), (some (36, false)), (some []), []⟩, ⟨(some 41), .mv (.t 40), (some (36, false)), (some []), []⟩, ⟨(some 42), .mv (.t 1), (some (41, true)), (some []), []⟩, ⟨(some 43), .mv (.t 7), (some (41, true)), (some []), []⟩, ⟨(some 44), .iaddr 1 (.t 42) (.t 43), (some (41, true)), (some []), []⟩, ⟨(some 45), .load none (.t 44), (some (41, true)), (some []), []⟩, ⟨(some 46), .mv (.t 1), (some (41, true)), (some []), []⟩, ⟨(some 47), .faddr 3 (.t 2), (some (41, true)), (some []), []⟩, ⟨(some 48), .load none (.t 47), (some (41, true)), (some []), []⟩, ⟨(some 49), .bin .sub (.t 48) (.v (.int .i64 1)), (some (41, true)), (some []), []⟩, ⟨(some 50), .iaddr 1 (.t 46) (.t 49), (some (41, true)), (some []), []⟩, ⟨(some 51), .load none (.t 50), (some (41, true)), (some []), []⟩, ⟨(some 52), .bin .neq (.t 45) (.t 51), (some (41, true)), (some []), []⟩, ⟨(some 53), .pick (.t 41) (.t 52) (.v (.bool false)), (some (36, false)), (some []), []⟩, ⟨(some 54), .pick (.t 36) (.v (.bool true)) (.t 53), none, (some []), []⟩])
  (.cond (.t 54) (.seq (.reg [⟨(some 4), .mv (.v (.str ⟨#[]⟩)), none, none, []⟩, ⟨(some 5), .mv (.v (.int .i64 1)), none, none, []⟩])
  .ret) .skip))
  (.seq (.seq (.reg [⟨(some 55), .mv (.t 7), none, none, []⟩, ⟨(some 56), .faddr 3 (.t 2), none, none, []⟩, ⟨(some 57), .load none (.t 56), none, none, []⟩, ⟨(some 58), .bin .lss (.t 55) (.t 57), none, none, []⟩])
  (.cond (.t 58) (.reg [⟨(some 59), .mv (.t 6), none, none, []⟩, ⟨(some 60), .mv (.t 1), none, none, []⟩, ⟨(some 61), .mv (.t 7), none, none, []⟩, ⟨(some 62), .iaddr 1 (.t 60) (.t 61), none, none, []⟩, ⟨(some 63), .load none (.t 62), none, none, []⟩, ⟨(some 64), .conv .u32 (.t 63), none, none, []⟩, ⟨(some 65), .call 89 [(.t 64), (.v (.int .i64 2))], none, none, []⟩, ⟨(some 66), .bin .add (.t 59) (.t 65), none, none, []⟩, ⟨(some 6), .mv (.t 66), none, none, []⟩]) .skip))
  (.reg [⟨(some 67), .mv (.t 6), none, none, []⟩, ⟨(some 68), .bin .add (.t 67) (.v (.str ⟨#[0, 0]⟩)), none, none, []⟩, ⟨(some 6), .mv (.t 68), none, none, []⟩]))))
  (.reg [⟨(some 22), .mv (.t 7), none, none, []⟩, ⟨(some 23), .bin .add (.t 22) (.v (.int .i64 1)), none, none, []⟩, ⟨(some 7), .mv (.t 23), none, none, []⟩]))))))
  (.seq (.reg [⟨(some 69), .mv (.t 6), none, none, []⟩, ⟨(some 4), .mv (.t 69), none, none, []⟩, ⟨(some 5), .mv (.v (.int .i64 0)), none, none, []⟩])
  .ret)))))⟩
/-- pochoir/pochoirlaw10.awake -/
def s43 : SFn :=
 ⟨47, [.tmp 0],
  (.seq (.reg [⟨(some 0), .mv (.v (.bool false)), none, none, []⟩])
  (.seq (.reg [⟨(some 8), .build [(.int .i64 0), (.bool false), (.int .i64 0), (.int .i64 0), (.int .i64 0), (.int .i64 0), (.int .i64 0)] [(0, 1, (.v (.int .i64 1000))), (2, 1, (.v (.int .i64 3))), (3, 1, (.v (.int .i64 1))), (4, 1, (.v (.int .i64 800))), (5, 1, (.v (.int .i64 (-200))))], none, none, []⟩, ⟨(some 1), .box 71 (.v (.agg [(.int .i64 0), (.bool false), (.int .i64 0), (.int .i64 0), (.int .i64 0), (.int .i64 0), (.int .i64 0)])), none, none, []⟩, ⟨none, .store 7 (.t 1) (.t 8), none, none, []⟩])
  (.seq (.reg [⟨(some 10), .load (some 7) (.t 1), none, none, []⟩, ⟨(some 11), .call 44 [(.t 10)], none, none, []⟩, ⟨(some 9), .mv (.t 11), none, none, []⟩, ⟨(some 12), .extract (.t 9) 0, none, none, []⟩, ⟨(some 13), .extract (.t 9) 1, none, none, []⟩, ⟨(some 2), .mv (.t 12), none, none, []⟩, ⟨(some 3), .mv (.t 13), none, none, []⟩])
  (.seq (.reg [⟨(some 15), .mv (.t 2), none, none, []⟩, ⟨(some 16), .call 47 [(.t 15)], none, none, []⟩, ⟨(some 14), .mv (.t 16), none, none, []⟩, ⟨(some 17), .extract (.t 14) 0, none, none, []⟩, ⟨(some 18), .extract (.t 14) 1, none, none, []⟩, ⟨(some 4), .box 71 (.v (.agg [(.int .i64 0), (.bool false), (.int .i64 0), (.int .i64 0), (.int .i64 0), (.int .i64 0), (.int .i64 0)])), none, none, []⟩, ⟨none, .store 7 (.t 4) (.t 17), none, none, []⟩, ⟨(some 5), .mv (.t 18), none, none, []⟩])
  (.seq (.reg [⟨(some 20), .call 47 [(.v .nils)], none, none, []⟩, ⟨(some 19), .mv (.t 20), none, none, []⟩, ⟨(some 21), .extract (.t 19) 0, none, none, []⟩, ⟨(some 22), .extract (.t 19) 1, none, none, []⟩, ⟨(some 6), .box 71 (.v (.agg [(.int .i64 0), (.bool false), (.int .i64 0), (.int .i64 0), (.int .i64 0), (.int .i64 0), (.int .i64 0)])), none, none, []⟩, ⟨none, .store 7 (.t 6) (.t 21), none, none, []⟩, ⟨(some 7), .mv (.t 22), none, none, []⟩])
  (.seq (.reg [⟨(some 23), .mv (.t 3), none, none, []⟩, ⟨(some 24), .bin .eql (.t 23) (.v (.int .i64 0)), none, none, []⟩, ⟨(some 25), .mv (.t 24), none, none, []⟩, ⟨(some 26), .mv (.t 2), (some (25, true)), none, []⟩, ⟨(some 27), .len false (.t 26), (some (25, true)), none, []⟩, ⟨(some 28), .bin .eql (.t 27) (.v (.int .i64 3)), (some (25, true)), none, []⟩, ⟨(some 29), .pick (.t 25) (.t 28) (.v (.bool false)), none, none, []⟩, ⟨(some 30), .mv (.t 29), none, none, []⟩, ⟨(some 31), .mv (.t 5), (some (30, true)), none, []⟩, ⟨(some 32), .bin .eql (.t 31) (.v (.int .i64 0)), (some (30, true)), none, []⟩, ⟨(some 33), .pick (.t 30) (.t 32) (.v (.bool false)), none, none, []⟩, ⟨(some 34), .mv (.t 33), none, none, []⟩, ⟨(some 35), .load (some 7) (.t 4), (some (34, true)), none, []⟩, ⟨(some 36), .load (some 7) (.t 1), (some (34, true)), none, []⟩, ⟨(some 37), .eqs 4 [1, 0, 1, 1, 1, 1, 1] false (.t 35) (.t 36), (some (34, true)), none, []⟩, ⟨(some 38), .pick (.t 34) (.t 37) (.v (.bool false)), none, none, []⟩, ⟨(some 39), .mv (.t 38), none, none, []⟩, ⟨(some 40), .mv (.t 7), (some (39, true)), none, []⟩, ⟨(some 41), .bin .eql (.t 40) (.v (.int .i64 7)), (some (39, true)), none, []⟩, ⟨(some 42), .pick (.t 39) (.t 41) (.v (.bool false)), none, none, []⟩, ⟨(some 43), .mv (.t 42), none, none, []⟩, ⟨(some 44), .load (some 7) (.t 1), (some (43, true)), none, []⟩, ⟨(some 45), .call 45 [(.t 44)], (some (43, true)), none, []⟩, ⟨(some 46), .pick (.t 43) (.t 45) (.v (.bool false)), none, none, []⟩, ⟨(some 0), .mv (.t 46), none, none, []⟩])
  .ret))))))⟩
/-- pochoir/head.Make -/
def s44 : SFn :=
 ⟨68, [.tmp 2, .tmp 3],
  (.seq (.reg [⟨(some 1), .box 71 (.t 0), none, none, []⟩, ⟨(some 2), .mv (.v .nils), none, none, []⟩, ⟨(some 3), .mv (.v (.int .i64 0)), none, none, []⟩])
  (.seq (.seq (.reg [⟨(some 7), .load (some 7) (.t 1), none, none, []⟩, ⟨(some 8), .call 45 [(.t 7)], none, none, []⟩, ⟨(some 9), .un .not (.t 8), none, none, []⟩])
  (.cond (.t 9) (.seq (.reg [⟨(some 2), .mv (.v .nils), none, none, []⟩, ⟨(some 3), .mv (.v (.int .i64 1)), none, none, []⟩])
  .ret) .skip))
  (.seq (.regd [⟨(some 10), .mksl 5 [(.int .u8 0)] (.v (.int .i64 54)) (.v (.int .i64 54)), none, (some []), []⟩, ⟨(some 11), .mksl 5 [(.int .u8 0)] (.v (.int .i64 36)) (.v (.int .i64 36)), none, (some [0]), []⟩, ⟨(some 12), .mksl 5 [(.int .u8 0)] (.v (.int .i64 32)) (.v (.int .i64 32)), none, (some [0, 1]), []⟩, ⟨(some 4), .mv (.t 10), none, (some [1, 2]), []⟩, ⟨(some 5), .mv (.t 11), none, (some [2]), []⟩, ⟨(some 6), .mv (.t 12), none, (some []), []⟩])
  (.seq (.reg [⟨(some 13), .mv (.t 4), none, none, []⟩, ⟨(some 14), .call 91 [(.v (.int .i64 1))], none, none, []⟩, ⟨(some 15), .call 90 [(.t 13), (.v (.int .i64 0)), (.t 14)], none, none, []⟩])
  (.seq (.reg [⟨(some 16), .mv (.t 4), none, none, []⟩, ⟨(some 17), .call 92 [(.v (.int .u32 1594834165))], none, none, []⟩, ⟨(some 18), .call 90 [(.t 16), (.v (.int .i64 12)), (.t 17)], none, none, []⟩])
  (.seq (.reg [⟨(some 19), .mv (.t 4), none, none, []⟩, ⟨(some 20), .faddr 0 (.t 1), none, none, []⟩, ⟨(some 21), .load none (.t 20), none, none, []⟩, ⟨(some 22), .call 91 [(.t 21)], none, none, []⟩, ⟨(some 23), .call 90 [(.t 19), (.v (.int .i64 18)), (.t 22)], none, none, []⟩])
  (.seq (.seq (.reg [⟨(some 24), .faddr 1 (.t 1), none, none, []⟩, ⟨(some 25), .load none (.t 24), none, none, []⟩])
  (.cond (.t 25) (.reg [⟨(some 26), .mv (.t 4), none, none, []⟩, ⟨(some 27), .call 91 [(.v (.int .i64 1))], none, none, []⟩, ⟨(some 28), .call 90 [(.t 26), (.v (.int .i64 50)), (.t 27)], none, none, []⟩]) .skip))
  (.seq (.reg [⟨(some 29), .mv (.t 5), none, none, []⟩, ⟨(some 30), .call 92 [(.v (.int .u32 65536))], none, none, []⟩, ⟨(some 31), .call 90 [(.t 29), (.v (.int .i64 0)), (.t 30)], none, none, []⟩])
  (.seq (.regd [⟨(some 32), .mv (.t 5), none, (some []), []⟩, ⟨(some 33), .faddr 4 (.t 1), none, (some []), []⟩, ⟨(some 34), .load none (.t 33), none, (some []), []⟩, ⟨(some 35), .call 91 [(.t 34)], none, none, [(none, (.t 1)), (none, (.t 1))]⟩, ⟨(some 36), .faddr 5 (.t 1), none, (some [3]), []⟩, ⟨(some 37), .load none (.t 36), none, (some [3]), []⟩, ⟨(some 38), .call 91 [(.t 37)], none, none, [(none, (.t 1))]⟩, ⟨(some 39), .bin .add (.t 35) (.t 38), none, (some []), []⟩, ⟨(some 40), .faddr 6 (.t 1), none, (some [3, 6]), []⟩, ⟨(some 41), .load none (.t 40), none, (some [3, 6]), []⟩, ⟨(some 42), .call 91 [(.t 41)], none, none, []⟩, ⟨(some 43), .bin .add (.t 39) (.t 42), none, (some []), []⟩, ⟨(some 44), .call 90 [(.t 32), (.v (.int .i64 4)), (.t 43)], none, none, []⟩])
  (.seq (.reg [⟨(some 45), .mv (.t 5), none, none, []⟩, ⟨(some 46), .faddr 3 (.t 1), none, none, []⟩, ⟨(some 47), .load none (.t 46), none, none, []⟩, ⟨(some 48), .call 91 [(.t 47)], none, none, []⟩, ⟨(some 49), .call 90 [(.t 45), (.v (.int .i64 34)), (.t 48)], none, none, []⟩])
  (.seq (.reg [⟨(some 50), .mv (.t 6), none, none, []⟩, ⟨(some 51), .call 92 [(.v (.int .u32 65536))], none, none, []⟩, ⟨(some 52), .call 90 [(.t 50), (.v (.int .i64 0)), (.t 51)], none, none, []⟩])
  (.seq (.reg [⟨(some 53), .mv (.t 6), none, none, []⟩, ⟨(some 54), .faddr 2 (.t 1), none, none, []⟩, ⟨(some 55), .load none (.t 54), none, none, []⟩, ⟨(some 56), .call 91 [(.t 55)], none, none, []⟩, ⟨(some 57), .call 90 [(.t 53), (.v (.int .i64 4)), (.t 56)], none, none, []⟩])
  (.seq (.reg [⟨(some 58), .mv (.t 4), none, none, []⟩, ⟨(some 59), .b2s (.t 58), none, none, []⟩, ⟨(some 60), .build [(.str ⟨#[]⟩), (.str ⟨#[]⟩)] [(0, 1, (.v (.str ⟨#[104, 101, 97, 100]⟩))), (1, 1, (.t 59))], none, none, []⟩, ⟨(some 61), .mv (.t 5), none, none, []⟩, ⟨(some 62), .b2s (.t 61), none, none, []⟩, ⟨(some 63), .build [(.str ⟨#[]⟩), (.str ⟨#[]⟩)] [(0, 1, (.v (.str ⟨#[104, 104, 101, 97]⟩))), (1, 1, (.t 62))], none, none, []⟩, ⟨(some 64), .mv (.t 6), none, none, []⟩, ⟨(some 65), .b2s (.t 64), none, none, []⟩, ⟨(some 66), .build [(.str ⟨#[]⟩), (.str ⟨#[]⟩)] [(0, 1, (.v (.str ⟨#[109, 97, 120, 112]⟩))), (1, 1, (.t 65))], none, none, []⟩, ⟨(some 67), .bsl 95 [(.str ⟨#[]⟩), (.str ⟨#[]⟩), (.str ⟨#[]⟩), (.str ⟨#[]⟩), (.str ⟨#[]⟩), (.str ⟨#[]⟩)] 3 2 [(0, 2, (.t 60)), (2, 2, (.t 63)), (4, 2, (.t 66))], none, none, []⟩, ⟨(some 2), .mv (.t 67), none, none, []⟩, ⟨(some 3), .mv (.v (.int .i64 0)), none, none, []⟩])
  .ret)))))))))))))⟩
/-- pochoir/head.May -/
def s45 : SFn :=
 ⟨33, [.tmp 2],
  (.seq (.reg [⟨(some 1), .box 71 (.t 0), none, none, []⟩, ⟨(some 2), .mv (.v (.bool false)), none, none, []⟩])
  (.seq (.reg [⟨(some 3), .faddr 0 (.t 1), none, none, []⟩, ⟨(some 4), .load none (.t 3), none, none, []⟩, ⟨(some 5), .call 93 [(.t 4), (.v (.int .i64 16)), (.v (.int .i64 16384))], none, none, []⟩, ⟨(some 6), .mv (.t 5), none, none, []⟩, ⟨(some 7), .faddr 2 (.t 1), (some (6, true)), none, []⟩, ⟨(some 8), .load none (.t 7), (some (6, true)), none, []⟩, ⟨(some 9), .call 93 [(.t 8), (.v (.int .i64 1)), (.v (.int .i64 1024))], (some (6, true)), none, []⟩, ⟨(some 10), .pick (.t 6) (.t 9) (.v (.bool false)), none, none, []⟩, ⟨(some 11), .mv (.t 10), none, none, []⟩, ⟨(some 12), .faddr 3 (.t 1), (some (11, true)), none, []⟩, ⟨(some 13), .load none (.t 12), (some (11, true)), none, []⟩, ⟨(some 14), .faddr 2 (.t 1), (some (11, true)), none, []⟩, ⟨(some 15), .load none (.t 14), (some (11, true)), none, []⟩, ⟨(some 16), .call 93 [(.t 13), (.v (.int .i64 1)), (.t 15)], (some (11, true)), none, []⟩, ⟨(some 17), .pick (.t 11) (.t 16) (.v (.bool false)), none, none, []⟩, ⟨(some 18), .mv (.t 17), none, none, []⟩, ⟨(some 19), .faddr 4 (.t 1), (some (18, true)), none, []⟩, ⟨(some 20), .load none (.t 19), (some (18, true)), none, []⟩, ⟨(some 21), .call 94 [(.t 20)], (some (18, true)), none, []⟩, ⟨(some 22), .pick (.t 18) (.t 21) (.v (.bool false)), none, none, []⟩, ⟨(some 23), .mv (.t 22), none, none, []⟩, ⟨(some 24), .faddr 5 (.t 1), (some (23, true)), none, []⟩, ⟨(some 25), .load none (.t 24), (some (23, true)), none, []⟩, ⟨(some 26), .call 94 [(.t 25)], (some (23, true)), none, []⟩, ⟨(some 27), .pick (.t 23) (.t 26) (.v (.bool false)), none, none, []⟩, ⟨(some 28), .mv (.t 27), none, none, []⟩, ⟨(some 29), .faddr 6 (.t 1), (some (28, true)), none, []⟩, ⟨(some 30), .load none (.t 29), (some (28, true)), none, []⟩, ⟨(some 31), .call 94 [(.t 30)], (some (28, true)), none, []⟩, ⟨(some 32), .pick (.t 28) (.t 31) (.v (.bool false)), none, none, []⟩, ⟨(some 2), .mv (.t 32), none, none, []⟩])
  .ret))⟩
/-- pochoir/pochoirref10.May -/
def s46 : SFn :=
 ⟨48, [.tmp 2],
  (.seq (.reg [⟨(some 1), .box 71 (.t 0), none, none, []⟩, ⟨(some 2), .mv (.v (.bool false)), none, none, []⟩])
  (.seq (.reg [⟨(some 3), .faddr 0 (.t 1), none, none, []⟩, ⟨(some 4), .load none (.t 3), none, none, []⟩, ⟨(some 5), .bin .geq (.t 4) (.v (.int .i64 16)), none, none, []⟩, ⟨(some 6), .mv (.t 5), none, none, []⟩, ⟨(some 7), .faddr 0 (.t 1), (some (6, true)), none, []⟩, ⟨(some 8), .load none (.t 7), (some (6, true)), none, []⟩, ⟨(some 9), .bin .leq (.t 8) (.v (.int .i64 16384)), (some (6, true)), none, []⟩, ⟨(some 10), .pick (.t 6) (.t 9) (.v (.bool false)), none, none, []⟩, ⟨(some 11), .mv (.t 10), none, none, []⟩, ⟨(some 12), .faddr 2 (.t 1), (some (11, true)), none, []⟩, ⟨(some 13), .load none (.t 12), (some (11, true)), none, []⟩, ⟨(some 14), .bin .geq (.t 13) (.v (.int .i64 1)), (some (11, true)), none, []⟩, ⟨(some 15), .pick (.t 11) (.t 14) (.v (.bool false)), none, none, []⟩, ⟨(some 16), .mv (.t 15), none, none, []⟩, ⟨(some 17), .faddr 2 (.t 1), (some (16, true)), none, []⟩, ⟨(some 18), .load none (.t 17), (some (16, true)), none, []⟩, ⟨(some 19), .bin .leq (.t 18) (.v (.int .i64 1024)), (some (16, true)), none, []⟩, ⟨(some 20), .pick (.t 16) (.t 19) (.v (.bool false)), none, none, []⟩, ⟨(some 21), .mv (.t 20), none, none, []⟩, ⟨(some 22), .faddr 3 (.t 1), (some (21, true)), none, []⟩, ⟨(some 23), .load none (.t 22), (some (21, true)), none, []⟩, ⟨(some 24), .bin .geq (.t 23) (.v (.int .i64 1)), (some (21, true)), none, []⟩, ⟨(some 25), .pick (.t 21) (.t 24) (.v (.bool false)), none, none, []⟩, ⟨(some 26), .mv (.t 25), none, none, []⟩, ⟨(some 27), .faddr 3 (.t 1), (some (26, true)), none, []⟩, ⟨(some 28), .load none (.t 27), (some (26, true)), none, []⟩, ⟨(some 29), .faddr 2 (.t 1), (some (26, true)), none, []⟩, ⟨(some 30), .load none (.t 29), (some (26, true)), none, []⟩, ⟨(some 31), .bin .leq (.t 28) (.t 30), (some (26, true)), none, []⟩, ⟨(some 32), .pick (.t 26) (.t 31) (.v (.bool false)), none, none, []⟩, ⟨(some 33), .mv (.t 32), none, none, []⟩, ⟨(some 34), .faddr 4 (.t 1), (some (33, true)), none, []⟩, ⟨(some 35), .load none (.t 34), (some (33, true)), none, []⟩, ⟨(some 36), .call 95 [(.t 35)], (some (33, true)), none, []⟩, ⟨(some 37), .pick (.t 33) (.t 36) (.v (.bool false)), none, none, []⟩, ⟨(some 38), .mv (.t 37), none, none, []⟩, ⟨(some 39), .faddr 5 (.t 1), (some (38, true)), none, []⟩, ⟨(some 40), .load none (.t 39), (some (38, true)), none, []⟩, ⟨(some 41), .call 95 [(.t 40)], (some (38, true)), none, []⟩, ⟨(some 42), .pick (.t 38) (.t 41) (.v (.bool false)), none, none, []⟩, ⟨(some 43), .mv (.t 42), none, none, []⟩, ⟨(some 44), .faddr 6 (.t 1), (some (43, true)), none, []⟩, ⟨(some 45), .load none (.t 44), (some (43, true)), none, []⟩, ⟨(some 46), .call 95 [(.t 45)], (some (43, true)), none, []⟩, ⟨(some 47), .pick (.t 43) (.t 46) (.v (.bool false)), none, none, []⟩, ⟨(some 2), .mv (.t 47), none, none, []⟩])
  .ret))⟩
/-- pochoir/head.Parse -/
def s47 : SFn :=
 ⟨25, [.cell 2 (some 7), .tmp 3],
  (.seq (.reg [⟨(some 2), .box 71 (.v (.agg [(.int .i64 0), (.bool false), (.int .i64 0), (.int .i64 0), (.int .i64 0), (.int .i64 0), (.int .i64 0)])), none, none, []⟩, ⟨(some 3), .mv (.v (.int .i64 0)), none, none, []⟩])
  (.seq (.reg [⟨(some 4), .box 71 (.v (.agg [(.int .i64 0), (.bool false), (.int .i64 0), (.int .i64 0), (.int .i64 0), (.int .i64 0), (.int .i64 0)])), none, none, []⟩])
  (.seq (.seq (.reg [⟨(some 7), .mv (.t 0), none, none, []⟩, ⟨(some 8), .call 96 [(.t 7), (.t 4)], none, none, []⟩, ⟨(some 9), .mv (.t 0), none, none, []⟩, ⟨(some 10), .call 97 [(.t 9), (.t 4)], none, none, []⟩, ⟨(some 11), .mv (.t 0), none, none, []⟩, ⟨(some 12), .call 98 [(.t 11), (.t 4)], none, none, []⟩, ⟨(some 13), .bsl 27 [(.int .i64 0), (.int .i64 0), (.int .i64 0)] 3 1 [(0, 1, (.t 8)), (1, 1, (.t 10)), (2, 1, (.t 12))], none, none, []⟩, ⟨(some 14), .len false (.t 13), none, none, []⟩, ⟨(some 15), .mv (.v (.int .i64 0)), none, none, []⟩])
  (.block 0 (.loop (.seq (.reg [⟨(some 16), .bin .lss (.t 15) (.t 14), none, none, []⟩])
  (.seq (.cond (.t 16) .skip (.exit 0))
  (.seq (.block 1 (.seq (.reg [⟨(some 17), .iaddr 1 (.t 13) (.t 15), none, none, []⟩, ⟨(some 18), .load none (.t 17), none, none, []⟩, ⟨(some 6), .mv (.t 18), none, none, []⟩])
  (.seq (.reg [⟨(some 19), .mv (.t 6), none, none, []⟩, ⟨(some 20), .bin .neq (.t 19) (.v (.int .i64 0)), none, none, []⟩])
  (.cond (.t 20) (.seq (.reg [⟨(some 21), .build [(.int .i64 0), (.bool false), (.int .i64 0), (.int .i64 0), (.int .i64 0), (.int .i64 0), (.int .i64 0)] [], none, none, []⟩, ⟨(some 22), .mv (.t 6), none, none, []⟩, ⟨none, .store 7 (.t 2) (.t 21), none, none, []⟩, ⟨(some 3), .mv (.t 22), none, none, []⟩])
  .ret) .skip))))
  (.reg [⟨(some 23), .bin .add (.t 15) (.v (.int .i64 1)), none, none, []⟩, ⟨(some 15), .mv (.t 23), none, none, []⟩])))))))
  (.seq (.reg [⟨(some 24), .load (some 7) (.t 4), none, none, []⟩, ⟨none, .store 7 (.t 2) (.t 24), none, none, []⟩, ⟨(some 3), .mv (.v (.int .i64 0)), none, none, []⟩])
  .ret))))⟩
/-- pochoir/pochoirref09.Same -/
def s48 : SFn :=
 ⟨26, [.tmp 4],
  (.seq (.reg [⟨(some 4), .mv (.v (.bool false)), none, none, []⟩])
  (.seq (.seq (.reg [⟨(some 6), .mv (.t 0), none, none, []⟩, ⟨(some 7), .len false (.t 6), none, none, []⟩, ⟨(some 8), .mv (.t 1), none, none, []⟩, ⟨(some 9), .len false (.t 8), none, none, []⟩, ⟨(some 10), .bin .neq (.t 7) (.t 9), none, none, []⟩])
  (.cond (.t 10) (.seq (.reg [⟨(some 4), .mv (.v (.bool false)), none, none, []⟩])
  .ret) .skip))
  (.seq (.seq (.reg [⟨(some 5), .mv (.v (.int .i64 0)), none, none, []⟩])
  (.block 0 (.loop (.seq (.seq (.reg [⟨(some 11), .mv (.t 5), none, none, []⟩, ⟨(some 12), .mv (.t 0), none, none, []⟩, ⟨(some 13), .len false (.t 12), none, none, []⟩, ⟨(some 14), .bin .lss (.t 11) (.t 13), none, none, []⟩])
  (.cond (.t 14) .skip (.exit 0)))
  (.seq (.block 1 (.seq (.regd [⟨(some 17), .mv (.t 0), none, (some []), []⟩, ⟨(some 18), .mv (.t 5), none, (some []), []⟩, ⟨(some 19), .iaddr 2 (.t 17) (.t 18), none, (some []), []⟩, ⟨(some 20), .load (some 2) (.t 19), none, (some []), []⟩, ⟨(some 21), .mv (.t 1), none, (some []), []⟩, ⟨(some 22), .mv (.t 5), none, (some []), []⟩, ⟨(some 23), .iaddr 2 (.t 21) (.t 22), none, (some []), []⟩, ⟨(some 24), .load (some 2) (.t 23), none, (some []), []⟩, ⟨(some 25), .eqs 4 [2, 2] true (.t 20) (.t 24), none, (some []), []⟩])
  (.cond (.t 25) (.seq (.reg [⟨(some 4), .mv (.v (.bool false)), none, none, []⟩])
  .ret) .skip)))
  (.reg [⟨(some 15), .mv (.t 5), none, none, []⟩, ⟨(some 16), .bin .add (.t 15) (.v (.int .i64 1)), none, none, []⟩, ⟨(some 5), .mv (.t 16), none, none, []⟩]))))))
  (.seq (.reg [⟨(some 4), .mv (.v (.bool true)), none, none, []⟩])
  .ret))))⟩
/-- pochoir/pochoirref10.Make -/
def s49 : SFn :=
 ⟨60, [.tmp 2],
  (.seq (.reg [⟨(some 1), .box 71 (.t 0), none, none, []⟩, ⟨(some 2), .mv (.v .nils), none, none, []⟩])
  (.seq (.reg [⟨(some 3), .mv (.v (.int .i64 0)), none, none, []⟩])
  (.seq (.seq (.reg [⟨(some 7), .faddr 1 (.t 1), none, none, []⟩, ⟨(some 8), .load none (.t 7), none, none, []⟩])
  (.cond (.t 8) (.reg [⟨(some 3), .mv (.v (.int .i64 1)), none, none, []⟩]) .skip))
  (.seq (.regd [⟨(some 9), .call 99 [(.v (.int .i64 1))], none, none, [(none, (.t 1))]⟩, ⟨(some 10), .call 100 [(.v (.int .i64 10))], none, none, [(none, (.t 1))]⟩, ⟨(some 11), .bin .add (.t 9) (.t 10), none, (some []), []⟩, ⟨(some 12), .call 89 [(.v (.int .u32 1594834165)), (.v (.int .i64 4))], none, none, [(none, (.t 1))]⟩, ⟨(some 13), .bin .add (.t 11) (.t 12), none, (some []), []⟩, ⟨(some 14), .call 100 [(.v (.int .i64 2))], none, none, [(none, (.t 1))]⟩, ⟨(some 15), .bin .add (.t 13) (.t 14), none, (some []), []⟩, ⟨(some 16), .faddr 0 (.t 1), none, (some [0, 1, 3, 5]), []⟩, ⟨(some 17), .load none (.t 16), none, (some [0, 1, 3, 5]), []⟩, ⟨(some 18), .call 99 [(.t 17)], none, none, []⟩, ⟨(some 19), .bin .add (.t 15) (.t 18), none, (some []), []⟩, ⟨(some 20), .call 100 [(.v (.int .i64 30))], none, none, []⟩, ⟨(some 21), .bin .add (.t 19) (.t 20), none, (some []), []⟩, ⟨(some 22), .mv (.t 3), none, (some [0, 1, 3, 5, 9, 11]), []⟩, ⟨(some 23), .call 99 [(.t 22)], none, none, []⟩, ⟨(some 24), .bin .add (.t 21) (.t 23), none, (some []), []⟩, ⟨(some 25), .call 100 [(.v (.int .i64 2))], none, none, []⟩, ⟨(some 26), .bin .add (.t 24) (.t 25), none, (some []), []⟩, ⟨(some 4), .mv (.t 26), none, (some []), []⟩])
  (.seq (.regd [⟨(some 27), .call 89 [(.v (.int .u32 65536)), (.v (.int .i64 4))], none, none, [(none, (.t 1)), (none, (.t 1)), (none, (.t 1)), (none, (.t 1))]⟩, ⟨(some 28), .faddr 4 (.t 1), none, (some [0]), []⟩, ⟨(some 29), .load none (.t 28), none, (some [0]), []⟩, ⟨(some 30), .call 99 [(.t 29)], none, none, [(none, (.t 1)), (none, (.t 1)), (none, (.t 1))]⟩, ⟨(some 31), .bin .add (.t 27) (.t 30), none, (some []), []⟩, ⟨(some 32), .faddr 5 (.t 1), none, (some [0, 3]), []⟩, ⟨(some 33), .load none (.t 32), none, (some [0, 3]), []⟩, ⟨(some 34), .call 99 [(.t 33)], none, none, [(none, (.t 1)), (none, (.t 1))]⟩, ⟨(some 35), .bin .add (.t 31) (.t 34), none, (some []), []⟩, ⟨(some 36), .faddr 6 (.t 1), none, (some [0, 3, 7]), []⟩, ⟨(some 37), .load none (.t 36), none, (some [0, 3, 7]), []⟩, ⟨(some 38), .call 99 [(.t 37)], none, none, [(none, (.t 1))]⟩, ⟨(some 39), .bin .add (.t 35) (.t 38), none, (some []), []⟩, ⟨(some 40), .call 100 [(.v (.int .i64 24))], none, none, [(none, (.t 1))]⟩, ⟨(some 41), .bin .add (.t 39) (.t 40), none, (some []), []⟩, ⟨(some 42), .faddr 3 (.t 1), none, (some [0, 3, 7, 11, 13]), []⟩, ⟨(some 43), .load none (.t 42), none, (some [0, 3, 7, 11, 13]), []⟩, ⟨(some 44), .call 99 [(.t 43)], none, none, []⟩, ⟨(some 45), .bin .add (.t 41) (.t 44), none, (some []), []⟩, ⟨(some 5), .mv (.t 45), none, (some []), []⟩])
  (.seq (.regd [⟨(some 46), .call 89 [(.v (.int .u32 65536)), (.v (.int .i64 4))], none, none, [(none, (.t 1))]⟩, ⟨(some 47), .faddr 2 (.t 1), none, (some [0]), []⟩, ⟨(some 48), .load none (.t 47), none, (some [0]), []⟩, ⟨(some 49), .call 99 [(.t 48)], none, none, []⟩, ⟨(some 50), .bin .add (.t 46) (.t 49), none, (some []), []⟩, ⟨(some 51), .call 100 [(.v (.int .i64 26))], none, none, []⟩, ⟨(some 52), .bin .add (.t 50) (.t 51), none, (some []), []⟩, ⟨(some 6), .mv (.t 52), none, (some []), []⟩])
  (.seq (.reg [⟨(some 53), .mv (.t 4), none, none, []⟩, ⟨(some 54), .build [(.str ⟨#[]⟩), (.str ⟨#[]⟩)] [(0, 1, (.v (.str ⟨#[104, 101, 97, 100]⟩))), (1, 1, (.t 53))], none, none, []⟩, ⟨(some 55), .mv (.t 5), none, none, []⟩, ⟨(some 56), .build [(.str ⟨#[]⟩), (.str ⟨#[]⟩)] [(0, 1, (.v (.str ⟨#[104, 104, 101, 97]⟩))), (1, 1, (.t 55))], none, none, []⟩, ⟨(some 57), .mv (.t 6), none, none, []⟩, ⟨(some 58), .build [(.str ⟨#[]⟩), (.str ⟨#[]⟩)] [(0, 1, (.v (.str ⟨#[109, 97, 120, 112]⟩))), (1, 1, (.t 57))], none, none, []⟩, ⟨(some 59), .bsl 95 [(.str ⟨#[]⟩), (.str ⟨#[]⟩), (.str ⟨#[]⟩), (.str ⟨#[]⟩), (.str ⟨#[]⟩), (.str ⟨#[]⟩)] 3 2 [(0, 2, (.t 54)), (2, 2, (.t 56)), (4, 2, (.t 58))], none, none, []⟩, ⟨(some 2), .mv (.t 59), none, none, []⟩])
  .ret)))))))⟩
/-- pochoir/pochoirref10.Parse -/
def s50 : SFn :=
 ⟨57, [.cell 2 (some 7), .tmp 3],
  (.seq (.reg [⟨(some 2), .box 71 (.v (.agg [(.int .i64 0), (.bool false), (.int .i64 0), (.int .i64 0), (.int .i64 0), (.int .i64 0), (.int .i64 0)])), none, none, []⟩, ⟨(some 3), .mv (.v (.int .i64 0)), none, none, []⟩])
  (.seq (.reg [⟨(some 10), .build [(.int .i64 0), (.bool false), (.int .i64 0), (.int .i64 0), (.int .i64 0), (.int .i64 0), (.int .i64 0)] [], none, none, []⟩, ⟨(some 4), .box 71 (.v (.agg [(.int .i64 0), (.bool false), (.int .i64 0), (.int .i64 0), (.int .i64 0), (.int .i64 0), (.int .i64 0)])), none, none, []⟩, ⟨none, .store 7 (.t 4) (.t 10), none, none, []⟩])
  (.seq (.reg [⟨(some 5), .mv (.v (.int .i64 0)), none, none, []⟩])
  (.seq (.reg [⟨(some 11), .bsl 9 [(.str ⟨#[]⟩), (.str ⟨#[]⟩), (.str ⟨#[]⟩)] 3 1 [(0, 1, (.v (.str ⟨#[104, 101, 97, 100]⟩))), (1, 1, (.v (.str ⟨#[109, 97, 120, 112]⟩))), (2, 1, (.v (.str ⟨#[104, 104, 101, 97]⟩)))], none, none, []⟩, ⟨(some 6), .mv (.t 11), none, none, []⟩])
  (.seq (.seq (.reg [⟨(some 7), .mv (.v (.int .i64 0)), none, none, []⟩])
  (.block 0 (.loop (.seq (.seq (.reg [⟨(some 12), .mv (.t 7), none, none, []⟩, ⟨(some 13), .bin .lss (.t 12) (.v (.int .i64 3)), none, none, []⟩])
  (.cond (.t 13) .skip (.exit 0)))
  (.seq (.block 1 (.seq (.reg [⟨(some 17), .mv (.t 0), none, none, []⟩, ⟨(some 18), .mv (.t 6), none, none, []⟩, ⟨(some 19), .mv (.t 7), none, none, []⟩, ⟨(some 20), .iaddr 1 (.t 18) (.t 19), none, none, []⟩, ⟨(some 21), .load none (.t 20), none, none, []⟩, ⟨(some 22), .call 101 [(.t 17), (.t 21)], none, none, []⟩, ⟨(some 16), .mv (.t 22), none, none, []⟩, ⟨(some 23), .extract (.t 16) 0, none, none, []⟩, ⟨(some 24), .extract (.t 16) 1, none, none, []⟩, ⟨(some 8), .mv (.t 23), none, none, []⟩, ⟨(some 9), .mv (.t 24), none, none, []⟩])
  (.seq (.seq (.reg [⟨(some 25), .mv (.t 9), none, none, []⟩, ⟨(some 26), .un .not (.t 25), none, none, []⟩])
  (.cond (.t 26) (.seq (.reg [⟨(some 27), .build [(.int .i64 0), (.bool false), (.int .i64 0), (.int .i64 0), (.int .i64 0), (.int .i64 0), (.int .i64 0)] [], none, none, []⟩, ⟨none, .store 7 (.t 2) (.t 27), none, none, []⟩, ⟨(some 3), .mv (.v (.int .i64 7)), none, none, []⟩])
  .ret) .skip))
  (.seq (.seq (.reg [⟨(some 28), .mv (.t 7), none, none, []⟩, ⟨(some 29), .bin .eql (.t 28) (.v (.int .i64 0)), none, none, []⟩])
  (.cond (.t 29) (.reg [⟨(some 31), .mv (.t 8), none, none, []⟩, ⟨(some 32), .load (some 7) (.t 4), none, none, []⟩, ⟨(some 33), .call 102 [(.t 31), (.t 32)], none, none, []⟩, ⟨(some 30), .mv (.t 33), none, none, []⟩, ⟨(some 34), .extract (.t 30) 0, none, none, []⟩, ⟨(some 35), .extract (.t 30) 1, none, none, []⟩, ⟨none, .store 7 (.t 4) (.t 34), none, none, []⟩, ⟨(some 5), .mv (.t 35), none, none, []⟩]) .skip))
  (.seq (.seq (.reg [⟨(some 36), .mv (.t 7), none, none, []⟩, ⟨(some 37), .bin .eql (.t 36) (.v (.int .i64 1)), none, none, []⟩])
  (.cond (.t 37) (.reg [⟨(some 39), .mv (.t 8), none, none, []⟩, ⟨(some 40), .load (some 7) (.t 4), none, none, []⟩, ⟨(some 41), .call 103 [(.t 39), (.t 40)], none, none, []⟩, ⟨(some 38), .mv (.t 41), none, none, []⟩, ⟨(some 42), .extract (.t 38) 0, none, none, []⟩, ⟨(some 43), .extract (.t 38) 1, none, none, []⟩, ⟨none, .store 7 (.t 4) (.t 42), none, none, []⟩, ⟨(some 5), .mv (.t 43), none, none, []⟩]) .skip))
  (.seq (.seq (.reg [⟨(some 44), .mv (.t 7), none, none, []⟩, ⟨(some 45), .bin .eql (.t 44) (.v (.int .i64 2)), none, none, []⟩])
  (.cond (.t 45) (.reg [⟨(some 47), .mv (.t 8), none, none, []⟩, ⟨(some 48), .load (some 7) (.t 4), none, none, []⟩, ⟨(some 49), .call 104 [(.t 47), (.t 48)], none, none, []⟩, ⟨(some 46), .mv (.t 49), none, none, []⟩, ⟨(some 50), .extract (.t 46) 0, none, none, []⟩, ⟨(some 51), .extract (.t 46) 1, none, none, []⟩, ⟨none, .store 7 (.t 4) (.t 50), none, none, []⟩, ⟨(some 5), .mv (.t 51), none, none, []⟩]) .skip))
  (.seq (.reg [⟨(some 52), .mv (.t 5), none, none, []⟩, ⟨(some 53), .bin .neq (.t 52) (.v (.int .i64 0)), none, none, []⟩])
  (.cond (.t 53) (.seq (.reg [⟨(some 54), .build [(.int .i64 0), (.bool false), (.int .i64 0), (.int .i64 0), (.int .i64 0), (.int .i64 0), (.int .i64 0)] [], none, none, []⟩, ⟨(some 55), .mv (.t 5), none, none, []⟩, ⟨none, .store 7 (.t 2) (.t 54), none, none, []⟩, ⟨(some 3), .mv (.t 55), none, none, []⟩])
  .ret) .skip))))))))
  (.reg [⟨(some 14), .mv (.t 7), none, none, []⟩, ⟨(some 15), .bin .add (.t 14) (.v (.int .i64 1)), none, none, []⟩, ⟨(some 7), .mv (.t 15), none, none, []⟩]))))))
  (.seq (.reg [⟨(some 56), .load (some 7) (.t 4), none, none, []⟩, ⟨none, .store 7 (.t 2) (.t 56), none, none, []⟩, ⟨(some 3), .mv (.v (.int .i64 0)), none, none, []⟩])
  .ret))))))⟩
/-- pochoir/metric.Loca -/
def s51 : SFn :=
 ⟨64, [.tmp 4, .tmp 5],
  (.seq (.reg [⟨(some 2), .box 71 (.t 0), none, none, []⟩, ⟨(some 4), .mv (.v (.str ⟨#[]⟩)), none, none, []⟩, ⟨(some 5), .mv (.v (.int .i64 0)), none, none, []⟩])
  (.seq (.seq (.reg [⟨(some 10), .load (some 7) (.t 2), none, none, []⟩, ⟨(some 11), .call 45 [(.t 10)], none, none, []⟩, ⟨(some 12), .un .not (.t 11), none, none, []⟩, ⟨(some 13), .mv (.t 12), none, none, []⟩, ⟨(some 14), .mv (.t 1), (some (13, false)), none, []⟩, ⟨(some 15), .len false (.t 14), (some (13, false)), none, []⟩, ⟨(some 16), .faddr 2 (.t 2), (some (13, false)), none, []⟩, ⟨(some 17), .load none (.t 16), (some (13, false)), none, []⟩, ⟨(some 18), .bin .add (.t 17) (.v (.int .i64 1)), (some (13, false)), none, []⟩, ⟨(some 19), .bin .neq (.t 15) (.t 18), (some (13, false)), none, []⟩, ⟨(some 20), .pick (.t 13) (.v (.bool true)) (.t 19), none, none, []⟩])
  (.cond (.t 20) (.seq (.reg [⟨(some 4), .mv (.v (.str ⟨#[]⟩)), none, none, []⟩, ⟨(some 5), .mv (.v (.int .i64 1)), none, none, []⟩])
  .ret) .skip))
  (.seq (.reg [⟨(some 6), .box 132 (.v (.agg [.nilp, .nils])), none, none, []⟩])
  (.seq (.reg [⟨(some 7), .mv (.v (.int .i64 0)), none, none, []⟩])
  (.seq (.seq (.reg [⟨(some 21), .mv (.t 1), none, none, []⟩, ⟨(some 22), .len false (.t 21), none, none, []⟩, ⟨(some 23), .mv (.v (.int .i64 0)), none, none, []⟩])
  (.block 0 (.loop (.seq (.reg [⟨(some 24), .bin .lss (.t 23) (.t 22), none, none, []⟩])
  (.seq (.cond (.t 24) .skip (.exit 0))
  (.seq (.block 1 (.seq (.reg [⟨(some 25), .iaddr 1 (.t 21) (.t 23), none, none, []⟩, ⟨(some 26), .load none (.t 25), none, none, []⟩, ⟨(some 9), .mv (.t 26), none, none, []⟩])
  (.seq (.block 2 (.seq (.reg [⟨(some 33), .mv (.t 9), none, none, []⟩, ⟨(some 34), .mv (.t 7), none, none, []⟩, ⟨(some 35), .bin .lss (.t 33) (.t 34), none, none, []⟩, ⟨(some 36), .mv (.t 35), none, none, []⟩, ⟨(some 37), .mv (.t 9), (some (36, false)), none, []⟩, ⟨(some 38), .bin .gtr (.t 37) (.v (.int .i64 1048576)), (some (36, false)), none, []⟩, ⟨(some 39), .pick (.t 36) (.v (.bool true)) (.t 38), none, none, []⟩, ⟨(some 40), .mv (.t 39), none, none, []⟩, ⟨(some 41), .faddr 1 (.t 2), (some (40, false)), none, []⟩, ⟨(some 42), .load none (.t 41), (some (40, false)), none, []⟩, ⟨(some 43), .un .not (.t 42), (some (40, false)), none, []⟩, ⟨(some 44), .mv (.t 43), (some (40, false)), none, []⟩, ⟨(some 45), .mv (.t 9), (some (44, true)), none, []⟩, ⟨(some 46), .bin .and (.t 45) (.v (.int .i64 1)), (some (44, true)), none, []⟩, ⟨(some 47), .bin .neq (.t 46) (.v (.int .i64 0)), (some (44, true)), none, []⟩, ⟨(some 48), .mv (.t 47), (some (44, true)), none, []⟩, ⟨(some 49), .mv (.t 9), (some (48, false)), none, []⟩, ⟨(some 50), .bin .gtr (.t 49) (.v (.int .i64 131070)), (some (48, false)), none, []⟩, ⟨(some 51), .pick (.t 48) (.v (.bool true)) (.t 50), (some (44, true)), none, []⟩, ⟨(some 52), .pick (.t 44) (.t 51) (.v (.bool false)), (some (40, false)), none, []⟩, ⟨(some 53), .pick (.t 40) (.v (.bool true)) (.t 52), none, none, []⟩, ⟨(some 32), .mv (.t 53), none, none, []⟩])
  (.cond (.t 32) (.seq (.reg [⟨(some 4), .mv (.v (.str ⟨#[]⟩)), none, none, []⟩, ⟨(some 5), .mv (.v (.int .i64 1)), none, none, []⟩])
  .ret) (.seq (.reg [⟨(some 55), .faddr 1 (.t 2), none, none, []⟩, ⟨(some 56), .load none (.t 55), none, none, []⟩, ⟨(some 54), .mv (.t 56), none, none, []⟩])
  (.cond (.t 54) (.reg [⟨(some 57), .mv (.t 9), none, none, []⟩, ⟨(some 58), .conv .u32 (.t 57), none, none, []⟩, ⟨(some 59), .call 92 [(.t 58)], none, none, []⟩, ⟨(some 60), .call 86 [(.t 6), (.t 59)], none, none, []⟩]) (.reg [⟨(some 27), .mv (.t 9), none, none, []⟩, ⟨(some 28), .bin .quo (.t 27) (.v (.int .i64 2)), none, none, []⟩, ⟨(some 29), .conv .u16 (.t 28), none, none, []⟩, ⟨(some 30), .call 87 [(.t 29)], none, none, []⟩, ⟨(some 31), .call 86 [(.t 6), (.t 30)], none, none, []⟩]))))))
  (.reg [⟨(some 61), .mv (.t 9), none, none, []⟩, ⟨(some 7), .mv (.t 61), none, none, []⟩]))))
  (.reg [⟨(some 62), .bin .add (.t 23) (.v (.int .i64 1)), none, none, []⟩, ⟨(some 23), .mv (.t 62), none, none, []⟩])))))))
  (.seq (.reg [⟨(some 63), .call 88 [(.t 6)], none, none, []⟩, ⟨(some 4), .mv (.t 63), none, none, []⟩, ⟨(some 5), .mv (.v (.int .i64 0)), none, none, []⟩])
  .ret))))))⟩
/-- pochoir/pochoirref11.Loca -/
def s52 : SFn :=
 ⟨67, [.tmp 4, .tmp 5],
  (.seq (.reg [⟨(some 2), .box 71 (.t 0), none, none, []⟩, ⟨(some 4), .mv (.v (.str ⟨#[]⟩)), none, none, []⟩, ⟨(some 5), .mv (.v (.int .i64 0)), none, none, []⟩])
  (.seq (.seq (.reg [⟨(some 10), .load (some 7) (.t 2), none, none, []⟩, ⟨(some 11), .call 46 [(.t 10)], none, none, []⟩, ⟨(some 12), .un .not (.t 11), none, none, []⟩, ⟨(some 13), .mv (.t 12), none, none, []⟩, ⟨(some 14), .mv (.t 1), (some (13, false)), none, []⟩, ⟨(some 15), .len false (.t 14), (some (13, false)), none, []⟩, ⟨(some 16), .faddr 2 (.t 2), (some (13, false)), none, []⟩, ⟨(some 17), .load none (.t 16), (some (13, false)), none, []⟩, ⟨(some 18), .bin .add (.t 17) (.v (.int .i64 1)), (some (13, false)), none, []⟩, ⟨(some 19), .bin .neq (.t 15) (.t 18), (some (13, false)), none, []⟩, ⟨(some 20), .pick (.t 13) (.v (.bool true)) (.t 19), none, none, []⟩])
  (.cond (.t 20) (.seq (.reg [⟨(some 4), .mv (.v (.str ⟨#[]⟩)), none, none, []⟩, ⟨(some 5), .mv (.v (.int .i64 1)), none, none, []⟩])
  .ret) .skip))
  (.seq (.reg [⟨(some 6), .mv (.v (.str ⟨#[]⟩)), none, none, []⟩])
  (.seq (.reg [⟨(some 7), .mv (.v (.int .i64 0)), none, none, []⟩])
  (.seq (.seq (.reg [⟨(some 8), .mv (.v (.int .i64 0)), none, none, []⟩])
  (.block 0 (.loop (.seq (.seq (.reg [⟨(some 21), .mv (.t 8), none, none, []⟩, ⟨(some 22), .mv (.t 1), none, none, []⟩, ⟨(some 23), .len false (.t 22), none, none, []⟩, ⟨(some 24), .bin .lss (.t 21) (.t 23), none, none, []⟩])
  (.cond (.t 24) .skip (.exit 0)))
  (.seq (.block 1 (.seq (.reg [⟨(some 27), .mv (.t 1), none, none, []⟩, ⟨(some 28), .mv (.t 8), none, none, []⟩, ⟨(some 29), .iaddr 1 (.t 27) (.t 28), none, none, []⟩, ⟨(some 30), .load none (.t 29), none, none, []⟩, ⟨(some 9), .mv (.t 30), none, none, []⟩])
  (.seq (.seq (.reg [⟨(some 31), .mv (.t 9), none, none, []⟩, ⟨(some 32), .mv (.t 7), none, none, []⟩, ⟨(some 33), .bin .lss (.t 31) (.t 32), none, none, []⟩, ⟨(some 34), .mv (.t 33), none, none, []⟩, ⟨(some 35), .mv (.t 9), (some (34, false)), none, []⟩, ⟨(some 36), .bin .gtr (.t 35) (.v (.int .i64 1048576)), (some (34, false)), none, []⟩, ⟨(some 37), .pick (.t 34) (.v (.bool true)) (.t 36), none, none, []⟩, ⟨(some 38), .mv (.t 37), none, none, []⟩, ⟨(some 39), .faddr 1 (.t 2), (some (38, false)), none, []⟩, ⟨(some 40), .load none (.t 39), (some (38, false)), none, []⟩, ⟨(some 41), .un .not (.t 40), (some (38, false)), none, []⟩, ⟨(some 42), .mv (.t 41), (some (38, false)), none, []⟩, ⟨(some 43), .mv (.t 9), (some (42, true)), none, []⟩, ⟨(some 44), .bin .rem (.t 43) (.v (.int .i64 2)), (some (42, true)), none, []⟩, ⟨(some 45), .bin .neq (.t 44) (.v (.int .i64 0)), (some (42, true)), none, []⟩, ⟨(some 46), .mv (.t 45), (some (42, true)), none, []⟩, ⟨(some 47), .mv (.t 9), (some (46, false)), none, []⟩, ⟨(some 48), .bin .gtr (.t 47) (.v (.int .i64 131070)), (some (46, false)), none, []⟩, ⟨(some 49), .pick (.t 46) (.v (.bool true)) (.t 48), (some (42, true)), none, []⟩, ⟨(some 50), .pick (.t 42) (.t 49) (.v (.bool false)), (some (38, false)), none, []⟩, ⟨(some 51), .pick (.t 38) (.v (.bool true)) (.t 50), none, none, []⟩])
  (.cond (.t 51) (.seq (.reg [⟨(some 4), .mv (.v (.str ⟨#[]⟩)), none, none, []⟩, ⟨(some 5), .mv (.v (.int .i64 1)), none, none, []⟩])
  .ret) .skip))
  (.seq (.reg [⟨(some 52), .mv (.t 9), none, none, []⟩, ⟨(some 7), .mv (.t 52), none, none, []⟩])
  (.seq (.reg [⟨(some 53), .faddr 1 (.t 2), none, none, []⟩, ⟨(some 54), .load none (.t 53), none, none, []⟩])
  (.cond (.t 54) (.reg [⟨(some 55), .mv (.t 6), none, none, []⟩, ⟨(some 56), .mv (.t 9), none, none, []⟩, ⟨(some 57), .conv .u32 (.t 56), none, none, []⟩, ⟨(some 58), .call 89 [(.t 57), (.v (.int .i64 4))], none, none, []⟩, ⟨(some 59), .bin .add (.t 55) (.t 58), none, none, []⟩, ⟨(some 6), .mv (.t 59), none, none, []⟩]) (.reg [⟨(some 60), .mv (.t 6), none, none, []⟩, ⟨(some 61), .mv (.t 9), none, none, []⟩, ⟨(some 62), .bin .quo (.t 61) (.v (.int .i64 2)), none, none, []⟩, ⟨(some 63), .conv .u32 (.t 62), none, none, []⟩, ⟨(some 64), .call 89 [(.t 63), (.v (.int .i64 2))], none, none, []⟩, ⟨(some 65), .bin .add (.t 60) (.t 64), none, none, []⟩, ⟨(some 6), .mv (.t 65), none, none, []⟩])))))))
  (.reg [⟨(some 25), .mv (.t 8), none, none, []⟩, ⟨(some 26), .bin .add (.t 25) (.v (.int .i64 1)), none, none, []⟩, ⟨(some 8), .mv (.t 26), none, none, []⟩]))))))
  (.seq (.reg [⟨(some 66), .mv (.t 6), none, none, []⟩, ⟨(some 4), .mv (.t 66), none, none, []⟩, ⟨(some 5), .mv (.v (.int .i64 0)), none, none, []⟩])
  .ret))))))⟩
/-- pochoir/octet.New -/
def s80 : SFn :=
 ⟨6, [.tmp 2],
  (.seq (.reg [⟨(some 2), .mv (.v .nilp), none, none, []⟩])
  (.seq (.reg [⟨(some 3), .mv (.t 0), none, none, []⟩, ⟨(some 4), .build [(.str ⟨#[]⟩), (.int .i64 0), (.bool false)] [(0, 1, (.t 3))], none, none, []⟩, ⟨(some 5), .box 155 (.t 4), none, none, []⟩, ⟨(some 2), .mv (.t 5), none, none, []⟩])
  .ret))⟩
/-- (*pochoir/octet.Reader).U16 -/
def s81 : SFn :=
 ⟨7, [.tmp 2],
  (.seq (.reg [⟨(some 2), .mv (.v (.int .u16 0)), none, none, []⟩])
  (.seq (.reg [⟨(some 3), .mv (.t 0), none, none, []⟩, ⟨(some 4), .call 114 [(.t 3), (.v (.int .i64 2))], none, none, []⟩, ⟨(some 5), .call 113 [(.t 4)], none, none, []⟩, ⟨(some 6), .conv .u16 (.t 5), none, none, []⟩, ⟨(some 2), .mv (.t 6), none, none, []⟩])
  .ret))⟩
/-- (*pochoir/octet.Reader).Skip -/
def s82 : SFn :=
 ⟨7, [],
  (.reg [⟨(some 4), .mv (.t 0), none, none, []⟩, ⟨(some 5), .mv (.t 1), none, none, []⟩, ⟨(some 6), .call 114 [(.t 4), (.t 5)], none, none, []⟩])⟩
/-- pochoir/pochoirref07.U16 -/
def s83 : SFn :=
 ⟨18, [.tmp 4, .tmp 5],
  (.seq (.reg [⟨(some 4), .mv (.v (.int .u16 0)), none, none, []⟩, ⟨(some 5), .mv (.v (.int .i64 0)), none, none, []⟩])
  (.seq (.reg [⟨(some 9), .mv (.t 0), none, none, []⟩, ⟨(some 10), .mv (.t 1), none, none, []⟩, ⟨(some 11), .call 115 [(.t 9), (.t 10), (.v (.int .i64 2))], none, none, []⟩, ⟨(some 8), .mv (.t 11), none, none, []⟩, ⟨(some 12), .extract (.t 8) 0, none, none, []⟩, ⟨(some 13), .extract (.t 8) 1, none, none, []⟩, ⟨(some 6), .mv (.t 12), none, none, []⟩, ⟨(some 7), .mv (.t 13), none, none, []⟩])
  (.seq (.reg [⟨(some 14), .mv (.t 6), none, none, []⟩, ⟨(some 15), .call 116 [(.t 14)], none, none, []⟩, ⟨(some 16), .conv .u16 (.t 15), none, none, []⟩, ⟨(some 17), .mv (.t 7), none, none, []⟩, ⟨(some 4), .mv (.t 16), none, none, []⟩, ⟨(some 5), .mv (.t 17), none, none, []⟩])
  .ret)))⟩
/-- pochoir/metric.place -/
def s84 : SFn :=
 ⟨14, [.tmp 4],
  (.seq (.reg [⟨(some 2), .box 71 (.t 0), none, none, []⟩, ⟨(some 4), .mv (.v (.int .i64 0)), none, none, []⟩])
  (.seq (.seq (.reg [⟨(some 5), .faddr 1 (.t 2), none, none, []⟩, ⟨(some 6), .load none (.t 5), none, none, []⟩])
  (.cond (.t 6) (.seq (.reg [⟨(some 7), .mv (.t 1), none, none, []⟩, ⟨(some 8), .call 117 [(.t 7)], none, none, []⟩, ⟨(some 9), .conv .i64 (.t 8), none, none, []⟩, ⟨(some 4), .mv (.t 9), none, none, []⟩])
  .ret) .skip))
  (.seq (.reg [⟨(some 10), .mv (.t 1), none, none, []⟩, ⟨(some 11), .call 81 [(.t 10)], none, none, []⟩, ⟨(some 12), .conv .i64 (.t 11), none, none, []⟩, ⟨(some 13), .bin .mul (.v (.int .i64 2)) (.t 12), none, none, []⟩, ⟨(some 4), .mv (.t 13), none, none, []⟩])
  .ret)))⟩
/-- pochoir/pochoirref07.U32 -/
def s85 : SFn :=
 ⟨17, [.tmp 4, .tmp 5],
  (.seq (.reg [⟨(some 4), .mv (.v (.int .u32 0)), none, none, []⟩, ⟨(some 5), .mv (.v (.int .i64 0)), none, none, []⟩])
  (.seq (.reg [⟨(some 9), .mv (.t 0), none, none, []⟩, ⟨(some 10), .mv (.t 1), none, none, []⟩, ⟨(some 11), .call 115 [(.t 9), (.t 10), (.v (.int .i64 4))], none, none, []⟩, ⟨(some 8), .mv (.t 11), none, none, []⟩, ⟨(some 12), .extract (.t 8) 0, none, none, []⟩, ⟨(some 13), .extract (.t 8) 1, none, none, []⟩, ⟨(some 6), .mv (.t 12), none, none, []⟩, ⟨(some 7), .mv (.t 13), none, none, []⟩])
  (.seq (.reg [⟨(some 14), .mv (.t 6), none, none, []⟩, ⟨(some 15), .call 116 [(.t 14)], none, none, []⟩, ⟨(some 16), .mv (.t 7), none, none, []⟩, ⟨(some 4), .mv (.t 15), none, none, []⟩, ⟨(some 5), .mv (.t 16), none, none, []⟩])
  .ret)))⟩
/-- (*strings.Builder).WriteString -/
def s86 : SFn :=
 ⟨19, [.tmp 4, .tmp 5],
  (.seq (.reg [⟨(some 4), .mv (.v (.int .i64 0)), none, none, []⟩, ⟨(some 5), .mv (.v .nili), none, none, []⟩])
  (.seq (.reg [⟨(some 6), .mv (.t 0), none, none, []⟩, ⟨(some 7), .call 118 [(.t 6)], none, none, []⟩])
  (.seq (.reg [⟨(some 8), .mv (.t 0), none, none, []⟩, ⟨(some 9), .mv (.t 0), none, none, []⟩, ⟨(some 10), .nilck (.t 9), none, none, []⟩, ⟨(some 11), .faddr 1 (.t 10), none, none, []⟩, ⟨(some 12), .load none (.t 11), none, none, []⟩, ⟨(some 13), .mv (.t 1), none, none, []⟩, ⟨(some 14), .app 5 1 (.t 12) (.t 13), none, none, []⟩, ⟨(some 15), .nilck (.t 8), none, none, []⟩, ⟨(some 16), .faddr 1 (.t 15), none, none, []⟩, ⟨none, .store 1 (.t 16) (.t 14), none, none, []⟩])
  (.seq (.reg [⟨(some 17), .mv (.t 1), none, none, []⟩, ⟨(some 18), .len true (.t 17), none, none, []⟩, ⟨(some 4), .mv (.t 18), none, none, []⟩, ⟨(some 5), .mv (.v .nili), none, none, []⟩])
  .ret))))⟩
/-- pochoir/octet.P16 -/
def s87 : SFn :=
 ⟨10, [.tmp 2],
  (.seq (.reg [⟨(some 2), .mv (.v (.str ⟨#[]⟩)), none, none, []⟩])
  (.seq (.reg [⟨(some 3), .mv (.t 0), none, none, []⟩, ⟨(some 4), .bin .shr (.t 3) (.v (.int .u64 8)), none, none, []⟩, ⟨(some 5), .conv .u8 (.t 4), none, none, []⟩, ⟨(some 6), .mv (.t 0), none, none, []⟩, ⟨(some 7), .conv .u8 (.t 6), none, none, []⟩, ⟨(some 8), .bsl 5 [(.int .u8 0), (.int .u8 0)] 2 1 [(0, 1, (.t 5)), (1, 1, (.t 7))], none, none, []⟩, ⟨(some 9), .b2s (.t 8), none, none, []⟩, ⟨(some 2), .mv (.t 9), none, none, []⟩])
  .ret))⟩
/-- (*strings.Builder).String -/
def s88 : SFn :=
 ⟨14, [.tmp 2],
  (.seq (.reg [⟨(some 2), .mv (.v (.str ⟨#[]⟩)), none, none, []⟩])
  (.seq (.regd [⟨(some 3), .mv (.t 0), none, (some []), []⟩, ⟨(some 4), .nilck (.t 3), none, (some []), []⟩, ⟨(some 5), .faddr 1 (.t 4), none, (some []), []⟩, ⟨(some 6), .load none (.t 5), none, (some []), []⟩, ⟨(some 7), .sdata (.t 6), none, (some []), []⟩, ⟨(some 8), .mv (.t 0), none, (some []), []⟩, ⟨(some 9), .nilck (.t 8), none, (some []), []⟩, ⟨(some 10), .faddr 1 (.t 9), none, (some []), []⟩, ⟨(some 11), .load none (.t 10), none, (some []), []⟩, ⟨(some 12), .len false (.t 11), none, (some []), []⟩, ⟨(some 13), .ustr 5 (.t 7) (.t 12), none, none, []⟩, ⟨(some 2), .mv (.t 13), none, (some []), []⟩])
  .ret))⟩
/-- pochoir/pochoirref07.Put -/
def s89 : SFn :=
 ⟨22, [.tmp 4],
  (.seq (.reg [⟨(some 4), .mv (.v (.str ⟨#[]⟩)), none, none, []⟩])
  (.seq (.reg [⟨(some 5), .mv (.v (.str ⟨#[]⟩)), none, none, []⟩])
  (.seq (.seq (.reg [⟨(some 6), .mv (.v (.int .i64 0)), none, none, []⟩])
  (.block 0 (.loop (.seq (.seq (.reg [⟨(some 7), .mv (.t 6), none, none, []⟩, ⟨(some 8), .mv (.t 1), none, none, []⟩, ⟨(some 9), .bin .lss (.t 7) (.t 8), none, none, []⟩])
  (.cond (.t 9) .skip (.exit 0)))
  (.seq (.block 1 (.seq (.reg [⟨(some 12), .mv (.t 0), none, none, []⟩, ⟨(some 13), .bin .rem (.t 12) (.v (.int .u32 256)), none, none, []⟩, ⟨(some 14), .conv .u8 (.t 13), none, none, []⟩, ⟨(some 15), .bsl 5 [(.int .u8 0)] 1 1 [(0, 1, (.t 14))], none, none, []⟩, ⟨(some 16), .b2s (.t 15), none, none, []⟩, ⟨(some 17), .mv (.t 5), none, none, []⟩, ⟨(some 18), .bin .add (.t 16) (.t 17), none, none, []⟩, ⟨(some 5), .mv (.t 18), none, none, []⟩])
  (.reg [⟨(some 19), .mv (.t 0), none, none, []⟩, ⟨(some 20), .bin .quo (.t 19) (.v (.int .u32 256)), none, none, []⟩, ⟨(some 0), .mv (.t 20), none, none, []⟩])))
  (.reg [⟨(some 10), .mv (.t 6), none, none, []⟩, ⟨(some 11), .bin .add (.t 10) (.v (.int .i64 1)), none, none, []⟩, ⟨(some 6), .mv (.t 11), none, none, []⟩]))))))
  (.seq (.reg [⟨(some 21), .mv (.t 5), none, none, []⟩, ⟨(some 4), .mv (.t 21), none, none, []⟩])
  .ret))))⟩
/-- (pochoir/head.page).put -/
def s90 : SFn :=
 ⟨11, [],
  (.reg [⟨(some 6), .mv (.t 0), none, none, []⟩, ⟨(some 7), .mv (.t 1), none, none, []⟩, ⟨(some 8), .slc 1 (.t 6) (some (.t 7)) none none, none, none, []⟩, ⟨(some 9), .mv (.t 2), none, none, []⟩, ⟨(some 10), .copy 1 (.t 8) (.t 9), none, none, []⟩])⟩
/-- pochoir/head.p16 -/
def s91 : SFn :=
 ⟨6, [.tmp 2],
  (.seq (.reg [⟨(some 2), .mv (.v (.str ⟨#[]⟩)), none, none, []⟩])
  (.seq (.reg [⟨(some 3), .mv (.t 0), none, none, []⟩, ⟨(some 4), .conv .u16 (.t 3), none, none, []⟩, ⟨(some 5), .call 87 [(.t 4)], none, none, []⟩, ⟨(some 2), .mv (.t 5), none, none, []⟩])
  .ret))⟩
/-- pochoir/octet.P32 -/
def s92 : SFn :=
 ⟨11, [.tmp 2],
  (.seq (.reg [⟨(some 2), .mv (.v (.str ⟨#[]⟩)), none, none, []⟩])
  (.seq (.reg [⟨(some 3), .mv (.t 0), none, none, []⟩, ⟨(some 4), .bin .shr (.t 3) (.v (.int .u64 16)), none, none, []⟩, ⟨(some 5), .conv .u16 (.t 4), none, none, []⟩, ⟨(some 6), .call 87 [(.t 5)], none, none, []⟩, ⟨(some 7), .mv (.t 0), none, none, []⟩, ⟨(some 8), .conv .u16 (.t 7), none, none, []⟩, ⟨(some 9), .call 87 [(.t 8)], none, none, []⟩, ⟨(some 10), .bin .add (.t 6) (.t 9), none, none, []⟩, ⟨(some 2), .mv (.t 10), none, none, []⟩])
  .ret))⟩
/-- pochoir/head.within -/
def s93 : SFn :=
 ⟨15, [.tmp 6],
  (.seq (.reg [⟨(some 6), .mv (.v (.bool false)), none, none, []⟩])
  (.seq (.reg [⟨(some 7), .mv (.t 0), none, none, []⟩, ⟨(some 8), .mv (.t 1), none, none, []⟩, ⟨(some 9), .bin .geq (.t 7) (.t 8), none, none, []⟩, ⟨(some 10), .mv (.t 9), none, none, []⟩, ⟨(some 11), .mv (.t 0), (some (10, true)), none, []⟩, ⟨(some 12), .mv (.t 2), (some (10, true)), none, []⟩, ⟨(some 13), .bin .leq (.t 11) (.t 12), (some (10, true)), none, []⟩, ⟨(some 14), .pick (.t 10) (.t 13) (.v (.bool false)), none, none, []⟩, ⟨(some 6), .mv (.t 14), none, none, []⟩])
  .ret))⟩
/-- pochoir/head.short -/
def s94 : SFn :=
 ⟨5, [.tmp 2],
  (.seq (.reg [⟨(some 2), .mv (.v (.bool false)), none, none, []⟩])
  (.seq (.reg [⟨(some 3), .mv (.t 0), none, none, []⟩, ⟨(some 4), .call 93 [(.t 3), (.v (.int .i64 (-32768))), (.v (.int .i64 32767))], none, none, []⟩, ⟨(some 2), .mv (.t 4), none, none, []⟩])
  .ret))⟩
/-- pochoir/pochoirref10.short -/
def s95 : SFn :=
 ⟨9, [.tmp 2],
  (.seq (.reg [⟨(some 2), .mv (.v (.bool false)), none, none, []⟩])
  (.seq (.reg [⟨(some 3), .mv (.t 0), none, none, []⟩, ⟨(some 4), .bin .geq (.t 3) (.v (.int .i64 (-32768))), none, none, []⟩, ⟨(some 5), .mv (.t 4), none, none, []⟩, ⟨(some 6), .mv (.t 0), (some (5, true)), none, []⟩, ⟨(some 7), .bin .leq (.t 6) (.v (.int .i64 32767)), (some (5, true)), none, []⟩, ⟨(some 8), .pick (.t 5) (.t 7) (.v (.bool false)), none, none, []⟩, ⟨(some 2), .mv (.t 8), none, none, []⟩])
  .ret))⟩
/-- pochoir/head.head -/
def s96 : SFn :=
 ⟨73, [.tmp 4],
  (.seq (.reg [⟨(some 4), .mv (.v (.int .i64 0)), none, none, []⟩])
  (.seq (.reg [⟨(some 13), .mv (.t 0), none, none, []⟩, ⟨(some 14), .call 119 [(.t 13), (.v (.str ⟨#[104, 101, 97, 100]⟩)), (.v (.int .i64 54))], none, none, []⟩, ⟨(some 12), .mv (.t 14), none, none, []⟩, ⟨(some 15), .extract (.t 12) 0, none, none, []⟩, ⟨(some 16), .extract (.t 12) 1, none, none, []⟩, ⟨(some 5), .mv (.t 15), none, none, []⟩, ⟨(some 6), .mv (.t 16), none, none, []⟩])
  (.seq (.seq (.reg [⟨(some 17), .mv (.t 6), none, none, []⟩, ⟨(some 18), .bin .neq (.t 17) (.v (.int .i64 0)), none, none, []⟩])
  (.cond (.t 18) (.seq (.reg [⟨(some 19), .mv (.t 6), none, none, []⟩, ⟨(some 4), .mv (.t 19), none, none, []⟩])
  .ret) .skip))
  (.seq (.reg [⟨(some 20), .mv (.t 5), none, none, []⟩, ⟨(some 21), .call 81 [(.t 20)], none, none, []⟩, ⟨(some 22), .mv (.t 5), none, none, []⟩, ⟨(some 23), .call 81 [(.t 22)], none, none, []⟩, ⟨(some 7), .mv (.t 21), none, none, []⟩, ⟨(some 8), .mv (.t 23), none, none, []⟩])
  (.seq (.reg [⟨(some 24), .mv (.t 5), none, none, []⟩, ⟨(some 25), .call 82 [(.t 24), (.v (.int .i64 8))], none, none, []⟩])
  (.seq (.reg [⟨(some 26), .mv (.t 5), none, none, []⟩, ⟨(some 27), .call 117 [(.t 26)], none, none, []⟩, ⟨(some 9), .mv (.t 27), none, none, []⟩])
  (.seq (.reg [⟨(some 28), .mv (.t 5), none, none, []⟩, ⟨(some 29), .call 82 [(.t 28), (.v (.int .i64 2))], none, none, []⟩])
  (.seq (.reg [⟨(some 30), .mv (.t 1), none, none, []⟩, ⟨(some 31), .mv (.t 5), none, none, []⟩, ⟨(some 32), .call 81 [(.t 31)], none, none, []⟩, ⟨(some 33), .conv .i64 (.t 32), none, none, []⟩, ⟨(some 34), .nilck (.t 30), none, none, []⟩, ⟨(some 35), .faddr 0 (.t 34), none, none, []⟩, ⟨none, .store 1 (.t 35) (.t 33), none, none, []⟩])
  (.seq (.reg [⟨(some 36), .mv (.t 5), none, none, []⟩, ⟨(some 37), .call 82 [(.t 36), (.v (.int .i64 30))], none, none, []⟩])
  (.seq (.reg [⟨(some 38), .mv (.t 5), none, none, []⟩, ⟨(some 39), .call 81 [(.t 38)], none, none, []⟩, ⟨(some 40), .mv (.t 5), none, none, []⟩, ⟨(some 41), .call 81 [(.t 40)], none, none, []⟩, ⟨(some 10), .mv (.t 39), none, none, []⟩, ⟨(some 11), .mv (.t 41), none, none, []⟩])
  (.seq (.reg [⟨(some 42), .mv (.t 1), none, none, []⟩, ⟨(some 43), .mv (.t 10), none, none, []⟩, ⟨(some 44), .bin .eql (.t 43) (.v (.int .u16 1)), none, none, []⟩, ⟨(some 45), .nilck (.t 42), none, none, []⟩, ⟨(some 46), .faddr 1 (.t 45), none, none, []⟩, ⟨none, .store 1 (.t 46) (.t 44), none, none, []⟩])
  (.seq (.reg [⟨(some 47), .mv (.t 7), none, none, []⟩, ⟨(some 48), .bin .eql (.t 47) (.v (.int .u16 1)), none, none, []⟩, ⟨(some 49), .mv (.t 48), none, none, []⟩, ⟨(some 50), .mv (.t 8), (some (49, true)), none, []⟩, ⟨(some 51), .bin .eql (.t 50) (.v (.int .u16 0)), (some (49, true)), none, []⟩, ⟨(some 52), .pick (.t 49) (.t 51) (.v (.bool false)), none, none, []⟩, ⟨(some 53), .mv (.t 52), none, none, []⟩, ⟨(some 54), .mv (.t 9), (some (53, true)), none, []⟩, ⟨(some 55), .bin .eql (.t 54) (.v (.int .u32 1594834165)), (some (53, true)), none, []⟩, ⟨(some 56), .pick (.t 53) (.t 55) (.v (.bool false)), none, none, []⟩, ⟨(some 57), .mv (.t 56), none, none, []⟩, ⟨(some 58), .mv (.t 1), (some (57, true)), none, []⟩, ⟨(some 59), .nilck (.t 58), (some (57, true)), none, []⟩, ⟨(some 60), .faddr 0 (.t 59), (some (57, true)), none, []⟩, ⟨(some 61), .load none (.t 60), (some (57, true)), none, []⟩, ⟨(some 62), .call 93 [(.t 61), (.v (.int .i64 16)), (.v (.int .i64 16384))], (some (57, true)), none, []⟩, ⟨(some 63), .pick (.t 57) (.t 62) (.v (.bool false)), none, none, []⟩, ⟨(some 64), .mv (.t 63), none, none, []⟩, ⟨(some 65), .mv (.t 10), (some (64, true)), none, []⟩, ⟨(some 66), .bin .leq (.t 65) (.v (.int .u16 1)), (some (64, true)), none, []⟩, ⟨(some 67), .pick (.t 64) (.t 66) (.v (.bool false)), none, none, []⟩, ⟨(some 68), .mv (.t 67), none, none, []⟩, ⟨(some 69), .mv (.t 11), (some (68, true)), none, []⟩, ⟨(some 70), .bin .eql (.t 69) (.v (.int .u16 0)), (some (68, true)), none, []⟩, ⟨(some 71), .pick (.t 68) (.t 70) (.v (.bool false)), none, none, []⟩, ⟨(some 72), .call 120 [(.t 71)], none, none, []⟩, ⟨(some 4), .mv (.t 72), none, none, []⟩])
  .ret))))))))))))⟩
/-- pochoir/head.maxp -/
def s97 : SFn :=
 ⟨37, [.tmp 4],
  (.seq (.reg [⟨(some 4), .mv (.v (.int .i64 0)), none, none, []⟩])
  (.seq (.reg [⟨(some 8), .mv (.t 0), none, none, []⟩, ⟨(some 9), .call 119 [(.t 8), (.v (.str ⟨#[109, 97, 120, 112]⟩)), (.v (.int .i64 32))], none, none, []⟩, ⟨(some 7), .mv (.t 9), none, none, []⟩, ⟨(some 10), .extract (.t 7) 0, none, none, []⟩, ⟨(some 11), .extract (.t 7) 1, none, none, []⟩, ⟨(some 5), .mv (.t 10), none, none, []⟩, ⟨(some 6), .mv (.t 11), none, none, []⟩])
  (.seq (.block 0 (.seq (.reg [⟨(some 13), .mv (.t 6), none, none, []⟩, ⟨(some 14), .bin .neq (.t 13) (.v (.int .i64 0)), none, none, []⟩, ⟨(some 12), .mv (.t 14), none, none, []⟩])
  (.cond (.t 12) (.seq (.reg [⟨(some 15), .mv (.t 6), none, none, []⟩, ⟨(some 4), .mv (.t 15), none, none, []⟩])
  .ret) (.seq (.reg [⟨(some 17), .mv (.t 5), none, none, []⟩, ⟨(some 18), .call 117 [(.t 17)], none, none, []⟩, ⟨(some 19), .bin .neq (.t 18) (.v (.int .u32 65536)), none, none, []⟩, ⟨(some 16), .mv (.t 19), none, none, []⟩])
  (.cond (.t 16) (.seq (.reg [⟨(some 4), .mv (.v (.int .i64 4)), none, none, []⟩])
  .ret) .skip)))))
  (.seq (.reg [⟨(some 20), .mv (.t 1), none, none, []⟩, ⟨(some 21), .mv (.t 5), none, none, []⟩, ⟨(some 22), .call 81 [(.t 21)], none, none, []⟩, ⟨(some 23), .conv .i64 (.t 22), none, none, []⟩, ⟨(some 24), .nilck (.t 20), none, none, []⟩, ⟨(some 25), .faddr 2 (.t 24), none, none, []⟩, ⟨none, .store 1 (.t 25) (.t 23), none, none, []⟩])
  (.seq (.seq (.reg [⟨(some 26), .mv (.t 1), none, none, []⟩, ⟨(some 27), .nilck (.t 26), none, none, []⟩, ⟨(some 28), .faddr 2 (.t 27), none, none, []⟩, ⟨(some 29), .load none (.t 28), none, none, []⟩, ⟨(some 30), .bin .gtr (.t 29) (.v (.int .i64 1024)), none, none, []⟩])
  (.cond (.t 30) (.seq (.reg [⟨(some 4), .mv (.v (.int .i64 6)), none, none, []⟩])
  .ret) .skip))
  (.seq (.reg [⟨(some 31), .mv (.t 1), none, none, []⟩, ⟨(some 32), .nilck (.t 31), none, none, []⟩, ⟨(some 33), .faddr 2 (.t 32), none, none, []⟩, ⟨(some 34), .load none (.t 33), none, none, []⟩, ⟨(some 35), .bin .gtr (.t 34) (.v (.int .i64 0)), none, none, []⟩, ⟨(some 36), .call 120 [(.t 35)], none, none, []⟩, ⟨(some 4), .mv (.t 36), none, none, []⟩])
  .ret))))))⟩
/-- pochoir/head.hhea -/
def s98 : SFn :=
 ⟨65, [.tmp 4],
  (.seq (.reg [⟨(some 4), .mv (.v (.int .i64 0)), none, none, []⟩])
  (.seq (.reg [⟨(some 10), .mv (.t 0), none, none, []⟩, ⟨(some 11), .call 119 [(.t 10), (.v (.str ⟨#[104, 104, 101, 97]⟩)), (.v (.int .i64 36))], none, none, []⟩, ⟨(some 9), .mv (.t 11), none, none, []⟩, ⟨(some 12), .extract (.t 9) 0, none, none, []⟩, ⟨(some 13), .extract (.t 9) 1, none, none, []⟩, ⟨(some 5), .mv (.t 12), none, none, []⟩, ⟨(some 6), .mv (.t 13), none, none, []⟩])
  (.seq (.seq (.reg [⟨(some 14), .mv (.t 6), none, none, []⟩, ⟨(some 15), .bin .neq (.t 14) (.v (.int .i64 0)), none, none, []⟩])
  (.cond (.t 15) (.seq (.reg [⟨(some 16), .mv (.t 6), none, none, []⟩, ⟨(some 4), .mv (.t 16), none, none, []⟩])
  .ret) .skip))
  (.seq (.reg [⟨(some 17), .mv (.t 5), none, none, []⟩, ⟨(some 18), .call 117 [(.t 17)], none, none, []⟩, ⟨(some 7), .mv (.t 18), none, none, []⟩])
  (.seq (.reg [⟨(some 19), .mv (.t 1), none, none, []⟩, ⟨(some 20), .mv (.t 1), none, none, []⟩, ⟨(some 21), .mv (.t 1), none, none, []⟩, ⟨(some 22), .mv (.t 5), none, none, []⟩, ⟨(some 23), .call 121 [(.t 22)], none, none, []⟩, ⟨(some 24), .conv .i64 (.t 23), none, none, []⟩, ⟨(some 25), .mv (.t 5), none, none, []⟩, ⟨(some 26), .call 121 [(.t 25)], none, none, []⟩, ⟨(some 27), .conv .i64 (.t 26), none, none, []⟩, ⟨(some 28), .mv (.t 5), none, none, []⟩, ⟨(some 29), .call 121 [(.t 28)], none, none, []⟩, ⟨(some 30), .conv .i64 (.t 29), none, none, []⟩, ⟨(some 31), .nilck (.t 19), none, none, []⟩, ⟨(some 32), .faddr 4 (.t 31), none, none, []⟩, ⟨none, .store 1 (.t 32) (.t 24), none, none, []⟩, ⟨(some 33), .nilck (.t 20), none, none, []⟩, ⟨(some 34), .faddr 5 (.t 33), none, none, []⟩, ⟨none, .store 1 (.t 34) (.t 27), none, none, []⟩, ⟨(some 35), .nilck (.t 21), none, none, []⟩, ⟨(some 36), .faddr 6 (.t 35), none, none, []⟩, ⟨none, .store 1 (.t 36) (.t 30), none, none, []⟩])
  (.seq (.reg [⟨(some 37), .mv (.t 5), none, none, []⟩, ⟨(some 38), .call 82 [(.t 37), (.v (.int .i64 22))], none, none, []⟩])
  (.seq (.reg [⟨(some 39), .mv (.t 5), none, none, []⟩, ⟨(some 40), .call 81 [(.t 39)], none, none, []⟩, ⟨(some 8), .mv (.t 40), none, none, []⟩])
  (.seq (.reg [⟨(some 41), .mv (.t 1), none, none, []⟩, ⟨(some 42), .mv (.t 5), none, none, []⟩, ⟨(some 43), .call 81 [(.t 42)], none, none, []⟩, ⟨(some 44), .conv .i64 (.t 43), none, none, []⟩, ⟨(some 45), .nilck (.t 41), none, none, []⟩, ⟨(some 46), .faddr 3 (.t 45), none, none, []⟩, ⟨none, .store 1 (.t 46) (.t 44), none, none, []⟩])
  (.seq (.regd [⟨(some 47), .mv (.t 7), none, (some []), []⟩, ⟨(some 48), .bin .eql (.t 47) (.v (.int .u32 65536)), none, (some []), []⟩, ⟨(some 49), .mv (.t 48), none, (some []), []⟩, ⟨(some 50), .mv (.t 8), (some (49, true)), (some []), []⟩, ⟨(some 51), .bin .eql (.t 50) (.v (.int .u16 0)), (some (49, true)), (some []), []⟩, ⟨(some 52), .pick (.t 49) (.t 51) (.v (.bool false)), none, (some []), []⟩, ⟨(some 53), .mv (.t 52), none, (some []), []⟩, ⟨(some 54), .mv (.t 1), (some (53, true)), (some []), []⟩, ⟨(some 55), .nilck (.t 54), (some (53, true)), (some []), []⟩, ⟨(some 56), .faddr 3 (.t 55), (some (53, true)), (some []), []⟩, ⟨(some 57), .load none (.t 56), (some (53, true)), (some []), []⟩, ⟨(some 58), .mv (.t 1), (some (53, true)), (some []), []⟩, ⟨(some 59), .nilck (.t 58), (some (53, true)), (some []), []⟩, ⟨(some 60), .faddr 2 (.t 59), (some (53, true)), (some []), []⟩, ⟨(some 61), .load none (.t 60), (some (53, true)), (some []), []⟩, ⟨(some 62), .call 93 [(.t 57), (.v (.int .i64 1)), (.t 61)], (some (53, true)), none, []⟩, ⟨(some 63), .pick (.t 53) (.t 62) (.v (.bool false)), none, (some []), []⟩, ⟨(some 64), .call 120 [(.t 63)], none, none, []⟩, ⟨(some 4), .mv (.t 64), none, (some []), []⟩])
  .ret)))))))))⟩
/-- pochoir/pochoirref10.p16 -/
def s99 : SFn :=
 ⟨7, [.tmp 2],
  (.seq (.reg [⟨(some 2), .mv (.v (.str ⟨#[]⟩)), none, none, []⟩])
  (.seq (.reg [⟨(some 3), .mv (.t 0), none, none, []⟩, ⟨(some 4), .conv .u16 (.t 3), none, none, []⟩, ⟨(some 5), .conv .u32 (.t 4), none, none, []⟩, ⟨(some 6), .call 89 [(.t 5), (.v (.int .i64 2))], none, none, []⟩, ⟨(some 2), .mv (.t 6), none, none, []⟩])
  .ret))⟩
/-- pochoir/pochoirref10.zeros -/
def s100 : SFn :=
 ⟨6, [.tmp 2],
  (.seq (.reg [⟨(some 2), .mv (.v (.str ⟨#[]⟩)), none, none, []⟩])
  (.seq (.reg [⟨(some 3), .mv (.t 0), none, none, []⟩, ⟨(some 4), .mksl 5 [(.int .u8 0)] (.t 3) (.t 3), none, none, []⟩, ⟨(some 5), .b2s (.t 4), none, none, []⟩, ⟨(some 2), .mv (.t 5), none, none, []⟩])
  .ret))⟩
/-- pochoir/pochoirref09.Find -/
def s101 : SFn :=
 ⟨25, [.tmp 4, .tmp 5],
  (.seq (.reg [⟨(some 4), .mv (.v (.str ⟨#[]⟩)), none, none, []⟩, ⟨(some 5), .mv (.v (.bool false)), none, none, []⟩])
  (.seq (.seq (.reg [⟨(some 6), .mv (.v (.int .i64 0)), none, none, []⟩])
  (.block 0 (.loop (.seq (.seq (.reg [⟨(some 7), .mv (.t 6), none, none, []⟩, ⟨(some 8), .mv (.t 0), none, none, []⟩, ⟨(some 9), .len false (.t 8), none, none, []⟩, ⟨(some 10), .bin .lss (.t 7) (.t 9), none, none, []⟩])
  (.cond (.t 10) .skip (.exit 0)))
  (.seq (.block 1 (.seq (.reg [⟨(some 13), .mv (.t 0), none, none, []⟩, ⟨(some 14), .mv (.t 6), none, none, []⟩, ⟨(some 15), .iaddr 2 (.t 13) (.t 14), none, none, []⟩, ⟨(some 16), .faddr 0 (.t 15), none, none, []⟩, ⟨(some 17), .load none (.t 16), none, none, []⟩, ⟨(some 18), .mv (.t 1), none, none, []⟩, ⟨(some 19), .bin .eql (.t 17) (.t 18), none, none, []⟩])
  (.cond (.t 19) (.seq (.reg [⟨(some 20), .mv (.t 0), none, none, []⟩, ⟨(some 21), .mv (.t 6), none, none, []⟩, ⟨(some 22), .iaddr 2 (.t 20) (.t 21), none, none, []⟩, ⟨(some 23), .faddr 1 (.t 22), none, none, []⟩, ⟨(some 24), .load none (.t 23), none, none, []⟩, ⟨(some 4), .mv (.t 24), none, none, []⟩, ⟨(some 5), .mv (.v (.bool true)), none, none, []⟩])
  .ret) .skip)))
  (.reg [⟨(some 11), .mv (.t 6), none, none, []⟩, ⟨(some 12), .bin .add (.t 11) (.v (.int .i64 1)), none, none, []⟩, ⟨(some 6), .mv (.t 12), none, none, []⟩]))))))
  (.seq (.reg [⟨(some 4), .mv (.v (.str ⟨#[]⟩)), none, none, []⟩, ⟨(some 5), .mv (.v (.bool false)), none, none, []⟩])
  .ret)))⟩
/-- pochoir/pochoirref10.head -/
def s102 : SFn :=
 ⟨52, [.cell 4 (some 7), .tmp 5],
  (.seq (.reg [⟨(some 3), .box 71 (.t 1), none, none, []⟩, ⟨(some 4), .box 71 (.v (.agg [(.int .i64 0), (.bool false), (.int .i64 0), (.int .i64 0), (.int .i64 0), (.int .i64 0), (.int .i64 0)])), none, none, []⟩, ⟨(some 5), .mv (.v (.int .i64 0)), none, none, []⟩])
  (.seq (.seq (.reg [⟨(some 6), .mv (.t 0), none, none, []⟩, ⟨(some 7), .len true (.t 6), none, none, []⟩, ⟨(some 8), .bin .lss (.t 7) (.v (.int .i64 54)), none, none, []⟩])
  (.cond (.t 8) (.seq (.reg [⟨(some 9), .load (some 7) (.t 3), none, none, []⟩, ⟨none, .store 7 (.t 4) (.t 9), none, none, []⟩, ⟨(some 5), .mv (.v (.int .i64 3)), none, none, []⟩])
  .ret) .skip))
  (.seq (.reg [⟨(some 10), .mv (.t 0), none, none, []⟩, ⟨(some 11), .call 122 [(.t 10), (.v (.int .i64 18))], none, none, []⟩, ⟨(some 12), .faddr 0 (.t 3), none, none, []⟩, ⟨none, .store 1 (.t 12) (.t 11), none, none, []⟩])
  (.seq (.seq (.reg [⟨(some 13), .mv (.t 0), none, none, []⟩, ⟨(some 14), .call 122 [(.t 13), (.v (.int .i64 0))], none, none, []⟩, ⟨(some 15), .bin .neq (.t 14) (.v (.int .i64 1)), none, none, []⟩, ⟨(some 16), .mv (.t 15), none, none, []⟩, ⟨(some 17), .mv (.t 0), (some (16, false)), none, []⟩, ⟨(some 18), .call 122 [(.t 17), (.v (.int .i64 2))], (some (16, false)), none, []⟩, ⟨(some 19), .bin .neq (.t 18) (.v (.int .i64 0)), (some (16, false)), none, []⟩, ⟨(some 20), .pick (.t 16) (.v (.bool true)) (.t 19), none, none, []⟩, ⟨(some 21), .mv (.t 20), none, none, []⟩, ⟨(some 22), .mv (.t 0), (some (21, false)), none, []⟩, ⟨(some 23), .call 123 [(.t 22), (.v (.int .i64 12))], (some (21, false)), none, []⟩, ⟨(some 24), .bin .neq (.t 23) (.v (.int .u32 1594834165)), (some (21, false)), none, []⟩, ⟨(some 25), .pick (.t 21) (.v (.bool true)) (.t 24), none, none, []⟩, ⟨(some 26), .mv (.t 25), none, none, []⟩, ⟨(some 27), .faddr 0 (.t 3), (some (26, false)), none, []⟩, ⟨(some 28), .load none (.t 27), (some (26, false)), none, []⟩, ⟨(some 29), .bin .lss (.t 28) (.v (.int .i64 16)), (some (26, false)), none, []⟩, ⟨(some 30), .pick (.t 26) (.v (.bool true)) (.t 29), none, none, []⟩, ⟨(some 31), .mv (.t 30), none, none, []⟩, ⟨(some 32), .faddr 0 (.t 3), (some (31, false)), none, []⟩, ⟨(some 33), .load none (.t 32), (some (31, false)), none, []⟩, ⟨(some 34), .bin .gtr (.t 33) (.v (.int .i64 16384)), (some (31, false)), none, []⟩, ⟨(some 35), .pick (.t 31) (.v (.bool true)) (.t 34), none, none, []⟩, ⟨(some 36), .mv (.t 35), none, none, []⟩, ⟨(some 37), .mv (.t 0), (some (36, false)), none, []⟩, ⟨(some 38), .call 122 [(.t 37), (.v (.int .i64 50))], (some (36, false)), none, []⟩, ⟨(some 39), .bin .gtr (.t 38) (.v (.int .i64 1)), (some (36, false)), none, []⟩, ⟨(some 40), .pick (.t 36) (.v (.bool true)) (.t 39), none, none, []⟩, ⟨(some 41), .mv (.t 40), none, none, []⟩, ⟨(some 42), .mv (.t 0), (some (41, false)), none, []⟩, ⟨(some 43), .call 122 [(.t 42), (.v (.int .i64 52))], (some (41, false)), none, []⟩, ⟨(some 44), .bin .neq (.t 43) (.v (.int .i64 0)), (some (41, false)), none, []⟩, ⟨(some 45), .pick (.t 41) (.v (.bool true)) (.t 44), none, none, []⟩])
  (.cond (.t 45) (.seq (.reg [⟨(some 46), .load (some 7) (.t 3), none, none, []⟩, ⟨none, .store 7 (.t 4) (.t 46), none, none, []⟩, ⟨(some 5), .mv (.v (.int .i64 4)), none, none, []⟩])
  .ret) .skip))
  (.seq (.reg [⟨(some 47), .mv (.t 0), none, none, []⟩, ⟨(some 48), .call 122 [(.t 47), (.v (.int .i64 50))], none, none, []⟩, ⟨(some 49), .bin .eql (.t 48) (.v (.int .i64 1)), none, none, []⟩, ⟨(some 50), .faddr 1 (.t 3), none, none, []⟩, ⟨none, .store 1 (.t 50) (.t 49), none, none, []⟩])
  (.seq (.reg [⟨(some 51), .load (some 7) (.t 3), none, none, []⟩, ⟨none, .store 7 (.t 4) (.t 51), none, none, []⟩, ⟨(some 5), .mv (.v (.int .i64 0)), none, none, []⟩])
  .ret))))))⟩
/-- pochoir/pochoirref10.maxp -/
def s103 : SFn :=
 ⟨26, [.cell 4 (some 7), .tmp 5],
  (.seq (.reg [⟨(some 3), .box 71 (.t 1), none, none, []⟩, ⟨(some 4), .box 71 (.v (.agg [(.int .i64 0), (.bool false), (.int .i64 0), (.int .i64 0), (.int .i64 0), (.int .i64 0), (.int .i64 0)])), none, none, []⟩, ⟨(some 5), .mv (.v (.int .i64 0)), none, none, []⟩])
  (.seq (.seq (.reg [⟨(some 6), .mv (.t 0), none, none, []⟩, ⟨(some 7), .len true (.t 6), none, none, []⟩, ⟨(some 8), .bin .lss (.t 7) (.v (.int .i64 32)), none, none, []⟩])
  (.cond (.t 8) (.seq (.reg [⟨(some 9), .load (some 7) (.t 3), none, none, []⟩, ⟨none, .store 7 (.t 4) (.t 9), none, none, []⟩, ⟨(some 5), .mv (.v (.int .i64 3)), none, none, []⟩])
  .ret) .skip))
  (.seq (.seq (.reg [⟨(some 10), .mv (.t 0), none, none, []⟩, ⟨(some 11), .call 123 [(.t 10), (.v (.int .i64 0))], none, none, []⟩, ⟨(some 12), .bin .neq (.t 11) (.v (.int .u32 65536)), none, none, []⟩])
  (.cond (.t 12) (.seq (.reg [⟨(some 13), .load (some 7) (.t 3), none, none, []⟩, ⟨none, .store 7 (.t 4) (.t 13), none, none, []⟩, ⟨(some 5), .mv (.v (.int .i64 4)), none, none, []⟩])
  .ret) .skip))
  (.seq (.reg [⟨(some 14), .mv (.t 0), none, none, []⟩, ⟨(some 15), .call 122 [(.t 14), (.v (.int .i64 4))], none, none, []⟩, ⟨(some 16), .faddr 2 (.t 3), none, none, []⟩, ⟨none, .store 1 (.t 16) (.t 15), none, none, []⟩])
  (.seq (.seq (.reg [⟨(some 17), .faddr 2 (.t 3), none, none, []⟩, ⟨(some 18), .load none (.t 17), none, none, []⟩, ⟨(some 19), .bin .gtr (.t 18) (.v (.int .i64 1024)), none, none, []⟩])
  (.cond (.t 19) (.seq (.reg [⟨(some 20), .load (some 7) (.t 3), none, none, []⟩, ⟨none, .store 7 (.t 4) (.t 20), none, none, []⟩, ⟨(some 5), .mv (.v (.int .i64 6)), none, none, []⟩])
  .ret) .skip))
  (.seq (.seq (.reg [⟨(some 21), .faddr 2 (.t 3), none, none, []⟩, ⟨(some 22), .load none (.t 21), none, none, []⟩, ⟨(some 23), .bin .eql (.t 22) (.v (.int .i64 0)), none, none, []⟩])
  (.cond (.t 23) (.seq (.reg [⟨(some 24), .load (some 7) (.t 3), none, none, []⟩, ⟨none, .store 7 (.t 4) (.t 24), none, none, []⟩, ⟨(some 5), .mv (.v (.int .i64 4)), none, none, []⟩])
  .ret) .skip))
  (.seq (.reg [⟨(some 25), .load (some 7) (.t 3), none, none, []⟩, ⟨none, .store 7 (.t 4) (.t 25), none, none, []⟩, ⟨(some 5), .mv (.v (.int .i64 0)), none, none, []⟩])
  .ret)))))))⟩
/-- pochoir/pochoirref10.hhea -/
def s104 : SFn :=
 ⟨44, [.cell 4 (some 7), .tmp 5],
  (.seq (.reg [⟨(some 3), .box 71 (.t 1), none, none, []⟩, ⟨(some 4), .box 71 (.v (.agg [(.int .i64 0), (.bool false), (.int .i64 0), (.int .i64 0), (.int .i64 0), (.int .i64 0), (.int .i64 0)])), none, none, []⟩, ⟨(some 5), .mv (.v (.int .i64 0)), none, none, []⟩])
  (.seq (.seq (.reg [⟨(some 6), .mv (.t 0), none, none, []⟩, ⟨(some 7), .len true (.t 6), none, none, []⟩, ⟨(some 8), .bin .lss (.t 7) (.v (.int .i64 36)), none, none, []⟩])
  (.cond (.t 8) (.seq (.reg [⟨(some 9), .load (some 7) (.t 3), none, none, []⟩, ⟨none, .store 7 (.t 4) (.t 9), none, none, []⟩, ⟨(some 5), .mv (.v (.int .i64 3)), none, none, []⟩])
  .ret) .skip))
  (.seq (.reg [⟨(some 10), .mv (.t 0), none, none, []⟩, ⟨(some 11), .call 124 [(.t 10), (.v (.int .i64 4))], none, none, []⟩, ⟨(some 12), .faddr 4 (.t 3), none, none, []⟩, ⟨none, .store 1 (.t 12) (.t 11), none, none, []⟩])
  (.seq (.reg [⟨(some 13), .mv (.t 0), none, none, []⟩, ⟨(some 14), .call 124 [(.t 13), (.v (.int .i64 6))], none, none, []⟩, ⟨(some 15), .faddr 5 (.t 3), none, none, []⟩, ⟨none, .store 1 (.t 15) (.t 14), none, none, []⟩])
  (.seq (.reg [⟨(some 16), .mv (.t 0), none, none, []⟩, ⟨(some 17), .call 124 [(.t 16), (.v (.int .i64 8))], none, none, []⟩, ⟨(some 18), .faddr 6 (.t 3), none, none, []⟩, ⟨none, .store 1 (.t 18) (.t 17), none, none, []⟩])
  (.seq (.reg [⟨(some 19), .mv (.t 0), none, none, []⟩, ⟨(some 20), .call 122 [(.t 19), (.v (.int .i64 34))], none, none, []⟩, ⟨(some 21), .faddr 3 (.t 3), none, none, []⟩, ⟨none, .store 1 (.t 21) (.t 20), none, none, []⟩])
  (.seq (.seq (.reg [⟨(some 22), .mv (.t 0), none, none, []⟩, ⟨(some 23), .call 123 [(.t 22), (.v (.int .i64 0))], none, none, []⟩, ⟨(some 24), .bin .neq (.t 23) (.v (.int .u32 65536)), none, none, []⟩, ⟨(some 25), .mv (.t 24), none, none, []⟩, ⟨(some 26), .mv (.t 0), (some (25, false)), none, []⟩, ⟨(some 27), .call 122 [(.t 26), (.v (.int .i64 32))], (some (25, false)), none, []⟩, ⟨(some 28), .bin .neq (.t 27) (.v (.int .i64 0)), (some (25, false)), none, []⟩, ⟨(some 29), .pick (.t 25) (.v (.bool true)) (.t 28), none, none, []⟩, ⟨(some 30), .mv (.t 29), none, none, []⟩, ⟨(some 31), .faddr 3 (.t 3), (some (30, false)), none, []⟩, ⟨(some 32), .load none (.t 31), (some (30, false)), none, []⟩, ⟨(some 33), .bin .lss (.t 32) (.v (.int .i64 1)), (some (30, false)), none, []⟩, ⟨(some 34), .pick (.t 30) (.v (.bool true)) (.t 33), none, none, []⟩, ⟨(some 35), .mv (.t 34), none, none, []⟩, ⟨(some 36), .faddr 3 (.t 3), (some (35, false)), none, []⟩, ⟨(some 37), .load none (.t 36), (some (35, false)), none, []⟩, ⟨(some 38), .faddr 2 (.t 3), (some (35, false)), none, []⟩, ⟨(some 39), .load none (.t 38), (some (35, false)), none, []⟩, ⟨(some 40), .bin .gtr (.t 37) (.t 39), (some (35, false)), none, []⟩, ⟨(some 41), .pick (.t 35) (.v (.bool true)) (.t 40), none, none, []⟩])
  (.cond (.t 41) (.seq (.reg [⟨(some 42), .load (some 7) (.t 3), none, none, []⟩, ⟨none, .store 7 (.t 4) (.t 42), none, none, []⟩, ⟨(some 5), .mv (.v (.int .i64 4)), none, none, []⟩])
  .ret) .skip))
  (.seq (.reg [⟨(some 43), .load (some 7) (.t 3), none, none, []⟩, ⟨none, .store 7 (.t 4) (.t 43), none, none, []⟩, ⟨(some 5), .mv (.v (.int .i64 0)), none, none, []⟩])
  .ret))))))))⟩
/-- pochoir/octet.number -/
def s113 : SFn :=
 ⟨19, [.tmp 2],
  (.seq (.reg [⟨(some 2), .mv (.v (.int .u32 0)), none, none, []⟩])
  (.seq (.reg [⟨(some 3), .mv (.v (.int .u32 0)), none, none, []⟩])
  (.seq (.seq (.reg [⟨(some 5), .mv (.t 0), none, none, []⟩, ⟨(some 6), .len true (.t 5), none, none, []⟩, ⟨(some 7), .mv (.v (.int .i64 0)), none, none, []⟩])
  (.block 0 (.loop (.seq (.reg [⟨(some 8), .bin .lss (.t 7) (.t 6), none, none, []⟩])
  (.seq (.cond (.t 8) .skip (.exit 0))
  (.seq (.block 1 (.seq (.reg [⟨(some 9), .mv (.t 7), none, none, []⟩, ⟨(some 4), .mv (.t 9), none, none, []⟩])
  (.reg [⟨(some 10), .mv (.t 3), none, none, []⟩, ⟨(some 11), .bin .shl (.t 10) (.v (.int .u64 8)), none, none, []⟩, ⟨(some 12), .mv (.t 0), none, none, []⟩, ⟨(some 13), .mv (.t 4), none, none, []⟩, ⟨(some 14), .ixs (.t 12) (.t 13), none, none, []⟩, ⟨(some 15), .conv .u32 (.t 14), none, none, []⟩, ⟨(some 16), .bin .or (.t 11) (.t 15), none, none, []⟩, ⟨(some 3), .mv (.t 16), none, none, []⟩])))
  (.reg [⟨(some 17), .bin .add (.t 7) (.v (.int .i64 1)), none, none, []⟩, ⟨(some 7), .mv (.t 17), none, none, []⟩])))))))
  (.seq (.reg [⟨(some 18), .mv (.t 3), none, none, []⟩, ⟨(some 2), .mv (.t 18), none, none, []⟩])
  .ret))))⟩
/-- (*pochoir/octet.Reader).take -/
def s114 : SFn :=
 ⟨42, [.tmp 4],
  (.seq (.reg [⟨(some 4), .mv (.v (.str ⟨#[]⟩)), none, none, []⟩])
  (.seq (.seq (.reg [⟨(some 7), .mv (.t 0), none, none, []⟩, ⟨(some 8), .eqs 1 [] false (.t 7) (.v .nilp), none, none, []⟩, ⟨(some 9), .mv (.t 8), none, none, []⟩, ⟨(some 10), .mv (.t 0), (some (9, false)), none, []⟩, ⟨(some 11), .nilck (.t 10), (some (9, false)), none, []⟩, ⟨(some 12), .faddr 2 (.t 11), (some (9, false)), none, []⟩, ⟨(some 13), .load none (.t 12), (some (9, false)), none, []⟩, ⟨(some 14), .pick (.t 9) (.v (.bool true)) (.t 13), none, none, []⟩])
  (.cond (.t 14) (.seq (.reg [⟨(some 4), .mv (.v (.str ⟨#[]⟩)), none, none, []⟩])
  .ret) .skip))
  (.seq (.regd [⟨(some 16), .mv (.t 0), none, (some []), []⟩, ⟨(some 17), .nilck (.t 16), none, (some []), []⟩, ⟨(some 18), .faddr 0 (.t 17), none, (some []), []⟩, ⟨(some 19), .load none (.t 18), none, (some []), []⟩, ⟨(some 20), .mv (.t 0), none, (some []), []⟩, ⟨(some 21), .nilck (.t 20), none, (some []), []⟩, ⟨(some 22), .faddr 1 (.t 21), none, (some []), []⟩, ⟨(some 23), .load none (.t 22), none, (some []), []⟩, ⟨(some 24), .mv (.t 1), none, (some []), []⟩, ⟨(some 25), .call 125 [(.t 19), (.t 23), (.t 24)], none, none, []⟩, ⟨(some 15), .mv (.t 25), none, (some []), []⟩, ⟨(some 26), .extract (.t 15) 0, none, (some []), []⟩, ⟨(some 27), .extract (.t 15) 1, none, (some []), []⟩, ⟨(some 5), .mv (.t 26), none, (some []), []⟩, ⟨(some 6), .mv (.t 27), none, (some []), []⟩])
  (.seq (.seq (.reg [⟨(some 28), .mv (.t 6), none, none, []⟩, ⟨(some 29), .bin .neq (.t 28) (.v (.int .i64 0)), none, none, []⟩])
  (.cond (.t 29) (.seq (.reg [⟨(some 30), .mv (.t 0), none, none, []⟩, ⟨(some 31), .nilck (.t 30), none, none, []⟩, ⟨(some 32), .faddr 2 (.t 31), none, none, []⟩, ⟨none, .store 1 (.t 32) (.v (.bool true)), none, none, []⟩])
  (.seq (.reg [⟨(some 4), .mv (.v (.str ⟨#[]⟩)), none, none, []⟩])
  .ret)) .skip))
  (.seq (.reg [⟨(some 33), .mv (.t 0), none, none, []⟩, ⟨(some 34), .nilck (.t 33), none, none, []⟩, ⟨(some 35), .faddr 1 (.t 34), none, none, []⟩, ⟨(some 36), .load none (.t 35), none, none, []⟩, ⟨(some 37), .mv (.t 1), none, none, []⟩, ⟨(some 38), .bin .add (.t 36) (.t 37), none, none, []⟩, ⟨(some 39), .nilck (.t 33), none, none, []⟩, ⟨(some 40), .faddr 1 (.t 39), none, none, []⟩, ⟨none, .store 1 (.t 40) (.t 38), none, none, []⟩])
  (.seq (.reg [⟨(some 41), .mv (.t 5), none, none, []⟩, ⟨(some 4), .mv (.t 41), none, none, []⟩])
  .ret))))))⟩
/-- pochoir/pochoirref07.Cut -/
def s115 : SFn :=
 ⟨34, [.tmp 6, .tmp 7],
  (.seq (.reg [⟨(some 6), .mv (.v (.str ⟨#[]⟩)), none, none, []⟩, ⟨(some 7), .mv (.v (.int .i64 0)), none, none, []⟩])
  (.seq (.seq (.reg [⟨(some 8), .mv (.t 1), none, none, []⟩, ⟨(some 9), .bin .lss (.t 8) (.v (.int .i64 0)), none, none, []⟩, ⟨(some 10), .mv (.t 9), none, none, []⟩, ⟨(some 11), .mv (.t 2), (some (10, false)), none, []⟩, ⟨(some 12), .bin .lss (.t 11) (.v (.int .i64 0)), (some (10, false)), none, []⟩, ⟨(some 13), .pick (.t 10) (.v (.bool true)) (.t 12), none, none, []⟩, ⟨(some 14), .mv (.t 13), none, none, []⟩, ⟨(some 15), .mv (.t 1), (some (14, false)), none, []⟩, ⟨(some 16), .mv (.t 0), (some (14, false)), none, []⟩, ⟨(some 17), .len true (.t 16), (some (14, false)), none, []⟩, ⟨(some 18), .bin .gtr (.t 15) (.t 17), (some (14, false)), none, []⟩, ⟨(some 19), .pick (.t 14) (.v (.bool true)) (.t 18), none, none, []⟩, ⟨(some 20), .mv (.t 19), none, none, []⟩, ⟨(some 21), .mv (.t 2), (some (20, false)), none, []⟩, ⟨(some 22), .mv (.t 0), (some (20, false)), none, []⟩, ⟨(some 23), .len true (.t 22), (some (20, false)), none, []⟩, ⟨(some 24), .mv (.t 1), (some (20, false)), none, []⟩, ⟨(some 25), .bin .sub (.t 23) (.t 24), (some (20, false)), none, []⟩, ⟨(some 26), .bin .gtr (.t 21) (.t 25), (some (20, false)), none, []⟩, ⟨(some 27), .pick (.t 20) (.v (.bool true)) (.t 26), none, none, []⟩])
  (.cond (.t 27) (.seq (.reg [⟨(some 6), .mv (.v (.str ⟨#[]⟩)), none, none, []⟩, ⟨(some 7), .mv (.v (.int .i64 3)), none, none, []⟩])
  .ret) .skip))
  (.seq (.reg [⟨(some 28), .mv (.t 0), none, none, []⟩, ⟨(some 29), .mv (.t 1), none, none, []⟩, ⟨(some 30), .mv (.t 1), none, none, []⟩, ⟨(some 31), .mv (.t 2), none, none, []⟩, ⟨(some 32), .bin .add (.t 30) (.t 31), none, none, []⟩, ⟨(some 33), .slstr (.t 28) (some (.t 29)) (some (.t 32)), none, none, []⟩, ⟨(some 6), .mv (.t 33), none, none, []⟩, ⟨(some 7), .mv (.v (.int .i64 0)), none, none, []⟩])
  .ret)))⟩
/-- pochoir/pochoirref07.number -/
def s116 : SFn :=
 ⟨19, [.tmp 2],
  (.seq (.reg [⟨(some 2), .mv (.v (.int .u32 0)), none, none, []⟩])
  (.seq (.reg [⟨(some 3), .mv (.v (.int .u32 0)), none, none, []⟩])
  (.seq (.seq (.reg [⟨(some 4), .mv (.v (.int .i64 0)), none, none, []⟩])
  (.block 0 (.loop (.seq (.seq (.reg [⟨(some 5), .mv (.t 4), none, none, []⟩, ⟨(some 6), .mv (.t 0), none, none, []⟩, ⟨(some 7), .len true (.t 6), none, none, []⟩, ⟨(some 8), .bin .lss (.t 5) (.t 7), none, none, []⟩])
  (.cond (.t 8) .skip (.exit 0)))
  (.seq (.block 1 (.reg [⟨(some 11), .mv (.t 3), none, none, []⟩, ⟨(some 12), .bin .mul (.t 11) (.v (.int .u32 256)), none, none, []⟩, ⟨(some 13), .mv (.t 0), none, none, []⟩, ⟨(some 14), .mv (.t 4), none, none, []⟩, ⟨(some 15), .ixs (.t 13) (.t 14), none, none, []⟩, ⟨(some 16), .conv .u32 (.t 15), none, none, []⟩, ⟨(some 17), .bin .add (.t 12) (.t 16), none, none, []⟩, ⟨(some 3), .mv (.t 17), none, none, []⟩]))
  (.reg [⟨(some 9), .mv (.t 4), none, none, []⟩, ⟨(some 10), .bin .add (.t 9) (.v (.int .i64 1)), none, none, []⟩, ⟨(some 4), .mv (.t 10), none, none, []⟩]))))))
  (.seq (.reg [⟨(some 18), .mv (.t 3), none, none, []⟩, ⟨(some 2), .mv (.t 18), none, none, []⟩])
  .ret))))⟩
/-- (*pochoir/octet.Reader).U32 -/
def s117 : SFn :=
 ⟨6, [.tmp 2],
  (.seq (.reg [⟨(some 2), .mv (.v (.int .u32 0)), none, none, []⟩])
  (.seq (.reg [⟨(some 3), .mv (.t 0), none, none, []⟩, ⟨(some 4), .call 114 [(.t 3), (.v (.int .i64 4))], none, none, []⟩, ⟨(some 5), .call 113 [(.t 4)], none, none, []⟩, ⟨(some 2), .mv (.t 5), none, none, []⟩])
  .ret))⟩
/-- pochoir/head.read -/
def s119 : SFn :=
 ⟨26, [.tmp 6, .tmp 7],
  (.seq (.reg [⟨(some 6), .mv (.v .nilp), none, none, []⟩, ⟨(some 7), .mv (.v (.int .i64 0)), none, none, []⟩])
  (.seq (.reg [⟨(some 11), .mv (.t 0), none, none, []⟩, ⟨(some 12), .mv (.t 1), none, none, []⟩, ⟨(some 13), .call 127 [(.t 11), (.t 12)], none, none, []⟩, ⟨(some 10), .mv (.t 13), none, none, []⟩, ⟨(some 14), .extract (.t 10) 0, none, none, []⟩, ⟨(some 15), .extract (.t 10) 1, none, none, []⟩, ⟨(some 8), .mv (.t 14), none, none, []⟩, ⟨(some 9), .mv (.t 15), none, none, []⟩])
  (.seq (.block 0 (.seq (.reg [⟨(some 17), .mv (.t 9), none, none, []⟩, ⟨(some 18), .un .not (.t 17), none, none, []⟩, ⟨(some 16), .mv (.t 18), none, none, []⟩])
  (.cond (.t 16) (.seq (.reg [⟨(some 6), .mv (.v .nilp), none, none, []⟩, ⟨(some 7), .mv (.v (.int .i64 7)), none, none, []⟩])
  .ret) (.seq (.reg [⟨(some 20), .mv (.t 8), none, none, []⟩, ⟨(some 21), .len true (.t 20), none, none, []⟩, ⟨(some 22), .mv (.t 2), none, none, []⟩, ⟨(some 23), .bin .lss (.t 21) (.t 22), none, none, []⟩, ⟨(some 19), .mv (.t 23), none, none, []⟩])
  (.cond (.t 19) (.seq (.reg [⟨(some 6), .mv (.v .nilp), none, none, []⟩, ⟨(some 7), .mv (.v (.int .i64 3)), none, none, []⟩])
  .ret) .skip)))))
  (.seq (.reg [⟨(some 24), .mv (.t 8), none, none, []⟩, ⟨(some 25), .call 80 [(.t 24)], none, none, []⟩, ⟨(some 6), .mv (.t 25), none, none, []⟩, ⟨(some 7), .mv (.v (.int .i64 0)), none, none, []⟩])
  .ret))))⟩
/-- pochoir/head.form -/
def s120 : SFn :=
 ⟨4, [.tmp 2],
  (.seq (.reg [⟨(some 2), .mv (.v (.int .i64 0)), none, none, []⟩])
  (.seq (.seq (.reg [⟨(some 3), .mv (.t 0), none, none, []⟩])
  (.cond (.t 3) (.seq (.reg [⟨(some 2), .mv (.v (.int .i64 0)), none, none, []⟩])
  .ret) .skip))
  (.seq (.reg [⟨(some 2), .mv (.v (.int .i64 4)), none, none, []⟩])
  .ret)))⟩
/-- (*pochoir/octet.Reader).I16 -/
def s121 : SFn :=
 ⟨6, [.tmp 2],
  (.seq (.reg [⟨(some 2), .mv (.v (.int .i16 0)), none, none, []⟩])
  (.seq (.reg [⟨(some 3), .mv (.t 0), none, none, []⟩, ⟨(some 4), .call 81 [(.t 3)], none, none, []⟩, ⟨(some 5), .conv .i16 (.t 4), none, none, []⟩, ⟨(some 2), .mv (.t 5), none, none, []⟩])
  .ret))⟩
/-- pochoir/pochoirref10.u16 -/
def s122 : SFn :=
 ⟨15, [.tmp 4],
  (.seq (.reg [⟨(some 4), .mv (.v (.int .i64 0)), none, none, []⟩])
  (.seq (.reg [⟨(some 8), .mv (.t 0), none, none, []⟩, ⟨(some 9), .mv (.t 1), none, none, []⟩, ⟨(some 10), .call 83 [(.t 8), (.t 9)], none, none, []⟩, ⟨(some 7), .mv (.t 10), none, none, []⟩, ⟨(some 11), .extract (.t 7) 0, none, none, []⟩, ⟨(some 12), .extract (.t 7) 1, none, none, []⟩, ⟨(some 5), .mv (.t 11), none, none, []⟩, ⟨(some 6), .mv (.t 12), none, none, []⟩])
  (.seq (.reg [⟨(some 13), .mv (.t 5), none, none, []⟩, ⟨(some 14), .conv .i64 (.t 13), none, none, []⟩, ⟨(some 4), .mv (.t 14), none, none, []⟩])
  .ret)))⟩
/-- pochoir/pochoirref10.u32 -/
def s123 : SFn :=
 ⟨14, [.tmp 4],
  (.seq (.reg [⟨(some 4), .mv (.v (.int .u32 0)), none, none, []⟩])
  (.seq (.reg [⟨(some 8), .mv (.t 0), none, none, []⟩, ⟨(some 9), .mv (.t 1), none, none, []⟩, ⟨(some 10), .call 85 [(.t 8), (.t 9)], none, none, []⟩, ⟨(some 7), .mv (.t 10), none, none, []⟩, ⟨(some 11), .extract (.t 7) 0, none, none, []⟩, ⟨(some 12), .extract (.t 7) 1, none, none, []⟩, ⟨(some 5), .mv (.t 11), none, none, []⟩, ⟨(some 6), .mv (.t 12), none, none, []⟩])
  (.seq (.reg [⟨(some 13), .mv (.t 5), none, none, []⟩, ⟨(some 4), .mv (.t 13), none, none, []⟩])
  .ret)))⟩
/-- pochoir/pochoirref07.Signed -/
def s124 : SFn :=
 ⟨12, [.tmp 4],
  (.seq (.reg [⟨(some 4), .mv (.v (.int .i64 0)), none, none, []⟩])
  (.seq (.reg [⟨(some 6), .mv (.t 0), none, none, []⟩, ⟨(some 7), .mv (.t 1), none, none, []⟩, ⟨(some 8), .build [(.str ⟨#[]⟩), (.int .i64 0), (.bool false)] [(0, 1, (.t 6)), (1, 1, (.t 7))], none, none, []⟩, ⟨(some 9), .box 172 (.t 8), none, none, []⟩, ⟨(some 5), .mv (.t 9), none, none, []⟩])
  (.seq (.reg [⟨(some 10), .mv (.t 5), none, none, []⟩, ⟨(some 11), .call 128 [(.t 10)], none, none, []⟩, ⟨(some 4), .mv (.t 11), none, none, []⟩])
  .ret)))⟩
/-- pochoir/octet.Cut -/
def s125 : SFn :=
 ⟨34, [.tmp 6, .tmp 7],
  (.seq (.reg [⟨(some 6), .mv (.v (.str ⟨#[]⟩)), none, none, []⟩, ⟨(some 7), .mv (.v (.int .i64 0)), none, none, []⟩])
  (.seq (.seq (.reg [⟨(some 8), .mv (.t 1), none, none, []⟩, ⟨(some 9), .bin .lss (.t 8) (.v (.int .i64 0)), none, none, []⟩, ⟨(some 10), .mv (.t 9), none, none, []⟩, ⟨(some 11), .mv (.t 2), (some (10, false)), none, []⟩, ⟨(some 12), .bin .lss (.t 11) (.v (.int .i64 0)), (some (10, false)), none, []⟩, ⟨(some 13), .pick (.t 10) (.v (.bool true)) (.t 12), none, none, []⟩, ⟨(some 14), .mv (.t 13), none, none, []⟩, ⟨(some 15), .mv (.t 1), (some (14, false)), none, []⟩, ⟨(some 16), .mv (.t 0), (some (14, false)), none, []⟩, ⟨(some 17), .len true (.t 16), (some (14, false)), none, []⟩, ⟨(some 18), .bin .gtr (.t 15) (.t 17), (some (14, false)), none, []⟩, ⟨(some 19), .pick (.t 14) (.v (.bool true)) (.t 18), none, none, []⟩, ⟨(some 20), .mv (.t 19), none, none, []⟩, ⟨(some 21), .mv (.t 2), (some (20, false)), none, []⟩, ⟨(some 22), .mv (.t 0), (some (20, false)), none, []⟩, ⟨(some 23), .len true (.t 22), (some (20, false)), none, []⟩, ⟨(some 24), .mv (.t 1), (some (20, false)), none, []⟩, ⟨(some 25), .bin .sub (.t 23) (.t 24), (some (20, false)), none, []⟩, ⟨(some 26), .bin .gtr (.t 21) (.t 25), (some (20, false)), none, []⟩, ⟨(some 27), .pick (.t 20) (.v (.bool true)) (.t 26), none, none, []⟩])
  (.cond (.t 27) (.seq (.reg [⟨(some 6), .mv (.v (.str ⟨#[]⟩)), none, none, []⟩, ⟨(some 7), .mv (.v (.int .i64 3)), none, none, []⟩])
  .ret) .skip))
  (.seq (.reg [⟨(some 28), .mv (.t 0), none, none, []⟩, ⟨(some 29), .mv (.t 1), none, none, []⟩, ⟨(some 30), .mv (.t 1), none, none, []⟩, ⟨(some 31), .mv (.t 2), none, none, []⟩, ⟨(some 32), .bin .add (.t 30) (.t 31), none, none, []⟩, ⟨(some 33), .slstr (.t 28) (some (.t 29)) (some (.t 32)), none, none, []⟩, ⟨(some 6), .mv (.t 33), none, none, []⟩, ⟨(some 7), .mv (.v (.int .i64 0)), none, none, []⟩])
  .ret)))⟩
/-- pochoir/table.Find -/
def s127 : SFn :=
 ⟨21, [.tmp 4, .tmp 5],
  (.seq (.reg [⟨(some 4), .mv (.v (.str ⟨#[]⟩)), none, none, []⟩, ⟨(some 5), .mv (.v (.bool false)), none, none, []⟩])
  (.seq (.seq (.reg [⟨(some 8), .mv (.t 0), none, none, []⟩, ⟨(some 9), .len false (.t 8), none, none, []⟩, ⟨(some 10), .mv (.v (.int .i64 0)), none, none, []⟩])
  (.block 0 (.loop (.seq (.reg [⟨(some 11), .bin .lss (.t 10) (.t 9), none, none, []⟩])
  (.seq (.cond (.t 11) .skip (.exit 0))
  (.seq (.block 1 (.seq (.reg [⟨(some 12), .iaddr 2 (.t 8) (.t 10), none, none, []⟩, ⟨(some 13), .load (some 2) (.t 12), none, none, []⟩, ⟨(some 7), .box 95 (.v (.agg [(.str ⟨#[]⟩), (.str ⟨#[]⟩)])), none, none, []⟩, ⟨none, .store 2 (.t 7) (.t 13), none, none, []⟩])
  (.seq (.reg [⟨(some 14), .faddr 0 (.t 7), none, none, []⟩, ⟨(some 15), .load none (.t 14), none, none, []⟩, ⟨(some 16), .mv (.t 1), none, none, []⟩, ⟨(some 17), .bin .eql (.t 15) (.t 16), none, none, []⟩])
  (.cond (.t 17) (.seq (.reg [⟨(some 18), .faddr 1 (.t 7), none, none, []⟩, ⟨(some 19), .load none (.t 18), none, none, []⟩, ⟨(some 4), .mv (.t 19), none, none, []⟩, ⟨(some 5), .mv (.v (.bool true)), none, none, []⟩])
  .ret) .skip))))
  (.reg [⟨(some 20), .bin .add (.t 10) (.v (.int .i64 1)), none, none, []⟩, ⟨(some 10), .mv (.t 20), none, none, []⟩])))))))
  (.seq (.reg [⟨(some 4), .mv (.v (.str ⟨#[]⟩)), none, none, []⟩, ⟨(some 5), .mv (.v (.bool false)), none, none, []⟩])
  .ret)))⟩
/-- (*pochoir/pochoirref07.Reader).I16 -/
def s128 : SFn :=
 ⟨12, [.tmp 2],
  (.seq (.reg [⟨(some 2), .mv (.v (.int .i64 0)), none, none, []⟩])
  (.seq (.reg [⟨(some 4), .mv (.t 0), none, none, []⟩, ⟨(some 5), .call 129 [(.t 4), (.v (.int .i64 2))], none, none, []⟩, ⟨(some 6), .conv .i64 (.t 5), none, none, []⟩, ⟨(some 3), .mv (.t 6), none, none, []⟩])
  (.seq (.seq (.reg [⟨(some 7), .mv (.t 3), none, none, []⟩, ⟨(some 8), .bin .geq (.t 7) (.v (.int .i64 32768)), none, none, []⟩])
  (.cond (.t 8) (.seq (.reg [⟨(some 9), .mv (.t 3), none, none, []⟩, ⟨(some 10), .bin .sub (.t 9) (.v (.int .i64 65536)), none, none, []⟩, ⟨(some 2), .mv (.t 10), none, none, []⟩])
  .ret) .skip))
  (.seq (.reg [⟨(some 11), .mv (.t 3), none, none, []⟩, ⟨(some 2), .mv (.t 11), none, none, []⟩])
  .ret))))⟩
/-- (*pochoir/pochoirref07.Reader).Num -/
def s129 : SFn :=
 ⟨9, [.tmp 4],
  (.seq (.reg [⟨(some 4), .mv (.v (.int .u32 0)), none, none, []⟩])
  (.seq (.reg [⟨(some 5), .mv (.t 0), none, none, []⟩, ⟨(some 6), .mv (.t 1), none, none, []⟩, ⟨(some 7), .call 130 [(.t 5), (.t 6)], none, none, []⟩, ⟨(some 8), .call 116 [(.t 7)], none, none, []⟩, ⟨(some 4), .mv (.t 8), none, none, []⟩])
  .ret))⟩
/-- (*pochoir/pochoirref07.Reader).Take -/
def s130 : SFn :=
 ⟨41, [.tmp 4],
  (.seq (.reg [⟨(some 4), .mv (.v (.str ⟨#[]⟩)), none, none, []⟩])
  (.seq (.regd [⟨(some 8), .mv (.t 0), none, (some []), []⟩, ⟨(some 9), .nilck (.t 8), none, (some []), []⟩, ⟨(some 10), .faddr 0 (.t 9), none, (some []), []⟩, ⟨(some 11), .load none (.t 10), none, (some []), []⟩, ⟨(some 12), .mv (.t 0), none, (some []), []⟩, ⟨(some 13), .nilck (.t 12), none, (some []), []⟩, ⟨(some 14), .faddr 1 (.t 13), none, (some []), []⟩, ⟨(some 15), .load none (.t 14), none, (some []), []⟩, ⟨(some 16), .mv (.t 1), none, (some []), []⟩, ⟨(some 17), .call 115 [(.t 11), (.t 15), (.t 16)], none, none, []⟩, ⟨(some 7), .mv (.t 17), none, (some []), []⟩, ⟨(some 18), .extract (.t 7) 0, none, (some []), []⟩, ⟨(some 19), .extract (.t 7) 1, none, (some []), []⟩, ⟨(some 5), .mv (.t 18), none, (some []), []⟩, ⟨(some 6), .mv (.t 19), none, (some []), []⟩])
  (.seq (.seq (.reg [⟨(some 20), .mv (.t 0), none, none, []⟩, ⟨(some 21), .nilck (.t 20), none, none, []⟩, ⟨(some 22), .faddr 2 (.t 21), none, none, []⟩, ⟨(some 23), .load none (.t 22), none, none, []⟩, ⟨(some 24), .mv (.t 23), none, none, []⟩, ⟨(some 25), .mv (.t 6), (some (24, false)), none, []⟩, ⟨(some 26), .bin .neq (.t 25) (.v (.int .i64 0)), (some (24, false)), none, []⟩, ⟨(some 27), .pick (.t 24) (.v (.bool true)) (.t 26), none, none, []⟩])
  (.cond (.t 27) (.seq (.reg [⟨(some 28), .mv (.t 0), none, none, []⟩, ⟨(some 29), .nilck (.t 28), none, none, []⟩, ⟨(some 30), .faddr 2 (.t 29), none, none, []⟩, ⟨none, .store 1 (.t 30) (.v (.bool true)), none, none, []⟩])
  (.seq (.reg [⟨(some 4), .mv (.v (.str ⟨#[]⟩)), none, none, []⟩])
  .ret)) .skip))
  (.seq (.reg [⟨(some 31), .mv (.t 0), none, none, []⟩, ⟨(some 32), .mv (.t 0), none, none, []⟩, ⟨(some 33), .nilck (.t 32), none, none, []⟩, ⟨(some 34), .faddr 1 (.t 33), none, none, []⟩, ⟨(some 35), .load none (.t 34), none, none, []⟩, ⟨(some 36), .mv (.t 1), none, none, []⟩, ⟨(some 37), .bin .add (.t 35) (.t 36), none, none, []⟩, ⟨(some 38), .nilck (.t 31), none, none, []⟩, ⟨(some 39), .faddr 1 (.t 38), none, none, []⟩, ⟨none, .store 1 (.t 39) (.t 37), none, none, []⟩])
  (.seq (.reg [⟨(some 40), .mv (.t 5), none, none, []⟩, ⟨(some 4), .mv (.t 40), none, none, []⟩])
  .ret)))))⟩
def E : Nat → Option SFn
  | 9 => some s9
  | 10 => some s10
  | 11 => some s11
  | 12 => some s12
  | 13 => some s13
  | 34 => some s34
  | 35 => some s35
  | 36 => some s36
  | 37 => some s37
  | 38 => some s38
  | 39 => some s39
  | 40 => some s40
  | 41 => some s41
  | 42 => some s42
  | 43 => some s43
  | 44 => some s44
  | 45 => some s45
  | 46 => some s46
  | 47 => some s47
  | 48 => some s48
  | 49 => some s49
  | 50 => some s50
  | 51 => some s51
  | 52 => some s52
  | 80 => some s80
  | 81 => some s81
  | 82 => some s82
  | 83 => some s83
  | 84 => some s84
  | 85 => some s85
  | 86 => some s86
  | 87 => some s87
  | 88 => some s88
  | 89 => some s89
  | 90 => some s90
  | 91 => some s91
  | 92 => some s92
  | 93 => some s93
  | 94 => some s94
  | 95 => some s95
  | 96 => some s96
  | 97 => some s97
  | 98 => some s98
  | 99 => some s99
  | 100 => some s100
  | 101 => some s101
  | 102 => some s102
  | 103 => some s103
  | 104 => some s104
  | 113 => some s113
  | 114 => some s114
  | 115 => some s115
  | 116 => some s116
  | 117 => some s117
  | 119 => some s119
  | 120 => some s120
  | 121 => some s121
  | 122 => some s122
  | 123 => some s123
  | 124 => some s124
  | 125 => some s125
  | 127 => some s127
  | 128 => some s128
  | 129 => some s129
  | 130 => some s130
  | _ => none
def env0 : Env := { E := E, I := fun _ _ _ => none, isI := fun _ => false }
end Go.Proofs.Ythfpndelfbeknaa
