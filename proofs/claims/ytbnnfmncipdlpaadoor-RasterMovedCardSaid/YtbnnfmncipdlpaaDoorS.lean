/- The slim functions of this seat, and the table of them. -/
import Derived.Test.YtbnnfmncipdlpaaDoorDen2
set_option linter.unusedVariables false
namespace Go.Proofs.YtbnnfmncipdlpaaDoor
open Go.Den
/-- pochoir/pochoirlaw34.RasterDraws -/
def s7 : SFn :=
 ⟨56, [.tmp 6],
  (.seq (.reg [⟨(some 3), .box 33 (.t 0), none, none, []⟩, ⟨(some 4), .box 55 (.t 1), none, none, []⟩, ⟨(some 6), .mv (.v (.bool false)), none, none, []⟩])
  (.seq (.seq (.reg [⟨(some 10), .call 25 [], none, none, []⟩, ⟨(some 11), .un .not (.t 10), none, none, []⟩])
  (.cond (.t 11) (.seq (.reg [⟨(some 6), .mv (.v (.bool false)), none, none, []⟩])
  .ret) .skip))
  (.seq (.seq (.reg [⟨(some 12), .load (some 11) (.t 3), none, none, []⟩, ⟨(some 13), .call 15 [(.t 12)], none, none, []⟩, ⟨(some 14), .un .not (.t 13), none, none, []⟩, ⟨(some 15), .mv (.t 14), none, none, []⟩, ⟨(some 16), .mv (.t 2), (some (15, false)), none, []⟩, ⟨(some 17), .len false (.t 16), (some (15, false)), none, []⟩, ⟨(some 18), .bin .gtr (.t 17) (.v (.int .i64 10)), (some (15, false)), none, []⟩, ⟨(some 19), .pick (.t 15) (.v (.bool true)) (.t 18), none, none, []⟩, ⟨(some 20), .mv (.t 19), none, none, []⟩, ⟨(some 21), .load (some 6) (.t 4), (some (20, false)), none, []⟩, ⟨(some 22), .call 26 [(.t 21)], (some (20, false)), none, []⟩, ⟨(some 23), .mv (.t 22), (some (20, false)), none, []⟩, ⟨(some 24), .faddr 0 (.t 4), (some (23, true)), none, []⟩, ⟨(some 25), .load none (.t 24), (some (23, true)), none, []⟩, ⟨(some 26), .faddr 1 (.t 4), (some (23, true)), none, []⟩, ⟨(some 27), .load none (.t 26), (some (23, true)), none, []⟩, ⟨(some 28), .bin .mul (.t 25) (.t 27), (some (23, true)), none, []⟩, ⟨(some 29), .bin .gtr (.t 28) (.v (.int .i64 200)), (some (23, true)), none, []⟩, ⟨(some 30), .pick (.t 23) (.t 29) (.v (.bool false)), (some (20, false)), none, []⟩, ⟨(some 31), .pick (.t 20) (.v (.bool true)) (.t 30), none, none, []⟩])
  (.cond (.t 31) (.seq (.reg [⟨(some 6), .mv (.v (.bool true)), none, none, []⟩])
  .ret) .skip))
  (.seq (.reg [⟨(some 33), .load (some 11) (.t 3), none, none, []⟩, ⟨(some 34), .load (some 6) (.t 4), none, none, []⟩, ⟨(some 35), .mv (.t 2), none, none, []⟩, ⟨(some 36), .call 27 [(.t 33), (.t 34), (.t 35)], none, none, []⟩, ⟨(some 32), .mv (.t 36), none, none, []⟩, ⟨(some 37), .extract (.t 32) 0, none, none, []⟩, ⟨(some 38), .extract (.t 32) 1, none, none, []⟩, ⟨(some 7), .mv (.t 37), none, none, []⟩, ⟨(some 8), .mv (.t 38), none, none, []⟩])
  (.seq (.reg [⟨(some 39), .load (some 11) (.t 3), none, none, []⟩, ⟨(some 40), .load (some 6) (.t 4), none, none, []⟩, ⟨(some 41), .mv (.t 2), none, none, []⟩, ⟨(some 42), .call 28 [(.t 39), (.t 40), (.t 41)], none, none, []⟩, ⟨(some 9), .mv (.t 42), none, none, []⟩])
  (.seq (.seq (.reg [⟨(some 43), .mv (.t 8), none, none, []⟩, ⟨(some 44), .mv (.t 9), none, none, []⟩, ⟨(some 45), .bin .neq (.t 43) (.t 44), none, none, []⟩])
  (.cond (.t 45) (.seq (.reg [⟨(some 6), .mv (.v (.bool false)), none, none, []⟩])
  .ret) .skip))
  (.seq (.seq (.reg [⟨(some 46), .mv (.t 9), none, none, []⟩, ⟨(some 47), .bin .neq (.t 46) (.v (.int .i64 0)), none, none, []⟩])
  (.cond (.t 47) (.seq (.reg [⟨(some 48), .mv (.t 7), none, none, []⟩, ⟨(some 49), .bin .eql (.t 48) (.v (.str ⟨#[]⟩)), none, none, []⟩, ⟨(some 6), .mv (.t 49), none, none, []⟩])
  .ret) .skip))
  (.seq (.reg [⟨(some 50), .mv (.t 7), none, none, []⟩, ⟨(some 51), .load (some 11) (.t 3), none, none, []⟩, ⟨(some 52), .load (some 6) (.t 4), none, none, []⟩, ⟨(some 53), .mv (.t 2), none, none, []⟩, ⟨(some 54), .call 29 [(.t 51), (.t 52), (.t 53)], none, none, []⟩, ⟨(some 55), .bin .eql (.t 50) (.t 54), none, none, []⟩, ⟨(some 6), .mv (.t 55), none, none, []⟩])
  .ret))))))))⟩
/-- pochoir/pochoirlaw34.RasterParts -/
def s8 : SFn :=
 ⟨111, [.tmp 6],
  (.seq (.reg [⟨(some 3), .box 33 (.t 0), none, none, []⟩, ⟨(some 4), .box 55 (.t 1), none, none, []⟩, ⟨(some 5), .box 61 (.t 2), none, none, []⟩, ⟨(some 6), .mv (.v (.bool false)), none, none, []⟩])
  (.seq (.seq (.reg [⟨(some 14), .call 25 [], none, none, []⟩, ⟨(some 15), .un .not (.t 14), none, none, []⟩])
  (.cond (.t 15) (.seq (.reg [⟨(some 6), .mv (.v (.bool false)), none, none, []⟩])
  .ret) .skip))
  (.seq (.seq (.reg [⟨(some 16), .load (some 11) (.t 3), none, none, []⟩, ⟨(some 17), .call 15 [(.t 16)], none, none, []⟩, ⟨(some 18), .un .not (.t 17), none, none, []⟩, ⟨(some 19), .mv (.t 18), none, none, []⟩, ⟨(some 20), .iarr 2 1 (.t 5) (.v (.int .i64 0)), (some (19, false)), none, []⟩, ⟨(some 21), .load none (.t 20), (some (19, false)), none, []⟩, ⟨(some 22), .len false (.t 21), (some (19, false)), none, []⟩, ⟨(some 23), .bin .gtr (.t 22) (.v (.int .i64 10)), (some (19, false)), none, []⟩, ⟨(some 24), .pick (.t 19) (.v (.bool true)) (.t 23), none, none, []⟩, ⟨(some 25), .mv (.t 24), none, none, []⟩, ⟨(some 26), .iarr 2 1 (.t 5) (.v (.int .i64 1)), (some (25, false)), none, []⟩, ⟨(some 27), .load none (.t 26), (some (25, false)), none, []⟩, ⟨(some 28), .len false (.t 27), (some (25, false)), none, []⟩, ⟨(some 29), .bin .gtr (.t 28) (.v (.int .i64 10)), (some (25, false)), none, []⟩, ⟨(some 30), .pick (.t 25) (.v (.bool true)) (.t 29), none, none, []⟩, ⟨(some 31), .mv (.t 30), none, none, []⟩, ⟨(some 32), .faddr 0 (.t 4), (some (31, false)), none, []⟩, ⟨(some 33), .load none (.t 32), (some (31, false)), none, []⟩, ⟨(some 34), .bin .gtr (.t 33) (.v (.int .i64 60)), (some (31, false)), none, []⟩, ⟨(some 35), .pick (.t 31) (.v (.bool true)) (.t 34), none, none, []⟩, ⟨(some 36), .mv (.t 35), none, none, []⟩, ⟨(some 37), .faddr 1 (.t 4), (some (36, false)), none, []⟩, ⟨(some 38), .load none (.t 37), (some (36, false)), none, []⟩, ⟨(some 39), .bin .gtr (.t 38) (.v (.int .i64 60)), (some (36, false)), none, []⟩, ⟨(some 40), .pick (.t 36) (.v (.bool true)) (.t 39), none, none, []⟩])
  (.cond (.t 40) (.seq (.reg [⟨(some 6), .mv (.v (.bool true)), none, none, []⟩])
  .ret) .skip))
  (.seq (.reg [⟨(some 42), .load (some 11) (.t 3), none, none, []⟩, ⟨(some 43), .load (some 6) (.t 4), none, none, []⟩, ⟨(some 44), .iarr 2 1 (.t 5) (.v (.int .i64 0)), none, none, []⟩, ⟨(some 45), .load none (.t 44), none, none, []⟩, ⟨(some 46), .call 27 [(.t 42), (.t 43), (.t 45)], none, none, []⟩, ⟨(some 41), .mv (.t 46), none, none, []⟩, ⟨(some 47), .extract (.t 41) 0, none, none, []⟩, ⟨(some 48), .extract (.t 41) 1, none, none, []⟩, ⟨(some 7), .mv (.t 47), none, none, []⟩, ⟨(some 8), .mv (.t 48), none, none, []⟩])
  (.seq (.reg [⟨(some 50), .load (some 11) (.t 3), none, none, []⟩, ⟨(some 51), .load (some 6) (.t 4), none, none, []⟩, ⟨(some 52), .iarr 2 1 (.t 5) (.v (.int .i64 1)), none, none, []⟩, ⟨(some 53), .load none (.t 52), none, none, []⟩, ⟨(some 54), .call 27 [(.t 50), (.t 51), (.t 53)], none, none, []⟩, ⟨(some 49), .mv (.t 54), none, none, []⟩, ⟨(some 55), .extract (.t 49) 0, none, none, []⟩, ⟨(some 56), .extract (.t 49) 1, none, none, []⟩, ⟨(some 9), .mv (.t 55), none, none, []⟩, ⟨(some 10), .mv (.t 56), none, none, []⟩])
  (.seq (.regd [⟨(some 58), .load (some 11) (.t 3), none, (some []), []⟩, ⟨(some 59), .load (some 6) (.t 4), none, (some []), []⟩, ⟨(some 60), .bsl 52 [] 0 3 [], none, none, [(none, (.t 3)), (none, (.t 4)), (none, (.t 5)), (none, (.t 5))]⟩, ⟨(some 61), .iarr 2 1 (.t 5) (.v (.int .i64 1)), none, (some [2]), []⟩, ⟨(some 62), .load none (.t 61), none, (some [2]), []⟩, ⟨(some 63), .app 52 3 (.t 60) (.t 62), none, none, [(none, (.t 3)), (none, (.t 4)), (none, (.t 5))]⟩, ⟨(some 64), .iarr 2 1 (.t 5) (.v (.int .i64 0)), none, (some [2, 5]), []⟩, ⟨(some 65), .load none (.t 64), none, (some [2, 5]), []⟩, ⟨(some 66), .app 52 3 (.t 63) (.t 65), none, none, [(none, (.t 3)), (none, (.t 4))]⟩, ⟨(some 67), .call 27 [(.t 58), (.t 59), (.t 66)], none, none, []⟩, ⟨(some 57), .mv (.t 67), none, (some []), []⟩, ⟨(some 68), .extract (.t 57) 0, none, (some []), []⟩, ⟨(some 69), .extract (.t 57) 1, none, (some []), []⟩, ⟨(some 11), .mv (.t 68), none, (some []), []⟩, ⟨(some 12), .mv (.t 69), none, (some []), []⟩])
  (.seq (.seq (.reg [⟨(some 70), .mv (.t 8), none, none, []⟩, ⟨(some 71), .bin .neq (.t 70) (.v (.int .i64 0)), none, none, []⟩, ⟨(some 72), .mv (.t 71), none, none, []⟩, ⟨(some 73), .mv (.t 10), (some (72, false)), none, []⟩, ⟨(some 74), .bin .neq (.t 73) (.v (.int .i64 0)), (some (72, false)), none, []⟩, ⟨(some 75), .pick (.t 72) (.v (.bool true)) (.t 74), none, none, []⟩])
  (.cond (.t 75) (.seq (.reg [⟨(some 76), .mv (.t 12), none, none, []⟩, ⟨(some 77), .bin .neq (.t 76) (.v (.int .i64 0)), none, none, []⟩, ⟨(some 6), .mv (.t 77), none, none, []⟩])
  .ret) .skip))
  (.seq (.seq (.reg [⟨(some 78), .mv (.t 12), none, none, []⟩, ⟨(some 79), .bin .neq (.t 78) (.v (.int .i64 0)), none, none, []⟩, ⟨(some 80), .mv (.t 79), none, none, []⟩, ⟨(some 81), .mv (.t 7), (some (80, false)), none, []⟩, ⟨(some 82), .len true (.t 81), (some (80, false)), none, []⟩, ⟨(some 83), .mv (.t 9), (some (80, false)), none, []⟩, ⟨(some 84), .len true (.t 83), (some (80, false)), none, []⟩, ⟨(some 85), .bin .neq (.t 82) (.t 84), (some (80, false)), none, []⟩, ⟨(some 86), .pick (.t 80) (.v (.bool true)) (.t 85), none, none, []⟩, ⟨(some 87), .mv (.t 86), none, none, []⟩, ⟨(some 88), .mv (.t 7), (some (87, false)), none, []⟩, ⟨(some 89), .len true (.t 88), (some (87, false)), none, []⟩, ⟨(some 90), .mv (.t 11), (some (87, false)), none, []⟩, ⟨(some 91), .len true (.t 90), (some (87, false)), none, []⟩, ⟨(some 92), .bin .neq (.t 89) (.t 91), (some (87, false)), none, []⟩, ⟨(some 93), .pick (.t 87) (.v (.bool true)) (.t 92), none, none, []⟩])
  (.cond (.t 93) (.seq (.reg [⟨(some 6), .mv (.v (.bool false)), none, none, []⟩])
  .ret) .skip))
  (.seq (.seq (.reg [⟨(some 94), .mv (.t 7), none, none, []⟩, ⟨(some 95), .len true (.t 94), none, none, []⟩, ⟨(some 96), .mv (.v (.int .i64 0)), none, none, []⟩])
  (.block 0 (.loop (.seq (.reg [⟨(some 97), .bin .lss (.t 96) (.t 95), none, none, []⟩])
  (.seq (.cond (.t 97) .skip (.exit 0))
  (.seq (.block 1 (.seq (.reg [⟨(some 98), .mv (.t 96), none, none, []⟩, ⟨(some 13), .mv (.t 98), none, none, []⟩])
  (.seq (.regd [⟨(some 99), .mv (.t 11), none, (some []), []⟩, ⟨(some 100), .mv (.t 13), none, (some []), []⟩, ⟨(some 101), .ixs (.t 99) (.t 100), none, (some []), []⟩, ⟨(some 102), .mv (.t 7), none, (some []), []⟩, ⟨(some 103), .mv (.t 13), none, (some []), []⟩, ⟨(some 104), .ixs (.t 102) (.t 103), none, (some []), []⟩, ⟨(some 105), .mv (.t 9), none, (some []), []⟩, ⟨(some 106), .mv (.t 13), none, (some []), []⟩, ⟨(some 107), .ixs (.t 105) (.t 106), none, (some []), []⟩, ⟨(some 108), .mnmx true [(.t 104), (.t 107)], none, (some []), []⟩, ⟨(some 109), .bin .neq (.t 101) (.t 108), none, (some []), []⟩])
  (.cond (.t 109) (.seq (.reg [⟨(some 6), .mv (.v (.bool false)), none, none, []⟩])
  .ret) .skip))))
  (.reg [⟨(some 110), .bin .add (.t 96) (.v (.int .i64 1)), none, none, []⟩, ⟨(some 96), .mv (.t 110), none, none, []⟩])))))))
  (.seq (.reg [⟨(some 6), .mv (.v (.bool true)), none, none, []⟩])
  .ret))))))))))⟩
/-- pochoir/pochoirlaw34.RasterMoved -/
def s9 : SFn :=
 ⟨144, [.tmp 6],
  (.seq (.reg [⟨(some 3), .box 33 (.t 0), none, none, []⟩, ⟨(some 4), .box 55 (.t 1), none, none, []⟩, ⟨(some 6), .mv (.v (.bool false)), none, none, []⟩])
  (.seq (.seq (.reg [⟨(some 17), .call 25 [], none, none, []⟩, ⟨(some 18), .un .not (.t 17), none, none, []⟩])
  (.cond (.t 18) (.seq (.reg [⟨(some 6), .mv (.v (.bool false)), none, none, []⟩])
  .ret) .skip))
  (.seq (.seq (.reg [⟨(some 19), .load (some 11) (.t 3), none, none, []⟩, ⟨(some 20), .call 15 [(.t 19)], none, none, []⟩, ⟨(some 21), .un .not (.t 20), none, none, []⟩, ⟨(some 22), .mv (.t 21), none, none, []⟩, ⟨(some 23), .mv (.t 2), (some (22, false)), none, []⟩, ⟨(some 24), .len false (.t 23), (some (22, false)), none, []⟩, ⟨(some 25), .bin .gtr (.t 24) (.v (.int .i64 10)), (some (22, false)), none, []⟩, ⟨(some 26), .pick (.t 22) (.v (.bool true)) (.t 25), none, none, []⟩, ⟨(some 27), .mv (.t 26), none, none, []⟩, ⟨(some 28), .faddr 0 (.t 4), (some (27, false)), none, []⟩, ⟨(some 29), .load none (.t 28), (some (27, false)), none, []⟩, ⟨(some 30), .bin .gtr (.t 29) (.v (.int .i64 60)), (some (27, false)), none, []⟩, ⟨(some 31), .pick (.t 27) (.v (.bool true)) (.t 30), none, none, []⟩, ⟨(some 32), .mv (.t 31), none, none, []⟩, ⟨(some 33), .faddr 1 (.t 4), (some (32, false)), none, []⟩, ⟨(some 34), .load none (.t 33), (some (32, false)), none, []⟩, ⟨(some 35), .bin .gtr (.t 34) (.v (.int .i64 60)), (some (32, false)), none, []⟩, ⟨(some 36), .pick (.t 32) (.v (.bool true)) (.t 35), none, none, []⟩, ⟨(some 37), .mv (.t 36), none, none, []⟩, ⟨(some 38), .load (some 11) (.t 3), (some (37, false)), none, []⟩, ⟨(some 39), .load (some 6) (.t 4), (some (37, false)), none, []⟩, ⟨(some 40), .mv (.t 2), (some (37, false)), none, []⟩, ⟨(some 41), .call 28 [(.t 38), (.t 39), (.t 40)], (some (37, false)), none, []⟩, ⟨(some 42), .bin .neq (.t 41) (.v (.int .i64 0)), (some (37, false)), none, []⟩, ⟨(some 43), .pick (.t 37) (.v (.bool true)) (.t 42), none, none, []⟩])
  (.cond (.t 43) (.seq (.reg [⟨(some 6), .mv (.v (.bool true)), none, none, []⟩])
  .ret) .skip))
  (.seq (.reg [⟨(some 44), .load (some 6) (.t 4), none, none, []⟩, ⟨(some 7), .box 55 (.v (.agg [(.int .i64 0), (.int .i64 0), (.int .i64 0), (.int .i64 0), (.int .i64 0), (.int .i64 0)])), none, none, []⟩, ⟨none, .store 6 (.t 7) (.t 44), none, none, []⟩])
  (.seq (.regd [⟨(some 45), .mv (.t 2), none, (some []), []⟩, ⟨(some 46), .len false (.t 45), none, (some []), []⟩, ⟨(some 47), .bin .rem (.t 46) (.v (.int .i64 3)), none, (some []), []⟩, ⟨(some 48), .faddr 8 (.t 3), none, (some []), []⟩, ⟨(some 49), .load none (.t 48), none, none, []⟩, ⟨(some 50), .len false (.t 49), none, (some []), []⟩, ⟨(some 51), .bin .rem (.t 50) (.v (.int .i64 3)), none, (some []), []⟩, ⟨(some 8), .mv (.t 47), none, (some []), []⟩, ⟨(some 9), .mv (.t 51), none, (some []), []⟩])
  (.seq (.regd [⟨(some 52), .faddr 2 (.t 4), none, (some []), []⟩, ⟨(some 53), .load none (.t 52), none, (some []), []⟩, ⟨(some 54), .mv (.t 8), none, (some []), []⟩, ⟨(some 55), .bin .add (.t 53) (.t 54), none, (some []), []⟩, ⟨(some 56), .faddr 3 (.t 4), none, (some []), []⟩, ⟨(some 57), .load none (.t 56), none, (some []), []⟩, ⟨(some 58), .mv (.t 9), none, (some []), []⟩, ⟨(some 59), .bin .add (.t 57) (.t 58), none, (some []), []⟩, ⟨(some 60), .faddr 2 (.t 7), none, (some []), []⟩, ⟨none, .store 1 (.t 60) (.t 55), none, none, [(none, (.t 56))]⟩, ⟨(some 61), .faddr 3 (.t 7), none, (some []), []⟩, ⟨none, .store 1 (.t 61) (.t 59), none, none, []⟩])
  (.seq (.seq (.reg [⟨(some 62), .load (some 6) (.t 7), none, none, []⟩, ⟨(some 63), .call 26 [(.t 62)], none, none, []⟩, ⟨(some 64), .un .not (.t 63), none, none, []⟩])
  (.cond (.t 64) (.seq (.reg [⟨(some 6), .mv (.v (.bool true)), none, none, []⟩])
  .ret) .skip))
  (.seq (.reg [⟨(some 66), .load (some 11) (.t 3), none, none, []⟩, ⟨(some 67), .load (some 6) (.t 4), none, none, []⟩, ⟨(some 68), .mv (.t 2), none, none, []⟩, ⟨(some 69), .call 27 [(.t 66), (.t 67), (.t 68)], none, none, []⟩, ⟨(some 65), .mv (.t 69), none, none, []⟩, ⟨(some 70), .extract (.t 65) 0, none, none, []⟩, ⟨(some 71), .extract (.t 65) 1, none, none, []⟩, ⟨(some 10), .mv (.t 70), none, none, []⟩, ⟨(some 11), .mv (.t 71), none, none, []⟩])
  (.seq (.reg [⟨(some 73), .load (some 11) (.t 3), none, none, []⟩, ⟨(some 74), .load (some 6) (.t 7), none, none, []⟩, ⟨(some 75), .mv (.t 2), none, none, []⟩, ⟨(some 76), .call 27 [(.t 73), (.t 74), (.t 75)], none, none, []⟩, ⟨(some 72), .mv (.t 76), none, none, []⟩, ⟨(some 77), .extract (.t 72) 0, none, none, []⟩, ⟨(some 78), .extract (.t 72) 1, none, none, []⟩, ⟨(some 12), .mv (.t 77), none, none, []⟩, ⟨(some 13), .mv (.t 78), none, none, []⟩])
  (.seq (.seq (.reg [⟨(some 79), .mv (.t 11), none, none, []⟩, ⟨(some 80), .bin .neq (.t 79) (.v (.int .i64 0)), none, none, []⟩, ⟨(some 81), .mv (.t 80), none, none, []⟩, ⟨(some 82), .mv (.t 13), (some (81, false)), none, []⟩, ⟨(some 83), .bin .neq (.t 82) (.v (.int .i64 0)), (some (81, false)), none, []⟩, ⟨(some 84), .pick (.t 81) (.v (.bool true)) (.t 83), none, none, []⟩, ⟨(some 85), .mv (.t 84), none, none, []⟩, ⟨(some 86), .mv (.t 10), (some (85, false)), none, []⟩, ⟨(some 87), .len true (.t 86), (some (85, false)), none, []⟩, ⟨(some 88), .faddr 0 (.t 4), (some (85, false)), none, []⟩, ⟨(some 89), .load none (.t 88), (some (85, false)), none, []⟩, ⟨(some 90), .faddr 1 (.t 4), (some (85, false)), none, []⟩, ⟨(some 91), .load none (.t 90), (some (85, false)), none, []⟩, ⟨(some 92), .bin .mul (.t 89) (.t 91), (some (85, false)), none, []⟩, ⟨(some 93), .bin .neq (.t 87) (.t 92), (some (85, false)), none, []⟩, ⟨(some 94), .pick (.t 85) (.v (.bool true)) (.t 93), none, none, []⟩, ⟨(some 95), .mv (.t 94), none, none, []⟩, ⟨(some 96), .mv (.t 12), (some (95, false)), none, []⟩, ⟨(some 97), .len true (.t 96), (some (95, false)), none, []⟩, ⟨(some 98), .mv (.t 10), (some (95, false)), none, []⟩, ⟨(some 99), .len true (.t 98), (some (95, false)), none, []⟩, ⟨(some 100), .bin .neq (.t 97) (.t 99), (some (95, false)), none, []⟩, ⟨(some 101), .pick (.t 95) (.v (.bool true)) (.t 100), none, none, []⟩])
  (.cond (.t 101) (.seq (.reg [⟨(some 6), .mv (.v (.bool false)), none, none, []⟩])
  .ret) .skip))
  (.seq (.seq (.reg [⟨(some 102), .mv (.t 10), none, none, []⟩, ⟨(some 103), .len true (.t 102), none, none, []⟩, ⟨(some 104), .mv (.v (.int .i64 0)), none, none, []⟩])
  (.block 0 (.loop (.seq (.reg [⟨(some 105), .bin .lss (.t 104) (.t 103), none, none, []⟩])
  (.seq (.cond (.t 105) .skip (.exit 0))
  (.seq (.block 1 (.seq (.reg [⟨(some 106), .mv (.t 104), none, none, []⟩, ⟨(some 14), .mv (.t 106), none, none, []⟩])
  (.seq (.regd [⟨(some 107), .mv (.t 14), none, (some []), []⟩, ⟨(some 108), .faddr 0 (.t 4), none, (some []), []⟩, ⟨(some 109), .load none (.t 108), none, (some []), []⟩, ⟨(some 110), .bin .rem (.t 107) (.t 109), none, (some []), []⟩, ⟨(some 111), .mv (.t 8), none, (some []), []⟩, ⟨(some 112), .bin .add (.t 110) (.t 111), none, (some []), []⟩, ⟨(some 113), .mv (.t 14), none, (some []), []⟩, ⟨(some 114), .faddr 0 (.t 4), none, (some []), []⟩, ⟨(some 115), .load none (.t 114), none, (some []), []⟩, ⟨(some 116), .bin .quo (.t 113) (.t 115), none, (some []), []⟩, ⟨(some 117), .mv (.t 9), none, (some []), []⟩, ⟨(some 118), .bin .add (.t 116) (.t 117), none, (some []), []⟩, ⟨(some 15), .mv (.t 112), none, (some []), []⟩, ⟨(some 16), .mv (.t 118), none, (some []), []⟩])
  (.seq (.regd [⟨(some 119), .mv (.t 15), none, (some []), []⟩, ⟨(some 120), .faddr 0 (.t 4), none, (some []), []⟩, ⟨(some 121), .load none (.t 120), none, none, []⟩, ⟨(some 122), .bin .lss (.t 119) (.t 121), none, (some []), []⟩, ⟨(some 123), .mv (.t 122), none, (some []), []⟩, ⟨(some 124), .mv (.t 16), (some (123, true)), (some []), []⟩, ⟨(some 125), .faddr 1 (.t 4), (some (123, true)), (some []), []⟩, ⟨(some 126), .load none (.t 125), (some (123, true)), none, []⟩, ⟨(some 127), .bin .lss (.t 124) (.t 126), (some (123, true)), (some []), []⟩, ⟨(some 128), .pick (.t 123) (.t 127) (.v (.bool false)), none, (some []), []⟩, ⟨(some 129), .mv (.t 128), none, (some []), []⟩, ⟨(some 130), .mv (.t 12), (some (129, true)), (some []), []⟩, ⟨(some 131), .mv (.t 16), (some (129, true)), (some []), []⟩, ⟨(some 132), .faddr 0 (.t 4), (some (129, true)), (some []), []⟩, ⟨(some 133), .load none (.t 132), (some (129, true)), none, []⟩, ⟨(some 134), .bin .mul (.t 131) (.t 133), (some (129, true)), (some []), []⟩, ⟨(some 135), .mv (.t 15), (some (129, true)), (some []), []⟩, ⟨(some 136), .bin .add (.t 134) (.t 135), (some (129, true)), (some []), []⟩, ⟨(some 137), .ixs (.t 130) (.t 136), (some (129, true)), (some []), []⟩, ⟨(some 138), .mv (.t 10), (some (129, true)), (some []), []⟩, ⟨(some 139), .mv (.t 14), (some (129, true)), (some []), []⟩, ⟨(some 140), .ixs (.t 138) (.t 139), (some (129, true)), (some []), []⟩, ⟨(some 141), .bin .neq (.t 137) (.t 140), (some (129, true)), (some []), []⟩, ⟨(some 142), .pick (.t 129) (.t 141) (.v (.bool false)), none, (some []), []⟩])
  (.cond (.t 142) (.seq (.reg [⟨(some 6), .mv (.v (.bool false)), none, none, []⟩])
  .ret) .skip)))))
  (.reg [⟨(some 143), .bin .add (.t 104) (.v (.int .i64 1)), none, none, []⟩, ⟨(some 104), .mv (.t 143), none, none, []⟩])))))))
  (.seq (.reg [⟨(some 6), .mv (.v (.bool true)), none, none, []⟩])
  .ret))))))))))))⟩
/-- pochoir/pochoirlaw34.RasterPixels -/
def s10 : SFn :=
 ⟨143, [.tmp 6],
  (.seq (.reg [⟨(some 3), .box 33 (.t 0), none, none, []⟩, ⟨(some 4), .box 55 (.t 1), none, none, []⟩, ⟨(some 5), .box 63 (.t 2), none, none, []⟩, ⟨(some 6), .mv (.v (.bool false)), none, none, []⟩])
  (.seq (.seq (.reg [⟨(some 15), .call 25 [], none, none, []⟩, ⟨(some 16), .un .not (.t 15), none, none, []⟩])
  (.cond (.t 16) (.seq (.reg [⟨(some 6), .mv (.v (.bool false)), none, none, []⟩])
  .ret) .skip))
  (.seq (.seq (.reg [⟨(some 17), .load (some 11) (.t 3), none, none, []⟩, ⟨(some 18), .call 15 [(.t 17)], none, none, []⟩, ⟨(some 19), .un .not (.t 18), none, none, []⟩])
  (.cond (.t 19) (.seq (.reg [⟨(some 6), .mv (.v (.bool true)), none, none, []⟩])
  .ret) .skip))
  (.seq (.reg [⟨(some 20), .iarr 5 1 (.t 5) (.v (.int .i64 0)), none, none, []⟩, ⟨(some 21), .load none (.t 20), none, none, []⟩, ⟨(some 22), .iarr 5 1 (.t 5) (.v (.int .i64 1)), none, none, []⟩, ⟨(some 23), .load none (.t 22), none, none, []⟩, ⟨(some 24), .iarr 5 1 (.t 5) (.v (.int .i64 2)), none, none, []⟩, ⟨(some 25), .load none (.t 24), none, none, []⟩, ⟨(some 26), .build [(.int .i64 0), (.int .i64 0), (.int .i64 0)] [(0, 1, (.t 21)), (1, 1, (.t 23)), (2, 1, (.t 25))], none, none, []⟩, ⟨(some 7), .box 52 (.v (.agg [(.int .i64 0), (.int .i64 0), (.int .i64 0)])), none, none, []⟩, ⟨none, .store 3 (.t 7) (.t 26), none, none, []⟩])
  (.seq (.reg [⟨(some 28), .load (some 11) (.t 3), none, none, []⟩, ⟨(some 29), .load (some 6) (.t 4), none, none, []⟩, ⟨(some 30), .load (some 3) (.t 7), none, none, []⟩, ⟨(some 31), .iarr 5 1 (.t 5) (.v (.int .i64 3)), none, none, []⟩, ⟨(some 32), .load none (.t 31), none, none, []⟩, ⟨(some 33), .iarr 5 1 (.t 5) (.v (.int .i64 4)), none, none, []⟩, ⟨(some 34), .load none (.t 33), none, none, []⟩, ⟨(some 35), .call 30 [(.t 28), (.t 29), (.t 30), (.t 32), (.t 34)], none, none, []⟩, ⟨(some 27), .mv (.t 35), none, none, []⟩, ⟨(some 36), .extract (.t 27) 0, none, none, []⟩, ⟨(some 37), .extract (.t 27) 1, none, none, []⟩, ⟨(some 38), .extract (.t 27) 2, none, none, []⟩, ⟨(some 8), .mv (.t 36), none, none, []⟩, ⟨(some 9), .mv (.t 37), none, none, []⟩, ⟨(some 10), .mv (.t 38), none, none, []⟩])
  (.seq (.reg [⟨(some 40), .load (some 11) (.t 3), none, none, []⟩, ⟨(some 41), .load (some 6) (.t 4), none, none, []⟩, ⟨(some 42), .load (some 3) (.t 7), none, none, []⟩, ⟨(some 43), .iarr 5 1 (.t 5) (.v (.int .i64 3)), none, none, []⟩, ⟨(some 44), .load none (.t 43), none, none, []⟩, ⟨(some 45), .iarr 5 1 (.t 5) (.v (.int .i64 4)), none, none, []⟩, ⟨(some 46), .load none (.t 45), none, none, []⟩, ⟨(some 47), .call 31 [(.t 40), (.t 41), (.t 42), (.t 44), (.t 46)], none, none, []⟩, ⟨(some 39), .mv (.t 47), none, none, []⟩, ⟨(some 48), .extract (.t 39) 0, none, none, []⟩, ⟨(some 49), .extract (.t 39) 1, none, none, []⟩, ⟨(some 11), .mv (.t 48), none, none, []⟩, ⟨(some 12), .mv (.t 49), none, none, []⟩])
  (.seq (.seq (.regd [⟨(some 50), .load (some 6) (.t 4), none, (some []), []⟩, ⟨(some 51), .call 32 [(.t 50)], none, none, [(none, (.t 4))]⟩, ⟨(some 52), .load (some 6) (.t 4), none, (some [1]), []⟩, ⟨(some 53), .call 26 [(.t 52)], none, none, []⟩, ⟨(some 54), .eqs 0 [] true (.t 51) (.t 53), none, (some []), []⟩])
  (.cond (.t 54) (.seq (.reg [⟨(some 6), .mv (.v (.bool false)), none, none, []⟩])
  .ret) .skip))
  (.seq (.seq (.reg [⟨(some 55), .load (some 11) (.t 3), none, none, []⟩, ⟨(some 56), .load (some 6) (.t 4), none, none, []⟩, ⟨(some 57), .load (some 3) (.t 7), none, none, []⟩, ⟨(some 58), .bsl 52 [(.int .i64 0), (.int .i64 0), (.int .i64 0)] 1 3 [(0, 3, (.t 57))], none, none, []⟩, ⟨(some 59), .call 28 [(.t 55), (.t 56), (.t 58)], none, none, []⟩, ⟨(some 60), .bin .neq (.t 59) (.v (.int .i64 0)), none, none, []⟩, ⟨(some 61), .mv (.t 60), none, none, []⟩, ⟨(some 62), .iarr 5 1 (.t 5) (.v (.int .i64 3)), (some (61, false)), none, []⟩, ⟨(some 63), .load none (.t 62), (some (61, false)), none, []⟩, ⟨(some 64), .bin .lss (.t 63) (.v (.int .i64 0)), (some (61, false)), none, []⟩, ⟨(some 65), .pick (.t 61) (.v (.bool true)) (.t 64), none, none, []⟩, ⟨(some 66), .mv (.t 65), none, none, []⟩, ⟨(some 67), .iarr 5 1 (.t 5) (.v (.int .i64 3)), (some (66, false)), none, []⟩, ⟨(some 68), .load none (.t 67), (some (66, false)), none, []⟩, ⟨(some 69), .faddr 0 (.t 4), (some (66, false)), none, []⟩, ⟨(some 70), .load none (.t 69), (some (66, false)), none, []⟩, ⟨(some 71), .bin .geq (.t 68) (.t 70), (some (66, false)), none, []⟩, ⟨(some 72), .pick (.t 66) (.v (.bool true)) (.t 71), none, none, []⟩, ⟨(some 73), .mv (.t 72), none, none, []⟩, ⟨(some 74), .iarr 5 1 (.t 5) (.v (.int .i64 4)), (some (73, false)), none, []⟩, ⟨(some 75), .load none (.t 74), (some (73, false)), none, []⟩, ⟨(some 76), .bin .lss (.t 75) (.v (.int .i64 0)), (some (73, false)), none, []⟩, ⟨(some 77), .pick (.t 73) (.v (.bool true)) (.t 76), none, none, []⟩, ⟨(some 78), .mv (.t 77), none, none, []⟩, ⟨(some 79), .iarr 5 1 (.t 5) (.v (.int .i64 4)), (some (78, false)), none, []⟩, ⟨(some 80), .load none (.t 79), (some (78, false)), none, []⟩, ⟨(some 81), .faddr 1 (.t 4), (some (78, false)), none, []⟩, ⟨(some 82), .load none (.t 81), (some (78, false)), none, []⟩, ⟨(some 83), .bin .geq (.t 80) (.t 82), (some (78, false)), none, []⟩, ⟨(some 84), .pick (.t 78) (.v (.bool true)) (.t 83), none, none, []⟩])
  (.cond (.t 84) (.seq (.reg [⟨(some 85), .mv (.t 8), none, none, []⟩, ⟨(some 86), .bin .eql (.t 85) (.v (.int .i64 0)), none, none, []⟩, ⟨(some 87), .mv (.t 86), none, none, []⟩, ⟨(some 88), .mv (.t 9), (some (87, true)), none, []⟩, ⟨(some 89), .bin .eql (.t 88) (.v (.int .i64 0)), (some (87, true)), none, []⟩, ⟨(some 90), .pick (.t 87) (.t 89) (.v (.bool false)), none, none, []⟩, ⟨(some 91), .mv (.t 90), none, none, []⟩, ⟨(some 92), .mv (.t 10), (some (91, true)), none, []⟩, ⟨(some 93), .bin .eql (.t 92) (.v (.int .i64 1)), (some (91, true)), none, []⟩, ⟨(some 94), .pick (.t 91) (.t 93) (.v (.bool false)), none, none, []⟩, ⟨(some 95), .mv (.t 94), none, none, []⟩, ⟨(some 96), .mv (.t 11), (some (95, true)), none, []⟩, ⟨(some 97), .bin .eql (.t 96) (.v (.int .u8 0)), (some (95, true)), none, []⟩, ⟨(some 98), .pick (.t 95) (.t 97) (.v (.bool false)), none, none, []⟩, ⟨(some 99), .mv (.t 98), none, none, []⟩, ⟨(some 100), .mv (.t 12), (some (99, true)), none, []⟩, ⟨(some 101), .bin .eql (.t 100) (.v (.int .i64 1)), (some (99, true)), none, []⟩, ⟨(some 102), .pick (.t 99) (.t 101) (.v (.bool false)), none, none, []⟩, ⟨(some 6), .mv (.t 102), none, none, []⟩])
  .ret) .skip))
  (.seq (.reg [⟨(some 104), .load (some 11) (.t 3), none, none, []⟩, ⟨(some 105), .load (some 6) (.t 4), none, none, []⟩, ⟨(some 106), .load (some 3) (.t 7), none, none, []⟩, ⟨(some 107), .iarr 5 1 (.t 5) (.v (.int .i64 3)), none, none, []⟩, ⟨(some 108), .load none (.t 107), none, none, []⟩, ⟨(some 109), .iarr 5 1 (.t 5) (.v (.int .i64 4)), none, none, []⟩, ⟨(some 110), .load none (.t 109), none, none, []⟩, ⟨(some 111), .call 33 [(.t 104), (.t 105), (.t 106), (.t 108), (.t 110)], none, none, []⟩, ⟨(some 103), .mv (.t 111), none, none, []⟩, ⟨(some 112), .extract (.t 103) 0, none, none, []⟩, ⟨(some 113), .extract (.t 103) 1, none, none, []⟩, ⟨(some 13), .mv (.t 112), none, none, []⟩, ⟨(some 14), .mv (.t 113), none, none, []⟩])
  (.seq (.reg [⟨(some 114), .mv (.t 8), none, none, []⟩, ⟨(some 115), .mv (.t 13), none, none, []⟩, ⟨(some 116), .bin .eql (.t 114) (.t 115), none, none, []⟩, ⟨(some 117), .mv (.t 116), none, none, []⟩, ⟨(some 118), .mv (.t 9), (some (117, true)), none, []⟩, ⟨(some 119), .mv (.t 14), (some (117, true)), none, []⟩, ⟨(some 120), .bin .eql (.t 118) (.t 119), (some (117, true)), none, []⟩, ⟨(some 121), .pick (.t 117) (.t 120) (.v (.bool false)), none, none, []⟩, ⟨(some 122), .mv (.t 121), none, none, []⟩, ⟨(some 123), .mv (.t 10), (some (122, true)), none, []⟩, ⟨(some 124), .bin .eql (.t 123) (.v (.int .i64 0)), (some (122, true)), none, []⟩, ⟨(some 125), .pick (.t 122) (.t 124) (.v (.bool false)), none, none, []⟩, ⟨(some 126), .mv (.t 125), none, none, []⟩, ⟨(some 127), .mv (.t 11), (some (126, true)), none, []⟩, ⟨(some 128), .conv .i64 (.t 127), (some (126, true)), none, []⟩, ⟨(some 129), .load (some 11) (.t 3), (some (126, true)), none, []⟩, ⟨(some 130), .load (some 6) (.t 4), (some (126, true)), none, []⟩, ⟨(some 131), .load (some 3) (.t 7), (some (126, true)), none, []⟩, ⟨(some 132), .iarr 5 1 (.t 5) (.v (.int .i64 3)), (some (126, true)), none, []⟩, ⟨(some 133), .load none (.t 132), (some (126, true)), none, []⟩, ⟨(some 134), .iarr 5 1 (.t 5) (.v (.int .i64 4)), (some (126, true)), none, []⟩, ⟨(some 135), .load none (.t 134), (some (126, true)), none, []⟩, ⟨(some 136), .call 34 [(.t 129), (.t 130), (.t 131), (.t 133), (.t 135)], (some (126, true)), none, []⟩, ⟨(some 137), .bin .eql (.t 128) (.t 136), (some (126, true)), none, []⟩, ⟨(some 138), .pick (.t 126) (.t 137) (.v (.bool false)), none, none, []⟩, ⟨(some 139), .mv (.t 138), none, none, []⟩, ⟨(some 140), .mv (.t 12), (some (139, true)), none, []⟩, ⟨(some 141), .bin .eql (.t 140) (.v (.int .i64 0)), (some (139, true)), none, []⟩, ⟨(some 142), .pick (.t 139) (.t 141) (.v (.bool false)), none, none, []⟩, ⟨(some 6), .mv (.t 142), none, none, []⟩])
  .ret))))))))))⟩
/-- pochoir/pochoirlaw30.Few -/
def s15 : SFn :=
 ⟨32, [.tmp 2],
  (.seq (.reg [⟨(some 1), .box 33 (.t 0), none, none, []⟩, ⟨(some 2), .mv (.v (.bool false)), none, none, []⟩])
  (.seq (.seq (.reg [⟨(some 5), .faddr 10 (.t 1), none, none, []⟩, ⟨(some 6), .load none (.t 5), none, none, []⟩, ⟨(some 7), .len false (.t 6), none, none, []⟩, ⟨(some 8), .mv (.v (.int .i64 0)), none, none, []⟩])
  (.block 0 (.loop (.seq (.reg [⟨(some 9), .bin .lss (.t 8) (.t 7), none, none, []⟩])
  (.seq (.cond (.t 9) .skip (.exit 0))
  (.seq (.block 1 (.seq (.reg [⟨(some 10), .iaddr 1 (.t 6) (.t 8), none, none, []⟩, ⟨(some 11), .load none (.t 10), none, none, []⟩, ⟨(some 4), .mv (.t 11), none, none, []⟩])
  (.seq (.reg [⟨(some 12), .mv (.t 4), none, none, []⟩, ⟨(some 13), .len true (.t 12), none, none, []⟩, ⟨(some 14), .bin .gtr (.t 13) (.v (.int .i64 2000)), none, none, []⟩])
  (.cond (.t 14) (.seq (.reg [⟨(some 2), .mv (.v (.bool false)), none, none, []⟩])
  .ret) .skip))))
  (.reg [⟨(some 15), .bin .add (.t 8) (.v (.int .i64 1)), none, none, []⟩, ⟨(some 8), .mv (.t 15), none, none, []⟩])))))))
  (.seq (.reg [⟨(some 16), .faddr 8 (.t 1), none, none, []⟩, ⟨(some 17), .load none (.t 16), none, none, []⟩, ⟨(some 18), .len false (.t 17), none, none, []⟩, ⟨(some 19), .bin .leq (.t 18) (.v (.int .i64 10)), none, none, []⟩, ⟨(some 20), .mv (.t 19), none, none, []⟩, ⟨(some 21), .faddr 9 (.t 1), (some (20, true)), none, []⟩, ⟨(some 22), .load none (.t 21), (some (20, true)), none, []⟩, ⟨(some 23), .len false (.t 22), (some (20, true)), none, []⟩, ⟨(some 24), .bin .leq (.t 23) (.v (.int .i64 20)), (some (20, true)), none, []⟩, ⟨(some 25), .pick (.t 20) (.t 24) (.v (.bool false)), none, none, []⟩, ⟨(some 26), .mv (.t 25), none, none, []⟩, ⟨(some 27), .faddr 10 (.t 1), (some (26, true)), none, []⟩, ⟨(some 28), .load none (.t 27), (some (26, true)), none, []⟩, ⟨(some 29), .len false (.t 28), (some (26, true)), none, []⟩, ⟨(some 30), .bin .leq (.t 29) (.v (.int .i64 4)), (some (26, true)), none, []⟩, ⟨(some 31), .pick (.t 26) (.t 30) (.v (.bool false)), none, none, []⟩, ⟨(some 2), .mv (.t 31), none, none, []⟩])
  .ret)))⟩
/-- pochoir/pochoirref30.May -/
def s24 : SFn :=
 ⟨113, [.tmp 2],
  (.seq (.reg [⟨(some 1), .box 33 (.t 0), none, none, []⟩, ⟨(some 2), .mv (.v (.bool false)), none, none, []⟩])
  (.seq (.seq (.reg [⟨(some 5), .faddr 0 (.t 1), none, none, []⟩, ⟨(some 6), .load none (.t 5), none, none, []⟩, ⟨(some 7), .call 49 [(.t 6), (.v (.int .i64 16)), (.v (.int .i64 16384))], none, none, []⟩, ⟨(some 8), .un .not (.t 7), none, none, []⟩, ⟨(some 9), .mv (.t 8), none, none, []⟩, ⟨(some 10), .faddr 1 (.t 1), (some (9, false)), none, []⟩, ⟨(some 11), .load none (.t 10), (some (9, false)), none, []⟩, ⟨(some 12), .call 49 [(.t 11), (.v (.int .i64 1)), (.v (.int .i64 128))], (some (9, false)), none, []⟩, ⟨(some 13), .un .not (.t 12), (some (9, false)), none, []⟩, ⟨(some 14), .pick (.t 9) (.v (.bool true)) (.t 13), none, none, []⟩, ⟨(some 15), .mv (.t 14), none, none, []⟩, ⟨(some 16), .faddr 2 (.t 1), (some (15, false)), none, []⟩, ⟨(some 17), .load none (.t 16), (some (15, false)), none, []⟩, ⟨(some 18), .call 49 [(.t 17), (.v (.int .i64 1)), (.v (.int .i64 16))], (some (15, false)), none, []⟩, ⟨(some 19), .un .not (.t 18), (some (15, false)), none, []⟩, ⟨(some 20), .pick (.t 15) (.v (.bool true)) (.t 19), none, none, []⟩, ⟨(some 21), .mv (.t 20), none, none, []⟩, ⟨(some 22), .faddr 3 (.t 1), (some (21, false)), none, []⟩, ⟨(some 23), .load none (.t 22), (some (21, false)), none, []⟩, ⟨(some 24), .call 50 [(.t 23)], (some (21, false)), none, []⟩, ⟨(some 25), .un .not (.t 24), (some (21, false)), none, []⟩, ⟨(some 26), .pick (.t 21) (.v (.bool true)) (.t 25), none, none, []⟩, ⟨(some 27), .mv (.t 26), none, none, []⟩, ⟨(some 28), .faddr 4 (.t 1), (some (27, false)), none, []⟩, ⟨(some 29), .load none (.t 28), (some (27, false)), none, []⟩, ⟨(some 30), .call 50 [(.t 29)], (some (27, false)), none, []⟩, ⟨(some 31), .un .not (.t 30), (some (27, false)), none, []⟩, ⟨(some 32), .pick (.t 27) (.v (.bool true)) (.t 31), none, none, []⟩, ⟨(some 33), .mv (.t 32), none, none, []⟩, ⟨(some 34), .faddr 5 (.t 1), (some (33, false)), none, []⟩, ⟨(some 35), .load none (.t 34), (some (33, false)), none, []⟩, ⟨(some 36), .call 50 [(.t 35)], (some (33, false)), none, []⟩, ⟨(some 37), .un .not (.t 36), (some (33, false)), none, []⟩, ⟨(some 38), .pick (.t 33) (.v (.bool true)) (.t 37), none, none, []⟩, ⟨(some 39), .mv (.t 38), none, none, []⟩, ⟨(some 40), .faddr 6 (.t 1), (some (39, false)), none, []⟩, ⟨(some 41), .faddr 0 (.t 40), (some (39, false)), none, []⟩, ⟨(some 42), .load none (.t 41), (some (39, false)), none, []⟩, ⟨(some 43), .call 49 [(.t 42), (.v (.int .i64 1)), (.v (.int .i64 1024))], (some (39, false)), none, []⟩, ⟨(some 44), .un .not (.t 43), (some (39, false)), none, []⟩, ⟨(some 45), .pick (.t 39) (.v (.bool true)) (.t 44), none, none, []⟩, ⟨(some 46), .mv (.t 45), none, none, []⟩, ⟨(some 47), .faddr 6 (.t 1), (some (46, false)), none, []⟩, ⟨(some 48), .faddr 1 (.t 47), (some (46, false)), none, []⟩, ⟨(some 49), .load none (.t 48), (some (46, false)), none, []⟩, ⟨(some 50), .call 49 [(.t 49), (.v (.int .i64 1)), (.v (.int .i64 1024))], (some (46, false)), none, []⟩, ⟨(some 51), .un .not (.t 50), (some (46, false)), none, []⟩, ⟨(some 52), .pick (.t 46) (.v (.bool true)) (.t 51), none, none, []⟩, ⟨(some 53), .mv (.t 52), none, none, []⟩, ⟨(some 54), .faddr 10 (.t 1), (some (53, false)), none, []⟩, ⟨(some 55), .load none (.t 54), (some (53, false)), none, []⟩, ⟨(some 56), .len false (.t 55), (some (53, false)), none, []⟩, ⟨(some 57), .bin .gtr (.t 56) (.v (.int .i64 16)), (some (53, false)), none, []⟩, ⟨(some 58), .pick (.t 53) (.v (.bool true)) (.t 57), none, none, []⟩, ⟨(some 59), .mv (.t 58), none, none, []⟩, ⟨(some 60), .faddr 8 (.t 1), (some (59, false)), none, []⟩, ⟨(some 61), .load none (.t 60), (some (59, false)), none, []⟩, ⟨(some 62), .len false (.t 61), (some (59, false)), none, []⟩, ⟨(some 63), .call 49 [(.t 62), (.v (.int .i64 1)), (.v (.int .i64 1024))], (some (59, false)), none, []⟩, ⟨(some 64), .un .not (.t 63), (some (59, false)), none, []⟩, ⟨(some 65), .pick (.t 59) (.v (.bool true)) (.t 64), none, none, []⟩])
  (.cond (.t 65) (.seq (.reg [⟨(some 2), .mv (.v (.bool false)), none, none, []⟩])
  .ret) .skip))
  (.seq (.seq (.reg [⟨(some 3), .mv (.v (.int .i64 0)), none, none, []⟩])
  (.block 0 (.loop (.seq (.seq (.reg [⟨(some 66), .mv (.t 3), none, none, []⟩, ⟨(some 67), .faddr 10 (.t 1), none, none, []⟩, ⟨(some 68), .load none (.t 67), none, none, []⟩, ⟨(some 69), .len false (.t 68), none, none, []⟩, ⟨(some 70), .bin .lss (.t 66) (.t 69), none, none, []⟩])
  (.cond (.t 70) .skip (.exit 0)))
  (.seq (.block 1 (.seq (.regd [⟨(some 73), .faddr 10 (.t 1), none, (some []), []⟩, ⟨(some 74), .load none (.t 73), none, (some []), []⟩, ⟨(some 75), .mv (.t 3), none, (some []), []⟩, ⟨(some 76), .iaddr 1 (.t 74) (.t 75), none, (some []), []⟩, ⟨(some 77), .load none (.t 76), none, (some []), []⟩, ⟨(some 78), .len true (.t 77), none, (some []), []⟩, ⟨(some 79), .faddr 6 (.t 1), none, (some []), []⟩, ⟨(some 80), .faddr 0 (.t 79), none, (some []), []⟩, ⟨(some 81), .load none (.t 80), none, (some []), []⟩, ⟨(some 82), .bin .mul (.v (.int .i64 4)) (.t 81), none, (some []), []⟩, ⟨(some 83), .faddr 6 (.t 1), none, (some []), []⟩, ⟨(some 84), .faddr 1 (.t 83), none, (some []), []⟩, ⟨(some 85), .load none (.t 84), none, (some []), []⟩, ⟨(some 86), .bin .mul (.t 82) (.t 85), none, (some []), []⟩, ⟨(some 87), .bin .neq (.t 78) (.t 86), none, (some []), []⟩])
  (.cond (.t 87) (.seq (.reg [⟨(some 2), .mv (.v (.bool false)), none, none, []⟩])
  .ret) .skip)))
  (.reg [⟨(some 71), .mv (.t 3), none, none, []⟩, ⟨(some 72), .bin .add (.t 71) (.v (.int .i64 1)), none, none, []⟩, ⟨(some 3), .mv (.t 72), none, none, []⟩]))))))
  (.seq (.seq (.reg [⟨(some 4), .mv (.v (.int .i64 0)), none, none, []⟩])
  (.block 2 (.loop (.seq (.seq (.reg [⟨(some 88), .mv (.t 4), none, none, []⟩, ⟨(some 89), .faddr 8 (.t 1), none, none, []⟩, ⟨(some 90), .load none (.t 89), none, none, []⟩, ⟨(some 91), .len false (.t 90), none, none, []⟩, ⟨(some 92), .bin .lss (.t 88) (.t 91), none, none, []⟩])
  (.cond (.t 92) .skip (.exit 2)))
  (.seq (.block 3 (.seq (.regd [⟨(some 95), .faddr 8 (.t 1), none, (some []), []⟩, ⟨(some 96), .load none (.t 95), none, (some []), []⟩, ⟨(some 97), .mv (.t 4), none, (some []), []⟩, ⟨(some 98), .iaddr 8 (.t 96) (.t 97), none, (some []), []⟩, ⟨(some 99), .load (some 8) (.t 98), none, (some []), []⟩, ⟨(some 100), .faddr 6 (.t 1), none, (some []), []⟩, ⟨(some 101), .load (some 2) (.t 100), none, (some []), []⟩, ⟨(some 102), .faddr 10 (.t 1), none, (some []), []⟩, ⟨(some 103), .load none (.t 102), none, (some []), []⟩, ⟨(some 104), .len false (.t 103), none, (some []), []⟩, ⟨(some 105), .call 51 [(.t 99), (.t 101), (.t 104)], none, none, []⟩, ⟨(some 106), .un .not (.t 105), none, (some []), []⟩])
  (.cond (.t 106) (.seq (.reg [⟨(some 2), .mv (.v (.bool false)), none, none, []⟩])
  .ret) .skip)))
  (.reg [⟨(some 93), .mv (.t 4), none, none, []⟩, ⟨(some 94), .bin .add (.t 93) (.v (.int .i64 1)), none, none, []⟩, ⟨(some 4), .mv (.t 94), none, none, []⟩]))))))
  (.seq (.reg [⟨(some 107), .faddr 9 (.t 1), none, none, []⟩, ⟨(some 108), .load none (.t 107), none, none, []⟩, ⟨(some 109), .faddr 8 (.t 1), none, none, []⟩, ⟨(some 110), .load none (.t 109), none, none, []⟩, ⟨(some 111), .len false (.t 110), none, none, []⟩, ⟨(some 112), .call 52 [(.t 108), (.t 111)], none, none, []⟩, ⟨(some 2), .mv (.t 112), none, none, []⟩])
  .ret)))))⟩
/-- pochoir/pochoirlaw34.awake -/
def s25 : SFn :=
 ⟨62, [.tmp 0],
  (.seq (.reg [⟨(some 0), .mv (.v (.bool false)), none, none, []⟩])
  (.seq (.reg [⟨(some 9), .build [(.int .i64 0), (.int .i64 0), (.int .i64 0), (.int .i64 0), (.int .i64 0), (.int .i64 0)] [(0, 1, (.v (.int .i64 3))), (1, 1, (.v (.int .i64 1))), (4, 1, (.v (.int .i64 2))), (5, 1, (.v (.int .i64 1)))], none, none, []⟩, ⟨(some 1), .box 55 (.v (.agg [(.int .i64 0), (.int .i64 0), (.int .i64 0), (.int .i64 0), (.int .i64 0), (.int .i64 0)])), none, none, []⟩, ⟨none, .store 6 (.t 1) (.t 9), none, none, []⟩])
  (.seq (.regd [⟨(some 11), .call 53 [], none, (some []), []⟩, ⟨(some 12), .load (some 6) (.t 1), none, (some [0]), []⟩, ⟨(some 13), .build [(.int .i64 0), (.int .i64 0), (.int .i64 0)] [], none, (some [0]), []⟩, ⟨(some 14), .bsl 52 [(.int .i64 0), (.int .i64 0), (.int .i64 0)] 1 3 [(0, 3, (.t 13))], none, (some [0]), []⟩, ⟨(some 15), .call 27 [(.t 11), (.t 12), (.t 14)], none, none, []⟩, ⟨(some 10), .mv (.t 15), none, (some []), []⟩, ⟨(some 16), .extract (.t 10) 0, none, (some []), []⟩, ⟨(some 17), .extract (.t 10) 1, none, (some []), []⟩, ⟨(some 2), .mv (.t 16), none, (some []), []⟩, ⟨(some 3), .mv (.t 17), none, (some []), []⟩])
  (.seq (.regd [⟨(some 19), .call 53 [], none, none, [(none, (.t 1))]⟩, ⟨(some 20), .load (some 6) (.t 1), none, (some [0]), []⟩, ⟨(some 21), .build [(.int .i64 0), (.int .i64 0), (.int .i64 0)] [], none, (some [0]), []⟩, ⟨(some 22), .call 30 [(.t 19), (.t 20), (.t 21), (.v (.int .i64 1)), (.v (.int .i64 0))], none, none, []⟩, ⟨(some 18), .mv (.t 22), none, (some []), []⟩, ⟨(some 23), .extract (.t 18) 0, none, (some []), []⟩, ⟨(some 24), .extract (.t 18) 1, none, (some []), []⟩, ⟨(some 25), .extract (.t 18) 2, none, (some []), []⟩, ⟨(some 4), .mv (.t 23), none, (some []), []⟩, ⟨(some 5), .mv (.t 24), none, (some []), []⟩, ⟨(some 6), .mv (.t 25), none, (some []), []⟩])
  (.seq (.regd [⟨(some 27), .call 53 [], none, none, [(none, (.t 1))]⟩, ⟨(some 28), .load (some 6) (.t 1), none, (some [0]), []⟩, ⟨(some 29), .call 27 [(.t 27), (.t 28), (.v .nils)], none, none, []⟩, ⟨(some 26), .mv (.t 29), none, (some []), []⟩, ⟨(some 30), .extract (.t 26) 0, none, (some []), []⟩, ⟨(some 31), .extract (.t 26) 1, none, (some []), []⟩, ⟨(some 7), .mv (.t 30), none, (some []), []⟩, ⟨(some 8), .mv (.t 31), none, (some []), []⟩])
  (.seq (.reg [⟨(some 32), .mv (.t 2), none, none, []⟩, ⟨(some 33), .bin .eql (.t 32) (.v (.str ⟨#[255, 128, 0]⟩)), none, none, []⟩, ⟨(some 34), .mv (.t 33), none, none, []⟩, ⟨(some 35), .mv (.t 3), (some (34, true)), none, []⟩, ⟨(some 36), .bin .eql (.t 35) (.v (.int .i64 0)), (some (34, true)), none, []⟩, ⟨(some 37), .pick (.t 34) (.t 36) (.v (.bool false)), none, none, []⟩, ⟨(some 38), .mv (.t 37), none, none, []⟩, ⟨(some 39), .mv (.t 4), (some (38, true)), none, []⟩, ⟨(some 40), .bin .eql (.t 39) (.v (.int .i64 256)), (some (38, true)), none, []⟩, ⟨(some 41), .pick (.t 38) (.t 40) (.v (.bool false)), none, none, []⟩, ⟨(some 42), .mv (.t 41), none, none, []⟩, ⟨(some 43), .mv (.t 5), (some (42, true)), none, []⟩, ⟨(some 44), .bin .eql (.t 43) (.v (.int .i64 0)), (some (42, true)), none, []⟩, ⟨(some 45), .pick (.t 42) (.t 44) (.v (.bool false)), none, none, []⟩, ⟨(some 46), .mv (.t 45), none, none, []⟩, ⟨(some 47), .mv (.t 6), (some (46, true)), none, []⟩, ⟨(some 48), .bin .eql (.t 47) (.v (.int .i64 0)), (some (46, true)), none, []⟩, ⟨(some 49), .pick (.t 46) (.t 48) (.v (.bool false)), none, none, []⟩, ⟨(some 50), .mv (.t 49), none, none, []⟩, ⟨(some 51), .mv (.t 7), (some (50, true)), none, []⟩, ⟨(some 52), .bin .eql (.t 51) (.v (.str ⟨#[0, 0, 0]⟩)), (some (50, true)), none, []⟩, ⟨(some 53), .pick (.t 50) (.t 52) (.v (.bool false)), none, none, []⟩, ⟨(some 54), .mv (.t 53), none, none, []⟩, ⟨(some 55), .mv (.t 8), (some (54, true)), none, []⟩, ⟨(some 56), .bin .eql (.t 55) (.v (.int .i64 0)), (some (54, true)), none, []⟩, ⟨(some 57), .pick (.t 54) (.t 56) (.v (.bool false)), none, none, []⟩, ⟨(some 58), .mv (.t 57), none, none, []⟩, ⟨(some 59), .load (some 6) (.t 1), (some (58, true)), none, []⟩, ⟨(some 60), .call 32 [(.t 59)], (some (58, true)), none, []⟩, ⟨(some 61), .pick (.t 58) (.t 60) (.v (.bool false)), none, none, []⟩, ⟨(some 0), .mv (.t 61), none, none, []⟩])
  .ret))))))⟩
/-- pochoir/pochoirref34.May -/
def s26 : SFn :=
 ⟨31, [.tmp 2],
  (.seq (.reg [⟨(some 1), .box 55 (.t 0), none, none, []⟩, ⟨(some 2), .mv (.v (.bool false)), none, none, []⟩])
  (.seq (.reg [⟨(some 3), .faddr 0 (.t 1), none, none, []⟩, ⟨(some 4), .load none (.t 3), none, none, []⟩, ⟨(some 5), .call 54 [(.t 4), (.v (.int .i64 1)), (.v (.int .i64 1024))], none, none, []⟩, ⟨(some 6), .mv (.t 5), none, none, []⟩, ⟨(some 7), .faddr 1 (.t 1), (some (6, true)), none, []⟩, ⟨(some 8), .load none (.t 7), (some (6, true)), none, []⟩, ⟨(some 9), .call 54 [(.t 8), (.v (.int .i64 1)), (.v (.int .i64 1024))], (some (6, true)), none, []⟩, ⟨(some 10), .pick (.t 6) (.t 9) (.v (.bool false)), none, none, []⟩, ⟨(some 11), .mv (.t 10), none, none, []⟩, ⟨(some 12), .faddr 2 (.t 1), (some (11, true)), none, []⟩, ⟨(some 13), .load none (.t 12), (some (11, true)), none, []⟩, ⟨(some 14), .call 54 [(.t 13), (.v (.int .i64 (-32768))), (.v (.int .i64 32767))], (some (11, true)), none, []⟩, ⟨(some 15), .pick (.t 11) (.t 14) (.v (.bool false)), none, none, []⟩, ⟨(some 16), .mv (.t 15), none, none, []⟩, ⟨(some 17), .faddr 3 (.t 1), (some (16, true)), none, []⟩, ⟨(some 18), .load none (.t 17), (some (16, true)), none, []⟩, ⟨(some 19), .call 54 [(.t 18), (.v (.int .i64 (-32768))), (.v (.int .i64 32767))], (some (16, true)), none, []⟩, ⟨(some 20), .pick (.t 16) (.t 19) (.v (.bool false)), none, none, []⟩, ⟨(some 21), .mv (.t 20), none, none, []⟩, ⟨(some 22), .faddr 4 (.t 1), (some (21, true)), none, []⟩, ⟨(some 23), .load none (.t 22), (some (21, true)), none, []⟩, ⟨(some 24), .call 54 [(.t 23), (.v (.int .i64 1)), (.v (.int .i64 1024))], (some (21, true)), none, []⟩, ⟨(some 25), .pick (.t 21) (.t 24) (.v (.bool false)), none, none, []⟩, ⟨(some 26), .mv (.t 25), none, none, []⟩, ⟨(some 27), .faddr 5 (.t 1), (some (26, true)), none, []⟩, ⟨(some 28), .load none (.t 27), (some (26, true)), none, []⟩, ⟨(some 29), .call 54 [(.t 28), (.v (.int .i64 1)), (.v (.int .i64 1024))], (some (26, true)), none, []⟩, ⟨(some 30), .pick (.t 26) (.t 29) (.v (.bool false)), none, none, []⟩, ⟨(some 2), .mv (.t 30), none, none, []⟩])
  .ret))⟩
/-- pochoir/raster.Draw -/
def s27 : SFn :=
 ⟨42, [.tmp 6, .tmp 7],
  (.seq (.reg [⟨(some 3), .box 33 (.t 0), none, none, []⟩, ⟨(some 4), .box 55 (.t 1), none, none, []⟩, ⟨(some 6), .mv (.v (.str ⟨#[]⟩)), none, none, []⟩, ⟨(some 7), .mv (.v (.int .i64 0)), none, none, []⟩])
  (.seq (.seq (.reg [⟨(some 13), .load (some 11) (.t 3), none, none, []⟩, ⟨(some 14), .load (some 6) (.t 4), none, none, []⟩, ⟨(some 15), .mv (.t 2), none, none, []⟩, ⟨(some 16), .call 55 [(.t 13), (.t 14), (.t 15)], none, none, []⟩, ⟨(some 8), .mv (.t 16), none, none, []⟩])
  (.seq (.reg [⟨(some 17), .mv (.t 8), none, none, []⟩, ⟨(some 18), .bin .neq (.t 17) (.v (.int .i64 0)), none, none, []⟩])
  (.cond (.t 18) (.seq (.reg [⟨(some 19), .mv (.t 8), none, none, []⟩, ⟨(some 6), .mv (.v (.str ⟨#[]⟩)), none, none, []⟩, ⟨(some 7), .mv (.t 19), none, none, []⟩])
  .ret) .skip)))
  (.seq (.reg [⟨(some 20), .faddr 0 (.t 4), none, none, []⟩, ⟨(some 21), .load none (.t 20), none, none, []⟩, ⟨(some 22), .faddr 1 (.t 4), none, none, []⟩, ⟨(some 23), .load none (.t 22), none, none, []⟩, ⟨(some 24), .bin .mul (.t 21) (.t 23), none, none, []⟩, ⟨(some 25), .mksl 5 [(.int .u8 0)] (.t 24) (.t 24), none, none, []⟩, ⟨(some 9), .mv (.t 25), none, none, []⟩])
  (.seq (.reg [⟨(some 26), .load (some 11) (.t 3), none, none, []⟩, ⟨(some 27), .load (some 6) (.t 4), none, none, []⟩, ⟨(some 28), .call 56 [(.t 26), (.t 27)], none, none, []⟩, ⟨(some 10), .box 111 (.v (.agg [(.int .i64 0), (.int .i64 0), (.int .i64 0), (.int .i64 0), (.int .i64 0), (.int .i64 0), (.int .i64 0), (.int .i64 0), .nils, .nils, .nils, (.int .i64 0), (.int .i64 0), (.int .i64 0), (.int .i64 0), (.int .i64 0), (.int .i64 0), (.int .i64 0), (.int .i64 0)])), none, none, []⟩, ⟨none, .store 19 (.t 10) (.t 28), none, none, []⟩])
  (.seq (.seq (.reg [⟨(some 29), .mv (.t 2), none, none, []⟩, ⟨(some 30), .len false (.t 29), none, none, []⟩, ⟨(some 31), .mv (.v (.int .i64 0)), none, none, []⟩])
  (.block 0 (.loop (.seq (.reg [⟨(some 32), .bin .lss (.t 31) (.t 30), none, none, []⟩])
  (.seq (.cond (.t 32) .skip (.exit 0))
  (.seq (.block 1 (.seq (.reg [⟨(some 33), .iaddr 3 (.t 29) (.t 31), none, none, []⟩, ⟨(some 34), .load (some 3) (.t 33), none, none, []⟩, ⟨(some 12), .box 52 (.v (.agg [(.int .i64 0), (.int .i64 0), (.int .i64 0)])), none, none, []⟩, ⟨none, .store 3 (.t 12) (.t 34), none, none, []⟩])
  (.reg [⟨(some 35), .load (some 19) (.t 10), none, none, []⟩, ⟨(some 36), .mv (.t 9), none, none, []⟩, ⟨(some 37), .load (some 3) (.t 12), none, none, []⟩, ⟨(some 38), .call 57 [(.t 35), (.t 36), (.t 37)], none, none, []⟩])))
  (.reg [⟨(some 39), .bin .add (.t 31) (.v (.int .i64 1)), none, none, []⟩, ⟨(some 31), .mv (.t 39), none, none, []⟩])))))))
  (.seq (.reg [⟨(some 40), .mv (.t 9), none, none, []⟩, ⟨(some 41), .b2s (.t 40), none, none, []⟩, ⟨(some 6), .mv (.t 41), none, none, []⟩, ⟨(some 7), .mv (.v (.int .i64 0)), none, none, []⟩])
  .ret))))))⟩
/-- pochoir/pochoirref34.Asked -/
def s28 : SFn :=
 ⟨32, [.tmp 6],
  (.seq (.reg [⟨(some 3), .box 33 (.t 0), none, none, []⟩, ⟨(some 4), .box 55 (.t 1), none, none, []⟩, ⟨(some 6), .mv (.v (.int .i64 0)), none, none, []⟩])
  (.seq (.seq (.reg [⟨(some 8), .load (some 11) (.t 3), none, none, []⟩, ⟨(some 9), .call 24 [(.t 8)], none, none, []⟩, ⟨(some 10), .un .not (.t 9), none, none, []⟩, ⟨(some 11), .mv (.t 10), none, none, []⟩, ⟨(some 12), .load (some 6) (.t 4), (some (11, false)), none, []⟩, ⟨(some 13), .call 26 [(.t 12)], (some (11, false)), none, []⟩, ⟨(some 14), .un .not (.t 13), (some (11, false)), none, []⟩, ⟨(some 15), .pick (.t 11) (.v (.bool true)) (.t 14), none, none, []⟩])
  (.cond (.t 15) (.seq (.reg [⟨(some 6), .mv (.v (.int .i64 1)), none, none, []⟩])
  .ret) .skip))
  (.seq (.seq (.reg [⟨(some 7), .mv (.v (.int .i64 0)), none, none, []⟩])
  (.block 0 (.loop (.seq (.seq (.reg [⟨(some 16), .mv (.t 7), none, none, []⟩, ⟨(some 17), .mv (.t 2), none, none, []⟩, ⟨(some 18), .len false (.t 17), none, none, []⟩, ⟨(some 19), .bin .lss (.t 16) (.t 18), none, none, []⟩])
  (.cond (.t 19) .skip (.exit 0)))
  (.seq (.block 1 (.seq (.regd [⟨(some 22), .load (some 11) (.t 3), none, (some []), []⟩, ⟨(some 23), .mv (.t 2), none, (some []), []⟩, ⟨(some 24), .mv (.t 7), none, (some []), []⟩, ⟨(some 25), .iaddr 3 (.t 23) (.t 24), none, (some []), []⟩, ⟨(some 26), .load (some 3) (.t 25), none, (some []), []⟩, ⟨(some 27), .call 58 [(.t 22), (.t 26)], none, none, []⟩, ⟨(some 28), .un .not (.t 27), none, (some []), []⟩])
  (.cond (.t 28) (.seq (.reg [⟨(some 6), .mv (.v (.int .i64 1)), none, none, []⟩])
  .ret) .skip)))
  (.reg [⟨(some 20), .mv (.t 7), none, none, []⟩, ⟨(some 21), .bin .add (.t 20) (.v (.int .i64 1)), none, none, []⟩, ⟨(some 7), .mv (.t 21), none, none, []⟩]))))))
  (.seq (.seq (.reg [⟨(some 29), .mv (.t 2), none, none, []⟩, ⟨(some 30), .len false (.t 29), none, none, []⟩, ⟨(some 31), .bin .gtr (.t 30) (.v (.int .i64 1024)), none, none, []⟩])
  (.cond (.t 31) (.seq (.reg [⟨(some 6), .mv (.v (.int .i64 6)), none, none, []⟩])
  .ret) .skip))
  (.seq (.reg [⟨(some 6), .mv (.v (.int .i64 0)), none, none, []⟩])
  .ret)))))⟩
/-- pochoir/pochoirref34.Draw -/
def s29 : SFn :=
 ⟨53, [.tmp 6],
  (.seq (.reg [⟨(some 3), .box 33 (.t 0), none, none, []⟩, ⟨(some 4), .box 55 (.t 1), none, none, []⟩, ⟨(some 6), .mv (.v (.str ⟨#[]⟩)), none, none, []⟩])
  (.seq (.reg [⟨(some 11), .faddr 0 (.t 4), none, none, []⟩, ⟨(some 12), .load none (.t 11), none, none, []⟩, ⟨(some 13), .faddr 1 (.t 4), none, none, []⟩, ⟨(some 14), .load none (.t 13), none, none, []⟩, ⟨(some 15), .bin .mul (.t 12) (.t 14), none, none, []⟩, ⟨(some 16), .mksl 5 [(.int .u8 0)] (.t 15) (.t 15), none, none, []⟩, ⟨(some 7), .mv (.t 16), none, none, []⟩])
  (.seq (.seq (.reg [⟨(some 8), .mv (.v (.int .i64 0)), none, none, []⟩])
  (.block 0 (.loop (.seq (.seq (.reg [⟨(some 17), .mv (.t 8), none, none, []⟩, ⟨(some 18), .mv (.t 7), none, none, []⟩, ⟨(some 19), .len false (.t 18), none, none, []⟩, ⟨(some 20), .bin .lss (.t 17) (.t 19), none, none, []⟩])
  (.cond (.t 20) .skip (.exit 0)))
  (.seq (.block 1 (.seq (.reg [⟨(some 9), .mv (.v (.int .i64 0)), none, none, []⟩])
  (.seq (.seq (.reg [⟨(some 10), .mv (.v (.int .i64 0)), none, none, []⟩])
  (.block 2 (.loop (.seq (.seq (.reg [⟨(some 23), .mv (.t 10), none, none, []⟩, ⟨(some 24), .mv (.t 2), none, none, []⟩, ⟨(some 25), .len false (.t 24), none, none, []⟩, ⟨(some 26), .bin .lss (.t 23) (.t 25), none, none, []⟩])
  (.cond (.t 26) .skip (.exit 2)))
  (.seq (.block 3 (.regd [⟨(some 29), .mv (.t 9), none, (some []), []⟩, ⟨(some 30), .load (some 11) (.t 3), none, (some []), []⟩, ⟨(some 31), .load (some 6) (.t 4), none, (some []), []⟩, ⟨(some 32), .mv (.t 2), none, (some []), []⟩, ⟨(some 33), .mv (.t 10), none, (some []), []⟩, ⟨(some 34), .iaddr 3 (.t 32) (.t 33), none, (some []), []⟩, ⟨(some 35), .load (some 3) (.t 34), none, (some []), []⟩, ⟨(some 36), .mv (.t 8), none, (some []), []⟩, ⟨(some 37), .faddr 0 (.t 4), none, (some []), []⟩, ⟨(some 38), .load none (.t 37), none, (some []), []⟩, ⟨(some 39), .bin .rem (.t 36) (.t 38), none, (some []), []⟩, ⟨(some 40), .mv (.t 8), none, (some []), []⟩, ⟨(some 41), .faddr 0 (.t 4), none, (some []), []⟩, ⟨(some 42), .load none (.t 41), none, (some []), []⟩, ⟨(some 43), .bin .quo (.t 40) (.t 42), none, (some []), []⟩, ⟨(some 44), .call 34 [(.t 30), (.t 31), (.t 35), (.t 39), (.t 43)], none, none, []⟩, ⟨(some 45), .mnmx true [(.t 29), (.t 44)], none, (some []), []⟩, ⟨(some 9), .mv (.t 45), none, (some []), []⟩]))
  (.reg [⟨(some 27), .mv (.t 10), none, none, []⟩, ⟨(some 28), .bin .add (.t 27) (.v (.int .i64 1)), none, none, []⟩, ⟨(some 10), .mv (.t 28), none, none, []⟩]))))))
  (.reg [⟨(some 46), .mv (.t 7), none, none, []⟩, ⟨(some 47), .mv (.t 8), none, none, []⟩, ⟨(some 48), .mv (.t 9), none, none, []⟩, ⟨(some 49), .conv .u8 (.t 48), none, none, []⟩, ⟨(some 50), .iaddr 1 (.t 46) (.t 47), none, none, []⟩, ⟨none, .store 1 (.t 50) (.t 49), none, none, []⟩]))))
  (.reg [⟨(some 21), .mv (.t 8), none, none, []⟩, ⟨(some 22), .bin .add (.t 21) (.v (.int .i64 1)), none, none, []⟩, ⟨(some 8), .mv (.t 22), none, none, []⟩]))))))
  (.seq (.reg [⟨(some 51), .mv (.t 7), none, none, []⟩, ⟨(some 52), .b2s (.t 51), none, none, []⟩, ⟨(some 6), .mv (.t 52), none, none, []⟩])
  .ret))))⟩
/-- pochoir/raster.Point -/
def s30 : SFn :=
 ⟨53, [.tmp 10, .tmp 11, .tmp 12],
  (.seq (.reg [⟨(some 5), .box 33 (.t 0), none, none, []⟩, ⟨(some 6), .box 55 (.t 1), none, none, []⟩, ⟨(some 7), .box 52 (.t 2), none, none, []⟩, ⟨(some 10), .mv (.v (.int .i64 0)), none, none, []⟩, ⟨(some 11), .mv (.v (.int .i64 0)), none, none, []⟩, ⟨(some 12), .mv (.v (.int .i64 0)), none, none, []⟩])
  (.seq (.seq (.reg [⟨(some 16), .load (some 11) (.t 5), none, none, []⟩, ⟨(some 17), .load (some 6) (.t 6), none, none, []⟩, ⟨(some 18), .load (some 3) (.t 7), none, none, []⟩, ⟨(some 19), .bsl 52 [(.int .i64 0), (.int .i64 0), (.int .i64 0)] 1 3 [(0, 3, (.t 18))], none, none, []⟩, ⟨(some 20), .call 55 [(.t 16), (.t 17), (.t 19)], none, none, []⟩, ⟨(some 13), .mv (.t 20), none, none, []⟩])
  (.seq (.reg [⟨(some 21), .mv (.t 13), none, none, []⟩, ⟨(some 22), .bin .neq (.t 21) (.v (.int .i64 0)), none, none, []⟩, ⟨(some 23), .mv (.t 22), none, none, []⟩, ⟨(some 24), .mv (.t 3), (some (23, false)), none, []⟩, ⟨(some 25), .faddr 0 (.t 6), (some (23, false)), none, []⟩, ⟨(some 26), .load none (.t 25), (some (23, false)), none, []⟩, ⟨(some 27), .bin .sub (.t 26) (.v (.int .i64 1)), (some (23, false)), none, []⟩, ⟨(some 28), .call 59 [(.t 24), (.v (.int .i64 0)), (.t 27)], (some (23, false)), none, []⟩, ⟨(some 29), .un .not (.t 28), (some (23, false)), none, []⟩, ⟨(some 30), .pick (.t 23) (.v (.bool true)) (.t 29), none, none, []⟩, ⟨(some 31), .mv (.t 30), none, none, []⟩, ⟨(some 32), .mv (.t 4), (some (31, false)), none, []⟩, ⟨(some 33), .faddr 1 (.t 6), (some (31, false)), none, []⟩, ⟨(some 34), .load none (.t 33), (some (31, false)), none, []⟩, ⟨(some 35), .bin .sub (.t 34) (.v (.int .i64 1)), (some (31, false)), none, []⟩, ⟨(some 36), .call 59 [(.t 32), (.v (.int .i64 0)), (.t 35)], (some (31, false)), none, []⟩, ⟨(some 37), .un .not (.t 36), (some (31, false)), none, []⟩, ⟨(some 38), .pick (.t 31) (.v (.bool true)) (.t 37), none, none, []⟩])
  (.cond (.t 38) (.seq (.reg [⟨(some 10), .mv (.v (.int .i64 0)), none, none, []⟩, ⟨(some 11), .mv (.v (.int .i64 0)), none, none, []⟩, ⟨(some 12), .mv (.v (.int .i64 1)), none, none, []⟩])
  .ret) .skip)))
  (.seq (.regd [⟨(some 40), .load (some 11) (.t 5), none, (some []), []⟩, ⟨(some 41), .load (some 6) (.t 6), none, (some []), []⟩, ⟨(some 42), .call 56 [(.t 40), (.t 41)], none, (some []), []⟩, ⟨(some 43), .load (some 3) (.t 7), none, (some [2]), []⟩, ⟨(some 44), .call 60 [(.t 42), (.t 43)], none, (some []), []⟩, ⟨(some 39), .mv (.t 44), none, (some []), []⟩, ⟨(some 45), .extract (.t 39) 0, none, (some []), []⟩, ⟨(some 46), .extract (.t 39) 1, none, (some []), []⟩, ⟨(some 14), .box 116 (.v (.agg [(.int .i64 0), (.int .i64 0), (.int .i64 0)])), none, (some [2, 4]), []⟩, ⟨(some 15), .box 116 (.v (.agg [(.int .i64 0), (.int .i64 0), (.int .i64 0)])), none, (some [2, 4, 8]), []⟩, ⟨none, .store 3 (.t 14) (.t 45), none, none, []⟩, ⟨none, .store 3 (.t 15) (.t 46), none, none, []⟩])
  (.seq (.regd [⟨(some 47), .load (some 3) (.t 14), none, (some []), []⟩, ⟨(some 48), .mv (.t 3), none, (some []), []⟩, ⟨(some 49), .call 61 [(.t 47), (.t 48)], none, none, [(none, (.t 15))]⟩, ⟨(some 50), .load (some 3) (.t 15), none, (some [2]), []⟩, ⟨(some 51), .mv (.t 4), none, (some [2]), []⟩, ⟨(some 52), .call 61 [(.t 50), (.t 51)], none, none, []⟩, ⟨(some 10), .mv (.t 49), none, (some []), []⟩, ⟨(some 11), .mv (.t 52), none, (some []), []⟩, ⟨(some 12), .mv (.v (.int .i64 0)), none, (some []), []⟩])
  .ret))))⟩
/-- pochoir/raster.Pixel -/
def s31 : SFn :=
 ⟨36, [.tmp 10, .tmp 11],
  (.seq (.reg [⟨(some 5), .box 33 (.t 0), none, none, []⟩, ⟨(some 6), .box 55 (.t 1), none, none, []⟩, ⟨(some 7), .box 52 (.t 2), none, none, []⟩, ⟨(some 10), .mv (.v (.int .u8 0)), none, none, []⟩, ⟨(some 11), .mv (.v (.int .i64 0)), none, none, []⟩])
  (.seq (.reg [⟨(some 16), .load (some 11) (.t 5), none, none, []⟩, ⟨(some 17), .load (some 6) (.t 6), none, none, []⟩, ⟨(some 18), .load (some 3) (.t 7), none, none, []⟩, ⟨(some 19), .mv (.t 3), none, none, []⟩, ⟨(some 20), .mv (.t 4), none, none, []⟩, ⟨(some 21), .call 30 [(.t 16), (.t 17), (.t 18), (.t 19), (.t 20)], none, none, []⟩, ⟨(some 15), .mv (.t 21), none, none, []⟩, ⟨(some 22), .extract (.t 15) 0, none, none, []⟩, ⟨(some 23), .extract (.t 15) 1, none, none, []⟩, ⟨(some 24), .extract (.t 15) 2, none, none, []⟩, ⟨(some 12), .mv (.t 22), none, none, []⟩, ⟨(some 13), .mv (.t 23), none, none, []⟩, ⟨(some 14), .mv (.t 24), none, none, []⟩])
  (.seq (.seq (.reg [⟨(some 25), .mv (.t 14), none, none, []⟩, ⟨(some 26), .bin .neq (.t 25) (.v (.int .i64 0)), none, none, []⟩])
  (.cond (.t 26) (.seq (.reg [⟨(some 27), .mv (.t 14), none, none, []⟩, ⟨(some 10), .mv (.v (.int .u8 0)), none, none, []⟩, ⟨(some 11), .mv (.t 27), none, none, []⟩])
  .ret) .skip))
  (.seq (.regd [⟨(some 28), .load (some 11) (.t 5), none, (some []), []⟩, ⟨(some 29), .load (some 6) (.t 6), none, (some []), []⟩, ⟨(some 30), .call 56 [(.t 28), (.t 29)], none, none, [(none, (.t 7))]⟩, ⟨(some 31), .faddr 0 (.t 7), none, (some [2]), []⟩, ⟨(some 32), .load none (.t 31), none, (some [2]), []⟩, ⟨(some 33), .mv (.t 12), none, (some [2]), []⟩, ⟨(some 34), .mv (.t 13), none, (some [2]), []⟩, ⟨(some 35), .call 62 [(.t 30), (.t 32), (.t 33), (.t 34)], none, none, []⟩, ⟨(some 10), .mv (.t 35), none, (some []), []⟩, ⟨(some 11), .mv (.v (.int .i64 0)), none, (some []), []⟩])
  .ret))))⟩
/-- pochoir/raster.May -/
def s32 : SFn :=
 ⟨31, [.tmp 2],
  (.seq (.reg [⟨(some 1), .box 55 (.t 0), none, none, []⟩, ⟨(some 2), .mv (.v (.bool false)), none, none, []⟩])
  (.seq (.reg [⟨(some 3), .faddr 0 (.t 1), none, none, []⟩, ⟨(some 4), .load none (.t 3), none, none, []⟩, ⟨(some 5), .call 59 [(.t 4), (.v (.int .i64 1)), (.v (.int .i64 1024))], none, none, []⟩, ⟨(some 6), .mv (.t 5), none, none, []⟩, ⟨(some 7), .faddr 1 (.t 1), (some (6, true)), none, []⟩, ⟨(some 8), .load none (.t 7), (some (6, true)), none, []⟩, ⟨(some 9), .call 59 [(.t 8), (.v (.int .i64 1)), (.v (.int .i64 1024))], (some (6, true)), none, []⟩, ⟨(some 10), .pick (.t 6) (.t 9) (.v (.bool false)), none, none, []⟩, ⟨(some 11), .mv (.t 10), none, none, []⟩, ⟨(some 12), .faddr 2 (.t 1), (some (11, true)), none, []⟩, ⟨(some 13), .load none (.t 12), (some (11, true)), none, []⟩, ⟨(some 14), .call 59 [(.t 13), (.v (.int .i64 (-32768))), (.v (.int .i64 32767))], (some (11, true)), none, []⟩, ⟨(some 15), .pick (.t 11) (.t 14) (.v (.bool false)), none, none, []⟩, ⟨(some 16), .mv (.t 15), none, none, []⟩, ⟨(some 17), .faddr 3 (.t 1), (some (16, true)), none, []⟩, ⟨(some 18), .load none (.t 17), (some (16, true)), none, []⟩, ⟨(some 19), .call 59 [(.t 18), (.v (.int .i64 (-32768))), (.v (.int .i64 32767))], (some (16, true)), none, []⟩, ⟨(some 20), .pick (.t 16) (.t 19) (.v (.bool false)), none, none, []⟩, ⟨(some 21), .mv (.t 20), none, none, []⟩, ⟨(some 22), .faddr 4 (.t 1), (some (21, true)), none, []⟩, ⟨(some 23), .load none (.t 22), (some (21, true)), none, []⟩, ⟨(some 24), .call 59 [(.t 23), (.v (.int .i64 1)), (.v (.int .i64 1024))], (some (21, true)), none, []⟩, ⟨(some 25), .pick (.t 21) (.t 24) (.v (.bool false)), none, none, []⟩, ⟨(some 26), .mv (.t 25), none, none, []⟩, ⟨(some 27), .faddr 5 (.t 1), (some (26, true)), none, []⟩, ⟨(some 28), .load none (.t 27), (some (26, true)), none, []⟩, ⟨(some 29), .call 59 [(.t 28), (.v (.int .i64 1)), (.v (.int .i64 1024))], (some (26, true)), none, []⟩, ⟨(some 30), .pick (.t 26) (.t 29) (.v (.bool false)), none, none, []⟩, ⟨(some 2), .mv (.t 30), none, none, []⟩])
  .ret))⟩
/-- pochoir/pochoirref34.Point -/
def s33 : SFn :=
 ⟨40, [.tmp 10, .tmp 11],
  (.seq (.reg [⟨(some 5), .box 33 (.t 0), none, none, []⟩, ⟨(some 6), .box 55 (.t 1), none, none, []⟩, ⟨(some 7), .box 52 (.t 2), none, none, []⟩, ⟨(some 10), .mv (.v (.int .i64 0)), none, none, []⟩, ⟨(some 11), .mv (.v (.int .i64 0)), none, none, []⟩])
  (.seq (.reg [⟨(some 13), .faddr 8 (.t 5), none, none, []⟩, ⟨(some 14), .load none (.t 13), none, none, []⟩, ⟨(some 15), .faddr 0 (.t 7), none, none, []⟩, ⟨(some 16), .load none (.t 15), none, none, []⟩, ⟨(some 17), .iaddr 8 (.t 14) (.t 16), none, none, []⟩, ⟨(some 18), .faddr 1 (.t 17), none, none, []⟩, ⟨(some 19), .load (some 4) (.t 18), none, none, []⟩, ⟨(some 12), .box 73 (.v (.agg [(.int .i64 0), (.int .i64 0), (.int .i64 0), (.int .i64 0)])), none, none, []⟩, ⟨none, .store 4 (.t 12) (.t 19), none, none, []⟩])
  (.seq (.regd [⟨(some 20), .load (some 11) (.t 5), none, (some []), []⟩, ⟨(some 21), .load (some 6) (.t 6), none, (some []), []⟩, ⟨(some 22), .mv (.t 3), none, (some []), []⟩, ⟨(some 23), .faddr 2 (.t 6), none, (some []), []⟩, ⟨(some 24), .load none (.t 23), none, (some []), []⟩, ⟨(some 25), .faddr 1 (.t 7), none, (some []), []⟩, ⟨(some 26), .load none (.t 25), none, (some []), []⟩, ⟨(some 27), .faddr 0 (.t 12), none, (some []), []⟩, ⟨(some 28), .load none (.t 27), none, (some []), []⟩, ⟨(some 29), .call 63 [(.t 20), (.t 21), (.t 22), (.t 24), (.t 26), (.t 28)], none, none, [(none, (.t 5)), (none, (.t 6)), (none, (.t 6)), (none, (.t 7)), (none, (.t 12))]⟩, ⟨(some 30), .load (some 11) (.t 5), none, (some [9]), []⟩, ⟨(some 31), .load (some 6) (.t 6), none, (some [9]), []⟩, ⟨(some 32), .mv (.t 4), none, (some [9]), []⟩, ⟨(some 33), .faddr 3 (.t 6), none, (some [9]), []⟩, ⟨(some 34), .load none (.t 33), none, (some [9]), []⟩, ⟨(some 35), .faddr 2 (.t 7), none, (some [9]), []⟩, ⟨(some 36), .load none (.t 35), none, (some [9]), []⟩, ⟨(some 37), .faddr 1 (.t 12), none, (some [9]), []⟩, ⟨(some 38), .load none (.t 37), none, (some [9]), []⟩, ⟨(some 39), .call 63 [(.t 30), (.t 31), (.t 32), (.t 34), (.t 36), (.t 38)], none, none, []⟩, ⟨(some 10), .mv (.t 29), none, (some []), []⟩, ⟨(some 11), .mv (.t 39), none, (some []), []⟩])
  .ret)))⟩
/-- pochoir/pochoirref34.Pixel -/
def s34 : SFn :=
 ⟨60, [.tmp 10],
  (.seq (.reg [⟨(some 5), .box 33 (.t 0), none, none, []⟩, ⟨(some 6), .box 55 (.t 1), none, none, []⟩, ⟨(some 7), .box 52 (.t 2), none, none, []⟩, ⟨(some 10), .mv (.v (.int .i64 0)), none, none, []⟩])
  (.seq (.reg [⟨(some 20), .load (some 11) (.t 5), none, none, []⟩, ⟨(some 21), .load (some 6) (.t 6), none, none, []⟩, ⟨(some 22), .load (some 3) (.t 7), none, none, []⟩, ⟨(some 23), .mv (.t 3), none, none, []⟩, ⟨(some 24), .mv (.t 4), none, none, []⟩, ⟨(some 25), .call 33 [(.t 20), (.t 21), (.t 22), (.t 23), (.t 24)], none, none, []⟩, ⟨(some 19), .mv (.t 25), none, none, []⟩, ⟨(some 26), .extract (.t 19) 0, none, none, []⟩, ⟨(some 27), .extract (.t 19) 1, none, none, []⟩, ⟨(some 11), .mv (.t 26), none, none, []⟩, ⟨(some 12), .mv (.t 27), none, none, []⟩])
  (.seq (.reg [⟨(some 29), .load (some 11) (.t 5), none, none, []⟩, ⟨(some 30), .faddr 0 (.t 7), none, none, []⟩, ⟨(some 31), .load none (.t 30), none, none, []⟩, ⟨(some 32), .mv (.t 11), none, none, []⟩, ⟨(some 33), .mv (.t 12), none, none, []⟩, ⟨(some 34), .call 64 [(.t 29), (.t 31), (.t 32), (.t 33)], none, none, []⟩, ⟨(some 28), .mv (.t 34), none, none, []⟩, ⟨(some 35), .extract (.t 28) 0, none, none, []⟩, ⟨(some 36), .extract (.t 28) 1, none, none, []⟩, ⟨(some 13), .box 122 (.v (.agg [(.int .i64 0), (.int .i64 0), (.int .i64 0), (.int .i64 0)])), none, none, []⟩, ⟨none, .store 4 (.t 13) (.t 35), none, none, []⟩, ⟨(some 14), .mv (.t 36), none, none, []⟩])
  (.seq (.seq (.reg [⟨(some 37), .mv (.t 14), none, none, []⟩, ⟨(some 38), .bin .neq (.t 37) (.v (.int .i64 0)), none, none, []⟩])
  (.cond (.t 38) (.seq (.reg [⟨(some 10), .mv (.v (.int .i64 0)), none, none, []⟩])
  .ret) .skip))
  (.seq (.reg [⟨(some 40), .faddr 4 (.t 6), none, none, []⟩, ⟨(some 41), .load none (.t 40), none, none, []⟩, ⟨(some 42), .faddr 5 (.t 6), none, none, []⟩, ⟨(some 43), .load none (.t 42), none, none, []⟩, ⟨(some 44), .faddr 1 (.t 5), none, none, []⟩, ⟨(some 45), .load none (.t 44), none, none, []⟩, ⟨(some 46), .bin .mul (.t 43) (.t 45), none, none, []⟩, ⟨(some 47), .call 65 [(.t 41), (.t 46)], none, none, []⟩, ⟨(some 39), .mv (.t 47), none, none, []⟩, ⟨(some 48), .extract (.t 39) 0, none, none, []⟩, ⟨(some 49), .extract (.t 39) 1, none, none, []⟩, ⟨(some 15), .box 109 (.v (.agg [(.int .i64 0), (.int .i64 0)])), none, none, []⟩, ⟨none, .store 2 (.t 15) (.t 48), none, none, []⟩, ⟨(some 16), .mv (.t 49), none, none, []⟩])
  (.seq (.regd [⟨(some 51), .load (some 4) (.t 13), none, (some []), []⟩, ⟨(some 52), .call 67 [(.t 51)], none, none, [(none, (.t 5)), (none, (.t 15))]⟩, ⟨(some 53), .faddr 2 (.t 5), none, (some [1]), []⟩, ⟨(some 54), .load none (.t 53), none, (some [1]), []⟩, ⟨(some 55), .load (some 2) (.t 15), none, (some [1]), []⟩, ⟨(some 56), .call 66 [(.t 52), (.t 54), (.t 55)], none, none, []⟩, ⟨(some 50), .mv (.t 56), none, (some []), []⟩, ⟨(some 57), .extract (.t 50) 0, none, (some []), []⟩, ⟨(some 58), .extract (.t 50) 1, none, (some []), []⟩, ⟨(some 17), .mv (.t 57), none, (some []), []⟩, ⟨(some 18), .mv (.t 58), none, (some []), []⟩])
  (.seq (.reg [⟨(some 59), .mv (.t 17), none, none, []⟩, ⟨(some 10), .mv (.t 59), none, none, []⟩])
  .ret)))))))⟩
/-- pochoir/pochoirref30.in -/
def s49 : SFn :=
 ⟨15, [.tmp 6],
  (.seq (.reg [⟨(some 6), .mv (.v (.bool false)), none, none, []⟩])
  (.seq (.reg [⟨(some 7), .mv (.t 0), none, none, []⟩, ⟨(some 8), .mv (.t 1), none, none, []⟩, ⟨(some 9), .bin .geq (.t 7) (.t 8), none, none, []⟩, ⟨(some 10), .mv (.t 9), none, none, []⟩, ⟨(some 11), .mv (.t 0), (some (10, true)), none, []⟩, ⟨(some 12), .mv (.t 2), (some (10, true)), none, []⟩, ⟨(some 13), .bin .leq (.t 11) (.t 12), (some (10, true)), none, []⟩, ⟨(some 14), .pick (.t 10) (.t 13) (.v (.bool false)), none, none, []⟩, ⟨(some 6), .mv (.t 14), none, none, []⟩])
  .ret))⟩
/-- pochoir/pochoirref30.short -/
def s50 : SFn :=
 ⟨9, [.tmp 2],
  (.seq (.reg [⟨(some 2), .mv (.v (.bool false)), none, none, []⟩])
  (.seq (.reg [⟨(some 3), .mv (.t 0), none, none, []⟩, ⟨(some 4), .bin .geq (.t 3) (.v (.int .i64 (-32768))), none, none, []⟩, ⟨(some 5), .mv (.t 4), none, none, []⟩, ⟨(some 6), .mv (.t 0), (some (5, true)), none, []⟩, ⟨(some 7), .bin .leq (.t 6) (.v (.int .i64 32767)), (some (5, true)), none, []⟩, ⟨(some 8), .pick (.t 5) (.t 7) (.v (.bool false)), none, none, []⟩, ⟨(some 2), .mv (.t 8), none, none, []⟩])
  .ret))⟩
/-- pochoir/pochoirref30.entry -/
def s51 : SFn :=
 ⟨55, [.tmp 6],
  (.seq (.reg [⟨(some 3), .box 77 (.t 0), none, none, []⟩, ⟨(some 4), .box 28 (.t 1), none, none, []⟩, ⟨(some 6), .mv (.v (.bool false)), none, none, []⟩])
  (.seq (.seq (.reg [⟨(some 7), .faddr 0 (.t 3), none, none, []⟩, ⟨(some 8), .load none (.t 7), none, none, []⟩, ⟨(some 9), .call 49 [(.t 8), (.v (.int .i64 0)), (.v (.int .i64 65535))], none, none, []⟩, ⟨(some 10), .un .not (.t 9), none, none, []⟩, ⟨(some 11), .mv (.t 10), none, none, []⟩, ⟨(some 12), .faddr 1 (.t 3), (some (11, false)), none, []⟩, ⟨(some 13), .load (some 4) (.t 12), (some (11, false)), none, []⟩, ⟨(some 14), .call 78 [(.t 13)], (some (11, false)), none, []⟩, ⟨(some 15), .un .not (.t 14), (some (11, false)), none, []⟩, ⟨(some 16), .pick (.t 11) (.v (.bool true)) (.t 15), none, none, []⟩])
  (.cond (.t 16) (.seq (.reg [⟨(some 6), .mv (.v (.bool false)), none, none, []⟩])
  .ret) .skip))
  (.seq (.seq (.reg [⟨(some 17), .faddr 1 (.t 3), none, none, []⟩, ⟨(some 18), .load (some 4) (.t 17), none, none, []⟩, ⟨(some 19), .build [(.int .i64 0), (.int .i64 0), (.int .i64 0), (.int .i64 0)] [], none, none, []⟩, ⟨(some 20), .eqs 4 [1, 1, 1, 1] false (.t 18) (.t 19), none, none, []⟩])
  (.cond (.t 20) (.seq (.reg [⟨(some 21), .faddr 5 (.t 3), none, none, []⟩, ⟨(some 22), .load (some 3) (.t 21), none, none, []⟩, ⟨(some 23), .build [(.int .i64 0), (.int .i64 0), (.int .i64 0)] [], none, none, []⟩, ⟨(some 24), .eqs 4 [1, 1, 1] false (.t 22) (.t 23), none, none, []⟩, ⟨(some 6), .mv (.t 24), none, none, []⟩])
  .ret) .skip))
  (.seq (.reg [⟨(some 25), .faddr 5 (.t 3), none, none, []⟩, ⟨(some 26), .faddr 0 (.t 25), none, none, []⟩, ⟨(some 27), .load none (.t 26), none, none, []⟩, ⟨(some 28), .mv (.t 2), none, none, []⟩, ⟨(some 29), .bin .sub (.t 28) (.v (.int .i64 1)), none, none, []⟩, ⟨(some 30), .call 49 [(.t 27), (.v (.int .i64 0)), (.t 29)], none, none, []⟩, ⟨(some 31), .mv (.t 30), none, none, []⟩, ⟨(some 32), .faddr 5 (.t 3), (some (31, true)), none, []⟩, ⟨(some 33), .faddr 1 (.t 32), (some (31, true)), none, []⟩, ⟨(some 34), .load none (.t 33), (some (31, true)), none, []⟩, ⟨(some 35), .faddr 0 (.t 4), (some (31, true)), none, []⟩, ⟨(some 36), .load none (.t 35), (some (31, true)), none, []⟩, ⟨(some 37), .faddr 1 (.t 3), (some (31, true)), none, []⟩, ⟨(some 38), .faddr 2 (.t 37), (some (31, true)), none, []⟩, ⟨(some 39), .load none (.t 38), (some (31, true)), none, []⟩, ⟨(some 40), .bin .sub (.t 36) (.t 39), (some (31, true)), none, []⟩, ⟨(some 41), .call 49 [(.t 34), (.v (.int .i64 0)), (.t 40)], (some (31, true)), none, []⟩, ⟨(some 42), .pick (.t 31) (.t 41) (.v (.bool false)), none, none, []⟩, ⟨(some 43), .mv (.t 42), none, none, []⟩, ⟨(some 44), .faddr 5 (.t 3), (some (43, true)), none, []⟩, ⟨(some 45), .faddr 2 (.t 44), (some (43, true)), none, []⟩, ⟨(some 46), .load none (.t 45), (some (43, true)), none, []⟩, ⟨(some 47), .faddr 1 (.t 4), (some (43, true)), none, []⟩, ⟨(some 48), .load none (.t 47), (some (43, true)), none, []⟩, ⟨(some 49), .faddr 1 (.t 3), (some (43, true)), none, []⟩, ⟨(some 50), .faddr 3 (.t 49), (some (43, true)), none, []⟩, ⟨(some 51), .load none (.t 50), (some (43, true)), none, []⟩, ⟨(some 52), .bin .sub (.t 48) (.t 51), (some (43, true)), none, []⟩, ⟨(some 53), .call 49 [(.t 46), (.v (.int .i64 0)), (.t 52)], (some (43, true)), none, []⟩, ⟨(some 54), .pick (.t 43) (.t 53) (.v (.bool false)), none, none, []⟩, ⟨(some 6), .mv (.t 54), none, none, []⟩])
  .ret))))⟩
/-- pochoir/pochoirref12.May -/
def s52 : SFn :=
 ⟨61, [.tmp 4],
  (.seq (.reg [⟨(some 4), .mv (.v (.bool false)), none, none, []⟩])
  (.seq (.seq (.reg [⟨(some 7), .mv (.t 1), none, none, []⟩, ⟨(some 8), .bin .lss (.t 7) (.v (.int .i64 1)), none, none, []⟩, ⟨(some 9), .mv (.t 8), none, none, []⟩, ⟨(some 10), .mv (.t 1), (some (9, false)), none, []⟩, ⟨(some 11), .bin .gtr (.t 10) (.v (.int .i64 1024)), (some (9, false)), none, []⟩, ⟨(some 12), .pick (.t 9) (.v (.bool true)) (.t 11), none, none, []⟩, ⟨(some 13), .mv (.t 12), none, none, []⟩, ⟨(some 14), .mv (.t 0), (some (13, false)), none, []⟩, ⟨(some 15), .len false (.t 14), (some (13, false)), none, []⟩, ⟨(some 16), .bin .gtr (.t 15) (.v (.int .i64 4096)), (some (13, false)), none, []⟩, ⟨(some 17), .pick (.t 13) (.v (.bool true)) (.t 16), none, none, []⟩])
  (.cond (.t 17) (.seq (.reg [⟨(some 4), .mv (.v (.bool false)), none, none, []⟩])
  .ret) .skip))
  (.seq (.reg [⟨(some 5), .mv (.v (.int .i64 (-1))), none, none, []⟩])
  (.seq (.seq (.reg [⟨(some 6), .mv (.v (.int .i64 0)), none, none, []⟩])
  (.block 0 (.loop (.seq (.seq (.reg [⟨(some 18), .mv (.t 6), none, none, []⟩, ⟨(some 19), .mv (.t 0), none, none, []⟩, ⟨(some 20), .len false (.t 19), none, none, []⟩, ⟨(some 21), .bin .lss (.t 18) (.t 20), none, none, []⟩])
  (.cond (.t 21) .skip (.exit 0)))
  (.seq (.block 1 (.seq (.seq (.reg [⟨(some 24), .mv (.t 0), none, none, []⟩, ⟨(some 25), .mv (.t 6), none, none, []⟩, ⟨(some 26), .iaddr 2 (.t 24) (.t 25), none, none, []⟩, ⟨(some 27), .faddr 0 (.t 26), none, none, []⟩, ⟨(some 28), .load none (.t 27), none, none, []⟩, ⟨(some 29), .mv (.t 5), none, none, []⟩, ⟨(some 30), .bin .leq (.t 28) (.t 29), none, none, []⟩, ⟨(some 31), .mv (.t 30), none, none, []⟩, ⟨(some 32), .mv (.t 0), (some (31, false)), none, []⟩, ⟨(some 33), .mv (.t 6), (some (31, false)), none, []⟩, ⟨(some 34), .iaddr 2 (.t 32) (.t 33), (some (31, false)), none, []⟩, ⟨(some 35), .faddr 0 (.t 34), (some (31, false)), none, []⟩, ⟨(some 36), .load none (.t 35), (some (31, false)), none, []⟩, ⟨(some 37), .bin .gtr (.t 36) (.v (.int .i64 1114111)), (some (31, false)), none, []⟩, ⟨(some 38), .pick (.t 31) (.v (.bool true)) (.t 37), none, none, []⟩, ⟨(some 39), .mv (.t 38), none, none, []⟩, ⟨(some 40), .mv (.t 0), (some (39, false)), none, []⟩, ⟨(some 41), .mv (.t 6), (some (39, false)), none, []⟩, ⟨(some 42), .iaddr 2 (.t 40) (.t 41), (some (39, false)), none, []⟩, ⟨(some 43), .faddr 1 (.t 42), (some (39, false)), none, []⟩, ⟨(some 44), .load none (.t 43), (some (39, false)), none, []⟩, ⟨(some 45), .bin .lss (.t 44) (.v (.int .i64 1)), (some (39, false)), none, []⟩, ⟨(some 46), .pick (.t 39) (.v (.bool true)) (.t 45), none, none, []⟩, ⟨(some 47), .mv (.t 46), none, none, []⟩, ⟨(some 48), .mv (.t 0), (some (47, false)), none, []⟩, ⟨(some 49), .mv (.t 6), (some (47, false)), none, []⟩, ⟨(some 50), .iaddr 2 (.t 48) (.t 49), (some (47, false)), none, []⟩, ⟨(some 51), .faddr 1 (.t 50), (some (47, false)), none, []⟩, ⟨(some 52), .load none (.t 51), (some (47, false)), none, []⟩, ⟨(some 53), .mv (.t 1), (some (47, false)), none, []⟩, ⟨(some 54), .bin .geq (.t 52) (.t 53), (some (47, false)), none, []⟩, ⟨(some 55), .pick (.t 47) (.v (.bool true)) (.t 54), none, none, []⟩])
  (.cond (.t 55) (.seq (.reg [⟨(some 4), .mv (.v (.bool false)), none, none, []⟩])
  .ret) .skip))
  (.reg [⟨(some 56), .mv (.t 0), none, none, []⟩, ⟨(some 57), .mv (.t 6), none, none, []⟩, ⟨(some 58), .iaddr 2 (.t 56) (.t 57), none, none, []⟩, ⟨(some 59), .faddr 0 (.t 58), none, none, []⟩, ⟨(some 60), .load none (.t 59), none, none, []⟩, ⟨(some 5), .mv (.t 60), none, none, []⟩])))
  (.reg [⟨(some 22), .mv (.t 6), none, none, []⟩, ⟨(some 23), .bin .add (.t 22) (.v (.int .i64 1)), none, none, []⟩, ⟨(some 6), .mv (.t 23), none, none, []⟩]))))))
  (.seq (.reg [⟨(some 4), .mv (.v (.bool true)), none, none, []⟩])
  .ret)))))⟩
/-- pochoir/pochoirlaw34.one -/
def s53 : SFn :=
 ⟨7, [.cell 0 (some 11)],
  (.seq (.reg [⟨(some 0), .box 33 (.v (.agg [(.int .i64 0), (.int .i64 0), (.int .i64 0), (.int .i64 0), (.int .i64 0), (.int .i64 0), (.int .i64 0), (.int .i64 0), .nils, .nils, .nils])), none, none, []⟩])
  (.seq (.reg [⟨(some 1), .build [(.int .i64 0), (.int .i64 0)] [(0, 1, (.v (.int .i64 2))), (1, 1, (.v (.int .i64 1)))], none, none, []⟩, ⟨(some 2), .build [(.int .i64 0), (.int .i64 0), (.int .i64 0), (.int .i64 0)] [(2, 1, (.v (.int .i64 2))), (3, 1, (.v (.int .i64 1)))], none, none, []⟩, ⟨(some 3), .build [(.int .i64 0), (.int .i64 0), (.int .i64 0), (.int .i64 0), (.int .i64 0), (.int .i64 0), (.int .i64 0), (.int .i64 0)] [(0, 1, (.v (.int .i64 9))), (1, 4, (.t 2))], none, none, []⟩, ⟨(some 4), .bsl 77 [(.int .i64 0), (.int .i64 0), (.int .i64 0), (.int .i64 0), (.int .i64 0), (.int .i64 0), (.int .i64 0), (.int .i64 0)] 1 8 [(0, 8, (.t 3))], none, none, []⟩, ⟨(some 5), .bsl 9 [(.str ⟨#[]⟩)] 1 1 [(0, 1, (.v (.str ⟨#[255, 255, 255, 255, 128, 128, 128, 128]⟩)))], none, none, []⟩, ⟨(some 6), .build [(.int .i64 0), (.int .i64 0), (.int .i64 0), (.int .i64 0), (.int .i64 0), (.int .i64 0), (.int .i64 0), (.int .i64 0), .nils, .nils, .nils] [(0, 1, (.v (.int .i64 16))), (1, 1, (.v (.int .i64 2))), (2, 1, (.v (.int .i64 1))), (6, 2, (.t 1)), (8, 1, (.t 4)), (10, 1, (.t 5))], none, none, []⟩, ⟨none, .store 11 (.t 0) (.t 6), none, none, []⟩])
  .ret))⟩
/-- pochoir/pochoirref34.in -/
def s54 : SFn :=
 ⟨15, [.tmp 6],
  (.seq (.reg [⟨(some 6), .mv (.v (.bool false)), none, none, []⟩])
  (.seq (.reg [⟨(some 7), .mv (.t 0), none, none, []⟩, ⟨(some 8), .mv (.t 1), none, none, []⟩, ⟨(some 9), .bin .geq (.t 7) (.t 8), none, none, []⟩, ⟨(some 10), .mv (.t 9), none, none, []⟩, ⟨(some 11), .mv (.t 0), (some (10, true)), none, []⟩, ⟨(some 12), .mv (.t 2), (some (10, true)), none, []⟩, ⟨(some 13), .bin .leq (.t 11) (.t 12), (some (10, true)), none, []⟩, ⟨(some 14), .pick (.t 10) (.t 13) (.v (.bool false)), none, none, []⟩, ⟨(some 6), .mv (.t 14), none, none, []⟩])
  .ret))⟩
/-- pochoir/raster.asked -/
def s55 : SFn :=
 ⟨47, [.tmp 6],
  (.seq (.reg [⟨(some 3), .box 33 (.t 0), none, none, []⟩, ⟨(some 4), .box 55 (.t 1), none, none, []⟩, ⟨(some 6), .mv (.v (.int .i64 0)), none, none, []⟩])
  (.seq (.seq (.reg [⟨(some 9), .load (some 11) (.t 3), none, none, []⟩, ⟨(some 10), .call 69 [(.t 9)], none, none, []⟩, ⟨(some 11), .un .not (.t 10), none, none, []⟩, ⟨(some 12), .mv (.t 11), none, none, []⟩, ⟨(some 13), .load (some 6) (.t 4), (some (12, false)), none, []⟩, ⟨(some 14), .call 32 [(.t 13)], (some (12, false)), none, []⟩, ⟨(some 15), .un .not (.t 14), (some (12, false)), none, []⟩, ⟨(some 16), .pick (.t 12) (.v (.bool true)) (.t 15), none, none, []⟩])
  (.cond (.t 16) (.seq (.reg [⟨(some 6), .mv (.v (.int .i64 1)), none, none, []⟩])
  .ret) .skip))
  (.seq (.seq (.reg [⟨(some 17), .mv (.t 2), none, none, []⟩, ⟨(some 18), .len false (.t 17), none, none, []⟩, ⟨(some 19), .mv (.v (.int .i64 0)), none, none, []⟩])
  (.block 0 (.loop (.seq (.reg [⟨(some 20), .bin .lss (.t 19) (.t 18), none, none, []⟩])
  (.seq (.cond (.t 20) .skip (.exit 0))
  (.seq (.block 1 (.seq (.reg [⟨(some 21), .iaddr 3 (.t 17) (.t 19), none, none, []⟩, ⟨(some 22), .load (some 3) (.t 21), none, none, []⟩, ⟨(some 8), .box 52 (.v (.agg [(.int .i64 0), (.int .i64 0), (.int .i64 0)])), none, none, []⟩, ⟨none, .store 3 (.t 8) (.t 22), none, none, []⟩])
  (.seq (.reg [⟨(some 23), .faddr 0 (.t 8), none, none, []⟩, ⟨(some 24), .load none (.t 23), none, none, []⟩, ⟨(some 25), .faddr 8 (.t 3), none, none, []⟩, ⟨(some 26), .load none (.t 25), none, none, []⟩, ⟨(some 27), .len false (.t 26), none, none, []⟩, ⟨(some 28), .bin .sub (.t 27) (.v (.int .i64 1)), none, none, []⟩, ⟨(some 29), .call 59 [(.t 24), (.v (.int .i64 0)), (.t 28)], none, none, []⟩, ⟨(some 30), .un .not (.t 29), none, none, []⟩, ⟨(some 31), .mv (.t 30), none, none, []⟩, ⟨(some 32), .faddr 1 (.t 8), (some (31, false)), none, []⟩, ⟨(some 33), .load none (.t 32), (some (31, false)), none, []⟩, ⟨(some 34), .call 59 [(.t 33), (.v (.int .i64 (-134217728))), (.v (.int .i64 134217728))], (some (31, false)), none, []⟩, ⟨(some 35), .un .not (.t 34), (some (31, false)), none, []⟩, ⟨(some 36), .pick (.t 31) (.v (.bool true)) (.t 35), none, none, []⟩, ⟨(some 37), .mv (.t 36), none, none, []⟩, ⟨(some 38), .faddr 2 (.t 8), (some (37, false)), none, []⟩, ⟨(some 39), .load none (.t 38), (some (37, false)), none, []⟩, ⟨(some 40), .call 59 [(.t 39), (.v (.int .i64 (-134217728))), (.v (.int .i64 134217728))], (some (37, false)), none, []⟩, ⟨(some 41), .un .not (.t 40), (some (37, false)), none, []⟩, ⟨(some 42), .pick (.t 37) (.v (.bool true)) (.t 41), none, none, []⟩])
  (.cond (.t 42) (.seq (.reg [⟨(some 6), .mv (.v (.int .i64 1)), none, none, []⟩])
  .ret) .skip))))
  (.reg [⟨(some 43), .bin .add (.t 19) (.v (.int .i64 1)), none, none, []⟩, ⟨(some 19), .mv (.t 43), none, none, []⟩])))))))
  (.seq (.seq (.reg [⟨(some 44), .mv (.t 2), none, none, []⟩, ⟨(some 45), .len false (.t 44), none, none, []⟩, ⟨(some 46), .bin .gtr (.t 45) (.v (.int .i64 1024)), none, none, []⟩])
  (.cond (.t 46) (.seq (.reg [⟨(some 6), .mv (.v (.int .i64 6)), none, none, []⟩])
  .ret) .skip))
  (.seq (.reg [⟨(some 6), .mv (.v (.int .i64 0)), none, none, []⟩])
  .ret)))))⟩
/-- pochoir/raster.drawerOf -/
def s56 : SFn :=
 ⟨22, [.cell 4 (some 19)],
  (.seq (.reg [⟨(some 2), .box 33 (.t 0), none, none, []⟩, ⟨(some 3), .box 55 (.t 1), none, none, []⟩, ⟨(some 4), .box 111 (.v (.agg [(.int .i64 0), (.int .i64 0), (.int .i64 0), (.int .i64 0), (.int .i64 0), (.int .i64 0), (.int .i64 0), (.int .i64 0), .nils, .nils, .nils, (.int .i64 0), (.int .i64 0), (.int .i64 0), (.int .i64 0), (.int .i64 0), (.int .i64 0), (.int .i64 0), (.int .i64 0)])), none, none, []⟩])
  (.seq (.reg [⟨(some 8), .faddr 4 (.t 3), none, none, []⟩, ⟨(some 9), .load none (.t 8), none, none, []⟩, ⟨(some 10), .faddr 5 (.t 3), none, none, []⟩, ⟨(some 11), .load none (.t 10), none, none, []⟩, ⟨(some 12), .faddr 1 (.t 2), none, none, []⟩, ⟨(some 13), .load none (.t 12), none, none, []⟩, ⟨(some 14), .bin .mul (.t 11) (.t 13), none, none, []⟩, ⟨(some 15), .call 79 [(.t 9), (.t 14)], none, none, []⟩, ⟨(some 7), .mv (.t 15), none, none, []⟩, ⟨(some 16), .extract (.t 7) 0, none, none, []⟩, ⟨(some 17), .extract (.t 7) 1, none, none, []⟩, ⟨(some 5), .box 109 (.v (.agg [(.int .i64 0), (.int .i64 0)])), none, none, []⟩, ⟨none, .store 2 (.t 5) (.t 16), none, none, []⟩, ⟨(some 6), .mv (.t 17), none, none, []⟩])
  (.seq (.reg [⟨(some 18), .load (some 11) (.t 2), none, none, []⟩, ⟨(some 19), .load (some 6) (.t 3), none, none, []⟩, ⟨(some 20), .load (some 2) (.t 5), none, none, []⟩, ⟨(some 21), .build [(.int .i64 0), (.int .i64 0), (.int .i64 0), (.int .i64 0), (.int .i64 0), (.int .i64 0), (.int .i64 0), (.int .i64 0), .nils, .nils, .nils, (.int .i64 0), (.int .i64 0), (.int .i64 0), (.int .i64 0), (.int .i64 0), (.int .i64 0), (.int .i64 0), (.int .i64 0)] [(0, 11, (.t 18)), (11, 6, (.t 19)), (17, 2, (.t 20))], none, none, []⟩, ⟨none, .store 19 (.t 4) (.t 21), none, none, []⟩])
  .ret)))⟩
/-- (pochoir/raster.drawer).glyph -/
def s57 : SFn :=
 ⟨94, [],
  (.seq (.reg [⟨(some 3), .box 111 (.t 0), none, none, []⟩, ⟨(some 5), .box 52 (.t 2), none, none, []⟩])
  (.seq (.reg [⟨(some 16), .faddr 0 (.t 3), none, none, []⟩, ⟨(some 17), .faddr 8 (.t 16), none, none, []⟩, ⟨(some 18), .load none (.t 17), none, none, []⟩, ⟨(some 19), .faddr 0 (.t 5), none, none, []⟩, ⟨(some 20), .load none (.t 19), none, none, []⟩, ⟨(some 21), .iaddr 8 (.t 18) (.t 20), none, none, []⟩, ⟨(some 22), .faddr 1 (.t 21), none, none, []⟩, ⟨(some 23), .load (some 4) (.t 22), none, none, []⟩, ⟨(some 6), .box 73 (.v (.agg [(.int .i64 0), (.int .i64 0), (.int .i64 0), (.int .i64 0)])), none, none, []⟩, ⟨none, .store 4 (.t 6) (.t 23), none, none, []⟩])
  (.seq (.seq (.reg [⟨(some 24), .faddr 2 (.t 6), none, none, []⟩, ⟨(some 25), .load none (.t 24), none, none, []⟩, ⟨(some 26), .bin .eql (.t 25) (.v (.int .i64 0)), none, none, []⟩])
  (.cond (.t 26) .ret .skip))
  (.seq (.reg [⟨(some 28), .load (some 19) (.t 3), none, none, []⟩, ⟨(some 29), .load (some 3) (.t 5), none, none, []⟩, ⟨(some 30), .call 60 [(.t 28), (.t 29)], none, none, []⟩, ⟨(some 27), .mv (.t 30), none, none, []⟩, ⟨(some 31), .extract (.t 27) 0, none, none, []⟩, ⟨(some 32), .extract (.t 27) 1, none, none, []⟩, ⟨(some 7), .box 116 (.v (.agg [(.int .i64 0), (.int .i64 0), (.int .i64 0)])), none, none, []⟩, ⟨(some 8), .box 116 (.v (.agg [(.int .i64 0), (.int .i64 0), (.int .i64 0)])), none, none, []⟩, ⟨none, .store 3 (.t 7) (.t 31), none, none, []⟩, ⟨none, .store 3 (.t 8) (.t 32), none, none, []⟩])
  (.seq (.reg [⟨(some 34), .load (some 3) (.t 7), none, none, []⟩, ⟨(some 35), .faddr 11 (.t 3), none, none, []⟩, ⟨(some 36), .faddr 0 (.t 35), none, none, []⟩, ⟨(some 37), .load none (.t 36), none, none, []⟩, ⟨(some 38), .faddr 2 (.t 6), none, none, []⟩, ⟨(some 39), .load none (.t 38), none, none, []⟩, ⟨(some 40), .bin .sub (.t 39) (.v (.int .i64 1)), none, none, []⟩, ⟨(some 41), .bin .mul (.v (.int .i64 256)) (.t 40), none, none, []⟩, ⟨(some 42), .call 80 [(.t 34), (.t 37), (.t 41)], none, none, []⟩, ⟨(some 33), .mv (.t 42), none, none, []⟩, ⟨(some 43), .extract (.t 33) 0, none, none, []⟩, ⟨(some 44), .extract (.t 33) 1, none, none, []⟩, ⟨(some 9), .mv (.t 43), none, none, []⟩, ⟨(some 10), .mv (.t 44), none, none, []⟩])
  (.seq (.reg [⟨(some 46), .load (some 3) (.t 8), none, none, []⟩, ⟨(some 47), .faddr 11 (.t 3), none, none, []⟩, ⟨(some 48), .faddr 1 (.t 47), none, none, []⟩, ⟨(some 49), .load none (.t 48), none, none, []⟩, ⟨(some 50), .faddr 3 (.t 6), none, none, []⟩, ⟨(some 51), .load none (.t 50), none, none, []⟩, ⟨(some 52), .bin .sub (.t 51) (.v (.int .i64 1)), none, none, []⟩, ⟨(some 53), .bin .mul (.v (.int .i64 256)) (.t 52), none, none, []⟩, ⟨(some 54), .call 80 [(.t 46), (.t 49), (.t 53)], none, none, []⟩, ⟨(some 45), .mv (.t 54), none, none, []⟩, ⟨(some 55), .extract (.t 45) 0, none, none, []⟩, ⟨(some 56), .extract (.t 45) 1, none, none, []⟩, ⟨(some 11), .mv (.t 55), none, none, []⟩, ⟨(some 12), .mv (.t 56), none, none, []⟩])
  (.seq (.reg [⟨(some 57), .mv (.t 11), none, none, []⟩, ⟨(some 13), .mv (.t 57), none, none, []⟩])
  (.block 0 (.loop (.seq (.seq (.reg [⟨(some 58), .mv (.t 13), none, none, []⟩, ⟨(some 59), .mv (.t 12), none, none, []⟩, ⟨(some 60), .bin .lss (.t 58) (.t 59), none, none, []⟩])
  (.cond (.t 60) .skip (.exit 0)))
  (.seq (.block 1 (.seq (.reg [⟨(some 63), .mv (.t 9), none, none, []⟩, ⟨(some 14), .mv (.t 63), none, none, []⟩])
  (.block 2 (.loop (.seq (.seq (.reg [⟨(some 64), .mv (.t 14), none, none, []⟩, ⟨(some 65), .mv (.t 10), none, none, []⟩, ⟨(some 66), .bin .lss (.t 64) (.t 65), none, none, []⟩])
  (.cond (.t 66) .skip (.exit 2)))
  (.seq (.block 3 (.seq (.reg [⟨(some 69), .mv (.t 13), none, none, []⟩, ⟨(some 70), .faddr 11 (.t 3), none, none, []⟩, ⟨(some 71), .faddr 0 (.t 70), none, none, []⟩, ⟨(some 72), .load none (.t 71), none, none, []⟩, ⟨(some 73), .bin .mul (.t 69) (.t 72), none, none, []⟩, ⟨(some 74), .mv (.t 14), none, none, []⟩, ⟨(some 75), .bin .add (.t 73) (.t 74), none, none, []⟩, ⟨(some 15), .mv (.t 75), none, none, []⟩])
  (.regd [⟨(some 76), .mv (.t 1), none, (some []), []⟩, ⟨(some 77), .mv (.t 15), none, (some []), []⟩, ⟨(some 78), .mv (.t 1), none, (some []), []⟩, ⟨(some 79), .mv (.t 15), none, (some []), []⟩, ⟨(some 80), .iaddr 1 (.t 78) (.t 79), none, (some []), []⟩, ⟨(some 81), .load none (.t 80), none, (some []), []⟩, ⟨(some 82), .load (some 19) (.t 3), none, (some []), []⟩, ⟨(some 83), .faddr 0 (.t 5), none, (some []), []⟩, ⟨(some 84), .load none (.t 83), none, (some []), []⟩, ⟨(some 85), .load (some 3) (.t 7), none, (some []), []⟩, ⟨(some 86), .mv (.t 14), none, (some []), []⟩, ⟨(some 87), .call 61 [(.t 85), (.t 86)], none, none, [(none, (.t 80)), (none, (.t 3)), (none, (.t 83)), (none, (.t 8))]⟩, ⟨(some 88), .load (some 3) (.t 8), none, (some [11]), []⟩, ⟨(some 89), .mv (.t 13), none, (some [11]), []⟩, ⟨(some 90), .call 61 [(.t 88), (.t 89)], none, none, [(none, (.t 80)), (none, (.t 3)), (none, (.t 83))]⟩, ⟨(some 91), .call 62 [(.t 82), (.t 84), (.t 87), (.t 90)], none, none, [(none, (.t 80))]⟩, ⟨(some 92), .mnmx true [(.t 81), (.t 91)], none, (some []), []⟩, ⟨(some 93), .iaddr 1 (.t 76) (.t 77), none, (some []), []⟩, ⟨none, .store 1 (.t 93) (.t 92), none, none, []⟩])))
  (.reg [⟨(some 67), .mv (.t 14), none, none, []⟩, ⟨(some 68), .bin .add (.t 67) (.v (.int .i64 1)), none, none, []⟩, ⟨(some 14), .mv (.t 68), none, none, []⟩])))))))
  (.reg [⟨(some 61), .mv (.t 13), none, none, []⟩, ⟨(some 62), .bin .add (.t 61) (.v (.int .i64 1)), none, none, []⟩, ⟨(some 13), .mv (.t 62), none, none, []⟩]))))))))))))⟩
/-- pochoir/pochoirref34.placed -/
def s58 : SFn :=
 ⟨22, [.tmp 4],
  (.seq (.reg [⟨(some 2), .box 33 (.t 0), none, none, []⟩, ⟨(some 3), .box 52 (.t 1), none, none, []⟩, ⟨(some 4), .mv (.v (.bool false)), none, none, []⟩])
  (.seq (.reg [⟨(some 5), .faddr 0 (.t 3), none, none, []⟩, ⟨(some 6), .load none (.t 5), none, none, []⟩, ⟨(some 7), .faddr 8 (.t 2), none, none, []⟩, ⟨(some 8), .load none (.t 7), none, none, []⟩, ⟨(some 9), .len false (.t 8), none, none, []⟩, ⟨(some 10), .bin .sub (.t 9) (.v (.int .i64 1)), none, none, []⟩, ⟨(some 11), .call 54 [(.t 6), (.v (.int .i64 0)), (.t 10)], none, none, []⟩, ⟨(some 12), .mv (.t 11), none, none, []⟩, ⟨(some 13), .faddr 1 (.t 3), (some (12, true)), none, []⟩, ⟨(some 14), .load none (.t 13), (some (12, true)), none, []⟩, ⟨(some 15), .call 54 [(.t 14), (.v (.int .i64 (-134217728))), (.v (.int .i64 134217728))], (some (12, true)), none, []⟩, ⟨(some 16), .pick (.t 12) (.t 15) (.v (.bool false)), none, none, []⟩, ⟨(some 17), .mv (.t 16), none, none, []⟩, ⟨(some 18), .faddr 2 (.t 3), (some (17, true)), none, []⟩, ⟨(some 19), .load none (.t 18), (some (17, true)), none, []⟩, ⟨(some 20), .call 54 [(.t 19), (.v (.int .i64 (-134217728))), (.v (.int .i64 134217728))], (some (17, true)), none, []⟩, ⟨(some 21), .pick (.t 17) (.t 20) (.v (.bool false)), none, none, []⟩, ⟨(some 4), .mv (.t 21), none, none, []⟩])
  .ret))⟩
/-- pochoir/raster.within -/
def s59 : SFn :=
 ⟨15, [.tmp 6],
  (.seq (.reg [⟨(some 6), .mv (.v (.bool false)), none, none, []⟩])
  (.seq (.reg [⟨(some 7), .mv (.t 0), none, none, []⟩, ⟨(some 8), .mv (.t 1), none, none, []⟩, ⟨(some 9), .bin .geq (.t 7) (.t 8), none, none, []⟩, ⟨(some 10), .mv (.t 9), none, none, []⟩, ⟨(some 11), .mv (.t 0), (some (10, true)), none, []⟩, ⟨(some 12), .mv (.t 2), (some (10, true)), none, []⟩, ⟨(some 13), .bin .leq (.t 11) (.t 12), (some (10, true)), none, []⟩, ⟨(some 14), .pick (.t 10) (.t 13) (.v (.bool false)), none, none, []⟩, ⟨(some 6), .mv (.t 14), none, none, []⟩])
  .ret))⟩
/-- (pochoir/raster.drawer).axes -/
def s60 : SFn :=
 ⟨39, [.cell 4 (some 3), .cell 5 (some 3)],
  (.seq (.reg [⟨(some 2), .box 111 (.t 0), none, none, []⟩, ⟨(some 3), .box 52 (.t 1), none, none, []⟩, ⟨(some 4), .box 116 (.v (.agg [(.int .i64 0), (.int .i64 0), (.int .i64 0)])), none, none, []⟩, ⟨(some 5), .box 116 (.v (.agg [(.int .i64 0), (.int .i64 0), (.int .i64 0)])), none, none, []⟩])
  (.seq (.reg [⟨(some 7), .faddr 0 (.t 2), none, none, []⟩, ⟨(some 8), .faddr 8 (.t 7), none, none, []⟩, ⟨(some 9), .load none (.t 8), none, none, []⟩, ⟨(some 10), .faddr 0 (.t 3), none, none, []⟩, ⟨(some 11), .load none (.t 10), none, none, []⟩, ⟨(some 12), .iaddr 8 (.t 9) (.t 11), none, none, []⟩, ⟨(some 13), .faddr 1 (.t 12), none, none, []⟩, ⟨(some 14), .load (some 4) (.t 13), none, none, []⟩, ⟨(some 6), .box 73 (.v (.agg [(.int .i64 0), (.int .i64 0), (.int .i64 0), (.int .i64 0)])), none, none, []⟩, ⟨none, .store 4 (.t 6) (.t 14), none, none, []⟩])
  (.seq (.regd [⟨(some 15), .faddr 0 (.t 2), none, (some []), []⟩, ⟨(some 16), .load (some 11) (.t 15), none, (some []), []⟩, ⟨(some 17), .faddr 11 (.t 2), none, (some []), []⟩, ⟨(some 18), .load (some 6) (.t 17), none, (some []), []⟩, ⟨(some 19), .faddr 11 (.t 2), none, (some []), []⟩, ⟨(some 20), .faddr 2 (.t 19), none, (some []), []⟩, ⟨(some 21), .load none (.t 20), none, (some []), []⟩, ⟨(some 22), .faddr 1 (.t 3), none, (some []), []⟩, ⟨(some 23), .load none (.t 22), none, (some []), []⟩, ⟨(some 24), .faddr 0 (.t 6), none, (some []), []⟩, ⟨(some 25), .load none (.t 24), none, (some []), []⟩, ⟨(some 26), .call 81 [(.t 16), (.t 18), (.t 21), (.t 23), (.t 25)], none, none, [(none, (.t 2)), (none, (.t 2)), (none, (.t 2)), (none, (.t 3)), (none, (.t 6))]⟩, ⟨(some 27), .faddr 0 (.t 2), none, (some [11]), []⟩, ⟨(some 28), .load (some 11) (.t 27), none, (some [11]), []⟩, ⟨(some 29), .faddr 11 (.t 2), none, (some [11]), []⟩, ⟨(some 30), .load (some 6) (.t 29), none, (some [11]), []⟩, ⟨(some 31), .faddr 11 (.t 2), none, (some [11]), []⟩, ⟨(some 32), .faddr 3 (.t 31), none, (some [11]), []⟩, ⟨(some 33), .load none (.t 32), none, (some [11]), []⟩, ⟨(some 34), .faddr 2 (.t 3), none, (some [11]), []⟩, ⟨(some 35), .load none (.t 34), none, (some [11]), []⟩, ⟨(some 36), .faddr 1 (.t 6), none, (some [11]), []⟩, ⟨(some 37), .load none (.t 36), none, (some [11]), []⟩, ⟨(some 38), .call 81 [(.t 28), (.t 30), (.t 33), (.t 35), (.t 37)], none, none, []⟩, ⟨none, .store 3 (.t 4) (.t 26), none, none, []⟩, ⟨none, .store 3 (.t 5) (.t 38), none, none, []⟩])
  .ret)))⟩
/-- (pochoir/raster.axis).at -/
def s61 : SFn :=
 ⟨26, [.tmp 4],
  (.seq (.reg [⟨(some 2), .box 116 (.t 0), none, none, []⟩, ⟨(some 4), .mv (.v (.int .i64 0)), none, none, []⟩])
  (.seq (.reg [⟨(some 7), .faddr 0 (.t 2), none, none, []⟩, ⟨(some 8), .load none (.t 7), none, none, []⟩, ⟨(some 9), .mv (.t 1), none, none, []⟩, ⟨(some 10), .bin .mul (.t 8) (.t 9), none, none, []⟩, ⟨(some 11), .faddr 1 (.t 2), none, none, []⟩, ⟨(some 12), .load none (.t 11), none, none, []⟩, ⟨(some 13), .bin .add (.t 10) (.t 12), none, none, []⟩, ⟨(some 5), .mv (.t 13), none, none, []⟩])
  (.seq (.reg [⟨(some 14), .mv (.t 5), none, none, []⟩, ⟨(some 15), .faddr 2 (.t 2), none, none, []⟩, ⟨(some 16), .load none (.t 15), none, none, []⟩, ⟨(some 17), .bin .quo (.t 14) (.t 16), none, none, []⟩, ⟨(some 6), .mv (.t 17), none, none, []⟩])
  (.seq (.seq (.reg [⟨(some 18), .mv (.t 5), none, none, []⟩, ⟨(some 19), .faddr 2 (.t 2), none, none, []⟩, ⟨(some 20), .load none (.t 19), none, none, []⟩, ⟨(some 21), .bin .rem (.t 18) (.t 20), none, none, []⟩, ⟨(some 22), .bin .lss (.t 21) (.v (.int .i64 0)), none, none, []⟩])
  (.cond (.t 22) (.reg [⟨(some 23), .mv (.t 6), none, none, []⟩, ⟨(some 24), .bin .sub (.t 23) (.v (.int .i64 1)), none, none, []⟩, ⟨(some 6), .mv (.t 24), none, none, []⟩]) .skip))
  (.seq (.reg [⟨(some 25), .mv (.t 6), none, none, []⟩, ⟨(some 4), .mv (.t 25), none, none, []⟩])
  .ret)))))⟩
/-- (pochoir/raster.drawer).cover -/
def s62 : SFn :=
 ⟨36, [.tmp 8],
  (.seq (.reg [⟨(some 4), .box 111 (.t 0), none, none, []⟩, ⟨(some 8), .mv (.v (.int .u8 0)), none, none, []⟩])
  (.seq (.reg [⟨(some 14), .faddr 0 (.t 4), none, none, []⟩, ⟨(some 15), .load (some 11) (.t 14), none, none, []⟩, ⟨(some 16), .mv (.t 1), none, none, []⟩, ⟨(some 17), .mv (.t 2), none, none, []⟩, ⟨(some 18), .mv (.t 3), none, none, []⟩, ⟨(some 19), .call 82 [(.t 15), (.t 16), (.t 17), (.t 18)], none, none, []⟩, ⟨(some 13), .mv (.t 19), none, none, []⟩, ⟨(some 20), .extract (.t 13) 0, none, none, []⟩, ⟨(some 21), .extract (.t 13) 1, none, none, []⟩, ⟨(some 9), .box 122 (.v (.agg [(.int .i64 0), (.int .i64 0), (.int .i64 0), (.int .i64 0)])), none, none, []⟩, ⟨none, .store 4 (.t 9) (.t 20), none, none, []⟩, ⟨(some 10), .mv (.t 21), none, none, []⟩])
  (.seq (.seq (.reg [⟨(some 22), .mv (.t 10), none, none, []⟩, ⟨(some 23), .bin .neq (.t 22) (.v (.int .i64 0)), none, none, []⟩])
  (.cond (.t 23) (.seq (.reg [⟨(some 8), .mv (.v (.int .u8 0)), none, none, []⟩])
  .ret) .skip))
  (.seq (.regd [⟨(some 25), .load (some 4) (.t 9), none, (some []), []⟩, ⟨(some 26), .call 84 [(.t 25)], none, none, [(none, (.t 4)), (none, (.t 4))]⟩, ⟨(some 27), .faddr 0 (.t 4), none, (some [1]), []⟩, ⟨(some 28), .faddr 2 (.t 27), none, (some [1]), []⟩, ⟨(some 29), .load none (.t 28), none, (some [1]), []⟩, ⟨(some 30), .faddr 17 (.t 4), none, (some [1]), []⟩, ⟨(some 31), .load (some 2) (.t 30), none, (some [1]), []⟩, ⟨(some 32), .call 83 [(.t 26), (.t 29), (.t 31)], none, none, []⟩, ⟨(some 24), .mv (.t 32), none, (some []), []⟩, ⟨(some 33), .extract (.t 24) 0, none, (some []), []⟩, ⟨(some 34), .extract (.t 24) 1, none, (some []), []⟩, ⟨(some 11), .mv (.t 33), none, (some []), []⟩, ⟨(some 12), .mv (.t 34), none, (some []), []⟩])
  (.seq (.reg [⟨(some 35), .mv (.t 11), none, none, []⟩, ⟨(some 8), .mv (.t 35), none, none, []⟩])
  .ret)))))⟩
/-- pochoir/pochoirref34.place -/
def s63 : SFn :=
 ⟨54, [.tmp 12],
  (.seq (.reg [⟨(some 6), .box 33 (.t 0), none, none, []⟩, ⟨(some 7), .box 55 (.t 1), none, none, []⟩, ⟨(some 12), .mv (.v (.int .i64 0)), none, none, []⟩])
  (.seq (.reg [⟨(some 14), .mv (.t 2), none, none, []⟩, ⟨(some 15), .bin .mul (.v (.int .i64 2)) (.t 14), none, none, []⟩, ⟨(some 16), .bin .add (.t 15) (.v (.int .i64 1)), none, none, []⟩, ⟨(some 17), .mv (.t 3), none, none, []⟩, ⟨(some 18), .bin .mul (.v (.int .i64 2)) (.t 17), none, none, []⟩, ⟨(some 19), .bin .sub (.t 16) (.t 18), none, none, []⟩, ⟨(some 20), .faddr 5 (.t 7), none, none, []⟩, ⟨(some 21), .load none (.t 20), none, none, []⟩, ⟨(some 22), .bin .mul (.t 19) (.t 21), none, none, []⟩, ⟨(some 23), .faddr 0 (.t 6), none, none, []⟩, ⟨(some 24), .load none (.t 23), none, none, []⟩, ⟨(some 25), .bin .mul (.t 22) (.t 24), none, none, []⟩, ⟨(some 26), .mv (.t 4), none, none, []⟩, ⟨(some 27), .bin .mul (.v (.int .i64 2)) (.t 26), none, none, []⟩, ⟨(some 28), .faddr 4 (.t 7), none, none, []⟩, ⟨(some 29), .load none (.t 28), none, none, []⟩, ⟨(some 30), .bin .mul (.t 27) (.t 29), none, none, []⟩, ⟨(some 31), .bin .sub (.t 25) (.t 30), none, none, []⟩, ⟨(some 32), .faddr 1 (.t 6), none, none, []⟩, ⟨(some 33), .load none (.t 32), none, none, []⟩, ⟨(some 34), .bin .mul (.t 31) (.t 33), none, none, []⟩, ⟨(some 35), .mv (.t 5), none, none, []⟩, ⟨(some 36), .bin .mul (.v (.int .i64 2)) (.t 35), none, none, []⟩, ⟨(some 37), .bin .add (.t 36) (.v (.int .i64 1)), none, none, []⟩, ⟨(some 38), .faddr 4 (.t 7), none, none, []⟩, ⟨(some 39), .load none (.t 38), none, none, []⟩, ⟨(some 40), .bin .mul (.t 37) (.t 39), none, none, []⟩, ⟨(some 41), .faddr 0 (.t 6), none, none, []⟩, ⟨(some 42), .load none (.t 41), none, none, []⟩, ⟨(some 43), .bin .mul (.t 40) (.t 42), none, none, []⟩, ⟨(some 44), .bin .sub (.t 34) (.t 43), none, none, []⟩, ⟨(some 13), .mv (.t 44), none, none, []⟩])
  (.seq (.reg [⟨(some 45), .mv (.t 13), none, none, []⟩, ⟨(some 46), .bin .mul (.v (.int .i64 128)) (.t 45), none, none, []⟩, ⟨(some 47), .faddr 4 (.t 7), none, none, []⟩, ⟨(some 48), .load none (.t 47), none, none, []⟩, ⟨(some 49), .faddr 0 (.t 6), none, none, []⟩, ⟨(some 50), .load none (.t 49), none, none, []⟩, ⟨(some 51), .bin .mul (.t 48) (.t 50), none, none, []⟩, ⟨(some 52), .build [(.int .i64 0), (.int .i64 0)] [(0, 1, (.t 46)), (1, 1, (.t 51))], none, none, []⟩, ⟨(some 53), .call 85 [(.t 52)], none, none, []⟩, ⟨(some 12), .mv (.t 53), none, none, []⟩])
  .ret)))⟩
/-- pochoir/pochoirref32.At -/
def s64 : SFn :=
 ⟨172, [.cell 8 (some 4), .tmp 9],
  (.seq (.reg [⟨(some 4), .box 33 (.t 0), none, none, []⟩, ⟨(some 8), .box 122 (.v (.agg [(.int .i64 0), (.int .i64 0), (.int .i64 0), (.int .i64 0)])), none, none, []⟩, ⟨(some 9), .mv (.v (.int .i64 0)), none, none, []⟩])
  (.seq (.seq (.reg [⟨(some 20), .load (some 11) (.t 4), none, none, []⟩, ⟨(some 21), .call 24 [(.t 20)], none, none, []⟩, ⟨(some 22), .un .not (.t 21), none, none, []⟩, ⟨(some 23), .mv (.t 22), none, none, []⟩, ⟨(some 24), .mv (.t 1), (some (23, false)), none, []⟩, ⟨(some 25), .bin .lss (.t 24) (.v (.int .i64 0)), (some (23, false)), none, []⟩, ⟨(some 26), .pick (.t 23) (.v (.bool true)) (.t 25), none, none, []⟩, ⟨(some 27), .mv (.t 26), none, none, []⟩, ⟨(some 28), .mv (.t 1), (some (27, false)), none, []⟩, ⟨(some 29), .faddr 8 (.t 4), (some (27, false)), none, []⟩, ⟨(some 30), .load none (.t 29), (some (27, false)), none, []⟩, ⟨(some 31), .len false (.t 30), (some (27, false)), none, []⟩, ⟨(some 32), .bin .geq (.t 28) (.t 31), (some (27, false)), none, []⟩, ⟨(some 33), .pick (.t 27) (.v (.bool true)) (.t 32), none, none, []⟩])
  (.cond (.t 33) (.seq (.reg [⟨(some 34), .build [(.int .i64 0), (.int .i64 0), (.int .i64 0), (.int .i64 0)] [], none, none, []⟩, ⟨none, .store 4 (.t 8) (.t 34), none, none, []⟩, ⟨(some 9), .mv (.v (.int .i64 1)), none, none, []⟩])
  .ret) .skip))
  (.seq (.reg [⟨(some 35), .faddr 8 (.t 4), none, none, []⟩, ⟨(some 36), .load none (.t 35), none, none, []⟩, ⟨(some 37), .mv (.t 1), none, none, []⟩, ⟨(some 38), .iaddr 8 (.t 36) (.t 37), none, none, []⟩, ⟨(some 39), .load (some 8) (.t 38), none, none, []⟩, ⟨(some 10), .box 77 (.v (.agg [(.int .i64 0), (.int .i64 0), (.int .i64 0), (.int .i64 0), (.int .i64 0), (.int .i64 0), (.int .i64 0), (.int .i64 0)])), none, none, []⟩, ⟨none, .store 8 (.t 10) (.t 39), none, none, []⟩])
  (.seq (.seq (.reg [⟨(some 40), .faddr 1 (.t 10), none, none, []⟩, ⟨(some 41), .faddr 2 (.t 40), none, none, []⟩, ⟨(some 42), .load none (.t 41), none, none, []⟩, ⟨(some 43), .bin .eql (.t 42) (.v (.int .i64 0)), none, none, []⟩, ⟨(some 44), .mv (.t 43), none, none, []⟩, ⟨(some 45), .mv (.t 2), (some (44, false)), none, []⟩, ⟨(some 46), .bin .lss (.t 45) (.v (.int .i64 0)), (some (44, false)), none, []⟩, ⟨(some 47), .pick (.t 44) (.v (.bool true)) (.t 46), none, none, []⟩, ⟨(some 48), .mv (.t 47), none, none, []⟩, ⟨(some 49), .mv (.t 3), (some (48, false)), none, []⟩, ⟨(some 50), .bin .lss (.t 49) (.v (.int .i64 0)), (some (48, false)), none, []⟩, ⟨(some 51), .pick (.t 48) (.v (.bool true)) (.t 50), none, none, []⟩, ⟨(some 52), .mv (.t 51), none, none, []⟩, ⟨(some 53), .mv (.t 2), (some (52, false)), none, []⟩, ⟨(some 54), .faddr 1 (.t 10), (some (52, false)), none, []⟩, ⟨(some 55), .faddr 2 (.t 54), (some (52, false)), none, []⟩, ⟨(some 56), .load none (.t 55), (some (52, false)), none, []⟩, ⟨(some 57), .bin .sub (.t 56) (.v (.int .i64 1)), (some (52, false)), none, []⟩, ⟨(some 58), .bin .mul (.v (.int .i64 256)) (.t 57), (some (52, false)), none, []⟩, ⟨(some 59), .bin .gtr (.t 53) (.t 58), (some (52, false)), none, []⟩, ⟨(some 60), .pick (.t 52) (.v (.bool true)) (.t 59), none, none, []⟩, ⟨(some 61), .mv (.t 60), none, none, []⟩, ⟨(some 62), .mv (.t 3), (some (61, false)), none, []⟩, ⟨(some 63), .faddr 1 (.t 10), (some (61, false)), none, []⟩, ⟨(some 64), .faddr 3 (.t 63), (some (61, false)), none, []⟩, ⟨(some 65), .load none (.t 64), (some (61, false)), none, []⟩, ⟨(some 66), .bin .sub (.t 65) (.v (.int .i64 1)), (some (61, false)), none, []⟩, ⟨(some 67), .bin .mul (.v (.int .i64 256)) (.t 66), (some (61, false)), none, []⟩, ⟨(some 68), .bin .gtr (.t 62) (.t 67), (some (61, false)), none, []⟩, ⟨(some 69), .pick (.t 61) (.v (.bool true)) (.t 68), none, none, []⟩])
  (.cond (.t 69) (.seq (.reg [⟨(some 70), .build [(.int .i64 0), (.int .i64 0), (.int .i64 0), (.int .i64 0)] [], none, none, []⟩, ⟨none, .store 4 (.t 8) (.t 70), none, none, []⟩, ⟨(some 9), .mv (.v (.int .i64 7)), none, none, []⟩])
  .ret) .skip))
  (.seq (.reg [⟨(some 72), .mv (.t 2), none, none, []⟩, ⟨(some 73), .faddr 1 (.t 10), none, none, []⟩, ⟨(some 74), .faddr 2 (.t 73), none, none, []⟩, ⟨(some 75), .load none (.t 74), none, none, []⟩, ⟨(some 76), .call 86 [(.t 72), (.t 75)], none, none, []⟩, ⟨(some 71), .mv (.t 76), none, none, []⟩, ⟨(some 77), .extract (.t 71) 0, none, none, []⟩, ⟨(some 78), .extract (.t 71) 1, none, none, []⟩, ⟨(some 11), .mv (.t 77), none, none, []⟩, ⟨(some 12), .mv (.t 78), none, none, []⟩])
  (.seq (.reg [⟨(some 80), .mv (.t 3), none, none, []⟩, ⟨(some 81), .faddr 1 (.t 10), none, none, []⟩, ⟨(some 82), .faddr 3 (.t 81), none, none, []⟩, ⟨(some 83), .load none (.t 82), none, none, []⟩, ⟨(some 84), .call 86 [(.t 80), (.t 83)], none, none, []⟩, ⟨(some 79), .mv (.t 84), none, none, []⟩, ⟨(some 85), .extract (.t 79) 0, none, none, []⟩, ⟨(some 86), .extract (.t 79) 1, none, none, []⟩, ⟨(some 13), .mv (.t 85), none, none, []⟩, ⟨(some 14), .mv (.t 86), none, none, []⟩])
  (.seq (.reg [⟨(some 87), .build [(.int .i64 0), (.int .i64 0), (.int .i64 0), (.int .i64 0)] [], none, none, []⟩, ⟨(some 15), .box 122 (.v (.agg [(.int .i64 0), (.int .i64 0), (.int .i64 0), (.int .i64 0)])), none, none, []⟩, ⟨none, .store 4 (.t 15) (.t 87), none, none, []⟩])
  (.seq (.seq (.reg [⟨(some 16), .mv (.v (.int .i64 0)), none, none, []⟩])
  (.block 0 (.loop (.seq (.seq (.reg [⟨(some 88), .mv (.t 16), none, none, []⟩, ⟨(some 89), .bin .lss (.t 88) (.v (.int .i64 4)), none, none, []⟩])
  (.cond (.t 89) .skip (.exit 0)))
  (.seq (.block 1 (.seq (.regd [⟨(some 92), .mv (.t 12), none, (some []), []⟩, ⟨(some 93), .bin .sub (.v (.int .i64 256)) (.t 92), none, (some []), []⟩, ⟨(some 94), .mv (.t 12), none, (some []), []⟩, ⟨(some 95), .bsl 3 [(.int .i64 0), (.int .i64 0)] 2 1 [(0, 1, (.t 93)), (1, 1, (.t 94))], none, (some []), []⟩, ⟨(some 96), .mv (.t 16), none, (some [3]), []⟩, ⟨(some 97), .bin .rem (.t 96) (.v (.int .i64 2)), none, (some [3]), []⟩, ⟨(some 98), .iaddr 1 (.t 95) (.t 97), none, (some []), []⟩, ⟨(some 99), .load none (.t 98), none, (some []), []⟩, ⟨(some 100), .mv (.t 14), none, (some [3]), []⟩, ⟨(some 101), .bin .sub (.v (.int .i64 256)) (.t 100), none, (some [3]), []⟩, ⟨(some 102), .mv (.t 14), none, (some [3]), []⟩, ⟨(some 103), .bsl 3 [(.int .i64 0), (.int .i64 0)] 2 1 [(0, 1, (.t 101)), (1, 1, (.t 102))], none, (some [3]), []⟩, ⟨(some 104), .mv (.t 16), none, (some [3, 11]), []⟩, ⟨(some 105), .bin .quo (.t 104) (.v (.int .i64 2)), none, (some [3, 11]), []⟩, ⟨(some 106), .iaddr 1 (.t 103) (.t 105), none, (some [3]), []⟩, ⟨(some 107), .load none (.t 106), none, (some [3]), []⟩, ⟨(some 108), .bin .mul (.t 99) (.t 107), none, (some []), []⟩, ⟨(some 17), .mv (.t 108), none, (some []), []⟩])
  (.seq (.seq (.reg [⟨(some 109), .mv (.t 17), none, none, []⟩, ⟨(some 110), .bin .eql (.t 109) (.v (.int .i64 0)), none, none, []⟩])
  (.cond (.t 110) (.exit 1) .skip))
  (.seq (.reg [⟨(some 112), .load (some 11) (.t 4), none, none, []⟩, ⟨(some 113), .faddr 5 (.t 10), none, none, []⟩, ⟨(some 114), .faddr 0 (.t 113), none, none, []⟩, ⟨(some 115), .load none (.t 114), none, none, []⟩, ⟨(some 116), .faddr 5 (.t 10), none, none, []⟩, ⟨(some 117), .faddr 1 (.t 116), none, none, []⟩, ⟨(some 118), .load none (.t 117), none, none, []⟩, ⟨(some 119), .mv (.t 11), none, none, []⟩, ⟨(some 120), .bin .add (.t 118) (.t 119), none, none, []⟩, ⟨(some 121), .mv (.t 16), none, none, []⟩, ⟨(some 122), .bin .rem (.t 121) (.v (.int .i64 2)), none, none, []⟩, ⟨(some 123), .bin .add (.t 120) (.t 122), none, none, []⟩, ⟨(some 124), .faddr 5 (.t 10), none, none, []⟩, ⟨(some 125), .faddr 2 (.t 124), none, none, []⟩, ⟨(some 126), .load none (.t 125), none, none, []⟩, ⟨(some 127), .mv (.t 13), none, none, []⟩, ⟨(some 128), .bin .add (.t 126) (.t 127), none, none, []⟩, ⟨(some 129), .mv (.t 16), none, none, []⟩, ⟨(some 130), .bin .quo (.t 129) (.v (.int .i64 2)), none, none, []⟩, ⟨(some 131), .bin .add (.t 128) (.t 130), none, none, []⟩, ⟨(some 132), .call 87 [(.t 112), (.t 115), (.t 123), (.t 131)], none, none, []⟩, ⟨(some 111), .mv (.t 132), none, none, []⟩, ⟨(some 133), .extract (.t 111) 0, none, none, []⟩, ⟨(some 134), .extract (.t 111) 1, none, none, []⟩, ⟨(some 18), .box 146 (.v (.agg [(.int .u8 0), (.int .u8 0), (.int .u8 0), (.int .u8 0)])), none, none, []⟩, ⟨none, .store 4 (.t 18) (.t 133), none, none, []⟩, ⟨(some 19), .mv (.t 134), none, none, []⟩])
  (.seq (.reg [⟨(some 135), .iarr 4 1 (.t 15) (.v (.int .i64 0)), none, none, []⟩, ⟨(some 136), .load none (.t 135), none, none, []⟩, ⟨(some 137), .mv (.t 17), none, none, []⟩, ⟨(some 138), .faddr 0 (.t 18), none, none, []⟩, ⟨(some 139), .load none (.t 138), none, none, []⟩, ⟨(some 140), .conv .i64 (.t 139), none, none, []⟩, ⟨(some 141), .bin .mul (.t 137) (.t 140), none, none, []⟩, ⟨(some 142), .bin .add (.t 136) (.t 141), none, none, []⟩, ⟨(some 143), .iarr 4 1 (.t 15) (.v (.int .i64 0)), none, none, []⟩, ⟨none, .store 1 (.t 143) (.t 142), none, none, []⟩])
  (.seq (.reg [⟨(some 144), .iarr 4 1 (.t 15) (.v (.int .i64 1)), none, none, []⟩, ⟨(some 145), .load none (.t 144), none, none, []⟩, ⟨(some 146), .mv (.t 17), none, none, []⟩, ⟨(some 147), .faddr 1 (.t 18), none, none, []⟩, ⟨(some 148), .load none (.t 147), none, none, []⟩, ⟨(some 149), .conv .i64 (.t 148), none, none, []⟩, ⟨(some 150), .bin .mul (.t 146) (.t 149), none, none, []⟩, ⟨(some 151), .bin .add (.t 145) (.t 150), none, none, []⟩, ⟨(some 152), .iarr 4 1 (.t 15) (.v (.int .i64 1)), none, none, []⟩, ⟨none, .store 1 (.t 152) (.t 151), none, none, []⟩])
  (.seq (.reg [⟨(some 153), .iarr 4 1 (.t 15) (.v (.int .i64 2)), none, none, []⟩, ⟨(some 154), .load none (.t 153), none, none, []⟩, ⟨(some 155), .mv (.t 17), none, none, []⟩, ⟨(some 156), .faddr 2 (.t 18), none, none, []⟩, ⟨(some 157), .load none (.t 156), none, none, []⟩, ⟨(some 158), .conv .i64 (.t 157), none, none, []⟩, ⟨(some 159), .bin .mul (.t 155) (.t 158), none, none, []⟩, ⟨(some 160), .bin .add (.t 154) (.t 159), none, none, []⟩, ⟨(some 161), .iarr 4 1 (.t 15) (.v (.int .i64 2)), none, none, []⟩, ⟨none, .store 1 (.t 161) (.t 160), none, none, []⟩])
  (.reg [⟨(some 162), .iarr 4 1 (.t 15) (.v (.int .i64 3)), none, none, []⟩, ⟨(some 163), .load none (.t 162), none, none, []⟩, ⟨(some 164), .mv (.t 17), none, none, []⟩, ⟨(some 165), .faddr 3 (.t 18), none, none, []⟩, ⟨(some 166), .load none (.t 165), none, none, []⟩, ⟨(some 167), .conv .i64 (.t 166), none, none, []⟩, ⟨(some 168), .bin .mul (.t 164) (.t 167), none, none, []⟩, ⟨(some 169), .bin .add (.t 163) (.t 168), none, none, []⟩, ⟨(some 170), .iarr 4 1 (.t 15) (.v (.int .i64 3)), none, none, []⟩, ⟨none, .store 1 (.t 170) (.t 169), none, none, []⟩]))))))))
  (.reg [⟨(some 90), .mv (.t 16), none, none, []⟩, ⟨(some 91), .bin .add (.t 90) (.v (.int .i64 1)), none, none, []⟩, ⟨(some 16), .mv (.t 91), none, none, []⟩]))))))
  (.seq (.reg [⟨(some 171), .load (some 4) (.t 15), none, none, []⟩, ⟨none, .store 4 (.t 8) (.t 171), none, none, []⟩, ⟨(some 9), .mv (.v (.int .i64 0)), none, none, []⟩])
  .ret)))))))))⟩
/-- pochoir/pochoirref03.New -/
def s65 : SFn :=
 ⟨54, [.cell 4 (some 2), .tmp 5],
  (.seq (.reg [⟨(some 4), .box 109 (.v (.agg [(.int .i64 0), (.int .i64 0)])), none, none, []⟩, ⟨(some 5), .mv (.v (.int .i64 0)), none, none, []⟩])
  (.seq (.seq (.reg [⟨(some 11), .mv (.t 1), none, none, []⟩, ⟨(some 12), .bin .eql (.t 11) (.v (.int .i64 0)), none, none, []⟩])
  (.cond (.t 12) (.seq (.reg [⟨(some 13), .build [(.int .i64 0), (.int .i64 0)] [], none, none, []⟩, ⟨none, .store 2 (.t 4) (.t 13), none, none, []⟩, ⟨(some 5), .mv (.v (.int .i64 13)), none, none, []⟩])
  .ret) .skip))
  (.seq (.reg [⟨(some 14), .mv (.t 0), none, none, []⟩, ⟨(some 15), .call 89 [(.t 14)], none, none, []⟩, ⟨(some 16), .mv (.t 1), none, none, []⟩, ⟨(some 17), .call 89 [(.t 16)], none, none, []⟩, ⟨(some 18), .call 88 [(.t 15), (.t 17)], none, none, []⟩, ⟨(some 6), .mv (.t 18), none, none, []⟩])
  (.seq (.reg [⟨(some 20), .mv (.t 0), none, none, []⟩, ⟨(some 21), .bin .lss (.t 20) (.v (.int .i64 0)), none, none, []⟩, ⟨(some 22), .mv (.t 1), none, none, []⟩, ⟨(some 23), .bin .lss (.t 22) (.v (.int .i64 0)), none, none, []⟩, ⟨(some 24), .eqs 0 [] true (.t 21) (.t 23), none, none, []⟩, ⟨(some 25), .mv (.t 24), none, none, []⟩, ⟨(some 26), .mv (.t 0), (some (25, true)), none, []⟩, ⟨(some 27), .bin .neq (.t 26) (.v (.int .i64 0)), (some (25, true)), none, []⟩, ⟨(some 28), .pick (.t 25) (.t 27) (.v (.bool false)), none, none, []⟩, ⟨(some 29), .mv (.t 0), none, none, []⟩, ⟨(some 30), .call 89 [(.t 29)], none, none, []⟩, ⟨(some 31), .mv (.t 6), none, none, []⟩, ⟨(some 32), .bin .quo (.t 30) (.t 31), none, none, []⟩, ⟨(some 33), .call 90 [(.t 28), (.t 32)], none, none, []⟩, ⟨(some 19), .mv (.t 33), none, none, []⟩, ⟨(some 34), .extract (.t 19) 0, none, none, []⟩, ⟨(some 35), .extract (.t 19) 1, none, none, []⟩, ⟨(some 7), .mv (.t 34), none, none, []⟩, ⟨(some 8), .mv (.t 35), none, none, []⟩])
  (.seq (.reg [⟨(some 37), .mv (.t 1), none, none, []⟩, ⟨(some 38), .call 89 [(.t 37)], none, none, []⟩, ⟨(some 39), .mv (.t 6), none, none, []⟩, ⟨(some 40), .bin .quo (.t 38) (.t 39), none, none, []⟩, ⟨(some 41), .call 90 [(.v (.bool false)), (.t 40)], none, none, []⟩, ⟨(some 36), .mv (.t 41), none, none, []⟩, ⟨(some 42), .extract (.t 36) 0, none, none, []⟩, ⟨(some 43), .extract (.t 36) 1, none, none, []⟩, ⟨(some 9), .mv (.t 42), none, none, []⟩, ⟨(some 10), .mv (.t 43), none, none, []⟩])
  (.seq (.seq (.reg [⟨(some 44), .mv (.t 8), none, none, []⟩, ⟨(some 45), .un .not (.t 44), none, none, []⟩, ⟨(some 46), .mv (.t 45), none, none, []⟩, ⟨(some 47), .mv (.t 10), (some (46, false)), none, []⟩, ⟨(some 48), .un .not (.t 47), (some (46, false)), none, []⟩, ⟨(some 49), .pick (.t 46) (.v (.bool true)) (.t 48), none, none, []⟩])
  (.cond (.t 49) (.seq (.reg [⟨(some 50), .build [(.int .i64 0), (.int .i64 0)] [], none, none, []⟩, ⟨none, .store 2 (.t 4) (.t 50), none, none, []⟩, ⟨(some 5), .mv (.v (.int .i64 2)), none, none, []⟩])
  .ret) .skip))
  (.seq (.reg [⟨(some 51), .mv (.t 7), none, none, []⟩, ⟨(some 52), .mv (.t 9), none, none, []⟩, ⟨(some 53), .build [(.int .i64 0), (.int .i64 0)] [(0, 1, (.t 51)), (1, 1, (.t 52))], none, none, []⟩, ⟨none, .store 2 (.t 4) (.t 53), none, none, []⟩, ⟨(some 5), .mv (.v (.int .i64 0)), none, none, []⟩])
  .ret)))))))⟩
/-- pochoir/pochoirref32.Cover -/
def s66 : SFn :=
 ⟨61, [.tmp 6, .tmp 7],
  (.seq (.reg [⟨(some 5), .box 109 (.t 2), none, none, []⟩, ⟨(some 6), .mv (.v (.int .i64 0)), none, none, []⟩, ⟨(some 7), .mv (.v (.int .i64 0)), none, none, []⟩])
  (.seq (.seq (.reg [⟨(some 11), .mv (.t 1), none, none, []⟩, ⟨(some 12), .bin .lss (.t 11) (.v (.int .i64 1)), none, none, []⟩, ⟨(some 13), .mv (.t 12), none, none, []⟩, ⟨(some 14), .mv (.t 1), (some (13, false)), none, []⟩, ⟨(some 15), .bin .gtr (.t 14) (.v (.int .i64 16)), (some (13, false)), none, []⟩, ⟨(some 16), .pick (.t 13) (.v (.bool true)) (.t 15), none, none, []⟩, ⟨(some 17), .mv (.t 16), none, none, []⟩, ⟨(some 18), .load (some 2) (.t 5), (some (17, false)), none, []⟩, ⟨(some 19), .call 91 [(.t 18)], (some (17, false)), none, []⟩, ⟨(some 20), .un .not (.t 19), (some (17, false)), none, []⟩, ⟨(some 21), .pick (.t 17) (.v (.bool true)) (.t 20), none, none, []⟩, ⟨(some 22), .mv (.t 21), none, none, []⟩, ⟨(some 23), .faddr 0 (.t 5), (some (22, false)), none, []⟩, ⟨(some 24), .load none (.t 23), (some (22, false)), none, []⟩, ⟨(some 25), .bin .leq (.t 24) (.v (.int .i64 0)), (some (22, false)), none, []⟩, ⟨(some 26), .pick (.t 22) (.v (.bool true)) (.t 25), none, none, []⟩, ⟨(some 27), .mv (.t 26), none, none, []⟩, ⟨(some 28), .faddr 0 (.t 5), (some (27, false)), none, []⟩, ⟨(some 29), .load none (.t 28), (some (27, false)), none, []⟩, ⟨(some 30), .bin .gtr (.t 29) (.v (.int .i64 1073741824)), (some (27, false)), none, []⟩, ⟨(some 31), .pick (.t 27) (.v (.bool true)) (.t 30), none, none, []⟩, ⟨(some 32), .mv (.t 31), none, none, []⟩, ⟨(some 33), .faddr 1 (.t 5), (some (32, false)), none, []⟩, ⟨(some 34), .load none (.t 33), (some (32, false)), none, []⟩, ⟨(some 35), .bin .gtr (.t 34) (.v (.int .i64 1073741824)), (some (32, false)), none, []⟩, ⟨(some 36), .pick (.t 32) (.v (.bool true)) (.t 35), none, none, []⟩])
  (.cond (.t 36) (.seq (.reg [⟨(some 6), .mv (.v (.int .i64 0)), none, none, []⟩, ⟨(some 7), .mv (.v (.int .i64 1)), none, none, []⟩])
  .ret) .skip))
  (.seq (.reg [⟨(some 37), .mv (.t 0), none, none, []⟩, ⟨(some 38), .mnmx true [(.t 37), (.v (.int .i64 0))], none, none, []⟩, ⟨(some 39), .mnmx false [(.t 38), (.v (.int .i64 16711680))], none, none, []⟩, ⟨(some 0), .mv (.t 39), none, none, []⟩])
  (.seq (.reg [⟨(some 40), .faddr 1 (.t 5), none, none, []⟩, ⟨(some 41), .load none (.t 40), none, none, []⟩, ⟨(some 8), .mv (.t 41), none, none, []⟩])
  (.seq (.reg [⟨(some 42), .mv (.t 8), none, none, []⟩, ⟨(some 43), .bin .mul (.v (.int .i64 8355840)) (.t 42), none, none, []⟩, ⟨(some 44), .mv (.t 0), none, none, []⟩, ⟨(some 45), .bin .mul (.v (.int .i64 2)) (.t 44), none, none, []⟩, ⟨(some 46), .bin .sub (.t 45) (.v (.int .i64 16711680)), none, none, []⟩, ⟨(some 47), .mv (.t 1), none, none, []⟩, ⟨(some 48), .bin .mul (.t 46) (.t 47), none, none, []⟩, ⟨(some 49), .faddr 0 (.t 5), none, none, []⟩, ⟨(some 50), .load none (.t 49), none, none, []⟩, ⟨(some 51), .bin .mul (.t 48) (.t 50), none, none, []⟩, ⟨(some 52), .bin .add (.t 43) (.t 51), none, none, []⟩, ⟨(some 9), .mv (.t 52), none, none, []⟩])
  (.seq (.reg [⟨(some 53), .mv (.t 9), none, none, []⟩, ⟨(some 54), .mv (.t 8), none, none, []⟩, ⟨(some 55), .bin .mul (.v (.int .i64 65536)) (.t 54), none, none, []⟩, ⟨(some 56), .build [(.int .i64 0), (.int .i64 0)] [(0, 1, (.t 53)), (1, 1, (.t 55))], none, none, []⟩, ⟨(some 57), .call 85 [(.t 56)], none, none, []⟩, ⟨(some 10), .mv (.t 57), none, none, []⟩])
  (.seq (.reg [⟨(some 58), .mv (.t 10), none, none, []⟩, ⟨(some 59), .mnmx true [(.t 58), (.v (.int .i64 0))], none, none, []⟩, ⟨(some 60), .mnmx false [(.t 59), (.v (.int .i64 255))], none, none, []⟩, ⟨(some 6), .mv (.t 60), none, none, []⟩, ⟨(some 7), .mv (.v (.int .i64 0)), none, none, []⟩])
  .ret)))))))⟩
/-- pochoir/pochoirref32.Median -/
def s67 : SFn :=
 ⟨10, [.tmp 2],
  (.seq (.reg [⟨(some 1), .box 122 (.t 0), none, none, []⟩, ⟨(some 2), .mv (.v (.int .i64 0)), none, none, []⟩])
  (.seq (.reg [⟨(some 3), .iarr 4 1 (.t 1) (.v (.int .i64 1)), none, none, []⟩, ⟨(some 4), .load none (.t 3), none, none, []⟩, ⟨(some 5), .iarr 4 1 (.t 1) (.v (.int .i64 2)), none, none, []⟩, ⟨(some 6), .load none (.t 5), none, none, []⟩, ⟨(some 7), .iarr 4 1 (.t 1) (.v (.int .i64 3)), none, none, []⟩, ⟨(some 8), .load none (.t 7), none, none, []⟩, ⟨(some 9), .call 92 [(.t 4), (.t 6), (.t 8)], none, none, []⟩, ⟨(some 2), .mv (.t 9), none, none, []⟩])
  .ret))⟩
/-- pochoir/atlas.May -/
def s69 : SFn :=
 ⟨51, [.tmp 2],
  (.seq (.reg [⟨(some 1), .box 33 (.t 0), none, none, []⟩, ⟨(some 2), .mv (.v (.bool false)), none, none, []⟩])
  (.seq (.seq (.reg [⟨(some 7), .load (some 11) (.t 1), none, none, []⟩, ⟨(some 8), .call 93 [(.t 7)], none, none, []⟩, ⟨(some 9), .un .not (.t 8), none, none, []⟩])
  (.cond (.t 9) (.seq (.reg [⟨(some 2), .mv (.v (.bool false)), none, none, []⟩])
  .ret) .skip))
  (.seq (.seq (.reg [⟨(some 10), .faddr 10 (.t 1), none, none, []⟩, ⟨(some 11), .load none (.t 10), none, none, []⟩, ⟨(some 12), .len false (.t 11), none, none, []⟩, ⟨(some 13), .mv (.v (.int .i64 0)), none, none, []⟩])
  (.block 0 (.loop (.seq (.reg [⟨(some 14), .bin .lss (.t 13) (.t 12), none, none, []⟩])
  (.seq (.cond (.t 14) .skip (.exit 0))
  (.seq (.block 1 (.seq (.reg [⟨(some 15), .iaddr 1 (.t 11) (.t 13), none, none, []⟩, ⟨(some 16), .load none (.t 15), none, none, []⟩, ⟨(some 4), .mv (.t 16), none, none, []⟩])
  (.seq (.reg [⟨(some 17), .mv (.t 4), none, none, []⟩, ⟨(some 18), .len true (.t 17), none, none, []⟩, ⟨(some 19), .faddr 6 (.t 1), none, none, []⟩, ⟨(some 20), .faddr 0 (.t 19), none, none, []⟩, ⟨(some 21), .load none (.t 20), none, none, []⟩, ⟨(some 22), .bin .mul (.v (.int .i64 4)) (.t 21), none, none, []⟩, ⟨(some 23), .faddr 6 (.t 1), none, none, []⟩, ⟨(some 24), .faddr 1 (.t 23), none, none, []⟩, ⟨(some 25), .load none (.t 24), none, none, []⟩, ⟨(some 26), .bin .mul (.t 22) (.t 25), none, none, []⟩, ⟨(some 27), .bin .neq (.t 18) (.t 26), none, none, []⟩])
  (.cond (.t 27) (.seq (.reg [⟨(some 2), .mv (.v (.bool false)), none, none, []⟩])
  .ret) .skip))))
  (.reg [⟨(some 28), .bin .add (.t 13) (.v (.int .i64 1)), none, none, []⟩, ⟨(some 13), .mv (.t 28), none, none, []⟩])))))))
  (.seq (.seq (.reg [⟨(some 29), .faddr 8 (.t 1), none, none, []⟩, ⟨(some 30), .load none (.t 29), none, none, []⟩, ⟨(some 31), .len false (.t 30), none, none, []⟩, ⟨(some 32), .mv (.v (.int .i64 0)), none, none, []⟩])
  (.block 2 (.loop (.seq (.reg [⟨(some 33), .bin .lss (.t 32) (.t 31), none, none, []⟩])
  (.seq (.cond (.t 33) .skip (.exit 2))
  (.seq (.block 3 (.seq (.reg [⟨(some 34), .iaddr 8 (.t 30) (.t 32), none, none, []⟩, ⟨(some 35), .load (some 8) (.t 34), none, none, []⟩, ⟨(some 6), .box 77 (.v (.agg [(.int .i64 0), (.int .i64 0), (.int .i64 0), (.int .i64 0), (.int .i64 0), (.int .i64 0), (.int .i64 0), (.int .i64 0)])), none, none, []⟩, ⟨none, .store 8 (.t 6) (.t 35), none, none, []⟩])
  (.seq (.reg [⟨(some 36), .load (some 8) (.t 6), none, none, []⟩, ⟨(some 37), .faddr 6 (.t 1), none, none, []⟩, ⟨(some 38), .load (some 2) (.t 37), none, none, []⟩, ⟨(some 39), .faddr 10 (.t 1), none, none, []⟩, ⟨(some 40), .load none (.t 39), none, none, []⟩, ⟨(some 41), .len false (.t 40), none, none, []⟩, ⟨(some 42), .call 94 [(.t 36), (.t 38), (.t 41)], none, none, []⟩, ⟨(some 43), .un .not (.t 42), none, none, []⟩])
  (.cond (.t 43) (.seq (.reg [⟨(some 2), .mv (.v (.bool false)), none, none, []⟩])
  .ret) .skip))))
  (.reg [⟨(some 44), .bin .add (.t 32) (.v (.int .i64 1)), none, none, []⟩, ⟨(some 32), .mv (.t 44), none, none, []⟩])))))))
  (.seq (.reg [⟨(some 45), .faddr 9 (.t 1), none, none, []⟩, ⟨(some 46), .load none (.t 45), none, none, []⟩, ⟨(some 47), .faddr 8 (.t 1), none, none, []⟩, ⟨(some 48), .load none (.t 47), none, none, []⟩, ⟨(some 49), .len false (.t 48), none, none, []⟩, ⟨(some 50), .call 95 [(.t 46), (.t 49)], none, none, []⟩, ⟨(some 2), .mv (.t 50), none, none, []⟩])
  .ret)))))⟩
/-- pochoir/pochoirref25.May -/
def s78 : SFn :=
 ⟨44, [.tmp 2],
  (.seq (.reg [⟨(some 1), .box 73 (.t 0), none, none, []⟩, ⟨(some 2), .mv (.v (.bool false)), none, none, []⟩])
  (.seq (.seq (.reg [⟨(some 3), .load (some 4) (.t 1), none, none, []⟩, ⟨(some 4), .build [(.int .i64 0), (.int .i64 0), (.int .i64 0), (.int .i64 0)] [], none, none, []⟩, ⟨(some 5), .eqs 4 [1, 1, 1, 1] false (.t 3) (.t 4), none, none, []⟩])
  (.cond (.t 5) (.seq (.reg [⟨(some 2), .mv (.v (.bool true)), none, none, []⟩])
  .ret) .skip))
  (.seq (.reg [⟨(some 6), .faddr 2 (.t 1), none, none, []⟩, ⟨(some 7), .load none (.t 6), none, none, []⟩, ⟨(some 8), .bin .geq (.t 7) (.v (.int .i64 1)), none, none, []⟩, ⟨(some 9), .mv (.t 8), none, none, []⟩, ⟨(some 10), .faddr 2 (.t 1), (some (9, true)), none, []⟩, ⟨(some 11), .load none (.t 10), (some (9, true)), none, []⟩, ⟨(some 12), .bin .leq (.t 11) (.v (.int .i64 256)), (some (9, true)), none, []⟩, ⟨(some 13), .pick (.t 9) (.t 12) (.v (.bool false)), none, none, []⟩, ⟨(some 14), .mv (.t 13), none, none, []⟩, ⟨(some 15), .faddr 3 (.t 1), (some (14, true)), none, []⟩, ⟨(some 16), .load none (.t 15), (some (14, true)), none, []⟩, ⟨(some 17), .bin .geq (.t 16) (.v (.int .i64 1)), (some (14, true)), none, []⟩, ⟨(some 18), .pick (.t 14) (.t 17) (.v (.bool false)), none, none, []⟩, ⟨(some 19), .mv (.t 18), none, none, []⟩, ⟨(some 20), .faddr 3 (.t 1), (some (19, true)), none, []⟩, ⟨(some 21), .load none (.t 20), (some (19, true)), none, []⟩, ⟨(some 22), .bin .leq (.t 21) (.v (.int .i64 256)), (some (19, true)), none, []⟩, ⟨(some 23), .pick (.t 19) (.t 22) (.v (.bool false)), none, none, []⟩, ⟨(some 24), .mv (.t 23), none, none, []⟩, ⟨(some 25), .faddr 0 (.t 1), (some (24, true)), none, []⟩, ⟨(some 26), .load none (.t 25), (some (24, true)), none, []⟩, ⟨(some 27), .bin .geq (.t 26) (.v (.int .i64 (-1048576))), (some (24, true)), none, []⟩, ⟨(some 28), .pick (.t 24) (.t 27) (.v (.bool false)), none, none, []⟩, ⟨(some 29), .mv (.t 28), none, none, []⟩, ⟨(some 30), .faddr 0 (.t 1), (some (29, true)), none, []⟩, ⟨(some 31), .load none (.t 30), (some (29, true)), none, []⟩, ⟨(some 32), .bin .leq (.t 31) (.v (.int .i64 1048576)), (some (29, true)), none, []⟩, ⟨(some 33), .pick (.t 29) (.t 32) (.v (.bool false)), none, none, []⟩, ⟨(some 34), .mv (.t 33), none, none, []⟩, ⟨(some 35), .faddr 1 (.t 1), (some (34, true)), none, []⟩, ⟨(some 36), .load none (.t 35), (some (34, true)), none, []⟩, ⟨(some 37), .bin .geq (.t 36) (.v (.int .i64 (-1048576))), (some (34, true)), none, []⟩, ⟨(some 38), .pick (.t 34) (.t 37) (.v (.bool false)), none, none, []⟩, ⟨(some 39), .mv (.t 38), none, none, []⟩, ⟨(some 40), .faddr 1 (.t 1), (some (39, true)), none, []⟩, ⟨(some 41), .load none (.t 40), (some (39, true)), none, []⟩, ⟨(some 42), .bin .leq (.t 41) (.v (.int .i64 1048576)), (some (39, true)), none, []⟩, ⟨(some 43), .pick (.t 39) (.t 42) (.v (.bool false)), none, none, []⟩, ⟨(some 2), .mv (.t 43), none, none, []⟩])
  .ret)))⟩
/-- pochoir/ratio.New -/
def s79 : SFn :=
 ⟨16, [.cell 4 (some 2), .tmp 5],
  (.seq (.reg [⟨(some 4), .box 109 (.v (.agg [(.int .i64 0), (.int .i64 0)])), none, none, []⟩, ⟨(some 5), .mv (.v (.int .i64 0)), none, none, []⟩])
  (.seq (.seq (.reg [⟨(some 6), .mv (.t 1), none, none, []⟩, ⟨(some 7), .bin .eql (.t 6) (.v (.int .i64 0)), none, none, []⟩])
  (.cond (.t 7) (.seq (.reg [⟨(some 8), .build [(.int .i64 0), (.int .i64 0)] [], none, none, []⟩, ⟨none, .store 2 (.t 4) (.t 8), none, none, []⟩, ⟨(some 5), .mv (.v (.int .i64 13)), none, none, []⟩])
  .ret) .skip))
  (.seq (.reg [⟨(some 9), .mv (.t 0), none, none, []⟩, ⟨(some 10), .call 104 [(.t 9), (.v (.int .i64 1))], none, none, []⟩, ⟨(some 11), .mv (.t 1), none, none, []⟩, ⟨(some 12), .call 104 [(.t 11), (.v (.int .i64 1))], none, none, []⟩, ⟨(some 13), .call 103 [(.t 10), (.t 12)], none, none, []⟩, ⟨(some 14), .extract (.t 13) 0, none, none, []⟩, ⟨(some 15), .extract (.t 13) 1, none, none, []⟩, ⟨none, .store 2 (.t 4) (.t 14), none, none, []⟩, ⟨(some 5), .mv (.t 15), none, none, []⟩])
  .ret)))⟩
/-- (pochoir/raster.axis).inside -/
def s80 : SFn :=
 ⟨44, [.tmp 6, .tmp 7],
  (.seq (.reg [⟨(some 3), .box 116 (.t 0), none, none, []⟩, ⟨(some 6), .mv (.v (.int .i64 0)), none, none, []⟩, ⟨(some 7), .mv (.v (.int .i64 0)), none, none, []⟩])
  (.seq (.reg [⟨(some 8), .mv (.v (.int .i64 0)), none, none, []⟩])
  (.seq (.seq (.reg [⟨(some 13), .mv (.t 1), none, none, []⟩, ⟨(some 9), .mv (.v (.int .i64 0)), none, none, []⟩, ⟨(some 10), .mv (.t 13), none, none, []⟩])
  (.block 0 (.loop (.block 1 (.seq (.seq (.reg [⟨(some 14), .mv (.t 9), none, none, []⟩, ⟨(some 15), .mv (.t 10), none, none, []⟩, ⟨(some 16), .bin .geq (.t 14) (.t 15), none, none, []⟩])
  (.cond (.t 16) (.seq (.reg [⟨(some 17), .mv (.t 9), none, none, []⟩, ⟨(some 8), .mv (.t 17), none, none, []⟩])
  (.exit 0)) .skip))
  (.seq (.reg [⟨(some 18), .mv (.t 9), none, none, []⟩, ⟨(some 19), .mv (.t 10), none, none, []⟩, ⟨(some 20), .bin .add (.t 18) (.t 19), none, none, []⟩, ⟨(some 21), .bin .quo (.t 20) (.v (.int .i64 2)), none, none, []⟩, ⟨(some 11), .mv (.t 21), none, none, []⟩])
  (.seq (.reg [⟨(some 22), .load (some 3) (.t 3), none, none, []⟩, ⟨(some 23), .mv (.t 11), none, none, []⟩, ⟨(some 24), .call 61 [(.t 22), (.t 23)], none, none, []⟩, ⟨(some 25), .bin .geq (.t 24) (.v (.int .i64 0)), none, none, []⟩])
  (.cond (.t 25) (.reg [⟨(some 26), .mv (.t 11), none, none, []⟩, ⟨(some 10), .mv (.t 26), none, none, []⟩]) (.reg [⟨(some 27), .mv (.t 11), none, none, []⟩, ⟨(some 28), .bin .add (.t 27) (.v (.int .i64 1)), none, none, []⟩, ⟨(some 9), .mv (.t 28), none, none, []⟩])))))))))
  (.seq (.reg [⟨(some 29), .mv (.t 8), none, none, []⟩, ⟨(some 12), .mv (.t 29), none, none, []⟩])
  (.seq (.block 2 (.loop (.seq (.seq (.reg [⟨(some 30), .mv (.t 12), none, none, []⟩, ⟨(some 31), .mv (.t 1), none, none, []⟩, ⟨(some 32), .bin .lss (.t 30) (.t 31), none, none, []⟩, ⟨(some 33), .mv (.t 32), none, none, []⟩, ⟨(some 34), .load (some 3) (.t 3), (some (33, true)), none, []⟩, ⟨(some 35), .mv (.t 12), (some (33, true)), none, []⟩, ⟨(some 36), .call 61 [(.t 34), (.t 35)], (some (33, true)), none, []⟩, ⟨(some 37), .mv (.t 2), (some (33, true)), none, []⟩, ⟨(some 38), .bin .leq (.t 36) (.t 37), (some (33, true)), none, []⟩, ⟨(some 39), .pick (.t 33) (.t 38) (.v (.bool false)), none, none, []⟩])
  (.cond (.t 39) .skip (.exit 2)))
  (.block 3 (.reg [⟨(some 40), .mv (.t 12), none, none, []⟩, ⟨(some 41), .bin .add (.t 40) (.v (.int .i64 1)), none, none, []⟩, ⟨(some 12), .mv (.t 41), none, none, []⟩])))))
  (.seq (.reg [⟨(some 42), .mv (.t 8), none, none, []⟩, ⟨(some 43), .mv (.t 12), none, none, []⟩, ⟨(some 6), .mv (.t 42), none, none, []⟩, ⟨(some 7), .mv (.t 43), none, none, []⟩])
  .ret))))))⟩
/-- pochoir/raster.along -/
def s81 : SFn :=
 ⟨55, [.cell 10 (some 3)],
  (.seq (.reg [⟨(some 5), .box 33 (.t 0), none, none, []⟩, ⟨(some 6), .box 55 (.t 1), none, none, []⟩, ⟨(some 10), .box 116 (.v (.agg [(.int .i64 0), (.int .i64 0), (.int .i64 0)])), none, none, []⟩])
  (.seq (.reg [⟨(some 13), .faddr 5 (.t 6), none, none, []⟩, ⟨(some 14), .load none (.t 13), none, none, []⟩, ⟨(some 15), .faddr 0 (.t 5), none, none, []⟩, ⟨(some 16), .load none (.t 15), none, none, []⟩, ⟨(some 17), .bin .mul (.t 14) (.t 16), none, none, []⟩, ⟨(some 18), .faddr 1 (.t 5), none, none, []⟩, ⟨(some 19), .load none (.t 18), none, none, []⟩, ⟨(some 20), .bin .mul (.t 17) (.t 19), none, none, []⟩, ⟨(some 11), .mv (.t 20), none, none, []⟩])
  (.seq (.reg [⟨(some 21), .mv (.t 2), none, none, []⟩, ⟨(some 22), .bin .mul (.v (.int .i64 2)) (.t 21), none, none, []⟩, ⟨(some 23), .bin .sub (.v (.int .i64 1)) (.t 22), none, none, []⟩, ⟨(some 24), .mv (.t 11), none, none, []⟩, ⟨(some 25), .bin .mul (.t 23) (.t 24), none, none, []⟩, ⟨(some 26), .mv (.t 3), none, none, []⟩, ⟨(some 27), .bin .mul (.v (.int .i64 2)) (.t 26), none, none, []⟩, ⟨(some 28), .faddr 4 (.t 6), none, none, []⟩, ⟨(some 29), .load none (.t 28), none, none, []⟩, ⟨(some 30), .bin .mul (.t 27) (.t 29), none, none, []⟩, ⟨(some 31), .faddr 1 (.t 5), none, none, []⟩, ⟨(some 32), .load none (.t 31), none, none, []⟩, ⟨(some 33), .bin .mul (.t 30) (.t 32), none, none, []⟩, ⟨(some 34), .bin .sub (.t 25) (.t 33), none, none, []⟩, ⟨(some 35), .mv (.t 4), none, none, []⟩, ⟨(some 36), .bin .mul (.v (.int .i64 2)) (.t 35), none, none, []⟩, ⟨(some 37), .bin .add (.t 36) (.v (.int .i64 1)), none, none, []⟩, ⟨(some 38), .faddr 4 (.t 6), none, none, []⟩, ⟨(some 39), .load none (.t 38), none, none, []⟩, ⟨(some 40), .bin .mul (.t 37) (.t 39), none, none, []⟩, ⟨(some 41), .faddr 0 (.t 5), none, none, []⟩, ⟨(some 42), .load none (.t 41), none, none, []⟩, ⟨(some 43), .bin .mul (.t 40) (.t 42), none, none, []⟩, ⟨(some 44), .bin .sub (.t 34) (.t 43), none, none, []⟩, ⟨(some 12), .mv (.t 44), none, none, []⟩])
  (.seq (.reg [⟨(some 45), .mv (.t 11), none, none, []⟩, ⟨(some 46), .bin .mul (.v (.int .i64 256)) (.t 45), none, none, []⟩, ⟨(some 47), .mv (.t 12), none, none, []⟩, ⟨(some 48), .bin .mul (.v (.int .i64 128)) (.t 47), none, none, []⟩, ⟨(some 49), .faddr 4 (.t 6), none, none, []⟩, ⟨(some 50), .load none (.t 49), none, none, []⟩, ⟨(some 51), .faddr 0 (.t 5), none, none, []⟩, ⟨(some 52), .load none (.t 51), none, none, []⟩, ⟨(some 53), .bin .mul (.t 50) (.t 52), none, none, []⟩, ⟨(some 54), .build [(.int .i64 0), (.int .i64 0), (.int .i64 0)] [(0, 1, (.t 46)), (1, 1, (.t 48)), (2, 1, (.t 53))], none, none, []⟩, ⟨none, .store 3 (.t 10) (.t 54), none, none, []⟩])
  .ret))))⟩
/-- pochoir/sample.At -/
def s82 : SFn :=
 ⟨116, [.cell 8 (some 4), .tmp 9],
  (.seq (.reg [⟨(some 4), .box 33 (.t 0), none, none, []⟩, ⟨(some 8), .box 122 (.v (.agg [(.int .i64 0), (.int .i64 0), (.int .i64 0), (.int .i64 0)])), none, none, []⟩, ⟨(some 9), .mv (.v (.int .i64 0)), none, none, []⟩])
  (.seq (.seq (.reg [⟨(some 17), .load (some 11) (.t 4), none, none, []⟩, ⟨(some 18), .call 69 [(.t 17)], none, none, []⟩, ⟨(some 19), .un .not (.t 18), none, none, []⟩, ⟨(some 20), .mv (.t 19), none, none, []⟩, ⟨(some 21), .mv (.t 1), (some (20, false)), none, []⟩, ⟨(some 22), .bin .lss (.t 21) (.v (.int .i64 0)), (some (20, false)), none, []⟩, ⟨(some 23), .pick (.t 20) (.v (.bool true)) (.t 22), none, none, []⟩, ⟨(some 24), .mv (.t 23), none, none, []⟩, ⟨(some 25), .mv (.t 1), (some (24, false)), none, []⟩, ⟨(some 26), .faddr 8 (.t 4), (some (24, false)), none, []⟩, ⟨(some 27), .load none (.t 26), (some (24, false)), none, []⟩, ⟨(some 28), .len false (.t 27), (some (24, false)), none, []⟩, ⟨(some 29), .bin .geq (.t 25) (.t 28), (some (24, false)), none, []⟩, ⟨(some 30), .pick (.t 24) (.v (.bool true)) (.t 29), none, none, []⟩])
  (.cond (.t 30) (.seq (.reg [⟨(some 31), .build [(.int .i64 0), (.int .i64 0), (.int .i64 0), (.int .i64 0)] [], none, none, []⟩, ⟨none, .store 4 (.t 8) (.t 31), none, none, []⟩, ⟨(some 9), .mv (.v (.int .i64 1)), none, none, []⟩])
  .ret) .skip))
  (.seq (.reg [⟨(some 32), .faddr 8 (.t 4), none, none, []⟩, ⟨(some 33), .load none (.t 32), none, none, []⟩, ⟨(some 34), .mv (.t 1), none, none, []⟩, ⟨(some 35), .iaddr 8 (.t 33) (.t 34), none, none, []⟩, ⟨(some 36), .load (some 8) (.t 35), none, none, []⟩, ⟨(some 10), .box 77 (.v (.agg [(.int .i64 0), (.int .i64 0), (.int .i64 0), (.int .i64 0), (.int .i64 0), (.int .i64 0), (.int .i64 0), (.int .i64 0)])), none, none, []⟩, ⟨none, .store 8 (.t 10) (.t 36), none, none, []⟩])
  (.seq (.seq (.reg [⟨(some 37), .faddr 1 (.t 10), none, none, []⟩, ⟨(some 38), .faddr 2 (.t 37), none, none, []⟩, ⟨(some 39), .load none (.t 38), none, none, []⟩, ⟨(some 40), .bin .eql (.t 39) (.v (.int .i64 0)), none, none, []⟩, ⟨(some 41), .mv (.t 40), none, none, []⟩, ⟨(some 42), .mv (.t 2), (some (41, false)), none, []⟩, ⟨(some 43), .bin .lss (.t 42) (.v (.int .i64 0)), (some (41, false)), none, []⟩, ⟨(some 44), .pick (.t 41) (.v (.bool true)) (.t 43), none, none, []⟩, ⟨(some 45), .mv (.t 44), none, none, []⟩, ⟨(some 46), .mv (.t 2), (some (45, false)), none, []⟩, ⟨(some 47), .faddr 1 (.t 10), (some (45, false)), none, []⟩, ⟨(some 48), .faddr 2 (.t 47), (some (45, false)), none, []⟩, ⟨(some 49), .load none (.t 48), (some (45, false)), none, []⟩, ⟨(some 50), .bin .sub (.t 49) (.v (.int .i64 1)), (some (45, false)), none, []⟩, ⟨(some 51), .bin .mul (.v (.int .i64 256)) (.t 50), (some (45, false)), none, []⟩, ⟨(some 52), .bin .gtr (.t 46) (.t 51), (some (45, false)), none, []⟩, ⟨(some 53), .pick (.t 45) (.v (.bool true)) (.t 52), none, none, []⟩, ⟨(some 54), .mv (.t 53), none, none, []⟩, ⟨(some 55), .mv (.t 3), (some (54, false)), none, []⟩, ⟨(some 56), .bin .lss (.t 55) (.v (.int .i64 0)), (some (54, false)), none, []⟩, ⟨(some 57), .pick (.t 54) (.v (.bool true)) (.t 56), none, none, []⟩, ⟨(some 58), .mv (.t 57), none, none, []⟩, ⟨(some 59), .mv (.t 3), (some (58, false)), none, []⟩, ⟨(some 60), .faddr 1 (.t 10), (some (58, false)), none, []⟩, ⟨(some 61), .faddr 3 (.t 60), (some (58, false)), none, []⟩, ⟨(some 62), .load none (.t 61), (some (58, false)), none, []⟩, ⟨(some 63), .bin .sub (.t 62) (.v (.int .i64 1)), (some (58, false)), none, []⟩, ⟨(some 64), .bin .mul (.v (.int .i64 256)) (.t 63), (some (58, false)), none, []⟩, ⟨(some 65), .bin .gtr (.t 59) (.t 64), (some (58, false)), none, []⟩, ⟨(some 66), .pick (.t 58) (.v (.bool true)) (.t 65), none, none, []⟩])
  (.cond (.t 66) (.seq (.reg [⟨(some 67), .build [(.int .i64 0), (.int .i64 0), (.int .i64 0), (.int .i64 0)] [], none, none, []⟩, ⟨none, .store 4 (.t 8) (.t 67), none, none, []⟩, ⟨(some 9), .mv (.v (.int .i64 7)), none, none, []⟩])
  .ret) .skip))
  (.seq (.regd [⟨(some 68), .faddr 10 (.t 4), none, (some []), []⟩, ⟨(some 69), .load none (.t 68), none, (some []), []⟩, ⟨(some 70), .faddr 5 (.t 10), none, (some []), []⟩, ⟨(some 71), .faddr 0 (.t 70), none, (some []), []⟩, ⟨(some 72), .load none (.t 71), none, (some []), []⟩, ⟨(some 73), .iaddr 1 (.t 69) (.t 72), none, (some []), []⟩, ⟨(some 74), .load none (.t 73), none, (some []), []⟩, ⟨(some 75), .faddr 6 (.t 4), none, (some []), []⟩, ⟨(some 76), .faddr 0 (.t 75), none, (some []), []⟩, ⟨(some 77), .load none (.t 76), none, (some []), []⟩, ⟨(some 78), .faddr 5 (.t 10), none, (some []), []⟩, ⟨(some 79), .load (some 3) (.t 78), none, (some []), []⟩, ⟨(some 80), .build [(.str ⟨#[]⟩), (.int .i64 0), (.int .i64 0), (.int .i64 0), (.int .i64 0)] [(0, 1, (.t 74)), (1, 1, (.t 77)), (2, 3, (.t 79))], none, (some []), []⟩, ⟨(some 11), .box 170 (.v (.agg [(.str ⟨#[]⟩), (.int .i64 0), (.int .i64 0), (.int .i64 0), (.int .i64 0)])), none, none, [(none, (.t 68)), (none, (.t 71)), (none, (.t 73)), (none, (.t 76)), (none, (.t 78))]⟩, ⟨none, .store 5 (.t 11) (.t 80), none, none, []⟩])
  (.seq (.reg [⟨(some 82), .mv (.t 2), none, none, []⟩, ⟨(some 83), .faddr 1 (.t 10), none, none, []⟩, ⟨(some 84), .faddr 2 (.t 83), none, none, []⟩, ⟨(some 85), .load none (.t 84), none, none, []⟩, ⟨(some 86), .call 105 [(.t 82), (.t 85)], none, none, []⟩, ⟨(some 81), .mv (.t 86), none, none, []⟩, ⟨(some 87), .extract (.t 81) 0, none, none, []⟩, ⟨(some 88), .extract (.t 81) 1, none, none, []⟩, ⟨(some 12), .mv (.t 87), none, none, []⟩, ⟨(some 13), .mv (.t 88), none, none, []⟩])
  (.seq (.reg [⟨(some 90), .mv (.t 3), none, none, []⟩, ⟨(some 91), .faddr 1 (.t 10), none, none, []⟩, ⟨(some 92), .faddr 3 (.t 91), none, none, []⟩, ⟨(some 93), .load none (.t 92), none, none, []⟩, ⟨(some 94), .call 105 [(.t 90), (.t 93)], none, none, []⟩, ⟨(some 89), .mv (.t 94), none, none, []⟩, ⟨(some 95), .extract (.t 89) 0, none, none, []⟩, ⟨(some 96), .extract (.t 89) 1, none, none, []⟩, ⟨(some 14), .mv (.t 95), none, none, []⟩, ⟨(some 15), .mv (.t 96), none, none, []⟩])
  (.seq (.reg [⟨(some 97), .load (some 5) (.t 11), none, none, []⟩, ⟨(some 98), .mv (.t 12), none, none, []⟩, ⟨(some 99), .mv (.t 14), none, none, []⟩, ⟨(some 100), .mv (.t 13), none, none, []⟩, ⟨(some 101), .call 106 [(.t 97), (.t 98), (.t 99), (.t 100)], none, none, []⟩, ⟨(some 16), .box 122 (.v (.agg [(.int .i64 0), (.int .i64 0), (.int .i64 0), (.int .i64 0)])), none, none, []⟩, ⟨none, .store 4 (.t 16) (.t 101), none, none, []⟩])
  (.seq (.seq (.reg [⟨(some 102), .mv (.t 15), none, none, []⟩, ⟨(some 103), .bin .eql (.t 102) (.v (.int .i64 0)), none, none, []⟩])
  (.cond (.t 103) (.seq (.reg [⟨(some 104), .load (some 4) (.t 16), none, none, []⟩, ⟨(some 105), .load (some 4) (.t 16), none, none, []⟩, ⟨(some 106), .call 107 [(.t 104), (.t 105), (.v (.int .i64 0))], none, none, []⟩, ⟨none, .store 4 (.t 8) (.t 106), none, none, []⟩, ⟨(some 9), .mv (.v (.int .i64 0)), none, none, []⟩])
  .ret) .skip))
  (.seq (.regd [⟨(some 107), .load (some 4) (.t 16), none, (some []), []⟩, ⟨(some 108), .load (some 5) (.t 11), none, (some []), []⟩, ⟨(some 109), .mv (.t 12), none, (some []), []⟩, ⟨(some 110), .mv (.t 14), none, (some []), []⟩, ⟨(some 111), .bin .add (.t 110) (.v (.int .i64 1)), none, (some []), []⟩, ⟨(some 112), .mv (.t 13), none, (some []), []⟩, ⟨(some 113), .call 106 [(.t 108), (.t 109), (.t 111), (.t 112)], none, none, [(none, (.t 16))]⟩, ⟨(some 114), .mv (.t 15), none, (some [6]), []⟩, ⟨(some 115), .call 107 [(.t 107), (.t 113), (.t 114)], none, none, []⟩, ⟨none, .store 4 (.t 8) (.t 115), none, none, []⟩, ⟨(some 9), .mv (.v (.int .i64 0)), none, (some []), []⟩])
  .ret))))))))))⟩
/-- pochoir/sample.Cover -/
def s83 : SFn :=
 ⟨61, [.tmp 6, .tmp 7],
  (.seq (.reg [⟨(some 5), .box 109 (.t 2), none, none, []⟩, ⟨(some 6), .mv (.v (.int .u8 0)), none, none, []⟩, ⟨(some 7), .mv (.v (.int .i64 0)), none, none, []⟩])
  (.seq (.seq (.reg [⟨(some 10), .mv (.t 1), none, none, []⟩, ⟨(some 11), .bin .lss (.t 10) (.v (.int .i64 1)), none, none, []⟩, ⟨(some 12), .mv (.t 11), none, none, []⟩, ⟨(some 13), .mv (.t 1), (some (12, false)), none, []⟩, ⟨(some 14), .bin .gtr (.t 13) (.v (.int .i64 16)), (some (12, false)), none, []⟩, ⟨(some 15), .pick (.t 12) (.v (.bool true)) (.t 14), none, none, []⟩, ⟨(some 16), .mv (.t 15), none, none, []⟩, ⟨(some 17), .load (some 2) (.t 5), (some (16, false)), none, []⟩, ⟨(some 18), .call 108 [(.t 17)], (some (16, false)), none, []⟩, ⟨(some 19), .un .not (.t 18), (some (16, false)), none, []⟩, ⟨(some 20), .pick (.t 16) (.v (.bool true)) (.t 19), none, none, []⟩, ⟨(some 21), .mv (.t 20), none, none, []⟩, ⟨(some 22), .faddr 0 (.t 5), (some (21, false)), none, []⟩, ⟨(some 23), .load none (.t 22), (some (21, false)), none, []⟩, ⟨(some 24), .bin .leq (.t 23) (.v (.int .i64 0)), (some (21, false)), none, []⟩, ⟨(some 25), .pick (.t 21) (.v (.bool true)) (.t 24), none, none, []⟩, ⟨(some 26), .mv (.t 25), none, none, []⟩, ⟨(some 27), .faddr 0 (.t 5), (some (26, false)), none, []⟩, ⟨(some 28), .load none (.t 27), (some (26, false)), none, []⟩, ⟨(some 29), .bin .gtr (.t 28) (.v (.int .i64 1073741824)), (some (26, false)), none, []⟩, ⟨(some 30), .pick (.t 26) (.v (.bool true)) (.t 29), none, none, []⟩, ⟨(some 31), .mv (.t 30), none, none, []⟩, ⟨(some 32), .faddr 1 (.t 5), (some (31, false)), none, []⟩, ⟨(some 33), .load none (.t 32), (some (31, false)), none, []⟩, ⟨(some 34), .bin .gtr (.t 33) (.v (.int .i64 1073741824)), (some (31, false)), none, []⟩, ⟨(some 35), .pick (.t 31) (.v (.bool true)) (.t 34), none, none, []⟩])
  (.cond (.t 35) (.seq (.reg [⟨(some 6), .mv (.v (.int .u8 0)), none, none, []⟩, ⟨(some 7), .mv (.v (.int .i64 1)), none, none, []⟩])
  .ret) .skip))
  (.seq (.reg [⟨(some 36), .mv (.t 0), none, none, []⟩, ⟨(some 37), .mnmx true [(.t 36), (.v (.int .i64 0))], none, none, []⟩, ⟨(some 38), .mnmx false [(.t 37), (.v (.int .i64 16711680))], none, none, []⟩, ⟨(some 0), .mv (.t 38), none, none, []⟩])
  (.seq (.reg [⟨(some 39), .faddr 1 (.t 5), none, none, []⟩, ⟨(some 40), .load none (.t 39), none, none, []⟩, ⟨(some 41), .bin .mul (.v (.int .i64 65536)) (.t 40), none, none, []⟩, ⟨(some 8), .mv (.t 41), none, none, []⟩])
  (.seq (.reg [⟨(some 42), .mv (.t 8), none, none, []⟩, ⟨(some 43), .bin .mul (.v (.int .i64 255)) (.t 42), none, none, []⟩, ⟨(some 44), .bin .quo (.t 43) (.v (.int .i64 2)), none, none, []⟩, ⟨(some 45), .mv (.t 0), none, none, []⟩, ⟨(some 46), .bin .mul (.v (.int .i64 2)) (.t 45), none, none, []⟩, ⟨(some 47), .bin .sub (.t 46) (.v (.int .i64 16711680)), none, none, []⟩, ⟨(some 48), .mv (.t 1), none, none, []⟩, ⟨(some 49), .bin .mul (.t 47) (.t 48), none, none, []⟩, ⟨(some 50), .faddr 0 (.t 5), none, none, []⟩, ⟨(some 51), .load none (.t 50), none, none, []⟩, ⟨(some 52), .bin .mul (.t 49) (.t 51), none, none, []⟩, ⟨(some 53), .bin .add (.t 44) (.t 52), none, none, []⟩, ⟨(some 9), .mv (.t 53), none, none, []⟩])
  (.seq (.seq (.reg [⟨(some 54), .mv (.t 9), none, none, []⟩, ⟨(some 55), .bin .lss (.t 54) (.v (.int .i64 0)), none, none, []⟩])
  (.cond (.t 55) (.seq (.reg [⟨(some 6), .mv (.v (.int .u8 0)), none, none, []⟩, ⟨(some 7), .mv (.v (.int .i64 0)), none, none, []⟩])
  .ret) .skip))
  (.seq (.reg [⟨(some 56), .mv (.t 9), none, none, []⟩, ⟨(some 57), .mv (.t 8), none, none, []⟩, ⟨(some 58), .bin .quo (.t 56) (.t 57), none, none, []⟩, ⟨(some 59), .mnmx false [(.t 58), (.v (.int .i64 255))], none, none, []⟩, ⟨(some 60), .conv .u8 (.t 59), none, none, []⟩, ⟨(some 6), .mv (.t 60), none, none, []⟩, ⟨(some 7), .mv (.v (.int .i64 0)), none, none, []⟩])
  .ret)))))))⟩
/-- pochoir/sample.Median -/
def s84 : SFn :=
 ⟨17, [.tmp 2],
  (.seq (.reg [⟨(some 1), .box 122 (.t 0), none, none, []⟩, ⟨(some 2), .mv (.v (.int .i64 0)), none, none, []⟩])
  (.seq (.reg [⟨(some 3), .iarr 4 1 (.t 1) (.v (.int .i64 1)), none, none, []⟩, ⟨(some 4), .load none (.t 3), none, none, []⟩, ⟨(some 5), .iarr 4 1 (.t 1) (.v (.int .i64 2)), none, none, []⟩, ⟨(some 6), .load none (.t 5), none, none, []⟩, ⟨(some 7), .mnmx false [(.t 4), (.t 6)], none, none, []⟩, ⟨(some 8), .iarr 4 1 (.t 1) (.v (.int .i64 1)), none, none, []⟩, ⟨(some 9), .load none (.t 8), none, none, []⟩, ⟨(some 10), .iarr 4 1 (.t 1) (.v (.int .i64 2)), none, none, []⟩, ⟨(some 11), .load none (.t 10), none, none, []⟩, ⟨(some 12), .mnmx true [(.t 9), (.t 11)], none, none, []⟩, ⟨(some 13), .iarr 4 1 (.t 1) (.v (.int .i64 3)), none, none, []⟩, ⟨(some 14), .load none (.t 13), none, none, []⟩, ⟨(some 15), .mnmx false [(.t 12), (.t 14)], none, none, []⟩, ⟨(some 16), .mnmx true [(.t 7), (.t 15)], none, none, []⟩, ⟨(some 2), .mv (.t 16), none, none, []⟩])
  .ret))⟩
/-- pochoir/pochoirref03.Floor -/
def s85 : SFn :=
 ⟨18, [.tmp 2],
  (.seq (.reg [⟨(some 1), .box 109 (.t 0), none, none, []⟩, ⟨(some 2), .mv (.v (.int .i64 0)), none, none, []⟩])
  (.seq (.reg [⟨(some 4), .faddr 0 (.t 1), none, none, []⟩, ⟨(some 5), .load none (.t 4), none, none, []⟩, ⟨(some 6), .faddr 1 (.t 1), none, none, []⟩, ⟨(some 7), .load none (.t 6), none, none, []⟩, ⟨(some 8), .bin .quo (.t 5) (.t 7), none, none, []⟩, ⟨(some 3), .mv (.t 8), none, none, []⟩])
  (.seq (.seq (.reg [⟨(some 9), .faddr 0 (.t 1), none, none, []⟩, ⟨(some 10), .load none (.t 9), none, none, []⟩, ⟨(some 11), .faddr 1 (.t 1), none, none, []⟩, ⟨(some 12), .load none (.t 11), none, none, []⟩, ⟨(some 13), .bin .rem (.t 10) (.t 12), none, none, []⟩, ⟨(some 14), .bin .lss (.t 13) (.v (.int .i64 0)), none, none, []⟩])
  (.cond (.t 14) (.seq (.reg [⟨(some 15), .mv (.t 3), none, none, []⟩, ⟨(some 16), .bin .sub (.t 15) (.v (.int .i64 1)), none, none, []⟩, ⟨(some 2), .mv (.t 16), none, none, []⟩])
  .ret) .skip))
  (.seq (.reg [⟨(some 17), .mv (.t 3), none, none, []⟩, ⟨(some 2), .mv (.t 17), none, none, []⟩])
  .ret))))⟩
/-- pochoir/pochoirref32.cut -/
def s86 : SFn :=
 ⟨18, [.tmp 4, .tmp 5],
  (.seq (.reg [⟨(some 4), .mv (.v (.int .i64 0)), none, none, []⟩, ⟨(some 5), .mv (.v (.int .i64 0)), none, none, []⟩])
  (.seq (.reg [⟨(some 7), .mv (.t 0), none, none, []⟩, ⟨(some 8), .bin .quo (.t 7) (.v (.int .i64 256)), none, none, []⟩, ⟨(some 9), .mv (.t 1), none, none, []⟩, ⟨(some 10), .bin .sub (.t 9) (.v (.int .i64 2)), none, none, []⟩, ⟨(some 11), .mnmx false [(.t 8), (.t 10)], none, none, []⟩, ⟨(some 12), .mnmx true [(.t 11), (.v (.int .i64 0))], none, none, []⟩, ⟨(some 6), .mv (.t 12), none, none, []⟩])
  (.seq (.reg [⟨(some 13), .mv (.t 6), none, none, []⟩, ⟨(some 14), .mv (.t 0), none, none, []⟩, ⟨(some 15), .mv (.t 6), none, none, []⟩, ⟨(some 16), .bin .mul (.v (.int .i64 256)) (.t 15), none, none, []⟩, ⟨(some 17), .bin .sub (.t 14) (.t 16), none, none, []⟩, ⟨(some 4), .mv (.t 13), none, none, []⟩, ⟨(some 5), .mv (.t 17), none, none, []⟩])
  .ret)))⟩
/-- pochoir/pochoirref30.Texel -/
def s87 : SFn :=
 ⟨72, [.cell 8 (some 4), .tmp 9],
  (.seq (.reg [⟨(some 4), .box 33 (.t 0), none, none, []⟩, ⟨(some 8), .box 146 (.v (.agg [(.int .u8 0), (.int .u8 0), (.int .u8 0), (.int .u8 0)])), none, none, []⟩, ⟨(some 9), .mv (.v (.int .i64 0)), none, none, []⟩])
  (.seq (.seq (.reg [⟨(some 12), .load (some 11) (.t 4), none, none, []⟩, ⟨(some 13), .call 24 [(.t 12)], none, none, []⟩, ⟨(some 14), .un .not (.t 13), none, none, []⟩, ⟨(some 15), .mv (.t 14), none, none, []⟩, ⟨(some 16), .mv (.t 1), (some (15, false)), none, []⟩, ⟨(some 17), .faddr 10 (.t 4), (some (15, false)), none, []⟩, ⟨(some 18), .load none (.t 17), (some (15, false)), none, []⟩, ⟨(some 19), .len false (.t 18), (some (15, false)), none, []⟩, ⟨(some 20), .bin .sub (.t 19) (.v (.int .i64 1)), (some (15, false)), none, []⟩, ⟨(some 21), .call 49 [(.t 16), (.v (.int .i64 0)), (.t 20)], (some (15, false)), none, []⟩, ⟨(some 22), .un .not (.t 21), (some (15, false)), none, []⟩, ⟨(some 23), .pick (.t 15) (.v (.bool true)) (.t 22), none, none, []⟩, ⟨(some 24), .mv (.t 23), none, none, []⟩, ⟨(some 25), .mv (.t 2), (some (24, false)), none, []⟩, ⟨(some 26), .faddr 6 (.t 4), (some (24, false)), none, []⟩, ⟨(some 27), .faddr 0 (.t 26), (some (24, false)), none, []⟩, ⟨(some 28), .load none (.t 27), (some (24, false)), none, []⟩, ⟨(some 29), .bin .sub (.t 28) (.v (.int .i64 1)), (some (24, false)), none, []⟩, ⟨(some 30), .call 49 [(.t 25), (.v (.int .i64 0)), (.t 29)], (some (24, false)), none, []⟩, ⟨(some 31), .un .not (.t 30), (some (24, false)), none, []⟩, ⟨(some 32), .pick (.t 24) (.v (.bool true)) (.t 31), none, none, []⟩, ⟨(some 33), .mv (.t 32), none, none, []⟩, ⟨(some 34), .mv (.t 3), (some (33, false)), none, []⟩, ⟨(some 35), .faddr 6 (.t 4), (some (33, false)), none, []⟩, ⟨(some 36), .faddr 1 (.t 35), (some (33, false)), none, []⟩, ⟨(some 37), .load none (.t 36), (some (33, false)), none, []⟩, ⟨(some 38), .bin .sub (.t 37) (.v (.int .i64 1)), (some (33, false)), none, []⟩, ⟨(some 39), .call 49 [(.t 34), (.v (.int .i64 0)), (.t 38)], (some (33, false)), none, []⟩, ⟨(some 40), .un .not (.t 39), (some (33, false)), none, []⟩, ⟨(some 41), .pick (.t 33) (.v (.bool true)) (.t 40), none, none, []⟩])
  (.cond (.t 41) (.seq (.reg [⟨(some 42), .build [(.int .u8 0), (.int .u8 0), (.int .u8 0), (.int .u8 0)] [], none, none, []⟩, ⟨none, .store 4 (.t 8) (.t 42), none, none, []⟩, ⟨(some 9), .mv (.v (.int .i64 1)), none, none, []⟩])
  .ret) .skip))
  (.seq (.reg [⟨(some 43), .mv (.t 3), none, none, []⟩, ⟨(some 44), .faddr 6 (.t 4), none, none, []⟩, ⟨(some 45), .faddr 0 (.t 44), none, none, []⟩, ⟨(some 46), .load none (.t 45), none, none, []⟩, ⟨(some 47), .bin .mul (.t 43) (.t 46), none, none, []⟩, ⟨(some 48), .mv (.t 2), none, none, []⟩, ⟨(some 49), .bin .add (.t 47) (.t 48), none, none, []⟩, ⟨(some 50), .bin .mul (.v (.int .i64 4)) (.t 49), none, none, []⟩, ⟨(some 10), .mv (.t 50), none, none, []⟩])
  (.seq (.reg [⟨(some 51), .faddr 10 (.t 4), none, none, []⟩, ⟨(some 52), .load none (.t 51), none, none, []⟩, ⟨(some 53), .mv (.t 1), none, none, []⟩, ⟨(some 54), .iaddr 1 (.t 52) (.t 53), none, none, []⟩, ⟨(some 55), .load none (.t 54), none, none, []⟩, ⟨(some 11), .mv (.t 55), none, none, []⟩])
  (.seq (.regd [⟨(some 56), .mv (.t 11), none, (some []), []⟩, ⟨(some 57), .mv (.t 10), none, (some []), []⟩, ⟨(some 58), .ixs (.t 56) (.t 57), none, (some []), []⟩, ⟨(some 59), .mv (.t 11), none, (some []), []⟩, ⟨(some 60), .mv (.t 10), none, (some []), []⟩, ⟨(some 61), .bin .add (.t 60) (.v (.int .i64 1)), none, (some []), []⟩, ⟨(some 62), .ixs (.t 59) (.t 61), none, (some []), []⟩, ⟨(some 63), .mv (.t 11), none, (some []), []⟩, ⟨(some 64), .mv (.t 10), none, (some []), []⟩, ⟨(some 65), .bin .add (.t 64) (.v (.int .i64 2)), none, (some []), []⟩, ⟨(some 66), .ixs (.t 63) (.t 65), none, (some []), []⟩, ⟨(some 67), .mv (.t 11), none, (some []), []⟩, ⟨(some 68), .mv (.t 10), none, (some []), []⟩, ⟨(some 69), .bin .add (.t 68) (.v (.int .i64 3)), none, (some []), []⟩, ⟨(some 70), .ixs (.t 67) (.t 69), none, (some []), []⟩, ⟨(some 71), .build [(.int .u8 0), (.int .u8 0), (.int .u8 0), (.int .u8 0)] [(0, 1, (.t 58)), (1, 1, (.t 62)), (2, 1, (.t 66)), (3, 1, (.t 70))], none, (some []), []⟩, ⟨none, .store 4 (.t 8) (.t 71), none, none, []⟩, ⟨(some 9), .mv (.v (.int .i64 0)), none, (some []), []⟩])
  .ret)))))⟩
/-- pochoir/pochoirref03.common -/
def s88 : SFn :=
 ⟨14, [.tmp 4],
  (.seq (.reg [⟨(some 4), .mv (.v (.int .u64 0)), none, none, []⟩])
  (.seq (.block 0 (.loop (.seq (.seq (.reg [⟨(some 6), .mv (.t 1), none, none, []⟩, ⟨(some 7), .bin .gtr (.t 6) (.v (.int .u64 0)), none, none, []⟩])
  (.cond (.t 7) .skip (.exit 0)))
  (.block 1 (.seq (.reg [⟨(some 8), .mv (.t 0), none, none, []⟩, ⟨(some 9), .mv (.t 1), none, none, []⟩, ⟨(some 10), .bin .rem (.t 8) (.t 9), none, none, []⟩, ⟨(some 5), .mv (.t 10), none, none, []⟩])
  (.seq (.reg [⟨(some 11), .mv (.t 1), none, none, []⟩, ⟨(some 0), .mv (.t 11), none, none, []⟩])
  (.reg [⟨(some 12), .mv (.t 5), none, none, []⟩, ⟨(some 1), .mv (.t 12), none, none, []⟩])))))))
  (.seq (.reg [⟨(some 13), .mv (.t 0), none, none, []⟩, ⟨(some 4), .mv (.t 13), none, none, []⟩])
  .ret)))⟩
/-- pochoir/pochoirref03.size -/
def s89 : SFn :=
 ⟨10, [.tmp 2],
  (.seq (.reg [⟨(some 2), .mv (.v (.int .u64 0)), none, none, []⟩])
  (.seq (.seq (.reg [⟨(some 3), .mv (.t 0), none, none, []⟩, ⟨(some 4), .bin .lss (.t 3) (.v (.int .i64 0)), none, none, []⟩])
  (.cond (.t 4) (.seq (.reg [⟨(some 5), .mv (.t 0), none, none, []⟩, ⟨(some 6), .conv .u64 (.t 5), none, none, []⟩, ⟨(some 7), .bin .sub (.v (.int .u64 0)) (.t 6), none, none, []⟩, ⟨(some 2), .mv (.t 7), none, none, []⟩])
  .ret) .skip))
  (.seq (.reg [⟨(some 8), .mv (.t 0), none, none, []⟩, ⟨(some 9), .conv .u64 (.t 8), none, none, []⟩, ⟨(some 2), .mv (.t 9), none, none, []⟩])
  .ret)))⟩
/-- pochoir/pochoirref03.signed -/
def s90 : SFn :=
 ⟨16, [.tmp 4, .tmp 5],
  (.seq (.reg [⟨(some 4), .mv (.v (.int .i64 0)), none, none, []⟩, ⟨(some 5), .mv (.v (.bool false)), none, none, []⟩])
  (.seq (.seq (.reg [⟨(some 6), .mv (.t 0), none, none, []⟩])
  (.cond (.t 6) (.seq (.reg [⟨(some 7), .mv (.t 1), none, none, []⟩, ⟨(some 8), .bin .sub (.v (.int .u64 0)) (.t 7), none, none, []⟩, ⟨(some 9), .conv .i64 (.t 8), none, none, []⟩, ⟨(some 10), .mv (.t 1), none, none, []⟩, ⟨(some 11), .bin .leq (.t 10) (.v (.int .u64 9223372036854775808)), none, none, []⟩, ⟨(some 4), .mv (.t 9), none, none, []⟩, ⟨(some 5), .mv (.t 11), none, none, []⟩])
  .ret) .skip))
  (.seq (.reg [⟨(some 12), .mv (.t 1), none, none, []⟩, ⟨(some 13), .conv .i64 (.t 12), none, none, []⟩, ⟨(some 14), .mv (.t 1), none, none, []⟩, ⟨(some 15), .bin .lss (.t 14) (.v (.int .u64 9223372036854775808)), none, none, []⟩, ⟨(some 4), .mv (.t 13), none, none, []⟩, ⟨(some 5), .mv (.t 15), none, none, []⟩])
  .ret)))⟩
/-- pochoir/pochoirref03.May -/
def s91 : SFn :=
 ⟨16, [.tmp 2],
  (.seq (.reg [⟨(some 1), .box 109 (.t 0), none, none, []⟩, ⟨(some 2), .mv (.v (.bool false)), none, none, []⟩])
  (.seq (.regd [⟨(some 3), .faddr 1 (.t 1), none, (some []), []⟩, ⟨(some 4), .load none (.t 3), none, none, []⟩, ⟨(some 5), .bin .gtr (.t 4) (.v (.int .i64 0)), none, (some []), []⟩, ⟨(some 6), .mv (.t 5), none, (some []), []⟩, ⟨(some 7), .faddr 0 (.t 1), (some (6, true)), (some []), []⟩, ⟨(some 8), .load none (.t 7), (some (6, true)), (some []), []⟩, ⟨(some 9), .call 89 [(.t 8)], (some (6, true)), none, [(none, (.t 1))]⟩, ⟨(some 10), .faddr 1 (.t 1), (some (6, true)), (some [6]), []⟩, ⟨(some 11), .load none (.t 10), (some (6, true)), (some [6]), []⟩, ⟨(some 12), .call 89 [(.t 11)], (some (6, true)), none, []⟩, ⟨(some 13), .call 88 [(.t 9), (.t 12)], (some (6, true)), none, []⟩, ⟨(some 14), .bin .eql (.t 13) (.v (.int .u64 1)), (some (6, true)), (some []), []⟩, ⟨(some 15), .pick (.t 6) (.t 14) (.v (.bool false)), none, (some []), []⟩, ⟨(some 2), .mv (.t 15), none, (some []), []⟩])
  .ret))⟩
/-- pochoir/pochoirref27.Median -/
def s92 : SFn :=
 ⟨22, [.tmp 6],
  (.seq (.reg [⟨(some 6), .mv (.v (.int .i64 0)), none, none, []⟩])
  (.seq (.reg [⟨(some 7), .mv (.t 0), none, none, []⟩, ⟨(some 8), .mv (.t 1), none, none, []⟩, ⟨(some 9), .bin .add (.t 7) (.t 8), none, none, []⟩, ⟨(some 10), .mv (.t 2), none, none, []⟩, ⟨(some 11), .bin .add (.t 9) (.t 10), none, none, []⟩, ⟨(some 12), .mv (.t 0), none, none, []⟩, ⟨(some 13), .mv (.t 1), none, none, []⟩, ⟨(some 14), .mv (.t 2), none, none, []⟩, ⟨(some 15), .mnmx false [(.t 12), (.t 13), (.t 14)], none, none, []⟩, ⟨(some 16), .bin .sub (.t 11) (.t 15), none, none, []⟩, ⟨(some 17), .mv (.t 0), none, none, []⟩, ⟨(some 18), .mv (.t 1), none, none, []⟩, ⟨(some 19), .mv (.t 2), none, none, []⟩, ⟨(some 20), .mnmx true [(.t 17), (.t 18), (.t 19)], none, none, []⟩, ⟨(some 21), .bin .sub (.t 16) (.t 20), none, none, []⟩, ⟨(some 6), .mv (.t 21), none, none, []⟩])
  .ret))⟩
/-- pochoir/atlas.numbers -/
def s93 : SFn :=
 ⟨55, [.tmp 2],
  (.seq (.reg [⟨(some 1), .box 33 (.t 0), none, none, []⟩, ⟨(some 2), .mv (.v (.bool false)), none, none, []⟩])
  (.seq (.reg [⟨(some 3), .faddr 0 (.t 1), none, none, []⟩, ⟨(some 4), .load none (.t 3), none, none, []⟩, ⟨(some 5), .call 109 [(.t 4), (.v (.int .i64 16)), (.v (.int .i64 16384))], none, none, []⟩, ⟨(some 6), .mv (.t 5), none, none, []⟩, ⟨(some 7), .faddr 1 (.t 1), (some (6, true)), none, []⟩, ⟨(some 8), .load none (.t 7), (some (6, true)), none, []⟩, ⟨(some 9), .call 109 [(.t 8), (.v (.int .i64 1)), (.v (.int .i64 128))], (some (6, true)), none, []⟩, ⟨(some 10), .pick (.t 6) (.t 9) (.v (.bool false)), none, none, []⟩, ⟨(some 11), .mv (.t 10), none, none, []⟩, ⟨(some 12), .faddr 2 (.t 1), (some (11, true)), none, []⟩, ⟨(some 13), .load none (.t 12), (some (11, true)), none, []⟩, ⟨(some 14), .call 109 [(.t 13), (.v (.int .i64 1)), (.v (.int .i64 16))], (some (11, true)), none, []⟩, ⟨(some 15), .pick (.t 11) (.t 14) (.v (.bool false)), none, none, []⟩, ⟨(some 16), .mv (.t 15), none, none, []⟩, ⟨(some 17), .faddr 3 (.t 1), (some (16, true)), none, []⟩, ⟨(some 18), .load none (.t 17), (some (16, true)), none, []⟩, ⟨(some 19), .call 110 [(.t 18)], (some (16, true)), none, []⟩, ⟨(some 20), .pick (.t 16) (.t 19) (.v (.bool false)), none, none, []⟩, ⟨(some 21), .mv (.t 20), none, none, []⟩, ⟨(some 22), .faddr 4 (.t 1), (some (21, true)), none, []⟩, ⟨(some 23), .load none (.t 22), (some (21, true)), none, []⟩, ⟨(some 24), .call 110 [(.t 23)], (some (21, true)), none, []⟩, ⟨(some 25), .pick (.t 21) (.t 24) (.v (.bool false)), none, none, []⟩, ⟨(some 26), .mv (.t 25), none, none, []⟩, ⟨(some 27), .faddr 5 (.t 1), (some (26, true)), none, []⟩, ⟨(some 28), .load none (.t 27), (some (26, true)), none, []⟩, ⟨(some 29), .call 110 [(.t 28)], (some (26, true)), none, []⟩, ⟨(some 30), .pick (.t 26) (.t 29) (.v (.bool false)), none, none, []⟩, ⟨(some 31), .mv (.t 30), none, none, []⟩, ⟨(some 32), .faddr 6 (.t 1), (some (31, true)), none, []⟩, ⟨(some 33), .faddr 0 (.t 32), (some (31, true)), none, []⟩, ⟨(some 34), .load none (.t 33), (some (31, true)), none, []⟩, ⟨(some 35), .call 109 [(.t 34), (.v (.int .i64 1)), (.v (.int .i64 1024))], (some (31, true)), none, []⟩, ⟨(some 36), .pick (.t 31) (.t 35) (.v (.bool false)), none, none, []⟩, ⟨(some 37), .mv (.t 36), none, none, []⟩, ⟨(some 38), .faddr 6 (.t 1), (some (37, true)), none, []⟩, ⟨(some 39), .faddr 1 (.t 38), (some (37, true)), none, []⟩, ⟨(some 40), .load none (.t 39), (some (37, true)), none, []⟩, ⟨(some 41), .call 109 [(.t 40), (.v (.int .i64 1)), (.v (.int .i64 1024))], (some (37, true)), none, []⟩, ⟨(some 42), .pick (.t 37) (.t 41) (.v (.bool false)), none, none, []⟩, ⟨(some 43), .mv (.t 42), none, none, []⟩, ⟨(some 44), .faddr 10 (.t 1), (some (43, true)), none, []⟩, ⟨(some 45), .load none (.t 44), (some (43, true)), none, []⟩, ⟨(some 46), .len false (.t 45), (some (43, true)), none, []⟩, ⟨(some 47), .bin .leq (.t 46) (.v (.int .i64 16)), (some (43, true)), none, []⟩, ⟨(some 48), .pick (.t 43) (.t 47) (.v (.bool false)), none, none, []⟩, ⟨(some 49), .mv (.t 48), none, none, []⟩, ⟨(some 50), .faddr 8 (.t 1), (some (49, true)), none, []⟩, ⟨(some 51), .load none (.t 50), (some (49, true)), none, []⟩, ⟨(some 52), .len false (.t 51), (some (49, true)), none, []⟩, ⟨(some 53), .call 109 [(.t 52), (.v (.int .i64 1)), (.v (.int .i64 1024))], (some (49, true)), none, []⟩, ⟨(some 54), .pick (.t 49) (.t 53) (.v (.bool false)), none, none, []⟩, ⟨(some 2), .mv (.t 54), none, none, []⟩])
  .ret))⟩
/-- pochoir/atlas.entry -/
def s94 : SFn :=
 ⟨57, [.tmp 6],
  (.seq (.reg [⟨(some 3), .box 77 (.t 0), none, none, []⟩, ⟨(some 4), .box 28 (.t 1), none, none, []⟩, ⟨(some 6), .mv (.v (.bool false)), none, none, []⟩])
  (.seq (.block 0 (.seq (.reg [⟨(some 8), .faddr 0 (.t 3), none, none, []⟩, ⟨(some 9), .load none (.t 8), none, none, []⟩, ⟨(some 10), .call 109 [(.t 9), (.v (.int .i64 0)), (.v (.int .i64 65535))], none, none, []⟩, ⟨(some 11), .un .not (.t 10), none, none, []⟩, ⟨(some 12), .mv (.t 11), none, none, []⟩, ⟨(some 13), .faddr 1 (.t 3), (some (12, false)), none, []⟩, ⟨(some 14), .load (some 4) (.t 13), (some (12, false)), none, []⟩, ⟨(some 15), .call 111 [(.t 14)], (some (12, false)), none, []⟩, ⟨(some 16), .un .not (.t 15), (some (12, false)), none, []⟩, ⟨(some 17), .pick (.t 12) (.v (.bool true)) (.t 16), none, none, []⟩, ⟨(some 7), .mv (.t 17), none, none, []⟩])
  (.cond (.t 7) (.seq (.reg [⟨(some 6), .mv (.v (.bool false)), none, none, []⟩])
  .ret) (.seq (.reg [⟨(some 19), .faddr 1 (.t 3), none, none, []⟩, ⟨(some 20), .load (some 4) (.t 19), none, none, []⟩, ⟨(some 21), .build [(.int .i64 0), (.int .i64 0), (.int .i64 0), (.int .i64 0)] [], none, none, []⟩, ⟨(some 22), .eqs 4 [1, 1, 1, 1] false (.t 20) (.t 21), none, none, []⟩, ⟨(some 18), .mv (.t 22), none, none, []⟩])
  (.cond (.t 18) (.seq (.reg [⟨(some 23), .faddr 5 (.t 3), none, none, []⟩, ⟨(some 24), .load (some 3) (.t 23), none, none, []⟩, ⟨(some 25), .build [(.int .i64 0), (.int .i64 0), (.int .i64 0)] [], none, none, []⟩, ⟨(some 26), .eqs 4 [1, 1, 1] false (.t 24) (.t 25), none, none, []⟩, ⟨(some 6), .mv (.t 26), none, none, []⟩])
  .ret) .skip)))))
  (.seq (.reg [⟨(some 27), .faddr 5 (.t 3), none, none, []⟩, ⟨(some 28), .faddr 0 (.t 27), none, none, []⟩, ⟨(some 29), .load none (.t 28), none, none, []⟩, ⟨(some 30), .mv (.t 2), none, none, []⟩, ⟨(some 31), .bin .sub (.t 30) (.v (.int .i64 1)), none, none, []⟩, ⟨(some 32), .call 109 [(.t 29), (.v (.int .i64 0)), (.t 31)], none, none, []⟩, ⟨(some 33), .mv (.t 32), none, none, []⟩, ⟨(some 34), .faddr 5 (.t 3), (some (33, true)), none, []⟩, ⟨(some 35), .faddr 1 (.t 34), (some (33, true)), none, []⟩, ⟨(some 36), .load none (.t 35), (some (33, true)), none, []⟩, ⟨(some 37), .faddr 0 (.t 4), (some (33, true)), none, []⟩, ⟨(some 38), .load none (.t 37), (some (33, true)), none, []⟩, ⟨(some 39), .faddr 1 (.t 3), (some (33, true)), none, []⟩, ⟨(some 40), .faddr 2 (.t 39), (some (33, true)), none, []⟩, ⟨(some 41), .load none (.t 40), (some (33, true)), none, []⟩, ⟨(some 42), .bin .sub (.t 38) (.t 41), (some (33, true)), none, []⟩, ⟨(some 43), .call 109 [(.t 36), (.v (.int .i64 0)), (.t 42)], (some (33, true)), none, []⟩, ⟨(some 44), .pick (.t 33) (.t 43) (.v (.bool false)), none, none, []⟩, ⟨(some 45), .mv (.t 44), none, none, []⟩, ⟨(some 46), .faddr 5 (.t 3), (some (45, true)), none, []⟩, ⟨(some 47), .faddr 2 (.t 46), (some (45, true)), none, []⟩, ⟨(some 48), .load none (.t 47), (some (45, true)), none, []⟩, ⟨(some 49), .faddr 1 (.t 4), (some (45, true)), none, []⟩, ⟨(some 50), .load none (.t 49), (some (45, true)), none, []⟩, ⟨(some 51), .faddr 1 (.t 3), (some (45, true)), none, []⟩, ⟨(some 52), .faddr 3 (.t 51), (some (45, true)), none, []⟩, ⟨(some 53), .load none (.t 52), (some (45, true)), none, []⟩, ⟨(some 54), .bin .sub (.t 50) (.t 53), (some (45, true)), none, []⟩, ⟨(some 55), .call 109 [(.t 48), (.v (.int .i64 0)), (.t 54)], (some (45, true)), none, []⟩, ⟨(some 56), .pick (.t 45) (.t 55) (.v (.bool false)), none, none, []⟩, ⟨(some 6), .mv (.t 56), none, none, []⟩])
  .ret)))⟩
/-- pochoir/cmap.May -/
def s95 : SFn :=
 ⟨48, [.tmp 4],
  (.seq (.reg [⟨(some 4), .mv (.v (.bool false)), none, none, []⟩])
  (.seq (.seq (.reg [⟨(some 8), .mv (.t 1), none, none, []⟩, ⟨(some 9), .bin .lss (.t 8) (.v (.int .i64 1)), none, none, []⟩, ⟨(some 10), .mv (.t 9), none, none, []⟩, ⟨(some 11), .mv (.t 1), (some (10, false)), none, []⟩, ⟨(some 12), .bin .gtr (.t 11) (.v (.int .i64 1024)), (some (10, false)), none, []⟩, ⟨(some 13), .pick (.t 10) (.v (.bool true)) (.t 12), none, none, []⟩, ⟨(some 14), .mv (.t 13), none, none, []⟩, ⟨(some 15), .mv (.t 0), (some (14, false)), none, []⟩, ⟨(some 16), .len false (.t 15), (some (14, false)), none, []⟩, ⟨(some 17), .bin .gtr (.t 16) (.v (.int .i64 4096)), (some (14, false)), none, []⟩, ⟨(some 18), .pick (.t 14) (.v (.bool true)) (.t 17), none, none, []⟩])
  (.cond (.t 18) (.seq (.reg [⟨(some 4), .mv (.v (.bool false)), none, none, []⟩])
  .ret) .skip))
  (.seq (.reg [⟨(some 5), .mv (.v (.int .i64 (-1))), none, none, []⟩])
  (.seq (.seq (.reg [⟨(some 19), .mv (.t 0), none, none, []⟩, ⟨(some 20), .len false (.t 19), none, none, []⟩, ⟨(some 21), .mv (.v (.int .i64 0)), none, none, []⟩])
  (.block 0 (.loop (.seq (.reg [⟨(some 22), .bin .lss (.t 21) (.t 20), none, none, []⟩])
  (.seq (.cond (.t 22) .skip (.exit 0))
  (.seq (.block 1 (.seq (.reg [⟨(some 23), .iaddr 2 (.t 19) (.t 21), none, none, []⟩, ⟨(some 24), .load (some 2) (.t 23), none, none, []⟩, ⟨(some 7), .box 79 (.v (.agg [(.int .i64 0), (.int .i64 0)])), none, none, []⟩, ⟨none, .store 2 (.t 7) (.t 24), none, none, []⟩])
  (.seq (.seq (.reg [⟨(some 25), .faddr 0 (.t 7), none, none, []⟩, ⟨(some 26), .load none (.t 25), none, none, []⟩, ⟨(some 27), .mv (.t 5), none, none, []⟩, ⟨(some 28), .bin .leq (.t 26) (.t 27), none, none, []⟩, ⟨(some 29), .mv (.t 28), none, none, []⟩, ⟨(some 30), .faddr 0 (.t 7), (some (29, false)), none, []⟩, ⟨(some 31), .load none (.t 30), (some (29, false)), none, []⟩, ⟨(some 32), .bin .gtr (.t 31) (.v (.int .i64 1114111)), (some (29, false)), none, []⟩, ⟨(some 33), .pick (.t 29) (.v (.bool true)) (.t 32), none, none, []⟩, ⟨(some 34), .mv (.t 33), none, none, []⟩, ⟨(some 35), .faddr 1 (.t 7), (some (34, false)), none, []⟩, ⟨(some 36), .load none (.t 35), (some (34, false)), none, []⟩, ⟨(some 37), .bin .lss (.t 36) (.v (.int .i64 1)), (some (34, false)), none, []⟩, ⟨(some 38), .pick (.t 34) (.v (.bool true)) (.t 37), none, none, []⟩, ⟨(some 39), .mv (.t 38), none, none, []⟩, ⟨(some 40), .faddr 1 (.t 7), (some (39, false)), none, []⟩, ⟨(some 41), .load none (.t 40), (some (39, false)), none, []⟩, ⟨(some 42), .mv (.t 1), (some (39, false)), none, []⟩, ⟨(some 43), .bin .geq (.t 41) (.t 42), (some (39, false)), none, []⟩, ⟨(some 44), .pick (.t 39) (.v (.bool true)) (.t 43), none, none, []⟩])
  (.cond (.t 44) (.seq (.reg [⟨(some 4), .mv (.v (.bool false)), none, none, []⟩])
  .ret) .skip))
  (.reg [⟨(some 45), .faddr 0 (.t 7), none, none, []⟩, ⟨(some 46), .load none (.t 45), none, none, []⟩, ⟨(some 5), .mv (.t 46), none, none, []⟩]))))
  (.reg [⟨(some 47), .bin .add (.t 21) (.v (.int .i64 1)), none, none, []⟩, ⟨(some 21), .mv (.t 47), none, none, []⟩])))))))
  (.seq (.reg [⟨(some 4), .mv (.v (.bool true)), none, none, []⟩])
  .ret)))))⟩
/-- pochoir/ratio.lowest -/
def s103 : SFn :=
 ⟨56, [.cell 4 (some 2), .tmp 5],
  (.seq (.reg [⟨(some 2), .box 167 (.t 0), none, none, []⟩, ⟨(some 3), .box 167 (.t 1), none, none, []⟩, ⟨(some 4), .box 109 (.v (.agg [(.int .i64 0), (.int .i64 0)])), none, none, []⟩, ⟨(some 5), .mv (.v (.int .i64 0)), none, none, []⟩])
  (.seq (.reg [⟨(some 13), .faddr 1 (.t 2), none, none, []⟩, ⟨(some 14), .load (some 2) (.t 13), none, none, []⟩, ⟨(some 15), .faddr 1 (.t 3), none, none, []⟩, ⟨(some 16), .load (some 2) (.t 15), none, none, []⟩, ⟨(some 17), .call 117 [(.t 14), (.t 16)], none, none, []⟩, ⟨(some 6), .box 165 (.v (.agg [(.int .u64 0), (.int .u64 0)])), none, none, []⟩, ⟨none, .store 2 (.t 6) (.t 17), none, none, []⟩])
  (.seq (.regd [⟨(some 18), .faddr 1 (.t 2), none, (some []), []⟩, ⟨(some 19), .load (some 2) (.t 18), none, (some []), []⟩, ⟨(some 20), .load (some 2) (.t 6), none, (some []), []⟩, ⟨(some 21), .call 118 [(.t 19), (.t 20)], none, (some []), []⟩, ⟨(some 22), .faddr 1 (.t 3), none, (some [3]), []⟩, ⟨(some 23), .load (some 2) (.t 22), none, (some [3]), []⟩, ⟨(some 24), .load (some 2) (.t 6), none, (some [3]), []⟩, ⟨(some 25), .call 118 [(.t 23), (.t 24)], none, (some []), []⟩, ⟨(some 7), .box 165 (.v (.agg [(.int .u64 0), (.int .u64 0)])), none, (some [3, 7]), []⟩, ⟨(some 8), .box 165 (.v (.agg [(.int .u64 0), (.int .u64 0)])), none, (some [3, 7, 8]), []⟩, ⟨none, .store 2 (.t 7) (.t 21), none, none, []⟩, ⟨none, .store 2 (.t 8) (.t 25), none, none, []⟩])
  (.seq (.regd [⟨(some 27), .faddr 0 (.t 2), none, (some []), []⟩, ⟨(some 28), .load none (.t 27), none, (some []), []⟩, ⟨(some 29), .faddr 0 (.t 3), none, (some []), []⟩, ⟨(some 30), .load none (.t 29), none, (some []), []⟩, ⟨(some 31), .eqs 0 [] true (.t 28) (.t 30), none, (some []), []⟩, ⟨(some 32), .mv (.t 31), none, (some []), []⟩, ⟨(some 33), .load (some 2) (.t 7), (some (32, true)), (some []), []⟩, ⟨(some 34), .build [(.int .u64 0), (.int .u64 0)] [], (some (32, true)), (some []), []⟩, ⟨(some 35), .eqs 4 [1, 1] true (.t 33) (.t 34), (some (32, true)), (some []), []⟩, ⟨(some 36), .pick (.t 32) (.t 35) (.v (.bool false)), none, (some []), []⟩, ⟨(some 37), .load (some 2) (.t 7), none, (some []), []⟩, ⟨(some 38), .call 119 [(.t 36), (.t 37)], none, none, []⟩, ⟨(some 26), .mv (.t 38), none, (some []), []⟩, ⟨(some 39), .extract (.t 26) 0, none, (some []), []⟩, ⟨(some 40), .extract (.t 26) 1, none, (some []), []⟩, ⟨(some 9), .mv (.t 39), none, (some []), []⟩, ⟨(some 10), .mv (.t 40), none, (some []), []⟩])
  (.seq (.reg [⟨(some 42), .load (some 2) (.t 8), none, none, []⟩, ⟨(some 43), .call 119 [(.v (.bool false)), (.t 42)], none, none, []⟩, ⟨(some 41), .mv (.t 43), none, none, []⟩, ⟨(some 44), .extract (.t 41) 0, none, none, []⟩, ⟨(some 45), .extract (.t 41) 1, none, none, []⟩, ⟨(some 11), .mv (.t 44), none, none, []⟩, ⟨(some 12), .mv (.t 45), none, none, []⟩])
  (.seq (.seq (.reg [⟨(some 46), .mv (.t 10), none, none, []⟩, ⟨(some 47), .un .not (.t 46), none, none, []⟩, ⟨(some 48), .mv (.t 47), none, none, []⟩, ⟨(some 49), .mv (.t 12), (some (48, false)), none, []⟩, ⟨(some 50), .un .not (.t 49), (some (48, false)), none, []⟩, ⟨(some 51), .pick (.t 48) (.v (.bool true)) (.t 50), none, none, []⟩])
  (.cond (.t 51) (.seq (.reg [⟨(some 52), .build [(.int .i64 0), (.int .i64 0)] [], none, none, []⟩, ⟨none, .store 2 (.t 4) (.t 52), none, none, []⟩, ⟨(some 5), .mv (.v (.int .i64 2)), none, none, []⟩])
  .ret) .skip))
  (.seq (.reg [⟨(some 53), .mv (.t 9), none, none, []⟩, ⟨(some 54), .mv (.t 11), none, none, []⟩, ⟨(some 55), .build [(.int .i64 0), (.int .i64 0)] [(0, 1, (.t 53)), (1, 1, (.t 54))], none, none, []⟩, ⟨none, .store 2 (.t 4) (.t 55), none, none, []⟩, ⟨(some 5), .mv (.v (.int .i64 0)), none, none, []⟩])
  .ret)))))))⟩
/-- pochoir/ratio.times -/
def s104 : SFn :=
 ⟨16, [.cell 4 (some 3)],
  (.seq (.reg [⟨(some 4), .box 167 (.v (.agg [(.bool false), (.int .u64 0), (.int .u64 0)])), none, none, []⟩])
  (.seq (.reg [⟨(some 5), .mv (.t 0), none, none, []⟩, ⟨(some 6), .bin .lss (.t 5) (.v (.int .i64 0)), none, none, []⟩, ⟨(some 7), .mv (.t 1), none, none, []⟩, ⟨(some 8), .bin .lss (.t 7) (.v (.int .i64 0)), none, none, []⟩, ⟨(some 9), .eqs 0 [] true (.t 6) (.t 8), none, none, []⟩, ⟨(some 10), .mv (.t 0), none, none, []⟩, ⟨(some 11), .call 121 [(.t 10)], none, none, []⟩, ⟨(some 12), .mv (.t 1), none, none, []⟩, ⟨(some 13), .call 121 [(.t 12)], none, none, []⟩, ⟨(some 14), .call 120 [(.t 11), (.t 13)], none, none, []⟩, ⟨(some 15), .build [(.bool false), (.int .u64 0), (.int .u64 0)] [(0, 1, (.t 9)), (1, 2, (.t 14))], none, none, []⟩, ⟨none, .store 3 (.t 4) (.t 15), none, none, []⟩])
  .ret))⟩
/-- pochoir/sample.part -/
def s105 : SFn :=
 ⟨18, [.tmp 4, .tmp 5],
  (.seq (.reg [⟨(some 4), .mv (.v (.int .i64 0)), none, none, []⟩, ⟨(some 5), .mv (.v (.int .i64 0)), none, none, []⟩])
  (.seq (.reg [⟨(some 7), .mv (.t 0), none, none, []⟩, ⟨(some 8), .bin .quo (.t 7) (.v (.int .i64 256)), none, none, []⟩, ⟨(some 9), .mv (.t 1), none, none, []⟩, ⟨(some 10), .bin .sub (.t 9) (.v (.int .i64 2)), none, none, []⟩, ⟨(some 11), .mnmx true [(.t 10), (.v (.int .i64 0))], none, none, []⟩, ⟨(some 12), .mnmx false [(.t 8), (.t 11)], none, none, []⟩, ⟨(some 6), .mv (.t 12), none, none, []⟩])
  (.seq (.reg [⟨(some 13), .mv (.t 6), none, none, []⟩, ⟨(some 14), .mv (.t 0), none, none, []⟩, ⟨(some 15), .mv (.t 6), none, none, []⟩, ⟨(some 16), .bin .mul (.v (.int .i64 256)) (.t 15), none, none, []⟩, ⟨(some 17), .bin .sub (.t 14) (.t 16), none, none, []⟩, ⟨(some 4), .mv (.t 13), none, none, []⟩, ⟨(some 5), .mv (.t 17), none, none, []⟩])
  .ret)))⟩
/-- (pochoir/sample.sampler).row -/
def s106 : SFn :=
 ⟨27, [.cell 8 (some 4)],
  (.seq (.reg [⟨(some 4), .box 170 (.t 0), none, none, []⟩, ⟨(some 8), .box 122 (.v (.agg [(.int .i64 0), (.int .i64 0), (.int .i64 0), (.int .i64 0)])), none, none, []⟩])
  (.seq (.reg [⟨(some 10), .load (some 5) (.t 4), none, none, []⟩, ⟨(some 11), .mv (.t 1), none, none, []⟩, ⟨(some 12), .mv (.t 2), none, none, []⟩, ⟨(some 13), .call 122 [(.t 10), (.t 11), (.t 12)], none, none, []⟩, ⟨(some 9), .box 122 (.v (.agg [(.int .i64 0), (.int .i64 0), (.int .i64 0), (.int .i64 0)])), none, none, []⟩, ⟨none, .store 4 (.t 9) (.t 13), none, none, []⟩])
  (.seq (.seq (.reg [⟨(some 14), .mv (.t 3), none, none, []⟩, ⟨(some 15), .bin .eql (.t 14) (.v (.int .i64 0)), none, none, []⟩])
  (.cond (.t 15) (.seq (.reg [⟨(some 16), .load (some 4) (.t 9), none, none, []⟩, ⟨(some 17), .load (some 4) (.t 9), none, none, []⟩, ⟨(some 18), .call 107 [(.t 16), (.t 17), (.v (.int .i64 0))], none, none, []⟩, ⟨none, .store 4 (.t 8) (.t 18), none, none, []⟩])
  .ret) .skip))
  (.seq (.regd [⟨(some 19), .load (some 4) (.t 9), none, (some []), []⟩, ⟨(some 20), .load (some 5) (.t 4), none, (some []), []⟩, ⟨(some 21), .mv (.t 1), none, (some []), []⟩, ⟨(some 22), .bin .add (.t 21) (.v (.int .i64 1)), none, (some []), []⟩, ⟨(some 23), .mv (.t 2), none, (some []), []⟩, ⟨(some 24), .call 122 [(.t 20), (.t 22), (.t 23)], none, none, [(none, (.t 9))]⟩, ⟨(some 25), .mv (.t 3), none, (some [5]), []⟩, ⟨(some 26), .call 107 [(.t 19), (.t 24), (.t 25)], none, none, []⟩, ⟨none, .store 4 (.t 8) (.t 26), none, none, []⟩])
  .ret))))⟩
/-- pochoir/sample.mixed -/
def s107 : SFn :=
 ⟨27, [.cell 6 (some 4)],
  (.seq (.reg [⟨(some 3), .box 122 (.t 0), none, none, []⟩, ⟨(some 4), .box 122 (.t 1), none, none, []⟩, ⟨(some 6), .box 122 (.v (.agg [(.int .i64 0), (.int .i64 0), (.int .i64 0), (.int .i64 0)])), none, none, []⟩])
  (.seq (.seq (.reg [⟨(some 8), .mv (.v (.int .i64 0)), none, none, []⟩])
  (.block 0 (.loop (.seq (.reg [⟨(some 9), .bin .lss (.t 8) (.v (.int .i64 4)), none, none, []⟩])
  (.seq (.cond (.t 9) .skip (.exit 0))
  (.seq (.block 1 (.seq (.reg [⟨(some 10), .mv (.t 8), none, none, []⟩, ⟨(some 7), .mv (.t 10), none, none, []⟩])
  (.regd [⟨(some 11), .mv (.t 7), none, (some []), []⟩, ⟨(some 12), .mv (.t 7), none, (some []), []⟩, ⟨(some 13), .iarr 4 1 (.t 3) (.t 12), none, (some []), []⟩, ⟨(some 14), .load none (.t 13), none, (some []), []⟩, ⟨(some 15), .mv (.t 2), none, (some []), []⟩, ⟨(some 16), .bin .sub (.v (.int .i64 256)) (.t 15), none, (some []), []⟩, ⟨(some 17), .bin .mul (.t 14) (.t 16), none, (some []), []⟩, ⟨(some 18), .mv (.t 7), none, (some []), []⟩, ⟨(some 19), .iarr 4 1 (.t 4) (.t 18), none, (some []), []⟩, ⟨(some 20), .load none (.t 19), none, (some []), []⟩, ⟨(some 21), .mv (.t 2), none, (some []), []⟩, ⟨(some 22), .bin .mul (.t 20) (.t 21), none, (some []), []⟩, ⟨(some 23), .bin .add (.t 17) (.t 22), none, (some []), []⟩, ⟨(some 24), .iarr 4 1 (.t 3) (.t 11), none, (some []), []⟩, ⟨none, .store 1 (.t 24) (.t 23), none, none, []⟩])))
  (.reg [⟨(some 25), .bin .add (.t 8) (.v (.int .i64 1)), none, none, []⟩, ⟨(some 8), .mv (.t 25), none, none, []⟩])))))))
  (.seq (.reg [⟨(some 26), .load (some 4) (.t 3), none, none, []⟩, ⟨none, .store 4 (.t 6) (.t 26), none, none, []⟩])
  .ret)))⟩
/-- pochoir/ratio.May -/
def s108 : SFn :=
 ⟨19, [.tmp 2],
  (.seq (.reg [⟨(some 1), .box 109 (.t 0), none, none, []⟩, ⟨(some 2), .mv (.v (.bool false)), none, none, []⟩])
  (.seq (.regd [⟨(some 3), .faddr 1 (.t 1), none, (some []), []⟩, ⟨(some 4), .load none (.t 3), none, none, []⟩, ⟨(some 5), .bin .gtr (.t 4) (.v (.int .i64 0)), none, (some []), []⟩, ⟨(some 6), .mv (.t 5), none, (some []), []⟩, ⟨(some 7), .faddr 0 (.t 1), (some (6, true)), (some []), []⟩, ⟨(some 8), .load none (.t 7), (some (6, true)), (some []), []⟩, ⟨(some 9), .call 121 [(.t 8)], (some (6, true)), none, [(none, (.t 1))]⟩, ⟨(some 10), .call 123 [(.t 9)], (some (6, true)), none, [(none, (.t 1))]⟩, ⟨(some 11), .faddr 1 (.t 1), (some (6, true)), (some [6, 7]), []⟩, ⟨(some 12), .load none (.t 11), (some (6, true)), (some [6, 7]), []⟩, ⟨(some 13), .call 121 [(.t 12)], (some (6, true)), none, []⟩, ⟨(some 14), .call 123 [(.t 13)], (some (6, true)), none, []⟩, ⟨(some 15), .call 117 [(.t 10), (.t 14)], (some (6, true)), none, []⟩, ⟨(some 16), .build [(.int .u64 0), (.int .u64 0)] [(1, 1, (.v (.int .u64 1)))], (some (6, true)), (some [6, 7, 10, 11, 12]), []⟩, ⟨(some 17), .eqs 4 [1, 1] false (.t 15) (.t 16), (some (6, true)), (some []), []⟩, ⟨(some 18), .pick (.t 6) (.t 17) (.v (.bool false)), none, (some []), []⟩, ⟨(some 2), .mv (.t 18), none, (some []), []⟩])
  .ret))⟩
/-- pochoir/atlas.within -/
def s109 : SFn :=
 ⟨15, [.tmp 6],
  (.seq (.reg [⟨(some 6), .mv (.v (.bool false)), none, none, []⟩])
  (.seq (.reg [⟨(some 7), .mv (.t 0), none, none, []⟩, ⟨(some 8), .mv (.t 1), none, none, []⟩, ⟨(some 9), .bin .geq (.t 7) (.t 8), none, none, []⟩, ⟨(some 10), .mv (.t 9), none, none, []⟩, ⟨(some 11), .mv (.t 0), (some (10, true)), none, []⟩, ⟨(some 12), .mv (.t 2), (some (10, true)), none, []⟩, ⟨(some 13), .bin .leq (.t 11) (.t 12), (some (10, true)), none, []⟩, ⟨(some 14), .pick (.t 10) (.t 13) (.v (.bool false)), none, none, []⟩, ⟨(some 6), .mv (.t 14), none, none, []⟩])
  .ret))⟩
/-- pochoir/atlas.short -/
def s110 : SFn :=
 ⟨5, [.tmp 2],
  (.seq (.reg [⟨(some 2), .mv (.v (.bool false)), none, none, []⟩])
  (.seq (.reg [⟨(some 3), .mv (.t 0), none, none, []⟩, ⟨(some 4), .call 109 [(.t 3), (.v (.int .i64 (-32768))), (.v (.int .i64 32767))], none, none, []⟩, ⟨(some 2), .mv (.t 4), none, none, []⟩])
  .ret))⟩
/-- pochoir/cell.May -/
def s111 : SFn :=
 ⟨24, [.tmp 2],
  (.seq (.reg [⟨(some 1), .box 73 (.t 0), none, none, []⟩, ⟨(some 2), .mv (.v (.bool false)), none, none, []⟩])
  (.seq (.seq (.reg [⟨(some 3), .load (some 4) (.t 1), none, none, []⟩, ⟨(some 4), .build [(.int .i64 0), (.int .i64 0), (.int .i64 0), (.int .i64 0)] [], none, none, []⟩, ⟨(some 5), .eqs 4 [1, 1, 1, 1] false (.t 3) (.t 4), none, none, []⟩])
  (.cond (.t 5) (.seq (.reg [⟨(some 2), .mv (.v (.bool true)), none, none, []⟩])
  .ret) .skip))
  (.seq (.reg [⟨(some 6), .faddr 2 (.t 1), none, none, []⟩, ⟨(some 7), .load none (.t 6), none, none, []⟩, ⟨(some 8), .call 124 [(.t 7), (.v (.int .i64 1)), (.v (.int .i64 256))], none, none, []⟩, ⟨(some 9), .mv (.t 8), none, none, []⟩, ⟨(some 10), .faddr 3 (.t 1), (some (9, true)), none, []⟩, ⟨(some 11), .load none (.t 10), (some (9, true)), none, []⟩, ⟨(some 12), .call 124 [(.t 11), (.v (.int .i64 1)), (.v (.int .i64 256))], (some (9, true)), none, []⟩, ⟨(some 13), .pick (.t 9) (.t 12) (.v (.bool false)), none, none, []⟩, ⟨(some 14), .mv (.t 13), none, none, []⟩, ⟨(some 15), .faddr 0 (.t 1), (some (14, true)), none, []⟩, ⟨(some 16), .load none (.t 15), (some (14, true)), none, []⟩, ⟨(some 17), .call 124 [(.t 16), (.v (.int .i64 (-1048576))), (.v (.int .i64 1048576))], (some (14, true)), none, []⟩, ⟨(some 18), .pick (.t 14) (.t 17) (.v (.bool false)), none, none, []⟩, ⟨(some 19), .mv (.t 18), none, none, []⟩, ⟨(some 20), .faddr 1 (.t 1), (some (19, true)), none, []⟩, ⟨(some 21), .load none (.t 20), (some (19, true)), none, []⟩, ⟨(some 22), .call 124 [(.t 21), (.v (.int .i64 (-1048576))), (.v (.int .i64 1048576))], (some (19, true)), none, []⟩, ⟨(some 23), .pick (.t 19) (.t 22) (.v (.bool false)), none, none, []⟩, ⟨(some 2), .mv (.t 23), none, none, []⟩])
  .ret)))⟩
/-- pochoir/ratio.common -/
def s117 : SFn :=
 ⟨57, [.cell 4 (some 2)],
  (.seq (.reg [⟨(some 2), .box 165 (.t 0), none, none, []⟩, ⟨(some 3), .box 165 (.t 1), none, none, []⟩, ⟨(some 4), .box 165 (.v (.agg [(.int .u64 0), (.int .u64 0)])), none, none, []⟩])
  (.seq (.seq (.reg [⟨(some 6), .load (some 2) (.t 2), none, none, []⟩, ⟨(some 7), .build [(.int .u64 0), (.int .u64 0)] [], none, none, []⟩, ⟨(some 8), .eqs 4 [1, 1] false (.t 6) (.t 7), none, none, []⟩])
  (.cond (.t 8) (.seq (.reg [⟨(some 9), .load (some 2) (.t 3), none, none, []⟩, ⟨none, .store 2 (.t 4) (.t 9), none, none, []⟩])
  .ret) .skip))
  (.seq (.seq (.reg [⟨(some 10), .load (some 2) (.t 3), none, none, []⟩, ⟨(some 11), .build [(.int .u64 0), (.int .u64 0)] [], none, none, []⟩, ⟨(some 12), .eqs 4 [1, 1] false (.t 10) (.t 11), none, none, []⟩])
  (.cond (.t 12) (.seq (.reg [⟨(some 13), .load (some 2) (.t 2), none, none, []⟩, ⟨none, .store 2 (.t 4) (.t 13), none, none, []⟩])
  .ret) .skip))
  (.seq (.regd [⟨(some 14), .load (some 2) (.t 2), none, (some []), []⟩, ⟨(some 15), .call 126 [(.t 14)], none, none, [(none, (.t 3))]⟩, ⟨(some 16), .load (some 2) (.t 3), none, (some [1]), []⟩, ⟨(some 17), .call 126 [(.t 16)], none, none, []⟩, ⟨(some 18), .mnmx false [(.t 15), (.t 17)], none, (some []), []⟩, ⟨(some 5), .mv (.t 18), none, (some []), []⟩])
  (.seq (.regd [⟨(some 20), .load (some 2) (.t 2), none, (some []), []⟩, ⟨(some 21), .load (some 2) (.t 2), none, (some []), []⟩, ⟨(some 22), .call 126 [(.t 21)], none, none, [(none, (.t 2))]⟩, ⟨(some 23), .un .neg (.t 22), none, (some []), []⟩, ⟨(some 24), .call 127 [(.t 20), (.t 23)], none, none, []⟩, ⟨(some 19), .mv (.t 24), none, (some []), []⟩, ⟨(some 25), .extract (.t 19) 0, none, (some []), []⟩, ⟨(some 26), .extract (.t 19) 1, none, (some []), []⟩, ⟨none, .store 2 (.t 2) (.t 25), none, none, []⟩])
  (.seq (.block 0 (.loop (.seq (.seq (.reg [⟨(some 27), .load (some 2) (.t 3), none, none, []⟩, ⟨(some 28), .build [(.int .u64 0), (.int .u64 0)] [], none, none, []⟩, ⟨(some 29), .eqs 4 [1, 1] true (.t 27) (.t 28), none, none, []⟩])
  (.cond (.t 29) .skip (.exit 0)))
  (.block 1 (.seq (.regd [⟨(some 31), .load (some 2) (.t 3), none, (some []), []⟩, ⟨(some 32), .load (some 2) (.t 3), none, (some []), []⟩, ⟨(some 33), .call 126 [(.t 32)], none, none, [(none, (.t 3))]⟩, ⟨(some 34), .un .neg (.t 33), none, (some []), []⟩, ⟨(some 35), .call 127 [(.t 31), (.t 34)], none, none, []⟩, ⟨(some 30), .mv (.t 35), none, (some []), []⟩, ⟨(some 36), .extract (.t 30) 0, none, (some []), []⟩, ⟨(some 37), .extract (.t 30) 1, none, (some []), []⟩, ⟨none, .store 2 (.t 3) (.t 36), none, none, []⟩])
  (.seq (.seq (.reg [⟨(some 38), .load (some 2) (.t 2), none, none, []⟩, ⟨(some 39), .load (some 2) (.t 3), none, none, []⟩, ⟨(some 40), .call 128 [(.t 38), (.t 39)], none, none, []⟩, ⟨(some 41), .bin .gtr (.t 40) (.v (.int .i64 0)), none, none, []⟩])
  (.cond (.t 41) (.reg [⟨(some 42), .load (some 2) (.t 3), none, none, []⟩, ⟨(some 43), .load (some 2) (.t 2), none, none, []⟩, ⟨none, .store 2 (.t 2) (.t 42), none, none, []⟩, ⟨none, .store 2 (.t 3) (.t 43), none, none, []⟩]) .skip))
  (.reg [⟨(some 45), .load (some 2) (.t 3), none, none, []⟩, ⟨(some 46), .load (some 2) (.t 2), none, none, []⟩, ⟨(some 47), .call 129 [(.t 45), (.t 46)], none, none, []⟩, ⟨(some 44), .mv (.t 47), none, none, []⟩, ⟨(some 48), .extract (.t 44) 0, none, none, []⟩, ⟨(some 49), .extract (.t 44) 1, none, none, []⟩, ⟨none, .store 2 (.t 3) (.t 48), none, none, []⟩])))))))
  (.seq (.reg [⟨(some 51), .load (some 2) (.t 2), none, none, []⟩, ⟨(some 52), .mv (.t 5), none, none, []⟩, ⟨(some 53), .call 127 [(.t 51), (.t 52)], none, none, []⟩, ⟨(some 50), .mv (.t 53), none, none, []⟩, ⟨(some 54), .extract (.t 50) 0, none, none, []⟩, ⟨(some 55), .extract (.t 50) 1, none, none, []⟩, ⟨none, .store 2 (.t 2) (.t 54), none, none, []⟩])
  (.seq (.reg [⟨(some 56), .load (some 2) (.t 2), none, none, []⟩, ⟨none, .store 2 (.t 4) (.t 56), none, none, []⟩])
  .ret))))))))⟩
/-- pochoir/ratio.part -/
def s118 : SFn :=
 ⟨55, [.cell 4 (some 2)],
  (.seq (.reg [⟨(some 2), .box 165 (.t 0), none, none, []⟩, ⟨(some 3), .box 165 (.t 1), none, none, []⟩, ⟨(some 4), .box 165 (.v (.agg [(.int .u64 0), (.int .u64 0)])), none, none, []⟩])
  (.seq (.seq (.reg [⟨(some 12), .faddr 0 (.t 3), none, none, []⟩, ⟨(some 13), .load none (.t 12), none, none, []⟩, ⟨(some 14), .bin .eql (.t 13) (.v (.int .u64 0)), none, none, []⟩])
  (.cond (.t 14) (.seq (.reg [⟨(some 16), .load (some 2) (.t 2), none, none, []⟩, ⟨(some 17), .faddr 1 (.t 3), none, none, []⟩, ⟨(some 18), .load none (.t 17), none, none, []⟩, ⟨(some 19), .call 130 [(.t 16), (.t 18)], none, none, []⟩, ⟨(some 15), .mv (.t 19), none, none, []⟩, ⟨(some 20), .extract (.t 15) 0, none, none, []⟩, ⟨(some 21), .extract (.t 15) 1, none, none, []⟩, ⟨(some 22), .extract (.t 15) 2, none, none, []⟩, ⟨(some 5), .box 165 (.v (.agg [(.int .u64 0), (.int .u64 0)])), none, none, []⟩, ⟨none, .store 2 (.t 5) (.t 20), none, none, []⟩, ⟨(some 6), .mv (.t 21), none, none, []⟩, ⟨(some 7), .mv (.t 22), none, none, []⟩])
  (.seq (.reg [⟨(some 23), .load (some 2) (.t 5), none, none, []⟩, ⟨none, .store 2 (.t 4) (.t 23), none, none, []⟩])
  .ret)) .skip))
  (.seq (.reg [⟨(some 8), .box 165 (.v (.agg [(.int .u64 0), (.int .u64 0)])), none, none, []⟩])
  (.seq (.seq (.reg [⟨(some 9), .mv (.v (.int .i64 63)), none, none, []⟩])
  (.block 0 (.loop (.seq (.seq (.reg [⟨(some 24), .mv (.t 9), none, none, []⟩, ⟨(some 25), .bin .geq (.t 24) (.v (.int .i64 0)), none, none, []⟩])
  (.cond (.t 25) .skip (.exit 0)))
  (.seq (.block 1 (.seq (.reg [⟨(some 29), .load (some 2) (.t 3), none, none, []⟩, ⟨(some 30), .mv (.t 9), none, none, []⟩, ⟨(some 31), .call 127 [(.t 29), (.t 30)], none, none, []⟩, ⟨(some 28), .mv (.t 31), none, none, []⟩, ⟨(some 32), .extract (.t 28) 0, none, none, []⟩, ⟨(some 33), .extract (.t 28) 1, none, none, []⟩, ⟨(some 10), .box 165 (.v (.agg [(.int .u64 0), (.int .u64 0)])), none, none, []⟩, ⟨none, .store 2 (.t 10) (.t 32), none, none, []⟩, ⟨(some 11), .mv (.t 33), none, none, []⟩])
  (.seq (.reg [⟨(some 34), .mv (.t 11), none, none, []⟩, ⟨(some 35), .bin .eql (.t 34) (.v (.int .i64 0)), none, none, []⟩, ⟨(some 36), .mv (.t 35), none, none, []⟩, ⟨(some 37), .load (some 2) (.t 2), (some (36, true)), none, []⟩, ⟨(some 38), .load (some 2) (.t 10), (some (36, true)), none, []⟩, ⟨(some 39), .call 128 [(.t 37), (.t 38)], (some (36, true)), none, []⟩, ⟨(some 40), .bin .geq (.t 39) (.v (.int .i64 0)), (some (36, true)), none, []⟩, ⟨(some 41), .pick (.t 36) (.t 40) (.v (.bool false)), none, none, []⟩])
  (.cond (.t 41) (.seq (.reg [⟨(some 43), .load (some 2) (.t 2), none, none, []⟩, ⟨(some 44), .load (some 2) (.t 10), none, none, []⟩, ⟨(some 45), .call 129 [(.t 43), (.t 44)], none, none, []⟩, ⟨(some 42), .mv (.t 45), none, none, []⟩, ⟨(some 46), .extract (.t 42) 0, none, none, []⟩, ⟨(some 47), .extract (.t 42) 1, none, none, []⟩, ⟨none, .store 2 (.t 2) (.t 46), none, none, []⟩])
  (.regd [⟨(some 48), .faddr 1 (.t 8), none, (some []), []⟩, ⟨(some 49), .load none (.t 48), none, none, []⟩, ⟨(some 50), .mv (.t 9), none, (some []), []⟩, ⟨(some 51), .bin .shl (.v (.int .u64 1)) (.t 50), none, (some []), []⟩, ⟨(some 52), .bin .or (.t 49) (.t 51), none, (some []), []⟩, ⟨(some 53), .faddr 1 (.t 8), none, (some []), []⟩, ⟨none, .store 1 (.t 53) (.t 52), none, none, []⟩])) .skip))))
  (.reg [⟨(some 26), .mv (.t 9), none, none, []⟩, ⟨(some 27), .bin .sub (.t 26) (.v (.int .i64 1)), none, none, []⟩, ⟨(some 9), .mv (.t 27), none, none, []⟩]))))))
  (.seq (.reg [⟨(some 54), .load (some 2) (.t 8), none, none, []⟩, ⟨none, .store 2 (.t 4) (.t 54), none, none, []⟩])
  .ret)))))⟩
/-- pochoir/ratio.fits -/
def s119 : SFn :=
 ⟨33, [.tmp 4, .tmp 5],
  (.seq (.reg [⟨(some 3), .box 165 (.t 1), none, none, []⟩, ⟨(some 4), .mv (.v (.int .i64 0)), none, none, []⟩, ⟨(some 5), .mv (.v (.bool false)), none, none, []⟩])
  (.seq (.block 0 (.seq (.reg [⟨(some 7), .faddr 0 (.t 3), none, none, []⟩, ⟨(some 8), .load none (.t 7), none, none, []⟩, ⟨(some 9), .bin .neq (.t 8) (.v (.int .u64 0)), none, none, []⟩, ⟨(some 10), .mv (.t 9), none, none, []⟩, ⟨(some 11), .faddr 1 (.t 3), (some (10, false)), none, []⟩, ⟨(some 12), .load none (.t 11), (some (10, false)), none, []⟩, ⟨(some 13), .bin .gtr (.t 12) (.v (.int .u64 9223372036854775808)), (some (10, false)), none, []⟩, ⟨(some 14), .pick (.t 10) (.v (.bool true)) (.t 13), none, none, []⟩, ⟨(some 15), .mv (.t 14), none, none, []⟩, ⟨(some 16), .faddr 1 (.t 3), (some (15, false)), none, []⟩, ⟨(some 17), .load none (.t 16), (some (15, false)), none, []⟩, ⟨(some 18), .bin .eql (.t 17) (.v (.int .u64 9223372036854775808)), (some (15, false)), none, []⟩, ⟨(some 19), .mv (.t 18), (some (15, false)), none, []⟩, ⟨(some 20), .mv (.t 0), (some (19, true)), none, []⟩, ⟨(some 21), .un .not (.t 20), (some (19, true)), none, []⟩, ⟨(some 22), .pick (.t 19) (.t 21) (.v (.bool false)), (some (15, false)), none, []⟩, ⟨(some 23), .pick (.t 15) (.v (.bool true)) (.t 22), none, none, []⟩, ⟨(some 6), .mv (.t 23), none, none, []⟩])
  (.cond (.t 6) (.seq (.reg [⟨(some 4), .mv (.v (.int .i64 0)), none, none, []⟩, ⟨(some 5), .mv (.v (.bool false)), none, none, []⟩])
  .ret) (.seq (.reg [⟨(some 25), .mv (.t 0), none, none, []⟩, ⟨(some 24), .mv (.t 25), none, none, []⟩])
  (.cond (.t 24) (.seq (.reg [⟨(some 26), .faddr 1 (.t 3), none, none, []⟩, ⟨(some 27), .load none (.t 26), none, none, []⟩, ⟨(some 28), .un .neg (.t 27), none, none, []⟩, ⟨(some 29), .conv .i64 (.t 28), none, none, []⟩, ⟨(some 4), .mv (.t 29), none, none, []⟩, ⟨(some 5), .mv (.v (.bool true)), none, none, []⟩])
  .ret) .skip)))))
  (.seq (.reg [⟨(some 30), .faddr 1 (.t 3), none, none, []⟩, ⟨(some 31), .load none (.t 30), none, none, []⟩, ⟨(some 32), .conv .i64 (.t 31), none, none, []⟩, ⟨(some 4), .mv (.t 32), none, none, []⟩, ⟨(some 5), .mv (.v (.bool true)), none, none, []⟩])
  .ret)))⟩
/-- pochoir/wide.Mul -/
def s120 : SFn :=
 ⟨16, [.cell 4 (some 2)],
  (.seq (.reg [⟨(some 4), .box 165 (.v (.agg [(.int .u64 0), (.int .u64 0)])), none, none, []⟩])
  (.seq (.reg [⟨(some 8), .mv (.t 0), none, none, []⟩, ⟨(some 9), .mv (.t 1), none, none, []⟩, ⟨(some 10), .call 131 [(.t 8), (.t 9)], none, none, []⟩, ⟨(some 7), .mv (.t 10), none, none, []⟩, ⟨(some 11), .extract (.t 7) 0, none, none, []⟩, ⟨(some 12), .extract (.t 7) 1, none, none, []⟩, ⟨(some 5), .mv (.t 11), none, none, []⟩, ⟨(some 6), .mv (.t 12), none, none, []⟩])
  (.seq (.reg [⟨(some 13), .mv (.t 5), none, none, []⟩, ⟨(some 14), .mv (.t 6), none, none, []⟩, ⟨(some 15), .build [(.int .u64 0), (.int .u64 0)] [(0, 1, (.t 13)), (1, 1, (.t 14))], none, none, []⟩, ⟨none, .store 2 (.t 4) (.t 15), none, none, []⟩])
  .ret)))⟩
/-- pochoir/ratio.size -/
def s121 : SFn :=
 ⟨10, [.tmp 2],
  (.seq (.reg [⟨(some 2), .mv (.v (.int .u64 0)), none, none, []⟩])
  (.seq (.seq (.reg [⟨(some 3), .mv (.t 0), none, none, []⟩, ⟨(some 4), .bin .lss (.t 3) (.v (.int .i64 0)), none, none, []⟩])
  (.cond (.t 4) (.seq (.reg [⟨(some 5), .mv (.t 0), none, none, []⟩, ⟨(some 6), .conv .u64 (.t 5), none, none, []⟩, ⟨(some 7), .un .neg (.t 6), none, none, []⟩, ⟨(some 2), .mv (.t 7), none, none, []⟩])
  .ret) .skip))
  (.seq (.reg [⟨(some 8), .mv (.t 0), none, none, []⟩, ⟨(some 9), .conv .u64 (.t 8), none, none, []⟩, ⟨(some 2), .mv (.t 9), none, none, []⟩])
  .ret)))⟩
/-- (pochoir/sample.sampler).texel -/
def s122 : SFn :=
 ⟨47, [.cell 6 (some 4)],
  (.seq (.reg [⟨(some 3), .box 170 (.t 0), none, none, []⟩, ⟨(some 6), .box 122 (.v (.agg [(.int .i64 0), (.int .i64 0), (.int .i64 0), (.int .i64 0)])), none, none, []⟩])
  (.seq (.reg [⟨(some 8), .faddr 2 (.t 3), none, none, []⟩, ⟨(some 9), .faddr 2 (.t 8), none, none, []⟩, ⟨(some 10), .load none (.t 9), none, none, []⟩, ⟨(some 11), .mv (.t 2), none, none, []⟩, ⟨(some 12), .bin .add (.t 10) (.t 11), none, none, []⟩, ⟨(some 13), .faddr 1 (.t 3), none, none, []⟩, ⟨(some 14), .load none (.t 13), none, none, []⟩, ⟨(some 15), .bin .mul (.t 12) (.t 14), none, none, []⟩, ⟨(some 16), .faddr 2 (.t 3), none, none, []⟩, ⟨(some 17), .faddr 1 (.t 16), none, none, []⟩, ⟨(some 18), .load none (.t 17), none, none, []⟩, ⟨(some 19), .bin .add (.t 15) (.t 18), none, none, []⟩, ⟨(some 20), .mv (.t 1), none, none, []⟩, ⟨(some 21), .bin .add (.t 19) (.t 20), none, none, []⟩, ⟨(some 22), .bin .mul (.v (.int .i64 4)) (.t 21), none, none, []⟩, ⟨(some 7), .mv (.t 22), none, none, []⟩])
  (.seq (.regd [⟨(some 23), .faddr 0 (.t 3), none, (some []), []⟩, ⟨(some 24), .load none (.t 23), none, (some []), []⟩, ⟨(some 25), .mv (.t 7), none, (some []), []⟩, ⟨(some 26), .ixs (.t 24) (.t 25), none, (some []), []⟩, ⟨(some 27), .conv .i64 (.t 26), none, (some []), []⟩, ⟨(some 28), .faddr 0 (.t 3), none, (some []), []⟩, ⟨(some 29), .load none (.t 28), none, (some []), []⟩, ⟨(some 30), .mv (.t 7), none, (some []), []⟩, ⟨(some 31), .bin .add (.t 30) (.v (.int .i64 1)), none, (some []), []⟩, ⟨(some 32), .ixs (.t 29) (.t 31), none, (some []), []⟩, ⟨(some 33), .conv .i64 (.t 32), none, (some []), []⟩, ⟨(some 34), .faddr 0 (.t 3), none, (some []), []⟩, ⟨(some 35), .load none (.t 34), none, (some []), []⟩, ⟨(some 36), .mv (.t 7), none, (some []), []⟩, ⟨(some 37), .bin .add (.t 36) (.v (.int .i64 2)), none, (some []), []⟩, ⟨(some 38), .ixs (.t 35) (.t 37), none, (some []), []⟩, ⟨(some 39), .conv .i64 (.t 38), none, (some []), []⟩, ⟨(some 40), .faddr 0 (.t 3), none, (some []), []⟩, ⟨(some 41), .load none (.t 40), none, (some []), []⟩, ⟨(some 42), .mv (.t 7), none, (some []), []⟩, ⟨(some 43), .bin .add (.t 42) (.v (.int .i64 3)), none, (some []), []⟩, ⟨(some 44), .ixs (.t 41) (.t 43), none, (some []), []⟩, ⟨(some 45), .conv .i64 (.t 44), none, (some []), []⟩, ⟨(some 46), .build [(.int .i64 0), (.int .i64 0), (.int .i64 0), (.int .i64 0)] [(0, 1, (.t 27)), (1, 1, (.t 33)), (2, 1, (.t 39)), (3, 1, (.t 45))], none, (some []), []⟩, ⟨none, .store 4 (.t 6) (.t 46), none, none, []⟩])
  .ret)))⟩
/-- pochoir/wide.Of -/
def s123 : SFn :=
 ⟨5, [.cell 2 (some 2)],
  (.seq (.reg [⟨(some 2), .box 165 (.v (.agg [(.int .u64 0), (.int .u64 0)])), none, none, []⟩])
  (.seq (.reg [⟨(some 3), .mv (.t 0), none, none, []⟩, ⟨(some 4), .build [(.int .u64 0), (.int .u64 0)] [(1, 1, (.t 3))], none, none, []⟩, ⟨none, .store 2 (.t 2) (.t 4), none, none, []⟩])
  .ret))⟩
/-- pochoir/cell.within -/
def s124 : SFn :=
 ⟨15, [.tmp 6],
  (.seq (.reg [⟨(some 6), .mv (.v (.bool false)), none, none, []⟩])
  (.seq (.reg [⟨(some 7), .mv (.t 0), none, none, []⟩, ⟨(some 8), .mv (.t 1), none, none, []⟩, ⟨(some 9), .bin .geq (.t 7) (.t 8), none, none, []⟩, ⟨(some 10), .mv (.t 9), none, none, []⟩, ⟨(some 11), .mv (.t 0), (some (10, true)), none, []⟩, ⟨(some 12), .mv (.t 2), (some (10, true)), none, []⟩, ⟨(some 13), .bin .leq (.t 11) (.t 12), (some (10, true)), none, []⟩, ⟨(some 14), .pick (.t 10) (.t 13) (.v (.bool false)), none, none, []⟩, ⟨(some 6), .mv (.t 14), none, none, []⟩])
  .ret))⟩
/-- pochoir/ratio.twos -/
def s126 : SFn :=
 ⟨13, [.tmp 2],
  (.seq (.reg [⟨(some 1), .box 165 (.t 0), none, none, []⟩, ⟨(some 2), .mv (.v (.int .i64 0)), none, none, []⟩])
  (.seq (.seq (.reg [⟨(some 3), .faddr 1 (.t 1), none, none, []⟩, ⟨(some 4), .load none (.t 3), none, none, []⟩, ⟨(some 5), .bin .neq (.t 4) (.v (.int .u64 0)), none, none, []⟩])
  (.cond (.t 5) (.seq (.reg [⟨(some 6), .faddr 1 (.t 1), none, none, []⟩, ⟨(some 7), .load none (.t 6), none, none, []⟩, ⟨(some 8), .call 132 [(.t 7)], none, none, []⟩, ⟨(some 2), .mv (.t 8), none, none, []⟩])
  .ret) .skip))
  (.seq (.reg [⟨(some 9), .faddr 0 (.t 1), none, none, []⟩, ⟨(some 10), .load none (.t 9), none, none, []⟩, ⟨(some 11), .call 132 [(.t 10)], none, none, []⟩, ⟨(some 12), .bin .add (.v (.int .i64 64)) (.t 11), none, none, []⟩, ⟨(some 2), .mv (.t 12), none, none, []⟩])
  .ret)))⟩
/-- pochoir/wide.Shift -/
def s127 : SFn :=
 ⟨34, [.cell 4 (some 2), .tmp 5],
  (.seq (.reg [⟨(some 2), .box 165 (.t 0), none, none, []⟩, ⟨(some 4), .box 165 (.v (.agg [(.int .u64 0), (.int .u64 0)])), none, none, []⟩, ⟨(some 5), .mv (.v (.int .i64 0)), none, none, []⟩])
  (.seq (.block 0 (.seq (.reg [⟨(some 7), .load (some 2) (.t 2), none, none, []⟩, ⟨(some 8), .build [(.int .u64 0), (.int .u64 0)] [], none, none, []⟩, ⟨(some 9), .eqs 4 [1, 1] false (.t 7) (.t 8), none, none, []⟩, ⟨(some 10), .mv (.t 9), none, none, []⟩, ⟨(some 11), .mv (.t 1), (some (10, false)), none, []⟩, ⟨(some 12), .bin .leq (.t 11) (.v (.int .i64 (-128))), (some (10, false)), none, []⟩, ⟨(some 13), .pick (.t 10) (.v (.bool true)) (.t 12), none, none, []⟩, ⟨(some 6), .mv (.t 13), none, none, []⟩])
  (.cond (.t 6) (.seq (.reg [⟨(some 14), .build [(.int .u64 0), (.int .u64 0)] [], none, none, []⟩, ⟨none, .store 2 (.t 4) (.t 14), none, none, []⟩, ⟨(some 5), .mv (.v (.int .i64 0)), none, none, []⟩])
  .ret) (.seq (.reg [⟨(some 16), .mv (.t 1), none, none, []⟩, ⟨(some 17), .bin .lss (.t 16) (.v (.int .i64 0)), none, none, []⟩, ⟨(some 15), .mv (.t 17), none, none, []⟩])
  (.cond (.t 15) (.seq (.reg [⟨(some 18), .load (some 2) (.t 2), none, none, []⟩, ⟨(some 19), .mv (.t 1), none, none, []⟩, ⟨(some 20), .un .neg (.t 19), none, none, []⟩, ⟨(some 21), .conv .u64 (.t 20), none, none, []⟩, ⟨(some 22), .call 133 [(.t 18), (.t 21)], none, none, []⟩, ⟨none, .store 2 (.t 4) (.t 22), none, none, []⟩, ⟨(some 5), .mv (.v (.int .i64 0)), none, none, []⟩])
  .ret) (.seq (.reg [⟨(some 24), .mv (.t 1), none, none, []⟩, ⟨(some 25), .load (some 2) (.t 2), none, none, []⟩, ⟨(some 26), .call 134 [(.t 25)], none, none, []⟩, ⟨(some 27), .bin .sub (.v (.int .i64 128)) (.t 26), none, none, []⟩, ⟨(some 28), .bin .gtr (.t 24) (.t 27), none, none, []⟩, ⟨(some 23), .mv (.t 28), none, none, []⟩])
  (.cond (.t 23) (.seq (.reg [⟨(some 29), .build [(.int .u64 0), (.int .u64 0)] [], none, none, []⟩, ⟨none, .store 2 (.t 4) (.t 29), none, none, []⟩, ⟨(some 5), .mv (.v (.int .i64 2)), none, none, []⟩])
  .ret) .skip)))))))
  (.seq (.reg [⟨(some 30), .load (some 2) (.t 2), none, none, []⟩, ⟨(some 31), .mv (.t 1), none, none, []⟩, ⟨(some 32), .conv .u64 (.t 31), none, none, []⟩, ⟨(some 33), .call 135 [(.t 30), (.t 32)], none, none, []⟩, ⟨none, .store 2 (.t 4) (.t 33), none, none, []⟩, ⟨(some 5), .mv (.v (.int .i64 0)), none, none, []⟩])
  .ret)))⟩
/-- pochoir/wide.Cmp -/
def s128 : SFn :=
 ⟨17, [.tmp 4],
  (.seq (.reg [⟨(some 2), .box 165 (.t 0), none, none, []⟩, ⟨(some 3), .box 165 (.t 1), none, none, []⟩, ⟨(some 4), .mv (.v (.int .i64 0)), none, none, []⟩])
  (.seq (.regd [⟨(some 5), .faddr 0 (.t 2), none, (some []), []⟩, ⟨(some 6), .load none (.t 5), none, (some []), []⟩, ⟨(some 7), .faddr 0 (.t 3), none, (some []), []⟩, ⟨(some 8), .load none (.t 7), none, (some []), []⟩, ⟨(some 9), .call 137 [(.t 6), (.t 8)], none, none, [(none, (.t 2)), (none, (.t 3))]⟩, ⟨(some 10), .faddr 1 (.t 2), none, (some [4]), []⟩, ⟨(some 11), .load none (.t 10), none, (some [4]), []⟩, ⟨(some 12), .faddr 1 (.t 3), none, (some [4]), []⟩, ⟨(some 13), .load none (.t 12), none, (some [4]), []⟩, ⟨(some 14), .call 137 [(.t 11), (.t 13)], none, none, []⟩, ⟨(some 15), .bsl 3 [(.int .i64 0), (.int .i64 0)] 2 1 [(0, 1, (.t 9)), (1, 1, (.t 14))], none, none, []⟩, ⟨(some 16), .call 136 [(.t 15)], none, none, []⟩, ⟨(some 4), .mv (.t 16), none, (some []), []⟩])
  .ret))⟩
/-- pochoir/wide.Sub -/
def s129 : SFn :=
 ⟨32, [.cell 4 (some 2), .tmp 5],
  (.seq (.reg [⟨(some 2), .box 165 (.t 0), none, none, []⟩, ⟨(some 3), .box 165 (.t 1), none, none, []⟩, ⟨(some 4), .box 165 (.v (.agg [(.int .u64 0), (.int .u64 0)])), none, none, []⟩, ⟨(some 5), .mv (.v (.int .i64 0)), none, none, []⟩])
  (.seq (.reg [⟨(some 10), .faddr 1 (.t 2), none, none, []⟩, ⟨(some 11), .load none (.t 10), none, none, []⟩, ⟨(some 12), .faddr 1 (.t 3), none, none, []⟩, ⟨(some 13), .load none (.t 12), none, none, []⟩, ⟨(some 14), .call 138 [(.t 11), (.t 13), (.v (.int .u64 0))], none, none, []⟩, ⟨(some 9), .mv (.t 14), none, none, []⟩, ⟨(some 15), .extract (.t 9) 0, none, none, []⟩, ⟨(some 16), .extract (.t 9) 1, none, none, []⟩, ⟨(some 6), .mv (.t 15), none, none, []⟩, ⟨(some 7), .mv (.t 16), none, none, []⟩])
  (.seq (.reg [⟨(some 18), .faddr 0 (.t 2), none, none, []⟩, ⟨(some 19), .load none (.t 18), none, none, []⟩, ⟨(some 20), .faddr 0 (.t 3), none, none, []⟩, ⟨(some 21), .load none (.t 20), none, none, []⟩, ⟨(some 22), .mv (.t 7), none, none, []⟩, ⟨(some 23), .call 138 [(.t 19), (.t 21), (.t 22)], none, none, []⟩, ⟨(some 17), .mv (.t 23), none, none, []⟩, ⟨(some 24), .extract (.t 17) 0, none, none, []⟩, ⟨(some 25), .extract (.t 17) 1, none, none, []⟩, ⟨(some 8), .mv (.t 24), none, none, []⟩, ⟨(some 7), .mv (.t 25), none, none, []⟩])
  (.seq (.seq (.reg [⟨(some 26), .mv (.t 7), none, none, []⟩, ⟨(some 27), .bin .neq (.t 26) (.v (.int .u64 0)), none, none, []⟩])
  (.cond (.t 27) (.seq (.reg [⟨(some 28), .build [(.int .u64 0), (.int .u64 0)] [], none, none, []⟩, ⟨none, .store 2 (.t 4) (.t 28), none, none, []⟩, ⟨(some 5), .mv (.v (.int .i64 2)), none, none, []⟩])
  .ret) .skip))
  (.seq (.reg [⟨(some 29), .mv (.t 8), none, none, []⟩, ⟨(some 30), .mv (.t 6), none, none, []⟩, ⟨(some 31), .build [(.int .u64 0), (.int .u64 0)] [(0, 1, (.t 29)), (1, 1, (.t 30))], none, none, []⟩, ⟨none, .store 2 (.t 4) (.t 31), none, none, []⟩, ⟨(some 5), .mv (.v (.int .i64 0)), none, none, []⟩])
  .ret)))))⟩
/-- pochoir/wide.Div -/
def s130 : SFn :=
 ⟨33, [.cell 4 (some 2), .tmp 5, .tmp 6],
  (.seq (.reg [⟨(some 2), .box 165 (.t 0), none, none, []⟩, ⟨(some 4), .box 165 (.v (.agg [(.int .u64 0), (.int .u64 0)])), none, none, []⟩, ⟨(some 5), .mv (.v (.int .u64 0)), none, none, []⟩, ⟨(some 6), .mv (.v (.int .i64 0)), none, none, []⟩])
  (.seq (.seq (.reg [⟨(some 10), .mv (.t 1), none, none, []⟩, ⟨(some 11), .bin .eql (.t 10) (.v (.int .u64 0)), none, none, []⟩])
  (.cond (.t 11) (.seq (.reg [⟨(some 12), .build [(.int .u64 0), (.int .u64 0)] [], none, none, []⟩, ⟨none, .store 2 (.t 4) (.t 12), none, none, []⟩, ⟨(some 5), .mv (.v (.int .u64 0)), none, none, []⟩, ⟨(some 6), .mv (.v (.int .i64 13)), none, none, []⟩])
  .ret) .skip))
  (.seq (.regd [⟨(some 13), .faddr 0 (.t 2), none, (some []), []⟩, ⟨(some 14), .load none (.t 13), none, (some []), []⟩, ⟨(some 15), .mv (.t 1), none, (some []), []⟩, ⟨(some 16), .bin .quo (.t 14) (.t 15), none, (some []), []⟩, ⟨(some 17), .faddr 0 (.t 2), none, (some []), []⟩, ⟨(some 18), .load none (.t 17), none, (some []), []⟩, ⟨(some 19), .mv (.t 1), none, (some []), []⟩, ⟨(some 20), .bin .rem (.t 18) (.t 19), none, (some []), []⟩, ⟨(some 7), .mv (.t 16), none, (some []), []⟩, ⟨(some 8), .mv (.t 20), none, (some []), []⟩])
  (.seq (.reg [⟨(some 22), .mv (.t 8), none, none, []⟩, ⟨(some 23), .faddr 1 (.t 2), none, none, []⟩, ⟨(some 24), .load none (.t 23), none, none, []⟩, ⟨(some 25), .mv (.t 1), none, none, []⟩, ⟨(some 26), .call 139 [(.t 22), (.t 24), (.t 25)], none, none, []⟩, ⟨(some 21), .mv (.t 26), none, none, []⟩, ⟨(some 27), .extract (.t 21) 0, none, none, []⟩, ⟨(some 28), .extract (.t 21) 1, none, none, []⟩, ⟨(some 9), .mv (.t 27), none, none, []⟩, ⟨(some 8), .mv (.t 28), none, none, []⟩])
  (.seq (.reg [⟨(some 29), .mv (.t 7), none, none, []⟩, ⟨(some 30), .mv (.t 9), none, none, []⟩, ⟨(some 31), .build [(.int .u64 0), (.int .u64 0)] [(0, 1, (.t 29)), (1, 1, (.t 30))], none, none, []⟩, ⟨(some 32), .mv (.t 8), none, none, []⟩, ⟨none, .store 2 (.t 4) (.t 31), none, none, []⟩, ⟨(some 5), .mv (.t 32), none, none, []⟩, ⟨(some 6), .mv (.v (.int .i64 0)), none, none, []⟩])
  .ret)))))⟩
/-- math/bits.Mul64 -/
def s131 : SFn :=
 ⟨51, [.tmp 4, .tmp 5],
  (.seq (.reg [⟨(some 4), .mv (.v (.int .u64 0)), none, none, []⟩, ⟨(some 5), .mv (.v (.int .u64 0)), none, none, []⟩])
  (.seq (.reg [⟨(some 14), .mv (.t 0), none, none, []⟩, ⟨(some 15), .bin .and (.t 14) (.v (.int .u64 4294967295)), none, none, []⟩, ⟨(some 6), .mv (.t 15), none, none, []⟩])
  (.seq (.reg [⟨(some 16), .mv (.t 0), none, none, []⟩, ⟨(some 17), .bin .shr (.t 16) (.v (.int .u64 32)), none, none, []⟩, ⟨(some 7), .mv (.t 17), none, none, []⟩])
  (.seq (.reg [⟨(some 18), .mv (.t 1), none, none, []⟩, ⟨(some 19), .bin .and (.t 18) (.v (.int .u64 4294967295)), none, none, []⟩, ⟨(some 8), .mv (.t 19), none, none, []⟩])
  (.seq (.reg [⟨(some 20), .mv (.t 1), none, none, []⟩, ⟨(some 21), .bin .shr (.t 20) (.v (.int .u64 32)), none, none, []⟩, ⟨(some 9), .mv (.t 21), none, none, []⟩])
  (.seq (.reg [⟨(some 22), .mv (.t 6), none, none, []⟩, ⟨(some 23), .mv (.t 8), none, none, []⟩, ⟨(some 24), .bin .mul (.t 22) (.t 23), none, none, []⟩, ⟨(some 10), .mv (.t 24), none, none, []⟩])
  (.seq (.reg [⟨(some 25), .mv (.t 7), none, none, []⟩, ⟨(some 26), .mv (.t 8), none, none, []⟩, ⟨(some 27), .bin .mul (.t 25) (.t 26), none, none, []⟩, ⟨(some 28), .mv (.t 10), none, none, []⟩, ⟨(some 29), .bin .shr (.t 28) (.v (.int .u64 32)), none, none, []⟩, ⟨(some 30), .bin .add (.t 27) (.t 29), none, none, []⟩, ⟨(some 11), .mv (.t 30), none, none, []⟩])
  (.seq (.reg [⟨(some 31), .mv (.t 11), none, none, []⟩, ⟨(some 32), .bin .and (.t 31) (.v (.int .u64 4294967295)), none, none, []⟩, ⟨(some 12), .mv (.t 32), none, none, []⟩])
  (.seq (.reg [⟨(some 33), .mv (.t 11), none, none, []⟩, ⟨(some 34), .bin .shr (.t 33) (.v (.int .u64 32)), none, none, []⟩, ⟨(some 13), .mv (.t 34), none, none, []⟩])
  (.seq (.reg [⟨(some 35), .mv (.t 12), none, none, []⟩, ⟨(some 36), .mv (.t 6), none, none, []⟩, ⟨(some 37), .mv (.t 9), none, none, []⟩, ⟨(some 38), .bin .mul (.t 36) (.t 37), none, none, []⟩, ⟨(some 39), .bin .add (.t 35) (.t 38), none, none, []⟩, ⟨(some 12), .mv (.t 39), none, none, []⟩])
  (.seq (.reg [⟨(some 40), .mv (.t 7), none, none, []⟩, ⟨(some 41), .mv (.t 9), none, none, []⟩, ⟨(some 42), .bin .mul (.t 40) (.t 41), none, none, []⟩, ⟨(some 43), .mv (.t 13), none, none, []⟩, ⟨(some 44), .bin .add (.t 42) (.t 43), none, none, []⟩, ⟨(some 45), .mv (.t 12), none, none, []⟩, ⟨(some 46), .bin .shr (.t 45) (.v (.int .u64 32)), none, none, []⟩, ⟨(some 47), .bin .add (.t 44) (.t 46), none, none, []⟩, ⟨(some 4), .mv (.t 47), none, none, []⟩])
  (.seq (.reg [⟨(some 48), .mv (.t 0), none, none, []⟩, ⟨(some 49), .mv (.t 1), none, none, []⟩, ⟨(some 50), .bin .mul (.t 48) (.t 49), none, none, []⟩, ⟨(some 5), .mv (.t 50), none, none, []⟩])
  .ret))))))))))))⟩
/-- math/bits.TrailingZeros64 -/
def s132 : SFn :=
 ⟨14, [.tmp 2],
  (.seq (.reg [⟨(some 2), .mv (.v (.int .i64 0)), none, none, []⟩])
  (.seq (.seq (.reg [⟨(some 3), .mv (.t 0), none, none, []⟩, ⟨(some 4), .bin .eql (.t 3) (.v (.int .u64 0)), none, none, []⟩])
  (.cond (.t 4) (.seq (.reg [⟨(some 2), .mv (.v (.int .i64 64)), none, none, []⟩])
  .ret) .skip))
  (.seq (.reg [⟨(some 5), .mv (.t 0), none, none, []⟩, ⟨(some 6), .mv (.t 0), none, none, []⟩, ⟨(some 7), .un .neg (.t 6), none, none, []⟩, ⟨(some 8), .bin .and (.t 5) (.t 7), none, none, []⟩, ⟨(some 9), .bin .mul (.t 8) (.v (.int .u64 285870213051353865)), none, none, []⟩, ⟨(some 10), .bin .shr (.t 9) (.v (.int .u64 58)), none, none, []⟩, ⟨(some 11), .iarr 64 1 (.v (.pv [(.int .u8 0), (.int .u8 1), (.int .u8 56), (.int .u8 2), (.int .u8 57), (.int .u8 49), (.int .u8 28), (.int .u8 3), (.int .u8 61), (.int .u8 58), (.int .u8 42), (.int .u8 50), (.int .u8 38), (.int .u8 29), (.int .u8 17), (.int .u8 4), (.int .u8 62), (.int .u8 47), (.int .u8 59), (.int .u8 36), (.int .u8 45), (.int .u8 43), (.int .u8 51), (.int .u8 22), (.int .u8 53), (.int .u8 39), (.int .u8 33), (.int .u8 30), (.int .u8 24), (.int .u8 18), (.int .u8 12), (.int .u8 5), (.int .u8 63), (.int .u8 55), (.int .u8 48), (.int .u8 27), (.int .u8 60), (.int .u8 41), (.int .u8 37), (.int .u8 16), (.int .u8 46), (.int .u8 35), (.int .u8 44), (.int .u8 21), (.int .u8 52), (.int .u8 32), (.int .u8 23), (.int .u8 11), (.int .u8 54), (.int .u8 26), (.int .u8 40), (.int .u8 15), (.int .u8 34), (.int .u8 20), (.int .u8 31), (.int .u8 10), (.int .u8 25), (.int .u8 14), (.int .u8 19), (.int .u8 9), (.int .u8 13), (.int .u8 8), (.int .u8 7), (.int .u8 6)])) (.t 10), none, none, []⟩, ⟨(some 12), .load none (.t 11), none, none, []⟩, ⟨(some 13), .conv .i64 (.t 12), none, none, []⟩, ⟨(some 2), .mv (.t 13), none, none, []⟩])
  .ret)))⟩
/-- pochoir/wide.right -/
def s133 : SFn :=
 ⟨28, [.cell 4 (some 2)],
  (.seq (.reg [⟨(some 2), .box 165 (.t 0), none, none, []⟩, ⟨(some 4), .box 165 (.v (.agg [(.int .u64 0), (.int .u64 0)])), none, none, []⟩])
  (.seq (.seq (.reg [⟨(some 5), .mv (.t 1), none, none, []⟩, ⟨(some 6), .bin .geq (.t 5) (.v (.int .u64 64)), none, none, []⟩])
  (.cond (.t 6) (.seq (.reg [⟨(some 7), .faddr 0 (.t 2), none, none, []⟩, ⟨(some 8), .load none (.t 7), none, none, []⟩, ⟨(some 9), .mv (.t 1), none, none, []⟩, ⟨(some 10), .bin .sub (.t 9) (.v (.int .u64 64)), none, none, []⟩, ⟨(some 11), .bin .shr (.t 8) (.t 10), none, none, []⟩, ⟨(some 12), .build [(.int .u64 0), (.int .u64 0)] [(1, 1, (.t 11))], none, none, []⟩, ⟨none, .store 2 (.t 4) (.t 12), none, none, []⟩])
  .ret) .skip))
  (.seq (.reg [⟨(some 13), .faddr 0 (.t 2), none, none, []⟩, ⟨(some 14), .load none (.t 13), none, none, []⟩, ⟨(some 15), .mv (.t 1), none, none, []⟩, ⟨(some 16), .bin .shr (.t 14) (.t 15), none, none, []⟩, ⟨(some 17), .faddr 1 (.t 2), none, none, []⟩, ⟨(some 18), .load none (.t 17), none, none, []⟩, ⟨(some 19), .mv (.t 1), none, none, []⟩, ⟨(some 20), .bin .shr (.t 18) (.t 19), none, none, []⟩, ⟨(some 21), .faddr 0 (.t 2), none, none, []⟩, ⟨(some 22), .load none (.t 21), none, none, []⟩, ⟨(some 23), .mv (.t 1), none, none, []⟩, ⟨(some 24), .bin .sub (.v (.int .u64 64)) (.t 23), none, none, []⟩, ⟨(some 25), .bin .shl (.t 22) (.t 24), none, none, []⟩, ⟨(some 26), .bin .or (.t 20) (.t 25), none, none, []⟩, ⟨(some 27), .build [(.int .u64 0), (.int .u64 0)] [(0, 1, (.t 16)), (1, 1, (.t 26))], none, none, []⟩, ⟨none, .store 2 (.t 4) (.t 27), none, none, []⟩])
  .ret)))⟩
/-- pochoir/wide.Bits -/
def s134 : SFn :=
 ⟨13, [.tmp 2],
  (.seq (.reg [⟨(some 1), .box 165 (.t 0), none, none, []⟩, ⟨(some 2), .mv (.v (.int .i64 0)), none, none, []⟩])
  (.seq (.seq (.reg [⟨(some 3), .faddr 0 (.t 1), none, none, []⟩, ⟨(some 4), .load none (.t 3), none, none, []⟩, ⟨(some 5), .bin .neq (.t 4) (.v (.int .u64 0)), none, none, []⟩])
  (.cond (.t 5) (.seq (.reg [⟨(some 6), .faddr 0 (.t 1), none, none, []⟩, ⟨(some 7), .load none (.t 6), none, none, []⟩, ⟨(some 8), .call 140 [(.t 7)], none, none, []⟩, ⟨(some 9), .bin .add (.v (.int .i64 64)) (.t 8), none, none, []⟩, ⟨(some 2), .mv (.t 9), none, none, []⟩])
  .ret) .skip))
  (.seq (.reg [⟨(some 10), .faddr 1 (.t 1), none, none, []⟩, ⟨(some 11), .load none (.t 10), none, none, []⟩, ⟨(some 12), .call 140 [(.t 11)], none, none, []⟩, ⟨(some 2), .mv (.t 12), none, none, []⟩])
  .ret)))⟩
/-- pochoir/wide.left -/
def s135 : SFn :=
 ⟨28, [.cell 4 (some 2)],
  (.seq (.reg [⟨(some 2), .box 165 (.t 0), none, none, []⟩, ⟨(some 4), .box 165 (.v (.agg [(.int .u64 0), (.int .u64 0)])), none, none, []⟩])
  (.seq (.seq (.reg [⟨(some 5), .mv (.t 1), none, none, []⟩, ⟨(some 6), .bin .geq (.t 5) (.v (.int .u64 64)), none, none, []⟩])
  (.cond (.t 6) (.seq (.reg [⟨(some 7), .faddr 1 (.t 2), none, none, []⟩, ⟨(some 8), .load none (.t 7), none, none, []⟩, ⟨(some 9), .mv (.t 1), none, none, []⟩, ⟨(some 10), .bin .sub (.t 9) (.v (.int .u64 64)), none, none, []⟩, ⟨(some 11), .bin .shl (.t 8) (.t 10), none, none, []⟩, ⟨(some 12), .build [(.int .u64 0), (.int .u64 0)] [(0, 1, (.t 11))], none, none, []⟩, ⟨none, .store 2 (.t 4) (.t 12), none, none, []⟩])
  .ret) .skip))
  (.seq (.reg [⟨(some 13), .faddr 0 (.t 2), none, none, []⟩, ⟨(some 14), .load none (.t 13), none, none, []⟩, ⟨(some 15), .mv (.t 1), none, none, []⟩, ⟨(some 16), .bin .shl (.t 14) (.t 15), none, none, []⟩, ⟨(some 17), .faddr 1 (.t 2), none, none, []⟩, ⟨(some 18), .load none (.t 17), none, none, []⟩, ⟨(some 19), .mv (.t 1), none, none, []⟩, ⟨(some 20), .bin .sub (.v (.int .u64 64)) (.t 19), none, none, []⟩, ⟨(some 21), .bin .shr (.t 18) (.t 20), none, none, []⟩, ⟨(some 22), .bin .or (.t 16) (.t 21), none, none, []⟩, ⟨(some 23), .faddr 1 (.t 2), none, none, []⟩, ⟨(some 24), .load none (.t 23), none, none, []⟩, ⟨(some 25), .mv (.t 1), none, none, []⟩, ⟨(some 26), .bin .shl (.t 24) (.t 25), none, none, []⟩, ⟨(some 27), .build [(.int .u64 0), (.int .u64 0)] [(0, 1, (.t 22)), (1, 1, (.t 26))], none, none, []⟩, ⟨none, .store 2 (.t 4) (.t 27), none, none, []⟩])
  .ret)))⟩
/-- cmp.Or[int] -/
def s136 : SFn :=
 ⟨18, [.tmp 2],
  (.seq (.reg [⟨(some 2), .mv (.v (.int .i64 0)), none, none, []⟩])
  (.seq (.reg [⟨(some 3), .mv (.v (.int .i64 0)), none, none, []⟩])
  (.seq (.seq (.reg [⟨(some 6), .mv (.t 0), none, none, []⟩, ⟨(some 7), .len false (.t 6), none, none, []⟩, ⟨(some 8), .mv (.v (.int .i64 0)), none, none, []⟩])
  (.block 0 (.loop (.seq (.reg [⟨(some 9), .bin .lss (.t 8) (.t 7), none, none, []⟩])
  (.seq (.cond (.t 9) .skip (.exit 0))
  (.seq (.block 1 (.seq (.reg [⟨(some 10), .iaddr 1 (.t 6) (.t 8), none, none, []⟩, ⟨(some 11), .load none (.t 10), none, none, []⟩, ⟨(some 5), .mv (.t 11), none, none, []⟩])
  (.seq (.reg [⟨(some 12), .mv (.t 5), none, none, []⟩, ⟨(some 13), .mv (.t 3), none, none, []⟩, ⟨(some 14), .bin .neq (.t 12) (.t 13), none, none, []⟩])
  (.cond (.t 14) (.seq (.reg [⟨(some 15), .mv (.t 5), none, none, []⟩, ⟨(some 2), .mv (.t 15), none, none, []⟩])
  .ret) .skip))))
  (.reg [⟨(some 16), .bin .add (.t 8) (.v (.int .i64 1)), none, none, []⟩, ⟨(some 8), .mv (.t 16), none, none, []⟩])))))))
  (.seq (.reg [⟨(some 17), .mv (.t 3), none, none, []⟩, ⟨(some 2), .mv (.t 17), none, none, []⟩])
  .ret))))⟩
/-- cmp.Compare[uint64] -/
def s137 : SFn :=
 ⟨20, [.tmp 4],
  (.seq (.reg [⟨(some 4), .mv (.v (.int .i64 0)), none, none, []⟩])
  (.seq (.reg [⟨(some 7), .mv (.t 0), none, none, []⟩, ⟨(some 8), .call 141 [(.t 7)], none, none, []⟩, ⟨(some 5), .mv (.t 8), none, none, []⟩])
  (.seq (.reg [⟨(some 9), .mv (.t 1), none, none, []⟩, ⟨(some 10), .call 141 [(.t 9)], none, none, []⟩, ⟨(some 6), .mv (.t 10), none, none, []⟩])
  (.seq (.seq (.reg [⟨(some 11), .mv (.t 5), none, none, []⟩])
  (.cond (.t 11) (.seq (.seq (.reg [⟨(some 12), .mv (.t 6), none, none, []⟩])
  (.cond (.t 12) (.seq (.reg [⟨(some 4), .mv (.v (.int .i64 0)), none, none, []⟩])
  .ret) .skip))
  (.seq (.reg [⟨(some 4), .mv (.v (.int .i64 (-1))), none, none, []⟩])
  .ret)) .skip))
  (.seq (.seq (.reg [⟨(some 13), .mv (.t 6), none, none, []⟩])
  (.cond (.t 13) (.seq (.reg [⟨(some 4), .mv (.v (.int .i64 1)), none, none, []⟩])
  .ret) .skip))
  (.seq (.seq (.reg [⟨(some 14), .mv (.t 0), none, none, []⟩, ⟨(some 15), .mv (.t 1), none, none, []⟩, ⟨(some 16), .bin .lss (.t 14) (.t 15), none, none, []⟩])
  (.cond (.t 16) (.seq (.reg [⟨(some 4), .mv (.v (.int .i64 (-1))), none, none, []⟩])
  .ret) .skip))
  (.seq (.seq (.reg [⟨(some 17), .mv (.t 0), none, none, []⟩, ⟨(some 18), .mv (.t 1), none, none, []⟩, ⟨(some 19), .bin .gtr (.t 17) (.t 18), none, none, []⟩])
  (.cond (.t 19) (.seq (.reg [⟨(some 4), .mv (.v (.int .i64 1)), none, none, []⟩])
  .ret) .skip))
  (.seq (.reg [⟨(some 4), .mv (.v (.int .i64 0)), none, none, []⟩])
  .ret))))))))⟩
/-- math/bits.Div64 -/
def s139 : SFn :=
 ⟨135, [.tmp 6, .tmp 7],
  (.seq (.reg [⟨(some 6), .mv (.v (.int .u64 0)), none, none, []⟩, ⟨(some 7), .mv (.v (.int .u64 0)), none, none, []⟩])
  (.seq (.seq (.reg [⟨(some 19), .mv (.t 2), none, none, []⟩, ⟨(some 20), .bin .eql (.t 19) (.v (.int .u64 0)), none, none, []⟩])
  (.cond (.t 20) (.reg [⟨(some 21), .bad, none, none, []⟩, ⟨none, .bad, none, none, []⟩]) .skip))
  (.seq (.seq (.reg [⟨(some 22), .mv (.t 2), none, none, []⟩, ⟨(some 23), .mv (.t 0), none, none, []⟩, ⟨(some 24), .bin .leq (.t 22) (.t 23), none, none, []⟩])
  (.cond (.t 24) (.reg [⟨(some 25), .bad, none, none, []⟩, ⟨none, .bad, none, none, []⟩]) .skip))
  (.seq (.seq (.reg [⟨(some 26), .mv (.t 0), none, none, []⟩, ⟨(some 27), .bin .eql (.t 26) (.v (.int .u64 0)), none, none, []⟩])
  (.cond (.t 27) (.seq (.regd [⟨(some 28), .mv (.t 1), none, (some []), []⟩, ⟨(some 29), .mv (.t 2), none, (some []), []⟩, ⟨(some 30), .bin .quo (.t 28) (.t 29), none, (some []), []⟩, ⟨(some 31), .mv (.t 1), none, (some []), []⟩, ⟨(some 32), .mv (.t 2), none, (some []), []⟩, ⟨(some 33), .bin .rem (.t 31) (.t 32), none, (some []), []⟩, ⟨(some 6), .mv (.t 30), none, (some []), []⟩, ⟨(some 7), .mv (.t 33), none, (some []), []⟩])
  .ret) .skip))
  (.seq (.reg [⟨(some 34), .mv (.t 2), none, none, []⟩, ⟨(some 35), .call 142 [(.t 34)], none, none, []⟩, ⟨(some 36), .conv .u64 (.t 35), none, none, []⟩, ⟨(some 8), .mv (.t 36), none, none, []⟩])
  (.seq (.reg [⟨(some 37), .mv (.t 2), none, none, []⟩, ⟨(some 38), .mv (.t 8), none, none, []⟩, ⟨(some 39), .bin .shl (.t 37) (.t 38), none, none, []⟩, ⟨(some 2), .mv (.t 39), none, none, []⟩])
  (.seq (.reg [⟨(some 40), .mv (.t 2), none, none, []⟩, ⟨(some 41), .bin .shr (.t 40) (.v (.int .u64 32)), none, none, []⟩, ⟨(some 9), .mv (.t 41), none, none, []⟩])
  (.seq (.reg [⟨(some 42), .mv (.t 2), none, none, []⟩, ⟨(some 43), .bin .and (.t 42) (.v (.int .u64 4294967295)), none, none, []⟩, ⟨(some 10), .mv (.t 43), none, none, []⟩])
  (.seq (.reg [⟨(some 44), .mv (.t 0), none, none, []⟩, ⟨(some 45), .mv (.t 8), none, none, []⟩, ⟨(some 46), .bin .shl (.t 44) (.t 45), none, none, []⟩, ⟨(some 47), .mv (.t 1), none, none, []⟩, ⟨(some 48), .mv (.t 8), none, none, []⟩, ⟨(some 49), .bin .sub (.v (.int .u64 64)) (.t 48), none, none, []⟩, ⟨(some 50), .bin .shr (.t 47) (.t 49), none, none, []⟩, ⟨(some 51), .bin .or (.t 46) (.t 50), none, none, []⟩, ⟨(some 11), .mv (.t 51), none, none, []⟩])
  (.seq (.reg [⟨(some 52), .mv (.t 1), none, none, []⟩, ⟨(some 53), .mv (.t 8), none, none, []⟩, ⟨(some 54), .bin .shl (.t 52) (.t 53), none, none, []⟩, ⟨(some 12), .mv (.t 54), none, none, []⟩])
  (.seq (.reg [⟨(some 55), .mv (.t 12), none, none, []⟩, ⟨(some 56), .bin .shr (.t 55) (.v (.int .u64 32)), none, none, []⟩, ⟨(some 13), .mv (.t 56), none, none, []⟩])
  (.seq (.reg [⟨(some 57), .mv (.t 12), none, none, []⟩, ⟨(some 58), .bin .and (.t 57) (.v (.int .u64 4294967295)), none, none, []⟩, ⟨(some 14), .mv (.t 58), none, none, []⟩])
  (.seq (.reg [⟨(some 59), .mv (.t 11), none, none, []⟩, ⟨(some 60), .mv (.t 9), none, none, []⟩, ⟨(some 61), .bin .quo (.t 59) (.t 60), none, none, []⟩, ⟨(some 15), .mv (.t 61), none, none, []⟩])
  (.seq (.reg [⟨(some 62), .mv (.t 11), none, none, []⟩, ⟨(some 63), .mv (.t 15), none, none, []⟩, ⟨(some 64), .mv (.t 9), none, none, []⟩, ⟨(some 65), .bin .mul (.t 63) (.t 64), none, none, []⟩, ⟨(some 66), .bin .sub (.t 62) (.t 65), none, none, []⟩, ⟨(some 16), .mv (.t 66), none, none, []⟩])
  (.seq (.block 0 (.loop (.seq (.seq (.reg [⟨(some 67), .mv (.t 15), none, none, []⟩, ⟨(some 68), .bin .geq (.t 67) (.v (.int .u64 4294967296)), none, none, []⟩, ⟨(some 69), .mv (.t 68), none, none, []⟩, ⟨(some 70), .mv (.t 15), (some (69, false)), none, []⟩, ⟨(some 71), .mv (.t 10), (some (69, false)), none, []⟩, ⟨(some 72), .bin .mul (.t 70) (.t 71), (some (69, false)), none, []⟩, ⟨(some 73), .mv (.t 16), (some (69, false)), none, []⟩, ⟨(some 74), .bin .mul (.v (.int .u64 4294967296)) (.t 73), (some (69, false)), none, []⟩, ⟨(some 75), .mv (.t 13), (some (69, false)), none, []⟩, ⟨(some 76), .bin .add (.t 74) (.t 75), (some (69, false)), none, []⟩, ⟨(some 77), .bin .gtr (.t 72) (.t 76), (some (69, false)), none, []⟩, ⟨(some 78), .pick (.t 69) (.v (.bool true)) (.t 77), none, none, []⟩])
  (.cond (.t 78) .skip (.exit 0)))
  (.block 1 (.seq (.reg [⟨(some 79), .mv (.t 15), none, none, []⟩, ⟨(some 80), .bin .sub (.t 79) (.v (.int .u64 1)), none, none, []⟩, ⟨(some 15), .mv (.t 80), none, none, []⟩])
  (.seq (.reg [⟨(some 81), .mv (.t 16), none, none, []⟩, ⟨(some 82), .mv (.t 9), none, none, []⟩, ⟨(some 83), .bin .add (.t 81) (.t 82), none, none, []⟩, ⟨(some 16), .mv (.t 83), none, none, []⟩])
  (.seq (.reg [⟨(some 84), .mv (.t 16), none, none, []⟩, ⟨(some 85), .bin .geq (.t 84) (.v (.int .u64 4294967296)), none, none, []⟩])
  (.cond (.t 85) (.exit 0) .skip))))))))
  (.seq (.reg [⟨(some 86), .mv (.t 11), none, none, []⟩, ⟨(some 87), .bin .mul (.t 86) (.v (.int .u64 4294967296)), none, none, []⟩, ⟨(some 88), .mv (.t 13), none, none, []⟩, ⟨(some 89), .bin .add (.t 87) (.t 88), none, none, []⟩, ⟨(some 90), .mv (.t 15), none, none, []⟩, ⟨(some 91), .mv (.t 2), none, none, []⟩, ⟨(some 92), .bin .mul (.t 90) (.t 91), none, none, []⟩, ⟨(some 93), .bin .sub (.t 89) (.t 92), none, none, []⟩, ⟨(some 17), .mv (.t 93), none, none, []⟩])
  (.seq (.reg [⟨(some 94), .mv (.t 17), none, none, []⟩, ⟨(some 95), .mv (.t 9), none, none, []⟩, ⟨(some 96), .bin .quo (.t 94) (.t 95), none, none, []⟩, ⟨(some 18), .mv (.t 96), none, none, []⟩])
  (.seq (.reg [⟨(some 97), .mv (.t 17), none, none, []⟩, ⟨(some 98), .mv (.t 18), none, none, []⟩, ⟨(some 99), .mv (.t 9), none, none, []⟩, ⟨(some 100), .bin .mul (.t 98) (.t 99), none, none, []⟩, ⟨(some 101), .bin .sub (.t 97) (.t 100), none, none, []⟩, ⟨(some 16), .mv (.t 101), none, none, []⟩])
  (.seq (.block 2 (.loop (.seq (.seq (.reg [⟨(some 102), .mv (.t 18), none, none, []⟩, ⟨(some 103), .bin .geq (.t 102) (.v (.int .u64 4294967296)), none, none, []⟩, ⟨(some 104), .mv (.t 103), none, none, []⟩, ⟨(some 105), .mv (.t 18), (some (104, false)), none, []⟩, ⟨(some 106), .mv (.t 10), (some (104, false)), none, []⟩, ⟨(some 107), .bin .mul (.t 105) (.t 106), (some (104, false)), none, []⟩, ⟨(some 108), .mv (.t 16), (some (104, false)), none, []⟩, ⟨(some 109), .bin .mul (.v (.int .u64 4294967296)) (.t 108), (some (104, false)), none, []⟩, ⟨(some 110), .mv (.t 14), (some (104, false)), none, []⟩, ⟨(some 111), .bin .add (.t 109) (.t 110), (some (104, false)), none, []⟩, ⟨(some 112), .bin .gtr (.t 107) (.t 111), (some (104, false)), none, []⟩, ⟨(some 113), .pick (.t 104) (.v (.bool true)) (.t 112), none, none, []⟩])
  (.cond (.t 113) .skip (.exit 2)))
  (.block 3 (.seq (.reg [⟨(some 114), .mv (.t 18), none, none, []⟩, ⟨(some 115), .bin .sub (.t 114) (.v (.int .u64 1)), none, none, []⟩, ⟨(some 18), .mv (.t 115), none, none, []⟩])
  (.seq (.reg [⟨(some 116), .mv (.t 16), none, none, []⟩, ⟨(some 117), .mv (.t 9), none, none, []⟩, ⟨(some 118), .bin .add (.t 116) (.t 117), none, none, []⟩, ⟨(some 16), .mv (.t 118), none, none, []⟩])
  (.seq (.reg [⟨(some 119), .mv (.t 16), none, none, []⟩, ⟨(some 120), .bin .geq (.t 119) (.v (.int .u64 4294967296)), none, none, []⟩])
  (.cond (.t 120) (.exit 2) .skip))))))))
  (.seq (.reg [⟨(some 121), .mv (.t 15), none, none, []⟩, ⟨(some 122), .bin .mul (.t 121) (.v (.int .u64 4294967296)), none, none, []⟩, ⟨(some 123), .mv (.t 18), none, none, []⟩, ⟨(some 124), .bin .add (.t 122) (.t 123), none, none, []⟩, ⟨(some 125), .mv (.t 17), none, none, []⟩, ⟨(some 126), .bin .mul (.t 125) (.v (.int .u64 4294967296)), none, none, []⟩, ⟨(some 127), .mv (.t 14), none, none, []⟩, ⟨(some 128), .bin .add (.t 126) (.t 127), none, none, []⟩, ⟨(some 129), .mv (.t 18), none, none, []⟩, ⟨(some 130), .mv (.t 2), none, none, []⟩, ⟨(some 131), .bin .mul (.t 129) (.t 130), none, none, []⟩, ⟨(some 132), .bin .sub (.t 128) (.t 131), none, none, []⟩, ⟨(some 133), .mv (.t 8), none, none, []⟩, ⟨(some 134), .bin .shr (.t 132) (.t 133), none, none, []⟩, ⟨(some 6), .mv (.t 124), none, none, []⟩, ⟨(some 7), .mv (.t 134), none, none, []⟩])
  .ret))))))))))))))))))))⟩
/-- math/bits.Len64 -/
def s140 : SFn :=
 ⟨25, [.tmp 2],
  (.seq (.reg [⟨(some 2), .mv (.v (.int .i64 0)), none, none, []⟩])
  (.seq (.seq (.reg [⟨(some 3), .mv (.t 0), none, none, []⟩, ⟨(some 4), .bin .geq (.t 3) (.v (.int .u64 4294967296)), none, none, []⟩])
  (.cond (.t 4) (.seq (.reg [⟨(some 5), .mv (.t 0), none, none, []⟩, ⟨(some 6), .bin .shr (.t 5) (.v (.int .u64 32)), none, none, []⟩, ⟨(some 0), .mv (.t 6), none, none, []⟩])
  (.reg [⟨(some 2), .mv (.v (.int .i64 32)), none, none, []⟩])) .skip))
  (.seq (.seq (.reg [⟨(some 7), .mv (.t 0), none, none, []⟩, ⟨(some 8), .bin .geq (.t 7) (.v (.int .u64 65536)), none, none, []⟩])
  (.cond (.t 8) (.seq (.reg [⟨(some 9), .mv (.t 0), none, none, []⟩, ⟨(some 10), .bin .shr (.t 9) (.v (.int .u64 16)), none, none, []⟩, ⟨(some 0), .mv (.t 10), none, none, []⟩])
  (.reg [⟨(some 11), .mv (.t 2), none, none, []⟩, ⟨(some 12), .bin .add (.t 11) (.v (.int .i64 16)), none, none, []⟩, ⟨(some 2), .mv (.t 12), none, none, []⟩])) .skip))
  (.seq (.seq (.reg [⟨(some 13), .mv (.t 0), none, none, []⟩, ⟨(some 14), .bin .geq (.t 13) (.v (.int .u64 256)), none, none, []⟩])
  (.cond (.t 14) (.seq (.reg [⟨(some 15), .mv (.t 0), none, none, []⟩, ⟨(some 16), .bin .shr (.t 15) (.v (.int .u64 8)), none, none, []⟩, ⟨(some 0), .mv (.t 16), none, none, []⟩])
  (.reg [⟨(some 17), .mv (.t 2), none, none, []⟩, ⟨(some 18), .bin .add (.t 17) (.v (.int .i64 8)), none, none, []⟩, ⟨(some 2), .mv (.t 18), none, none, []⟩])) .skip))
  (.seq (.reg [⟨(some 19), .mv (.t 2), none, none, []⟩, ⟨(some 20), .mv (.t 0), none, none, []⟩, ⟨(some 21), .conv .u8 (.t 20), none, none, []⟩, ⟨(some 22), .ixs (.v (.str ⟨#[0, 1, 2, 2, 3, 3, 3, 3, 4, 4, 4, 4, 4, 4, 4, 4, 5, 5, 5, 5, 5, 5, 5, 5, 5, 5, 5, 5, 5, 5, 5, 5, 6, 6, 6, 6, 6, 6, 6, 6, 6, 6, 6, 6, 6, 6, 6, 6, 6, 6, 6, 6, 6, 6, 6, 6, 6, 6, 6, 6, 6, 6, 6, 6, 7, 7, 7, 7, 7, 7, 7, 7, 7, 7, 7, 7, 7, 7, 7, 7, 7, 7, 7, 7, 7, 7, 7, 7, 7, 7, 7, 7, 7, 7, 7, 7, 7, 7, 7, 7, 7, 7, 7, 7, 7, 7, 7, 7, 7, 7, 7, 7, 7, 7, 7, 7, 7, 7, 7, 7, 7, 7, 7, 7, 7, 7, 7, 7, 8, 8, 8, 8, 8, 8, 8, 8, 8, 8, 8, 8, 8, 8, 8, 8, 8, 8, 8, 8, 8, 8, 8, 8, 8, 8, 8, 8, 8, 8, 8, 8, 8, 8, 8, 8, 8, 8, 8, 8, 8, 8, 8, 8, 8, 8, 8, 8, 8, 8, 8, 8, 8, 8, 8, 8, 8, 8, 8, 8, 8, 8, 8, 8, 8, 8, 8, 8, 8, 8, 8, 8, 8, 8, 8, 8, 8, 8, 8, 8, 8, 8, 8, 8, 8, 8, 8, 8, 8, 8, 8, 8, 8, 8, 8, 8, 8, 8, 8, 8, 8, 8, 8, 8, 8, 8, 8, 8, 8, 8, 8, 8, 8, 8, 8, 8, 8, 8, 8, 8, 8, 8, 8, 8, 8, 8, 8, 8]⟩)) (.t 21), none, none, []⟩, ⟨(some 23), .conv .i64 (.t 22), none, none, []⟩, ⟨(some 24), .bin .add (.t 19) (.t 23), none, none, []⟩, ⟨(some 2), .mv (.t 24), none, none, []⟩])
  .ret)))))⟩
/-- cmp.isNaN[uint64] -/
def s141 : SFn :=
 ⟨6, [.tmp 2],
  (.seq (.reg [⟨(some 2), .mv (.v (.bool false)), none, none, []⟩])
  (.seq (.reg [⟨(some 3), .mv (.t 0), none, none, []⟩, ⟨(some 4), .mv (.t 0), none, none, []⟩, ⟨(some 5), .bin .neq (.t 3) (.t 4), none, none, []⟩, ⟨(some 2), .mv (.t 5), none, none, []⟩])
  .ret))⟩
/-- math/bits.LeadingZeros64 -/
def s142 : SFn :=
 ⟨6, [.tmp 2],
  (.seq (.reg [⟨(some 2), .mv (.v (.int .i64 0)), none, none, []⟩])
  (.seq (.reg [⟨(some 3), .mv (.t 0), none, none, []⟩, ⟨(some 4), .call 140 [(.t 3)], none, none, []⟩, ⟨(some 5), .bin .sub (.v (.int .i64 64)) (.t 4), none, none, []⟩, ⟨(some 2), .mv (.t 5), none, none, []⟩])
  .ret))⟩
def E : Nat → Option SFn
  | 7 => some s7
  | 8 => some s8
  | 9 => some s9
  | 10 => some s10
  | 15 => some s15
  | 24 => some s24
  | 25 => some s25
  | 26 => some s26
  | 27 => some s27
  | 28 => some s28
  | 29 => some s29
  | 30 => some s30
  | 31 => some s31
  | 32 => some s32
  | 33 => some s33
  | 34 => some s34
  | 49 => some s49
  | 50 => some s50
  | 51 => some s51
  | 52 => some s52
  | 53 => some s53
  | 54 => some s54
  | 55 => some s55
  | 56 => some s56
  | 57 => some s57
  | 58 => some s58
  | 59 => some s59
  | 60 => some s60
  | 61 => some s61
  | 62 => some s62
  | 63 => some s63
  | 64 => some s64
  | 65 => some s65
  | 66 => some s66
  | 67 => some s67
  | 69 => some s69
  | 78 => some s78
  | 79 => some s79
  | 80 => some s80
  | 81 => some s81
  | 82 => some s82
  | 83 => some s83
  | 84 => some s84
  | 85 => some s85
  | 86 => some s86
  | 87 => some s87
  | 88 => some s88
  | 89 => some s89
  | 90 => some s90
  | 91 => some s91
  | 92 => some s92
  | 93 => some s93
  | 94 => some s94
  | 95 => some s95
  | 103 => some s103
  | 104 => some s104
  | 105 => some s105
  | 106 => some s106
  | 107 => some s107
  | 108 => some s108
  | 109 => some s109
  | 110 => some s110
  | 111 => some s111
  | 117 => some s117
  | 118 => some s118
  | 119 => some s119
  | 120 => some s120
  | 121 => some s121
  | 122 => some s122
  | 123 => some s123
  | 124 => some s124
  | 126 => some s126
  | 127 => some s127
  | 128 => some s128
  | 129 => some s129
  | 130 => some s130
  | 131 => some s131
  | 132 => some s132
  | 133 => some s133
  | 134 => some s134
  | 135 => some s135
  | 136 => some s136
  | 137 => some s137
  | 139 => some s139
  | 140 => some s140
  | 141 => some s141
  | 142 => some s142
  | _ => none
def env0 : Env := { E := E, I := fun _ _ _ => none, isI := fun _ => false }
end Go.Proofs.YtbnnfmncipdlpaaDoor
