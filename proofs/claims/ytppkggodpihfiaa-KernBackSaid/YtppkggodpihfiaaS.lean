/- The slim functions of this seat, and the table of them. -/
import Derived.Test.YtppkggodpihfiaaDen2
set_option linter.unusedVariables false
namespace Go.Proofs.Ytppkggodpihfiaa
open Go.Den
/-- pochoir/pochoirlaw40.KernBack -/
def s3 : SFn :=
 ⟨74, [.tmp 4],
  (.seq (.reg [⟨(some 3), .box 23 (.t 1), none, none, []⟩, ⟨(some 4), .mv (.v (.bool false)), none, none, []⟩])
  (.seq (.seq (.reg [⟨(some 11), .call 10 [], none, none, []⟩, ⟨(some 12), .un .not (.t 11), none, none, []⟩])
  (.cond (.t 12) (.seq (.reg [⟨(some 4), .mv (.v (.bool false)), none, none, []⟩])
  .ret) .skip))
  (.seq (.seq (.reg [⟨(some 13), .mv (.t 0), none, none, []⟩, ⟨(some 14), .len false (.t 13), none, none, []⟩, ⟨(some 15), .bin .gtr (.t 14) (.v (.int .i64 100)), none, none, []⟩])
  (.cond (.t 15) (.seq (.reg [⟨(some 4), .mv (.v (.bool true)), none, none, []⟩])
  .ret) .skip))
  (.seq (.reg [⟨(some 17), .mv (.t 0), none, none, []⟩, ⟨(some 18), .call 11 [(.t 17)], none, none, []⟩, ⟨(some 16), .mv (.t 18), none, none, []⟩, ⟨(some 19), .extract (.t 16) 0, none, none, []⟩, ⟨(some 20), .extract (.t 16) 1, none, none, []⟩, ⟨(some 5), .mv (.t 19), none, none, []⟩, ⟨(some 6), .mv (.t 20), none, none, []⟩])
  (.seq (.reg [⟨(some 22), .mv (.t 0), none, none, []⟩, ⟨(some 23), .call 12 [(.t 22)], none, none, []⟩, ⟨(some 21), .mv (.t 23), none, none, []⟩, ⟨(some 24), .extract (.t 21) 0, none, none, []⟩, ⟨(some 25), .extract (.t 21) 1, none, none, []⟩, ⟨(some 7), .mv (.t 24), none, none, []⟩, ⟨(some 8), .mv (.t 25), none, none, []⟩])
  (.seq (.seq (.regd [⟨(some 26), .mv (.t 5), none, (some []), []⟩, ⟨(some 27), .mv (.t 7), none, (some []), []⟩, ⟨(some 28), .bin .neq (.t 26) (.t 27), none, (some []), []⟩, ⟨(some 29), .mv (.t 28), none, (some []), []⟩, ⟨(some 30), .mv (.t 6), (some (29, false)), (some []), []⟩, ⟨(some 31), .mv (.t 8), (some (29, false)), (some []), []⟩, ⟨(some 32), .bin .neq (.t 30) (.t 31), (some (29, false)), (some []), []⟩, ⟨(some 33), .pick (.t 29) (.v (.bool true)) (.t 32), none, (some []), []⟩, ⟨(some 34), .mv (.t 33), none, (some []), []⟩, ⟨(some 35), .mv (.t 0), (some (34, false)), (some []), []⟩, ⟨(some 36), .iarr 3 1 (.t 3) (.v (.int .i64 0)), (some (34, false)), (some []), []⟩, ⟨(some 37), .load none (.t 36), (some (34, false)), (some []), []⟩, ⟨(some 38), .call 13 [(.t 35), (.t 37)], (some (34, false)), none, [(none, (.t 3))]⟩, ⟨(some 39), .mv (.t 0), (some (34, false)), (some [12]), []⟩, ⟨(some 40), .iarr 3 1 (.t 3) (.v (.int .i64 0)), (some (34, false)), (some [12]), []⟩, ⟨(some 41), .load none (.t 40), (some (34, false)), (some [12]), []⟩, ⟨(some 42), .call 14 [(.t 39), (.t 41)], (some (34, false)), none, []⟩, ⟨(some 43), .eqs 0 [] true (.t 38) (.t 42), (some (34, false)), (some []), []⟩, ⟨(some 44), .pick (.t 34) (.v (.bool true)) (.t 43), none, (some []), []⟩, ⟨(some 45), .mv (.t 44), none, (some []), []⟩, ⟨(some 46), .mv (.t 0), (some (45, false)), (some []), []⟩, ⟨(some 47), .iarr 3 1 (.t 3) (.v (.int .i64 1)), (some (45, false)), (some []), []⟩, ⟨(some 48), .load none (.t 47), (some (45, false)), (some []), []⟩, ⟨(some 49), .iarr 3 1 (.t 3) (.v (.int .i64 2)), (some (45, false)), (some []), []⟩, ⟨(some 50), .load none (.t 49), (some (45, false)), (some []), []⟩, ⟨(some 51), .call 15 [(.t 46), (.t 48), (.t 50)], (some (45, false)), none, [(none, (.t 3)), (none, (.t 3))]⟩, ⟨(some 52), .mv (.t 0), (some (45, false)), (some [25]), []⟩, ⟨(some 53), .iarr 3 1 (.t 3) (.v (.int .i64 1)), (some (45, false)), (some [25]), []⟩, ⟨(some 54), .load none (.t 53), (some (45, false)), (some [25]), []⟩, ⟨(some 55), .iarr 3 1 (.t 3) (.v (.int .i64 2)), (some (45, false)), (some [25]), []⟩, ⟨(some 56), .load none (.t 55), (some (45, false)), (some [25]), []⟩, ⟨(some 57), .call 16 [(.t 52), (.t 54), (.t 56)], (some (45, false)), none, []⟩, ⟨(some 58), .bin .neq (.t 51) (.t 57), (some (45, false)), (some []), []⟩, ⟨(some 59), .pick (.t 45) (.v (.bool true)) (.t 58), none, (some []), []⟩])
  (.cond (.t 59) (.seq (.reg [⟨(some 4), .mv (.v (.bool false)), none, none, []⟩])
  .ret) .skip))
  (.seq (.seq (.reg [⟨(some 60), .mv (.t 8), none, none, []⟩, ⟨(some 61), .bin .neq (.t 60) (.v (.int .i64 0)), none, none, []⟩])
  (.cond (.t 61) (.seq (.reg [⟨(some 4), .mv (.v (.bool true)), none, none, []⟩])
  .ret) .skip))
  (.seq (.reg [⟨(some 63), .mv (.t 5), none, none, []⟩, ⟨(some 64), .call 17 [(.t 63), (.v (.int .i64 1024))], none, none, []⟩, ⟨(some 62), .mv (.t 64), none, none, []⟩, ⟨(some 65), .extract (.t 62) 0, none, none, []⟩, ⟨(some 66), .extract (.t 62) 1, none, none, []⟩, ⟨(some 9), .mv (.t 65), none, none, []⟩, ⟨(some 10), .mv (.t 66), none, none, []⟩])
  (.seq (.reg [⟨(some 67), .mv (.t 10), none, none, []⟩, ⟨(some 68), .bin .eql (.t 67) (.v (.int .i64 0)), none, none, []⟩, ⟨(some 69), .mv (.t 68), none, none, []⟩, ⟨(some 70), .mv (.t 9), (some (69, true)), none, []⟩, ⟨(some 71), .mv (.t 0), (some (69, true)), none, []⟩, ⟨(some 72), .call 18 [(.t 70), (.t 71)], (some (69, true)), none, []⟩, ⟨(some 73), .pick (.t 69) (.t 72) (.v (.bool false)), none, none, []⟩, ⟨(some 4), .mv (.t 73), none, none, []⟩])
  .ret)))))))))⟩
/-- pochoir/pochoirlaw40.KernAny -/
def s4 : SFn :=
 ⟨43, [.tmp 4],
  (.seq (.reg [⟨(some 4), .mv (.v (.bool false)), none, none, []⟩])
  (.seq (.seq (.reg [⟨(some 9), .call 10 [], none, none, []⟩, ⟨(some 10), .un .not (.t 9), none, none, []⟩])
  (.cond (.t 10) (.seq (.reg [⟨(some 4), .mv (.v (.bool false)), none, none, []⟩])
  .ret) .skip))
  (.seq (.seq (.reg [⟨(some 11), .mv (.t 0), none, none, []⟩, ⟨(some 12), .len true (.t 11), none, none, []⟩, ⟨(some 13), .bin .gtr (.t 12) (.v (.int .i64 700)), none, none, []⟩])
  (.cond (.t 13) (.seq (.reg [⟨(some 4), .mv (.v (.bool true)), none, none, []⟩])
  .ret) .skip))
  (.seq (.reg [⟨(some 15), .mv (.t 0), none, none, []⟩, ⟨(some 16), .mv (.t 1), none, none, []⟩, ⟨(some 17), .call 17 [(.t 15), (.t 16)], none, none, []⟩, ⟨(some 14), .mv (.t 17), none, none, []⟩, ⟨(some 18), .extract (.t 14) 0, none, none, []⟩, ⟨(some 19), .extract (.t 14) 1, none, none, []⟩, ⟨(some 5), .mv (.t 18), none, none, []⟩, ⟨(some 6), .mv (.t 19), none, none, []⟩])
  (.seq (.reg [⟨(some 21), .mv (.t 0), none, none, []⟩, ⟨(some 22), .mv (.t 1), none, none, []⟩, ⟨(some 23), .call 19 [(.t 21), (.t 22)], none, none, []⟩, ⟨(some 20), .mv (.t 23), none, none, []⟩, ⟨(some 24), .extract (.t 20) 0, none, none, []⟩, ⟨(some 25), .extract (.t 20) 1, none, none, []⟩, ⟨(some 7), .mv (.t 24), none, none, []⟩, ⟨(some 8), .mv (.t 25), none, none, []⟩])
  (.seq (.reg [⟨(some 26), .mv (.t 5), none, none, []⟩, ⟨(some 27), .mv (.t 7), none, none, []⟩, ⟨(some 28), .call 18 [(.t 26), (.t 27)], none, none, []⟩, ⟨(some 29), .mv (.t 28), none, none, []⟩, ⟨(some 30), .mv (.t 6), (some (29, true)), none, []⟩, ⟨(some 31), .mv (.t 8), (some (29, true)), none, []⟩, ⟨(some 32), .bin .eql (.t 30) (.t 31), (some (29, true)), none, []⟩, ⟨(some 33), .pick (.t 29) (.t 32) (.v (.bool false)), none, none, []⟩, ⟨(some 34), .mv (.t 33), none, none, []⟩, ⟨(some 35), .mv (.t 8), (some (34, true)), none, []⟩, ⟨(some 36), .bin .neq (.t 35) (.v (.int .i64 0)), (some (34, true)), none, []⟩, ⟨(some 37), .mv (.t 36), (some (34, true)), none, []⟩, ⟨(some 38), .mv (.t 5), (some (37, false)), none, []⟩, ⟨(some 39), .mv (.t 1), (some (37, false)), none, []⟩, ⟨(some 40), .call 13 [(.t 38), (.t 39)], (some (37, false)), none, []⟩, ⟨(some 41), .pick (.t 37) (.v (.bool true)) (.t 40), (some (34, true)), none, []⟩, ⟨(some 42), .pick (.t 34) (.t 41) (.v (.bool false)), none, none, []⟩, ⟨(some 4), .mv (.t 42), none, none, []⟩])
  .ret))))))⟩
/-- pochoir/pochoirlaw40.KernShifts -/
def s5 : SFn :=
 ⟨62, [.tmp 4],
  (.seq (.reg [⟨(some 4), .mv (.v (.bool false)), none, none, []⟩])
  (.seq (.seq (.reg [⟨(some 9), .call 10 [], none, none, []⟩, ⟨(some 10), .un .not (.t 9), none, none, []⟩])
  (.cond (.t 10) (.seq (.reg [⟨(some 4), .mv (.v (.bool false)), none, none, []⟩])
  .ret) .skip))
  (.seq (.seq (.reg [⟨(some 11), .mv (.t 0), none, none, []⟩, ⟨(some 12), .len false (.t 11), none, none, []⟩, ⟨(some 13), .bin .gtr (.t 12) (.v (.int .i64 100)), none, none, []⟩, ⟨(some 14), .mv (.t 13), none, none, []⟩, ⟨(some 15), .mv (.t 1), (some (14, false)), none, []⟩, ⟨(some 16), .len false (.t 15), (some (14, false)), none, []⟩, ⟨(some 17), .bin .gtr (.t 16) (.v (.int .i64 60)), (some (14, false)), none, []⟩, ⟨(some 18), .pick (.t 14) (.v (.bool true)) (.t 17), none, none, []⟩])
  (.cond (.t 18) (.seq (.reg [⟨(some 4), .mv (.v (.bool true)), none, none, []⟩])
  .ret) .skip))
  (.seq (.seq (.reg [⟨(some 19), .mv (.t 0), none, none, []⟩, ⟨(some 20), .len false (.t 19), none, none, []⟩, ⟨(some 21), .mv (.v (.int .i64 0)), none, none, []⟩])
  (.block 0 (.loop (.seq (.reg [⟨(some 22), .bin .lss (.t 21) (.t 20), none, none, []⟩])
  (.seq (.cond (.t 22) .skip (.exit 0))
  (.seq (.block 1 (.seq (.reg [⟨(some 23), .iaddr 3 (.t 19) (.t 21), none, none, []⟩, ⟨(some 24), .load (some 3) (.t 23), none, none, []⟩, ⟨(some 6), .box 41 (.v (.agg [(.int .i64 0), (.int .i64 0), (.int .i64 0)])), none, none, []⟩, ⟨none, .store 3 (.t 6) (.t 24), none, none, []⟩])
  (.seq (.reg [⟨(some 25), .faddr 2 (.t 6), none, none, []⟩, ⟨(some 26), .load none (.t 25), none, none, []⟩, ⟨(some 27), .bin .gtr (.t 26) (.v (.int .i64 1099511627776)), none, none, []⟩, ⟨(some 28), .mv (.t 27), none, none, []⟩, ⟨(some 29), .faddr 2 (.t 6), (some (28, false)), none, []⟩, ⟨(some 30), .load none (.t 29), (some (28, false)), none, []⟩, ⟨(some 31), .bin .lss (.t 30) (.v (.int .i64 (-1099511627776))), (some (28, false)), none, []⟩, ⟨(some 32), .pick (.t 28) (.v (.bool true)) (.t 31), none, none, []⟩])
  (.cond (.t 32) (.seq (.reg [⟨(some 4), .mv (.v (.bool true)), none, none, []⟩])
  .ret) .skip))))
  (.reg [⟨(some 33), .bin .add (.t 21) (.v (.int .i64 1)), none, none, []⟩, ⟨(some 21), .mv (.t 33), none, none, []⟩])))))))
  (.seq (.seq (.reg [⟨(some 34), .mv (.t 1), none, none, []⟩, ⟨(some 35), .len false (.t 34), none, none, []⟩, ⟨(some 36), .mv (.v (.int .i64 0)), none, none, []⟩])
  (.block 2 (.loop (.seq (.reg [⟨(some 37), .bin .lss (.t 36) (.t 35), none, none, []⟩])
  (.seq (.cond (.t 37) .skip (.exit 2))
  (.seq (.block 3 (.seq (.reg [⟨(some 38), .iaddr 3 (.t 34) (.t 36), none, none, []⟩, ⟨(some 39), .load (some 3) (.t 38), none, none, []⟩, ⟨(some 8), .box 43 (.v (.agg [(.int .i64 0), (.int .i64 0), (.int .i64 0)])), none, none, []⟩, ⟨none, .store 3 (.t 8) (.t 39), none, none, []⟩])
  (.seq (.reg [⟨(some 40), .faddr 1 (.t 8), none, none, []⟩, ⟨(some 41), .load none (.t 40), none, none, []⟩, ⟨(some 42), .bin .gtr (.t 41) (.v (.int .i64 1099511627776)), none, none, []⟩, ⟨(some 43), .mv (.t 42), none, none, []⟩, ⟨(some 44), .faddr 1 (.t 8), (some (43, false)), none, []⟩, ⟨(some 45), .load none (.t 44), (some (43, false)), none, []⟩, ⟨(some 46), .bin .lss (.t 45) (.v (.int .i64 (-1099511627776))), (some (43, false)), none, []⟩, ⟨(some 47), .pick (.t 43) (.v (.bool true)) (.t 46), none, none, []⟩])
  (.cond (.t 47) (.seq (.reg [⟨(some 4), .mv (.v (.bool true)), none, none, []⟩])
  .ret) .skip))))
  (.reg [⟨(some 48), .bin .add (.t 36) (.v (.int .i64 1)), none, none, []⟩, ⟨(some 36), .mv (.t 48), none, none, []⟩])))))))
  (.seq (.reg [⟨(some 49), .mv (.t 0), none, none, []⟩, ⟨(some 50), .mv (.t 1), none, none, []⟩, ⟨(some 51), .call 21 [(.t 49), (.t 50)], none, none, []⟩, ⟨(some 52), .mv (.t 0), none, none, []⟩, ⟨(some 53), .mv (.t 1), none, none, []⟩, ⟨(some 54), .call 22 [(.t 52), (.t 53)], none, none, []⟩, ⟨(some 55), .call 20 [(.t 51), (.t 54)], none, none, []⟩, ⟨(some 56), .mv (.t 55), none, none, []⟩, ⟨(some 57), .mv (.t 1), (some (56, true)), none, []⟩, ⟨(some 58), .call 21 [(.v .nils), (.t 57)], (some (56, true)), none, []⟩, ⟨(some 59), .mv (.t 1), (some (56, true)), none, []⟩, ⟨(some 60), .call 20 [(.t 58), (.t 59)], (some (56, true)), none, []⟩, ⟨(some 61), .pick (.t 56) (.t 60) (.v (.bool false)), none, none, []⟩, ⟨(some 4), .mv (.t 61), none, none, []⟩])
  .ret))))))⟩
/-- pochoir/pochoirlaw30.AtlasBack -/
def s6 : SFn :=
 ⟨53, [.tmp 2],
  (.seq (.reg [⟨(some 1), .box 53 (.t 0), none, none, []⟩, ⟨(some 2), .mv (.v (.bool false)), none, none, []⟩])
  (.seq (.seq (.reg [⟨(some 7), .call 23 [], none, none, []⟩, ⟨(some 8), .un .not (.t 7), none, none, []⟩])
  (.cond (.t 8) (.seq (.reg [⟨(some 2), .mv (.v (.bool false)), none, none, []⟩])
  .ret) .skip))
  (.seq (.seq (.reg [⟨(some 9), .load (some 11) (.t 1), none, none, []⟩, ⟨(some 10), .call 24 [(.t 9)], none, none, []⟩, ⟨(some 11), .un .not (.t 10), none, none, []⟩])
  (.cond (.t 11) (.seq (.reg [⟨(some 2), .mv (.v (.bool true)), none, none, []⟩])
  .ret) .skip))
  (.seq (.reg [⟨(some 13), .load (some 11) (.t 1), none, none, []⟩, ⟨(some 14), .call 25 [(.t 13)], none, none, []⟩, ⟨(some 12), .mv (.t 14), none, none, []⟩, ⟨(some 15), .extract (.t 12) 0, none, none, []⟩, ⟨(some 16), .extract (.t 12) 1, none, none, []⟩, ⟨(some 3), .mv (.t 15), none, none, []⟩, ⟨(some 4), .mv (.t 16), none, none, []⟩])
  (.seq (.seq (.regd [⟨(some 17), .load (some 11) (.t 1), none, (some []), []⟩, ⟨(some 18), .call 26 [(.t 17)], none, none, [(none, (.t 1))]⟩, ⟨(some 19), .load (some 11) (.t 1), none, (some [1]), []⟩, ⟨(some 20), .call 27 [(.t 19)], none, none, []⟩, ⟨(some 21), .eqs 0 [] true (.t 18) (.t 20), none, (some []), []⟩])
  (.cond (.t 21) (.seq (.reg [⟨(some 2), .mv (.v (.bool false)), none, none, []⟩])
  .ret) .skip))
  (.seq (.seq (.reg [⟨(some 22), .load (some 11) (.t 1), none, none, []⟩, ⟨(some 23), .call 27 [(.t 22)], none, none, []⟩, ⟨(some 24), .un .not (.t 23), none, none, []⟩])
  (.cond (.t 24) (.seq (.reg [⟨(some 25), .mv (.t 3), none, none, []⟩, ⟨(some 26), .bin .eql (.t 25) (.v (.str ⟨#[]⟩)), none, none, []⟩, ⟨(some 27), .mv (.t 26), none, none, []⟩, ⟨(some 28), .mv (.t 4), (some (27, true)), none, []⟩, ⟨(some 29), .bin .eql (.t 28) (.v (.int .i64 1)), (some (27, true)), none, []⟩, ⟨(some 30), .pick (.t 27) (.t 29) (.v (.bool false)), none, none, []⟩, ⟨(some 2), .mv (.t 30), none, none, []⟩])
  .ret) .skip))
  (.seq (.reg [⟨(some 32), .mv (.t 3), none, none, []⟩, ⟨(some 33), .call 28 [(.t 32)], none, none, []⟩, ⟨(some 31), .mv (.t 33), none, none, []⟩, ⟨(some 34), .extract (.t 31) 0, none, none, []⟩, ⟨(some 35), .extract (.t 31) 1, none, none, []⟩, ⟨(some 5), .box 53 (.v (.agg [(.int .i64 0), (.int .i64 0), (.int .i64 0), (.int .i64 0), (.int .i64 0), (.int .i64 0), (.int .i64 0), (.int .i64 0), .nils, .nils, .nils])), none, none, []⟩, ⟨none, .store 11 (.t 5) (.t 34), none, none, []⟩, ⟨(some 6), .mv (.t 35), none, none, []⟩])
  (.seq (.reg [⟨(some 36), .mv (.t 4), none, none, []⟩, ⟨(some 37), .bin .eql (.t 36) (.v (.int .i64 0)), none, none, []⟩, ⟨(some 38), .mv (.t 37), none, none, []⟩, ⟨(some 39), .mv (.t 3), (some (38, true)), none, []⟩, ⟨(some 40), .load (some 11) (.t 1), (some (38, true)), none, []⟩, ⟨(some 41), .call 29 [(.t 40)], (some (38, true)), none, []⟩, ⟨(some 42), .bin .eql (.t 39) (.t 41), (some (38, true)), none, []⟩, ⟨(some 43), .pick (.t 38) (.t 42) (.v (.bool false)), none, none, []⟩, ⟨(some 44), .mv (.t 43), none, none, []⟩, ⟨(some 45), .mv (.t 6), (some (44, true)), none, []⟩, ⟨(some 46), .bin .eql (.t 45) (.v (.int .i64 0)), (some (44, true)), none, []⟩, ⟨(some 47), .pick (.t 44) (.t 46) (.v (.bool false)), none, none, []⟩, ⟨(some 48), .mv (.t 47), none, none, []⟩, ⟨(some 49), .load (some 11) (.t 1), (some (48, true)), none, []⟩, ⟨(some 50), .load (some 11) (.t 5), (some (48, true)), none, []⟩, ⟨(some 51), .call 30 [(.t 49), (.t 50)], (some (48, true)), none, []⟩, ⟨(some 52), .pick (.t 48) (.t 51) (.v (.bool false)), none, none, []⟩, ⟨(some 2), .mv (.t 52), none, none, []⟩])
  .ret))))))))⟩
/-- pochoir/pochoirlaw30.AtlasAny -/
def s7 : SFn :=
 ⟨47, [.tmp 2],
  (.seq (.reg [⟨(some 2), .mv (.v (.bool false)), none, none, []⟩])
  (.seq (.seq (.reg [⟨(some 9), .call 23 [], none, none, []⟩, ⟨(some 10), .un .not (.t 9), none, none, []⟩])
  (.cond (.t 10) (.seq (.reg [⟨(some 2), .mv (.v (.bool false)), none, none, []⟩])
  .ret) .skip))
  (.seq (.seq (.reg [⟨(some 11), .mv (.t 0), none, none, []⟩, ⟨(some 12), .len true (.t 11), none, none, []⟩, ⟨(some 13), .bin .gtr (.t 12) (.v (.int .i64 3000)), none, none, []⟩])
  (.cond (.t 13) (.seq (.reg [⟨(some 2), .mv (.v (.bool true)), none, none, []⟩])
  .ret) .skip))
  (.seq (.reg [⟨(some 15), .mv (.t 0), none, none, []⟩, ⟨(some 16), .call 28 [(.t 15)], none, none, []⟩, ⟨(some 14), .mv (.t 16), none, none, []⟩, ⟨(some 17), .extract (.t 14) 0, none, none, []⟩, ⟨(some 18), .extract (.t 14) 1, none, none, []⟩, ⟨(some 3), .box 53 (.v (.agg [(.int .i64 0), (.int .i64 0), (.int .i64 0), (.int .i64 0), (.int .i64 0), (.int .i64 0), (.int .i64 0), (.int .i64 0), .nils, .nils, .nils])), none, none, []⟩, ⟨none, .store 11 (.t 3) (.t 17), none, none, []⟩, ⟨(some 4), .mv (.t 18), none, none, []⟩])
  (.seq (.reg [⟨(some 20), .mv (.t 0), none, none, []⟩, ⟨(some 21), .call 31 [(.t 20)], none, none, []⟩, ⟨(some 19), .mv (.t 21), none, none, []⟩, ⟨(some 22), .extract (.t 19) 0, none, none, []⟩, ⟨(some 23), .extract (.t 19) 1, none, none, []⟩, ⟨(some 5), .box 53 (.v (.agg [(.int .i64 0), (.int .i64 0), (.int .i64 0), (.int .i64 0), (.int .i64 0), (.int .i64 0), (.int .i64 0), (.int .i64 0), .nils, .nils, .nils])), none, none, []⟩, ⟨none, .store 11 (.t 5) (.t 22), none, none, []⟩, ⟨(some 6), .mv (.t 23), none, none, []⟩])
  (.seq (.seq (.reg [⟨(some 24), .load (some 11) (.t 3), none, none, []⟩, ⟨(some 25), .load (some 11) (.t 5), none, none, []⟩, ⟨(some 26), .call 30 [(.t 24), (.t 25)], none, none, []⟩, ⟨(some 27), .un .not (.t 26), none, none, []⟩, ⟨(some 28), .mv (.t 27), none, none, []⟩, ⟨(some 29), .mv (.t 4), (some (28, false)), none, []⟩, ⟨(some 30), .mv (.t 6), (some (28, false)), none, []⟩, ⟨(some 31), .bin .neq (.t 29) (.t 30), (some (28, false)), none, []⟩, ⟨(some 32), .pick (.t 28) (.v (.bool true)) (.t 31), none, none, []⟩])
  (.cond (.t 32) (.seq (.reg [⟨(some 2), .mv (.v (.bool false)), none, none, []⟩])
  .ret) .skip))
  (.seq (.seq (.reg [⟨(some 33), .mv (.t 6), none, none, []⟩, ⟨(some 34), .bin .neq (.t 33) (.v (.int .i64 0)), none, none, []⟩])
  (.cond (.t 34) (.seq (.reg [⟨(some 2), .mv (.v (.bool true)), none, none, []⟩])
  .ret) .skip))
  (.seq (.reg [⟨(some 36), .load (some 11) (.t 3), none, none, []⟩, ⟨(some 37), .call 25 [(.t 36)], none, none, []⟩, ⟨(some 35), .mv (.t 37), none, none, []⟩, ⟨(some 38), .extract (.t 35) 0, none, none, []⟩, ⟨(some 39), .extract (.t 35) 1, none, none, []⟩, ⟨(some 7), .mv (.t 38), none, none, []⟩, ⟨(some 8), .mv (.t 39), none, none, []⟩])
  (.seq (.reg [⟨(some 40), .mv (.t 7), none, none, []⟩, ⟨(some 41), .mv (.t 0), none, none, []⟩, ⟨(some 42), .bin .eql (.t 40) (.t 41), none, none, []⟩, ⟨(some 43), .mv (.t 42), none, none, []⟩, ⟨(some 44), .mv (.t 8), (some (43, true)), none, []⟩, ⟨(some 45), .bin .eql (.t 44) (.v (.int .i64 0)), (some (43, true)), none, []⟩, ⟨(some 46), .pick (.t 43) (.t 45) (.v (.bool false)), none, none, []⟩, ⟨(some 2), .mv (.t 46), none, none, []⟩])
  .ret)))))))))⟩
/-- pochoir/pochoirlaw30.AtlasTurned -/
def s8 : SFn :=
 ⟨82, [.tmp 6],
  (.seq (.reg [⟨(some 3), .box 53 (.t 0), none, none, []⟩, ⟨(some 6), .mv (.v (.bool false)), none, none, []⟩])
  (.seq (.seq (.reg [⟨(some 17), .call 23 [], none, none, []⟩, ⟨(some 18), .un .not (.t 17), none, none, []⟩])
  (.cond (.t 18) (.seq (.reg [⟨(some 6), .mv (.v (.bool false)), none, none, []⟩])
  .ret) .skip))
  (.seq (.seq (.reg [⟨(some 19), .load (some 11) (.t 3), none, none, []⟩, ⟨(some 20), .call 24 [(.t 19)], none, none, []⟩, ⟨(some 21), .un .not (.t 20), none, none, []⟩, ⟨(some 22), .mv (.t 21), none, none, []⟩, ⟨(some 23), .load (some 11) (.t 3), (some (22, false)), none, []⟩, ⟨(some 24), .call 27 [(.t 23)], (some (22, false)), none, []⟩, ⟨(some 25), .un .not (.t 24), (some (22, false)), none, []⟩, ⟨(some 26), .pick (.t 22) (.v (.bool true)) (.t 25), none, none, []⟩])
  (.cond (.t 26) (.seq (.reg [⟨(some 6), .mv (.v (.bool true)), none, none, []⟩])
  .ret) .skip))
  (.seq (.reg [⟨(some 27), .load (some 11) (.t 3), none, none, []⟩, ⟨(some 28), .call 29 [(.t 27)], none, none, []⟩, ⟨(some 7), .mv (.t 28), none, none, []⟩])
  (.seq (.reg [⟨(some 29), .mv (.t 7), none, none, []⟩, ⟨(some 30), .s2r 5 (.t 29), none, none, []⟩, ⟨(some 8), .mv (.t 30), none, none, []⟩])
  (.seq (.reg [⟨(some 31), .mv (.t 1), none, none, []⟩, ⟨(some 32), .conv .i64 (.t 31), none, none, []⟩, ⟨(some 33), .mv (.t 8), none, none, []⟩, ⟨(some 34), .len false (.t 33), none, none, []⟩, ⟨(some 35), .bin .rem (.t 32) (.t 34), none, none, []⟩, ⟨(some 9), .mv (.t 35), none, none, []⟩])
  (.seq (.reg [⟨(some 36), .mv (.t 8), none, none, []⟩, ⟨(some 37), .mv (.t 9), none, none, []⟩, ⟨(some 38), .iaddr 1 (.t 36) (.t 37), none, none, []⟩, ⟨(some 39), .load none (.t 38), none, none, []⟩, ⟨(some 40), .mv (.t 2), none, none, []⟩, ⟨(some 41), .bin .eql (.t 39) (.t 40), none, none, []⟩, ⟨(some 10), .mv (.t 41), none, none, []⟩])
  (.seq (.reg [⟨(some 42), .mv (.t 8), none, none, []⟩, ⟨(some 43), .mv (.t 9), none, none, []⟩, ⟨(some 44), .mv (.t 2), none, none, []⟩, ⟨(some 45), .iaddr 1 (.t 42) (.t 43), none, none, []⟩, ⟨none, .store 1 (.t 45) (.t 44), none, none, []⟩])
  (.seq (.reg [⟨(some 47), .mv (.t 8), none, none, []⟩, ⟨(some 48), .b2s (.t 47), none, none, []⟩, ⟨(some 49), .call 28 [(.t 48)], none, none, []⟩, ⟨(some 46), .mv (.t 49), none, none, []⟩, ⟨(some 50), .extract (.t 46) 0, none, none, []⟩, ⟨(some 51), .extract (.t 46) 1, none, none, []⟩, ⟨(some 11), .box 53 (.v (.agg [(.int .i64 0), (.int .i64 0), (.int .i64 0), (.int .i64 0), (.int .i64 0), (.int .i64 0), (.int .i64 0), (.int .i64 0), .nils, .nils, .nils])), none, none, []⟩, ⟨none, .store 11 (.t 11) (.t 50), none, none, []⟩, ⟨(some 12), .mv (.t 51), none, none, []⟩])
  (.seq (.reg [⟨(some 53), .mv (.t 7), none, none, []⟩, ⟨(some 54), .mv (.t 7), none, none, []⟩, ⟨(some 55), .len true (.t 54), none, none, []⟩, ⟨(some 56), .bin .sub (.t 55) (.v (.int .i64 1)), none, none, []⟩, ⟨(some 57), .slstr (.t 53) none (some (.t 56)), none, none, []⟩, ⟨(some 58), .call 28 [(.t 57)], none, none, []⟩, ⟨(some 52), .mv (.t 58), none, none, []⟩, ⟨(some 59), .extract (.t 52) 0, none, none, []⟩, ⟨(some 60), .extract (.t 52) 1, none, none, []⟩, ⟨(some 13), .box 53 (.v (.agg [(.int .i64 0), (.int .i64 0), (.int .i64 0), (.int .i64 0), (.int .i64 0), (.int .i64 0), (.int .i64 0), (.int .i64 0), .nils, .nils, .nils])), none, none, []⟩, ⟨none, .store 11 (.t 13) (.t 59), none, none, []⟩, ⟨(some 14), .mv (.t 60), none, none, []⟩])
  (.seq (.reg [⟨(some 62), .mv (.t 7), none, none, []⟩, ⟨(some 63), .mv (.t 2), none, none, []⟩, ⟨(some 64), .bsl 5 [(.int .u8 0)] 1 1 [(0, 1, (.t 63))], none, none, []⟩, ⟨(some 65), .b2s (.t 64), none, none, []⟩, ⟨(some 66), .bin .add (.t 62) (.t 65), none, none, []⟩, ⟨(some 67), .call 28 [(.t 66)], none, none, []⟩, ⟨(some 61), .mv (.t 67), none, none, []⟩, ⟨(some 68), .extract (.t 61) 0, none, none, []⟩, ⟨(some 69), .extract (.t 61) 1, none, none, []⟩, ⟨(some 15), .box 53 (.v (.agg [(.int .i64 0), (.int .i64 0), (.int .i64 0), (.int .i64 0), (.int .i64 0), (.int .i64 0), (.int .i64 0), (.int .i64 0), .nils, .nils, .nils])), none, none, []⟩, ⟨none, .store 11 (.t 15) (.t 68), none, none, []⟩, ⟨(some 16), .mv (.t 69), none, none, []⟩])
  (.seq (.reg [⟨(some 70), .mv (.t 12), none, none, []⟩, ⟨(some 71), .bin .eql (.t 70) (.v (.int .i64 0)), none, none, []⟩, ⟨(some 72), .mv (.t 10), none, none, []⟩, ⟨(some 73), .eqs 0 [] false (.t 71) (.t 72), none, none, []⟩, ⟨(some 74), .mv (.t 73), none, none, []⟩, ⟨(some 75), .mv (.t 14), (some (74, true)), none, []⟩, ⟨(some 76), .bin .eql (.t 75) (.v (.int .i64 3)), (some (74, true)), none, []⟩, ⟨(some 77), .pick (.t 74) (.t 76) (.v (.bool false)), none, none, []⟩, ⟨(some 78), .mv (.t 77), none, none, []⟩, ⟨(some 79), .mv (.t 16), (some (78, true)), none, []⟩, ⟨(some 80), .bin .eql (.t 79) (.v (.int .i64 6)), (some (78, true)), none, []⟩, ⟨(some 81), .pick (.t 78) (.t 80) (.v (.bool false)), none, none, []⟩, ⟨(some 6), .mv (.t 81), none, none, []⟩])
  .ret))))))))))))⟩
/-- pochoir/pochoirlaw30.AtlasTexels -/
def s9 : SFn :=
 ⟨44, [.tmp 4],
  (.seq (.reg [⟨(some 2), .box 53 (.t 0), none, none, []⟩, ⟨(some 3), .box 23 (.t 1), none, none, []⟩, ⟨(some 4), .mv (.v (.bool false)), none, none, []⟩])
  (.seq (.seq (.reg [⟨(some 9), .call 23 [], none, none, []⟩, ⟨(some 10), .un .not (.t 9), none, none, []⟩])
  (.cond (.t 10) (.seq (.reg [⟨(some 4), .mv (.v (.bool false)), none, none, []⟩])
  .ret) .skip))
  (.seq (.seq (.reg [⟨(some 11), .load (some 11) (.t 2), none, none, []⟩, ⟨(some 12), .call 24 [(.t 11)], none, none, []⟩, ⟨(some 13), .un .not (.t 12), none, none, []⟩])
  (.cond (.t 13) (.seq (.reg [⟨(some 4), .mv (.v (.bool true)), none, none, []⟩])
  .ret) .skip))
  (.seq (.reg [⟨(some 15), .load (some 11) (.t 2), none, none, []⟩, ⟨(some 16), .iarr 3 1 (.t 3) (.v (.int .i64 0)), none, none, []⟩, ⟨(some 17), .load none (.t 16), none, none, []⟩, ⟨(some 18), .iarr 3 1 (.t 3) (.v (.int .i64 1)), none, none, []⟩, ⟨(some 19), .load none (.t 18), none, none, []⟩, ⟨(some 20), .iarr 3 1 (.t 3) (.v (.int .i64 2)), none, none, []⟩, ⟨(some 21), .load none (.t 20), none, none, []⟩, ⟨(some 22), .call 32 [(.t 15), (.t 17), (.t 19), (.t 21)], none, none, []⟩, ⟨(some 14), .mv (.t 22), none, none, []⟩, ⟨(some 23), .extract (.t 14) 0, none, none, []⟩, ⟨(some 24), .extract (.t 14) 1, none, none, []⟩, ⟨(some 5), .box 67 (.v (.agg [(.int .u8 0), (.int .u8 0), (.int .u8 0), (.int .u8 0)])), none, none, []⟩, ⟨none, .store 4 (.t 5) (.t 23), none, none, []⟩, ⟨(some 6), .mv (.t 24), none, none, []⟩])
  (.seq (.reg [⟨(some 26), .load (some 11) (.t 2), none, none, []⟩, ⟨(some 27), .iarr 3 1 (.t 3) (.v (.int .i64 0)), none, none, []⟩, ⟨(some 28), .load none (.t 27), none, none, []⟩, ⟨(some 29), .iarr 3 1 (.t 3) (.v (.int .i64 1)), none, none, []⟩, ⟨(some 30), .load none (.t 29), none, none, []⟩, ⟨(some 31), .iarr 3 1 (.t 3) (.v (.int .i64 2)), none, none, []⟩, ⟨(some 32), .load none (.t 31), none, none, []⟩, ⟨(some 33), .call 33 [(.t 26), (.t 28), (.t 30), (.t 32)], none, none, []⟩, ⟨(some 25), .mv (.t 33), none, none, []⟩, ⟨(some 34), .extract (.t 25) 0, none, none, []⟩, ⟨(some 35), .extract (.t 25) 1, none, none, []⟩, ⟨(some 7), .box 67 (.v (.agg [(.int .u8 0), (.int .u8 0), (.int .u8 0), (.int .u8 0)])), none, none, []⟩, ⟨none, .store 4 (.t 7) (.t 34), none, none, []⟩, ⟨(some 8), .mv (.t 35), none, none, []⟩])
  (.seq (.reg [⟨(some 36), .load (some 4) (.t 5), none, none, []⟩, ⟨(some 37), .load (some 4) (.t 7), none, none, []⟩, ⟨(some 38), .eqs 4 [1, 1, 1, 1] false (.t 36) (.t 37), none, none, []⟩, ⟨(some 39), .mv (.t 38), none, none, []⟩, ⟨(some 40), .mv (.t 6), (some (39, true)), none, []⟩, ⟨(some 41), .mv (.t 8), (some (39, true)), none, []⟩, ⟨(some 42), .bin .eql (.t 40) (.t 41), (some (39, true)), none, []⟩, ⟨(some 43), .pick (.t 39) (.t 42) (.v (.bool false)), none, none, []⟩, ⟨(some 4), .mv (.t 43), none, none, []⟩])
  .ret))))))⟩
/-- pochoir/pochoirlaw40.awake -/
def s10 : SFn :=
 ⟨78, [.tmp 0],
  (.seq (.reg [⟨(some 0), .mv (.v (.bool false)), none, none, []⟩])
  (.seq (.reg [⟨(some 7), .build [(.int .i64 0), (.int .i64 0), (.int .i64 0)] [(0, 1, (.v (.int .i64 1))), (1, 1, (.v (.int .i64 2))), (2, 1, (.v (.int .i64 (-5))))], none, none, []⟩, ⟨(some 8), .bsl 41 [(.int .i64 0), (.int .i64 0), (.int .i64 0)] 1 3 [(0, 3, (.t 7))], none, none, []⟩, ⟨(some 1), .mv (.t 8), none, none, []⟩])
  (.seq (.reg [⟨(some 10), .mv (.t 1), none, none, []⟩, ⟨(some 11), .call 11 [(.t 10)], none, none, []⟩, ⟨(some 9), .mv (.t 11), none, none, []⟩, ⟨(some 12), .extract (.t 9) 0, none, none, []⟩, ⟨(some 13), .extract (.t 9) 1, none, none, []⟩, ⟨(some 2), .mv (.t 12), none, none, []⟩, ⟨(some 3), .mv (.t 13), none, none, []⟩])
  (.seq (.reg [⟨(some 15), .mv (.t 2), none, none, []⟩, ⟨(some 16), .call 17 [(.t 15), (.v (.int .i64 3))], none, none, []⟩, ⟨(some 14), .mv (.t 16), none, none, []⟩, ⟨(some 17), .extract (.t 14) 0, none, none, []⟩, ⟨(some 18), .extract (.t 14) 1, none, none, []⟩, ⟨(some 4), .mv (.t 17), none, none, []⟩, ⟨(some 5), .mv (.t 18), none, none, []⟩])
  (.seq (.reg [⟨(some 19), .mv (.t 1), none, none, []⟩, ⟨(some 20), .build [(.int .i64 0), (.int .i64 0), (.int .i64 0)] [(0, 1, (.v (.int .i64 1)))], none, none, []⟩, ⟨(some 21), .build [(.int .i64 0), (.int .i64 0), (.int .i64 0)] [(0, 1, (.v (.int .i64 2))), (1, 1, (.v (.int .i64 9)))], none, none, []⟩, ⟨(some 22), .build [(.int .i64 0), (.int .i64 0), (.int .i64 0)] [(0, 1, (.v (.int .i64 2))), (1, 1, (.v (.int .i64 18)))], none, none, []⟩, ⟨(some 23), .bsl 43 [(.int .i64 0), (.int .i64 0), (.int .i64 0), (.int .i64 0), (.int .i64 0), (.int .i64 0), (.int .i64 0), (.int .i64 0), (.int .i64 0)] 3 3 [(0, 3, (.t 20)), (3, 3, (.t 21)), (6, 3, (.t 22))], none, none, []⟩, ⟨(some 24), .call 21 [(.t 19), (.t 23)], none, none, []⟩, ⟨(some 6), .mv (.t 24), none, none, []⟩])
  (.seq (.regd [⟨(some 25), .mv (.t 3), none, (some []), []⟩, ⟨(some 26), .bin .eql (.t 25) (.v (.int .i64 0)), none, (some []), []⟩, ⟨(some 27), .mv (.t 26), none, (some []), []⟩, ⟨(some 28), .mv (.t 2), (some (27, true)), (some []), []⟩, ⟨(some 29), .len true (.t 28), (some (27, true)), (some []), []⟩, ⟨(some 30), .bin .eql (.t 29) (.v (.int .i64 24)), (some (27, true)), (some []), []⟩, ⟨(some 31), .pick (.t 27) (.t 30) (.v (.bool false)), none, (some []), []⟩, ⟨(some 32), .mv (.t 31), none, (some []), []⟩, ⟨(some 33), .mv (.t 5), (some (32, true)), (some []), []⟩, ⟨(some 34), .bin .eql (.t 33) (.v (.int .i64 0)), (some (32, true)), (some []), []⟩, ⟨(some 35), .pick (.t 32) (.t 34) (.v (.bool false)), none, (some []), []⟩, ⟨(some 36), .mv (.t 35), none, (some []), []⟩, ⟨(some 37), .mv (.t 4), (some (36, true)), (some []), []⟩, ⟨(some 38), .len false (.t 37), (some (36, true)), (some []), []⟩, ⟨(some 39), .bin .eql (.t 38) (.v (.int .i64 1)), (some (36, true)), (some []), []⟩, ⟨(some 40), .pick (.t 36) (.t 39) (.v (.bool false)), none, (some []), []⟩, ⟨(some 41), .mv (.t 40), none, (some []), []⟩, ⟨(some 42), .mv (.t 4), (some (41, true)), (some []), []⟩, ⟨(some 43), .iaddr 3 (.t 42) (.v (.int .i64 0)), (some (41, true)), (some []), []⟩, ⟨(some 44), .load (some 3) (.t 43), (some (41, true)), (some []), []⟩, ⟨(some 45), .mv (.t 1), (some (41, true)), (some []), []⟩, ⟨(some 46), .iaddr 3 (.t 45) (.v (.int .i64 0)), (some (41, true)), (some []), []⟩, ⟨(some 47), .load (some 3) (.t 46), (some (41, true)), (some []), []⟩, ⟨(some 48), .eqs 4 [1, 1, 1] false (.t 44) (.t 47), (some (41, true)), (some []), []⟩, ⟨(some 49), .pick (.t 41) (.t 48) (.v (.bool false)), none, (some []), []⟩, ⟨(some 50), .mv (.t 49), none, (some []), []⟩, ⟨(some 51), .mv (.t 6), (some (50, true)), (some []), []⟩, ⟨(some 52), .len false (.t 51), (some (50, true)), (some []), []⟩, ⟨(some 53), .bin .eql (.t 52) (.v (.int .i64 3)), (some (50, true)), (some []), []⟩, ⟨(some 54), .pick (.t 50) (.t 53) (.v (.bool false)), none, (some []), []⟩, ⟨(some 55), .mv (.t 54), none, (some []), []⟩, ⟨(some 56), .mv (.t 6), (some (55, true)), (some []), []⟩, ⟨(some 57), .iaddr 3 (.t 56) (.v (.int .i64 1)), (some (55, true)), (some []), []⟩, ⟨(some 58), .faddr 1 (.t 57), (some (55, true)), (some []), []⟩, ⟨(some 59), .load none (.t 58), (some (55, true)), none, []⟩, ⟨(some 60), .bin .eql (.t 59) (.v (.int .i64 4)), (some (55, true)), (some []), []⟩, ⟨(some 61), .pick (.t 55) (.t 60) (.v (.bool false)), none, (some []), []⟩, ⟨(some 62), .mv (.t 61), none, (some []), []⟩, ⟨(some 63), .mv (.t 6), (some (62, true)), (some []), []⟩, ⟨(some 64), .iaddr 3 (.t 63) (.v (.int .i64 2)), (some (62, true)), (some []), []⟩, ⟨(some 65), .faddr 1 (.t 64), (some (62, true)), (some []), []⟩, ⟨(some 66), .load none (.t 65), (some (62, true)), none, []⟩, ⟨(some 67), .bin .eql (.t 66) (.v (.int .i64 13)), (some (62, true)), (some []), []⟩, ⟨(some 68), .pick (.t 62) (.t 67) (.v (.bool false)), none, (some []), []⟩, ⟨(some 69), .mv (.t 68), none, (some []), []⟩, ⟨(some 70), .mv (.t 1), (some (69, true)), (some []), []⟩, ⟨(some 71), .call 15 [(.t 70), (.v (.int .i64 1)), (.v (.int .i64 2))], (some (69, true)), none, []⟩, ⟨(some 72), .bin .eql (.t 71) (.v (.int .i64 (-5))), (some (69, true)), (some []), []⟩, ⟨(some 73), .pick (.t 69) (.t 72) (.v (.bool false)), none, (some []), []⟩, ⟨(some 74), .mv (.t 73), none, (some []), []⟩, ⟨(some 75), .mv (.t 1), (some (74, true)), (some []), []⟩, ⟨(some 76), .call 13 [(.t 75), (.v (.int .i64 3))], (some (74, true)), none, []⟩, ⟨(some 77), .pick (.t 74) (.t 76) (.v (.bool false)), none, (some []), []⟩, ⟨(some 0), .mv (.t 77), none, (some []), []⟩])
  .ret))))))⟩
/-- pochoir/kern.Make -/
def s11 : SFn :=
 ⟨31, [.tmp 2, .tmp 3],
  (.seq (.reg [⟨(some 2), .mv (.v (.str ⟨#[]⟩)), none, none, []⟩, ⟨(some 3), .mv (.v (.int .i64 0)), none, none, []⟩])
  (.seq (.seq (.reg [⟨(some 7), .mv (.t 0), none, none, []⟩, ⟨(some 8), .call 13 [(.t 7), (.v (.int .i64 1024))], none, none, []⟩, ⟨(some 9), .un .not (.t 8), none, none, []⟩])
  (.cond (.t 9) (.seq (.reg [⟨(some 2), .mv (.v (.str ⟨#[]⟩)), none, none, []⟩, ⟨(some 3), .mv (.v (.int .i64 1)), none, none, []⟩])
  .ret) .skip))
  (.seq (.reg [⟨(some 4), .box 75 (.v (.agg [.nilp, .nils])), none, none, []⟩])
  (.seq (.reg [⟨(some 10), .mv (.t 0), none, none, []⟩, ⟨(some 11), .len false (.t 10), none, none, []⟩, ⟨(some 12), .call 35 [(.t 11)], none, none, []⟩, ⟨(some 13), .call 34 [(.t 4), (.t 12)], none, none, []⟩])
  (.seq (.seq (.reg [⟨(some 14), .mv (.t 0), none, none, []⟩, ⟨(some 15), .len false (.t 14), none, none, []⟩, ⟨(some 16), .mv (.v (.int .i64 0)), none, none, []⟩])
  (.block 0 (.loop (.seq (.reg [⟨(some 17), .bin .lss (.t 16) (.t 15), none, none, []⟩])
  (.seq (.cond (.t 17) .skip (.exit 0))
  (.seq (.block 1 (.seq (.reg [⟨(some 18), .iaddr 3 (.t 14) (.t 16), none, none, []⟩, ⟨(some 19), .load (some 3) (.t 18), none, none, []⟩, ⟨(some 6), .box 41 (.v (.agg [(.int .i64 0), (.int .i64 0), (.int .i64 0)])), none, none, []⟩, ⟨none, .store 3 (.t 6) (.t 19), none, none, []⟩])
  (.reg [⟨(some 20), .faddr 0 (.t 6), none, none, []⟩, ⟨(some 21), .load none (.t 20), none, none, []⟩, ⟨(some 22), .faddr 1 (.t 6), none, none, []⟩, ⟨(some 23), .load none (.t 22), none, none, []⟩, ⟨(some 24), .faddr 2 (.t 6), none, none, []⟩, ⟨(some 25), .load none (.t 24), none, none, []⟩, ⟨(some 26), .bsl 3 [(.int .i64 0), (.int .i64 0), (.int .i64 0)] 3 1 [(0, 1, (.t 21)), (1, 1, (.t 23)), (2, 1, (.t 25))], none, none, []⟩, ⟨(some 27), .call 36 [(.t 26)], none, none, []⟩, ⟨(some 28), .call 34 [(.t 4), (.t 27)], none, none, []⟩])))
  (.reg [⟨(some 29), .bin .add (.t 16) (.v (.int .i64 1)), none, none, []⟩, ⟨(some 16), .mv (.t 29), none, none, []⟩])))))))
  (.seq (.reg [⟨(some 30), .call 37 [(.t 4)], none, none, []⟩, ⟨(some 2), .mv (.t 30), none, none, []⟩, ⟨(some 3), .mv (.v (.int .i64 0)), none, none, []⟩])
  .ret))))))⟩
/-- pochoir/pochoirref40.Make -/
def s12 : SFn :=
 ⟨73, [.tmp 2, .tmp 3],
  (.seq (.reg [⟨(some 2), .mv (.v (.str ⟨#[]⟩)), none, none, []⟩, ⟨(some 3), .mv (.v (.int .i64 0)), none, none, []⟩])
  (.seq (.seq (.reg [⟨(some 8), .mv (.t 0), none, none, []⟩, ⟨(some 9), .call 14 [(.t 8), (.v (.int .i64 1024))], none, none, []⟩, ⟨(some 10), .un .not (.t 9), none, none, []⟩])
  (.cond (.t 10) (.seq (.reg [⟨(some 2), .mv (.v (.str ⟨#[]⟩)), none, none, []⟩, ⟨(some 3), .mv (.v (.int .i64 1)), none, none, []⟩])
  .ret) .skip))
  (.seq (.reg [⟨(some 11), .mv (.t 0), none, none, []⟩, ⟨(some 12), .len false (.t 11), none, none, []⟩, ⟨(some 4), .mv (.t 12), none, none, []⟩])
  (.seq (.reg [⟨(some 13), .mv (.t 4), none, none, []⟩, ⟨(some 14), .call 38 [(.t 13)], none, none, []⟩, ⟨(some 5), .mv (.t 14), none, none, []⟩])
  (.seq (.regd [⟨(some 15), .call 39 [(.v (.int .i64 0))], none, none, [(none, (.t 5)), (none, (.t 5)), (none, (.t 5))]⟩, ⟨(some 16), .call 39 [(.v (.int .i64 1))], none, none, [(none, (.t 5)), (none, (.t 5)), (none, (.t 5))]⟩, ⟨(some 17), .bin .add (.t 15) (.t 16), none, (some []), []⟩, ⟨(some 18), .call 39 [(.v (.int .i64 0))], none, none, [(none, (.t 5)), (none, (.t 5)), (none, (.t 5))]⟩, ⟨(some 19), .bin .add (.t 17) (.t 18), none, (some []), []⟩, ⟨(some 20), .mv (.t 4), none, (some [0, 1, 3]), []⟩, ⟨(some 21), .bin .mul (.v (.int .i64 6)) (.t 20), none, (some [0, 1, 3]), []⟩, ⟨(some 22), .bin .add (.v (.int .i64 14)) (.t 21), none, (some [0, 1, 3]), []⟩, ⟨(some 23), .call 39 [(.t 22)], none, none, [(none, (.t 5)), (none, (.t 5)), (none, (.t 5))]⟩, ⟨(some 24), .bin .add (.t 19) (.t 23), none, (some []), []⟩, ⟨(some 25), .call 39 [(.v (.int .i64 1))], none, none, [(none, (.t 5)), (none, (.t 5)), (none, (.t 5))]⟩, ⟨(some 26), .bin .add (.t 24) (.t 25), none, (some []), []⟩, ⟨(some 27), .mv (.t 4), none, (some [0, 1, 3, 8, 10]), []⟩, ⟨(some 28), .call 39 [(.t 27)], none, none, [(none, (.t 5)), (none, (.t 5)), (none, (.t 5))]⟩, ⟨(some 29), .bin .add (.t 26) (.t 28), none, (some []), []⟩, ⟨(some 30), .mv (.t 5), none, (some [0, 1, 3, 8, 10, 13]), []⟩, ⟨(some 31), .iaddr 1 (.t 30) (.v (.int .i64 0)), none, (some [0, 1, 3, 8, 10, 13]), []⟩, ⟨(some 32), .load none (.t 31), none, (some [0, 1, 3, 8, 10, 13]), []⟩, ⟨(some 33), .call 39 [(.t 32)], none, none, [(none, (.t 5)), (none, (.t 5))]⟩, ⟨(some 34), .bin .add (.t 29) (.t 33), none, (some []), []⟩, ⟨(some 35), .mv (.t 5), none, (some [0, 1, 3, 8, 10, 13, 18]), []⟩, ⟨(some 36), .iaddr 1 (.t 35) (.v (.int .i64 1)), none, (some [0, 1, 3, 8, 10, 13, 18]), []⟩, ⟨(some 37), .load none (.t 36), none, (some [0, 1, 3, 8, 10, 13, 18]), []⟩, ⟨(some 38), .call 39 [(.t 37)], none, none, [(none, (.t 5))]⟩, ⟨(some 39), .bin .add (.t 34) (.t 38), none, (some []), []⟩, ⟨(some 40), .mv (.t 5), none, (some [0, 1, 3, 8, 10, 13, 18, 23]), []⟩, ⟨(some 41), .iaddr 1 (.t 40) (.v (.int .i64 2)), none, (some [0, 1, 3, 8, 10, 13, 18, 23]), []⟩, ⟨(some 42), .load none (.t 41), none, (some [0, 1, 3, 8, 10, 13, 18, 23]), []⟩, ⟨(some 43), .call 39 [(.t 42)], none, none, []⟩, ⟨(some 44), .bin .add (.t 39) (.t 43), none, (some []), []⟩, ⟨(some 6), .mv (.t 44), none, (some []), []⟩])
  (.seq (.seq (.reg [⟨(some 7), .mv (.v (.int .i64 0)), none, none, []⟩])
  (.block 0 (.loop (.seq (.seq (.reg [⟨(some 45), .mv (.t 7), none, none, []⟩, ⟨(some 46), .mv (.t 4), none, none, []⟩, ⟨(some 47), .bin .lss (.t 45) (.t 46), none, none, []⟩])
  (.cond (.t 47) .skip (.exit 0)))
  (.seq (.block 1 (.regd [⟨(some 50), .mv (.t 6), none, (some []), []⟩, ⟨(some 51), .mv (.t 0), none, (some []), []⟩, ⟨(some 52), .mv (.t 7), none, (some []), []⟩, ⟨(some 53), .iaddr 3 (.t 51) (.t 52), none, (some []), []⟩, ⟨(some 54), .faddr 0 (.t 53), none, (some []), []⟩, ⟨(some 55), .load none (.t 54), none, (some []), []⟩, ⟨(some 56), .call 39 [(.t 55)], none, none, [(none, (.t 0)), (none, (.t 0))]⟩, ⟨(some 57), .bin .add (.t 50) (.t 56), none, (some []), []⟩, ⟨(some 58), .mv (.t 0), none, (some [6]), []⟩, ⟨(some 59), .mv (.t 7), none, (some [6]), []⟩, ⟨(some 60), .iaddr 3 (.t 58) (.t 59), none, (some [6]), []⟩, ⟨(some 61), .faddr 1 (.t 60), none, (some [6]), []⟩, ⟨(some 62), .load none (.t 61), none, (some [6]), []⟩, ⟨(some 63), .call 39 [(.t 62)], none, none, [(none, (.t 0))]⟩, ⟨(some 64), .bin .add (.t 57) (.t 63), none, (some []), []⟩, ⟨(some 65), .mv (.t 0), none, (some [6, 13]), []⟩, ⟨(some 66), .mv (.t 7), none, (some [6, 13]), []⟩, ⟨(some 67), .iaddr 3 (.t 65) (.t 66), none, (some [6, 13]), []⟩, ⟨(some 68), .faddr 2 (.t 67), none, (some [6, 13]), []⟩, ⟨(some 69), .load none (.t 68), none, (some [6, 13]), []⟩, ⟨(some 70), .call 39 [(.t 69)], none, none, []⟩, ⟨(some 71), .bin .add (.t 64) (.t 70), none, (some []), []⟩, ⟨(some 6), .mv (.t 71), none, (some []), []⟩]))
  (.reg [⟨(some 48), .mv (.t 7), none, none, []⟩, ⟨(some 49), .bin .add (.t 48) (.v (.int .i64 1)), none, none, []⟩, ⟨(some 7), .mv (.t 49), none, none, []⟩]))))))
  (.seq (.reg [⟨(some 72), .mv (.t 6), none, none, []⟩, ⟨(some 2), .mv (.t 72), none, none, []⟩, ⟨(some 3), .mv (.v (.int .i64 0)), none, none, []⟩])
  .ret)))))))⟩
/-- pochoir/kern.May -/
def s13 : SFn :=
 ⟨57, [.tmp 4],
  (.seq (.reg [⟨(some 4), .mv (.v (.bool false)), none, none, []⟩])
  (.seq (.seq (.reg [⟨(some 7), .mv (.t 1), none, none, []⟩, ⟨(some 8), .bin .lss (.t 7) (.v (.int .i64 1)), none, none, []⟩, ⟨(some 9), .mv (.t 8), none, none, []⟩, ⟨(some 10), .mv (.t 1), (some (9, false)), none, []⟩, ⟨(some 11), .bin .gtr (.t 10) (.v (.int .i64 1024)), (some (9, false)), none, []⟩, ⟨(some 12), .pick (.t 9) (.v (.bool true)) (.t 11), none, none, []⟩, ⟨(some 13), .mv (.t 12), none, none, []⟩, ⟨(some 14), .mv (.t 0), (some (13, false)), none, []⟩, ⟨(some 15), .len false (.t 14), (some (13, false)), none, []⟩, ⟨(some 16), .bin .gtr (.t 15) (.v (.int .i64 4096)), (some (13, false)), none, []⟩, ⟨(some 17), .pick (.t 13) (.v (.bool true)) (.t 16), none, none, []⟩])
  (.cond (.t 17) (.seq (.reg [⟨(some 4), .mv (.v (.bool false)), none, none, []⟩])
  .ret) .skip))
  (.seq (.seq (.reg [⟨(some 18), .mv (.t 0), none, none, []⟩, ⟨(some 19), .len false (.t 18), none, none, []⟩, ⟨(some 20), .mv (.v (.int .i64 0)), none, none, []⟩])
  (.block 0 (.loop (.seq (.reg [⟨(some 21), .bin .lss (.t 20) (.t 19), none, none, []⟩])
  (.seq (.cond (.t 21) .skip (.exit 0))
  (.seq (.block 1 (.seq (.reg [⟨(some 22), .mv (.t 20), none, none, []⟩, ⟨(some 23), .iaddr 3 (.t 18) (.t 20), none, none, []⟩, ⟨(some 24), .load (some 3) (.t 23), none, none, []⟩, ⟨(some 6), .box 41 (.v (.agg [(.int .i64 0), (.int .i64 0), (.int .i64 0)])), none, none, []⟩, ⟨(some 5), .mv (.t 22), none, none, []⟩, ⟨none, .store 3 (.t 6) (.t 24), none, none, []⟩])
  (.seq (.reg [⟨(some 25), .faddr 0 (.t 6), none, none, []⟩, ⟨(some 26), .load none (.t 25), none, none, []⟩, ⟨(some 27), .faddr 1 (.t 6), none, none, []⟩, ⟨(some 28), .load none (.t 27), none, none, []⟩, ⟨(some 29), .mnmx false [(.t 26), (.t 28)], none, none, []⟩, ⟨(some 30), .bin .lss (.t 29) (.v (.int .i64 0)), none, none, []⟩, ⟨(some 31), .mv (.t 30), none, none, []⟩, ⟨(some 32), .faddr 0 (.t 6), (some (31, false)), none, []⟩, ⟨(some 33), .load none (.t 32), (some (31, false)), none, []⟩, ⟨(some 34), .faddr 1 (.t 6), (some (31, false)), none, []⟩, ⟨(some 35), .load none (.t 34), (some (31, false)), none, []⟩, ⟨(some 36), .mnmx true [(.t 33), (.t 35)], (some (31, false)), none, []⟩, ⟨(some 37), .mv (.t 1), (some (31, false)), none, []⟩, ⟨(some 38), .bin .geq (.t 36) (.t 37), (some (31, false)), none, []⟩, ⟨(some 39), .pick (.t 31) (.v (.bool true)) (.t 38), none, none, []⟩, ⟨(some 40), .mv (.t 39), none, none, []⟩, ⟨(some 41), .faddr 2 (.t 6), (some (40, false)), none, []⟩, ⟨(some 42), .load none (.t 41), (some (40, false)), none, []⟩, ⟨(some 43), .bin .lss (.t 42) (.v (.int .i64 (-32768))), (some (40, false)), none, []⟩, ⟨(some 44), .pick (.t 40) (.v (.bool true)) (.t 43), none, none, []⟩, ⟨(some 45), .mv (.t 44), none, none, []⟩, ⟨(some 46), .faddr 2 (.t 6), (some (45, false)), none, []⟩, ⟨(some 47), .load none (.t 46), (some (45, false)), none, []⟩, ⟨(some 48), .bin .gtr (.t 47) (.v (.int .i64 32767)), (some (45, false)), none, []⟩, ⟨(some 49), .pick (.t 45) (.v (.bool true)) (.t 48), none, none, []⟩, ⟨(some 50), .mv (.t 49), none, none, []⟩, ⟨(some 51), .mv (.t 0), (some (50, false)), none, []⟩, ⟨(some 52), .mv (.t 5), (some (50, false)), none, []⟩, ⟨(some 53), .call 40 [(.t 51), (.t 52)], (some (50, false)), none, []⟩, ⟨(some 54), .un .not (.t 53), (some (50, false)), none, []⟩, ⟨(some 55), .pick (.t 50) (.v (.bool true)) (.t 54), none, none, []⟩])
  (.cond (.t 55) (.seq (.reg [⟨(some 4), .mv (.v (.bool false)), none, none, []⟩])
  .ret) .skip))))
  (.reg [⟨(some 56), .bin .add (.t 20) (.v (.int .i64 1)), none, none, []⟩, ⟨(some 20), .mv (.t 56), none, none, []⟩])))))))
  (.seq (.reg [⟨(some 4), .mv (.v (.bool true)), none, none, []⟩])
  .ret))))⟩
/-- pochoir/pochoirref40.May -/
def s14 : SFn :=
 ⟨72, [.tmp 4],
  (.seq (.reg [⟨(some 4), .mv (.v (.bool false)), none, none, []⟩])
  (.seq (.seq (.reg [⟨(some 7), .mv (.t 1), none, none, []⟩, ⟨(some 8), .bin .lss (.t 7) (.v (.int .i64 1)), none, none, []⟩, ⟨(some 9), .mv (.t 8), none, none, []⟩, ⟨(some 10), .mv (.t 1), (some (9, false)), none, []⟩, ⟨(some 11), .bin .gtr (.t 10) (.v (.int .i64 1024)), (some (9, false)), none, []⟩, ⟨(some 12), .pick (.t 9) (.v (.bool true)) (.t 11), none, none, []⟩, ⟨(some 13), .mv (.t 12), none, none, []⟩, ⟨(some 14), .mv (.t 0), (some (13, false)), none, []⟩, ⟨(some 15), .len false (.t 14), (some (13, false)), none, []⟩, ⟨(some 16), .bin .gtr (.t 15) (.v (.int .i64 4096)), (some (13, false)), none, []⟩, ⟨(some 17), .pick (.t 13) (.v (.bool true)) (.t 16), none, none, []⟩])
  (.cond (.t 17) (.seq (.reg [⟨(some 4), .mv (.v (.bool false)), none, none, []⟩])
  .ret) .skip))
  (.seq (.seq (.reg [⟨(some 5), .mv (.v (.int .i64 0)), none, none, []⟩])
  (.block 0 (.loop (.seq (.seq (.reg [⟨(some 18), .mv (.t 5), none, none, []⟩, ⟨(some 19), .mv (.t 0), none, none, []⟩, ⟨(some 20), .len false (.t 19), none, none, []⟩, ⟨(some 21), .bin .lss (.t 18) (.t 20), none, none, []⟩])
  (.cond (.t 21) .skip (.exit 0)))
  (.seq (.block 1 (.seq (.reg [⟨(some 24), .mv (.t 0), none, none, []⟩, ⟨(some 25), .mv (.t 5), none, none, []⟩, ⟨(some 26), .iaddr 3 (.t 24) (.t 25), none, none, []⟩, ⟨(some 27), .load (some 3) (.t 26), none, none, []⟩, ⟨(some 6), .box 41 (.v (.agg [(.int .i64 0), (.int .i64 0), (.int .i64 0)])), none, none, []⟩, ⟨none, .store 3 (.t 6) (.t 27), none, none, []⟩])
  (.seq (.regd [⟨(some 28), .faddr 0 (.t 6), none, (some []), []⟩, ⟨(some 29), .load none (.t 28), none, none, []⟩, ⟨(some 30), .bin .lss (.t 29) (.v (.int .i64 0)), none, (some []), []⟩, ⟨(some 31), .mv (.t 30), none, (some []), []⟩, ⟨(some 32), .faddr 0 (.t 6), (some (31, false)), (some []), []⟩, ⟨(some 33), .load none (.t 32), (some (31, false)), none, []⟩, ⟨(some 34), .mv (.t 1), (some (31, false)), (some []), []⟩, ⟨(some 35), .bin .geq (.t 33) (.t 34), (some (31, false)), (some []), []⟩, ⟨(some 36), .pick (.t 31) (.v (.bool true)) (.t 35), none, (some []), []⟩, ⟨(some 37), .mv (.t 36), none, (some []), []⟩, ⟨(some 38), .faddr 1 (.t 6), (some (37, false)), (some []), []⟩, ⟨(some 39), .load none (.t 38), (some (37, false)), none, []⟩, ⟨(some 40), .bin .lss (.t 39) (.v (.int .i64 0)), (some (37, false)), (some []), []⟩, ⟨(some 41), .pick (.t 37) (.v (.bool true)) (.t 40), none, (some []), []⟩, ⟨(some 42), .mv (.t 41), none, (some []), []⟩, ⟨(some 43), .faddr 1 (.t 6), (some (42, false)), (some []), []⟩, ⟨(some 44), .load none (.t 43), (some (42, false)), none, []⟩, ⟨(some 45), .mv (.t 1), (some (42, false)), (some []), []⟩, ⟨(some 46), .bin .geq (.t 44) (.t 45), (some (42, false)), (some []), []⟩, ⟨(some 47), .pick (.t 42) (.v (.bool true)) (.t 46), none, (some []), []⟩, ⟨(some 48), .mv (.t 47), none, (some []), []⟩, ⟨(some 49), .faddr 2 (.t 6), (some (48, false)), (some []), []⟩, ⟨(some 50), .load none (.t 49), (some (48, false)), none, []⟩, ⟨(some 51), .bin .lss (.t 50) (.v (.int .i64 (-32768))), (some (48, false)), (some []), []⟩, ⟨(some 52), .pick (.t 48) (.v (.bool true)) (.t 51), none, (some []), []⟩, ⟨(some 53), .mv (.t 52), none, (some []), []⟩, ⟨(some 54), .faddr 2 (.t 6), (some (53, false)), (some []), []⟩, ⟨(some 55), .load none (.t 54), (some (53, false)), none, []⟩, ⟨(some 56), .bin .gtr (.t 55) (.v (.int .i64 32767)), (some (53, false)), (some []), []⟩, ⟨(some 57), .pick (.t 53) (.v (.bool true)) (.t 56), none, (some []), []⟩, ⟨(some 58), .mv (.t 57), none, (some []), []⟩, ⟨(some 59), .mv (.t 5), (some (58, false)), (some []), []⟩, ⟨(some 60), .bin .gtr (.t 59) (.v (.int .i64 0)), (some (58, false)), (some []), []⟩, ⟨(some 61), .mv (.t 60), (some (58, false)), (some []), []⟩, ⟨(some 62), .load (some 3) (.t 6), (some (61, true)), (some []), []⟩, ⟨(some 63), .mv (.t 0), (some (61, true)), (some []), []⟩, ⟨(some 64), .mv (.t 5), (some (61, true)), (some []), []⟩, ⟨(some 65), .bin .sub (.t 64) (.v (.int .i64 1)), (some (61, true)), (some []), []⟩, ⟨(some 66), .iaddr 3 (.t 63) (.t 65), (some (61, true)), (some []), []⟩, ⟨(some 67), .load (some 3) (.t 66), (some (61, true)), (some []), []⟩, ⟨(some 68), .call 41 [(.t 62), (.t 67)], (some (61, true)), none, []⟩, ⟨(some 69), .un .not (.t 68), (some (61, true)), (some []), []⟩, ⟨(some 70), .pick (.t 61) (.t 69) (.v (.bool false)), (some (58, false)), (some []), []⟩, ⟨(some 71), .pick (.t 58) (.v (.bool true)) (.t 70), none, (some []), []⟩])
  (.cond (.t 71) (.seq (.reg [⟨(some 4), .mv (.v (.bool false)), none, none, []⟩])
  .ret) .skip))))
  (.reg [⟨(some 22), .mv (.t 5), none, none, []⟩, ⟨(some 23), .bin .add (.t 22) (.v (.int .i64 1)), none, none, []⟩, ⟨(some 5), .mv (.t 23), none, none, []⟩]))))))
  (.seq (.reg [⟨(some 4), .mv (.v (.bool true)), none, none, []⟩])
  .ret))))⟩
/-- pochoir/kern.By -/
def s15 : SFn :=
 ⟨18, [.tmp 6],
  (.seq (.reg [⟨(some 4), .box 3 (.t 1), none, none, []⟩, ⟨(some 5), .box 3 (.t 2), none, none, []⟩, ⟨(some 6), .mv (.v (.int .i64 0)), none, none, []⟩])
  (.seq (.reg [⟨(some 8), .mv (.t 0), none, none, []⟩, ⟨(some 9), .mkfn 43 [(.t 4), (.t 5)], none, none, []⟩, ⟨(some 10), .call 42 [(.t 8), (.t 9)], none, none, []⟩, ⟨(some 7), .mv (.t 10), none, none, []⟩])
  (.seq (.seq (.reg [⟨(some 11), .mv (.t 7), none, none, []⟩, ⟨(some 12), .bin .lss (.t 11) (.v (.int .i64 0)), none, none, []⟩])
  (.cond (.t 12) (.seq (.reg [⟨(some 6), .mv (.v (.int .i64 0)), none, none, []⟩])
  .ret) .skip))
  (.seq (.reg [⟨(some 13), .mv (.t 0), none, none, []⟩, ⟨(some 14), .mv (.t 7), none, none, []⟩, ⟨(some 15), .iaddr 3 (.t 13) (.t 14), none, none, []⟩, ⟨(some 16), .faddr 2 (.t 15), none, none, []⟩, ⟨(some 17), .load none (.t 16), none, none, []⟩, ⟨(some 6), .mv (.t 17), none, none, []⟩])
  .ret))))⟩
/-- pochoir/pochoirref40.By -/
def s16 : SFn :=
 ⟨35, [.tmp 6],
  (.seq (.reg [⟨(some 6), .mv (.v (.int .i64 0)), none, none, []⟩])
  (.seq (.seq (.reg [⟨(some 7), .mv (.v (.int .i64 0)), none, none, []⟩])
  (.block 0 (.loop (.seq (.seq (.reg [⟨(some 8), .mv (.t 7), none, none, []⟩, ⟨(some 9), .mv (.t 0), none, none, []⟩, ⟨(some 10), .len false (.t 9), none, none, []⟩, ⟨(some 11), .bin .lss (.t 8) (.t 10), none, none, []⟩])
  (.cond (.t 11) .skip (.exit 0)))
  (.seq (.block 1 (.seq (.reg [⟨(some 14), .mv (.t 0), none, none, []⟩, ⟨(some 15), .mv (.t 7), none, none, []⟩, ⟨(some 16), .iaddr 3 (.t 14) (.t 15), none, none, []⟩, ⟨(some 17), .faddr 0 (.t 16), none, none, []⟩, ⟨(some 18), .load none (.t 17), none, none, []⟩, ⟨(some 19), .mv (.t 1), none, none, []⟩, ⟨(some 20), .bin .eql (.t 18) (.t 19), none, none, []⟩, ⟨(some 21), .mv (.t 20), none, none, []⟩, ⟨(some 22), .mv (.t 0), (some (21, true)), none, []⟩, ⟨(some 23), .mv (.t 7), (some (21, true)), none, []⟩, ⟨(some 24), .iaddr 3 (.t 22) (.t 23), (some (21, true)), none, []⟩, ⟨(some 25), .faddr 1 (.t 24), (some (21, true)), none, []⟩, ⟨(some 26), .load none (.t 25), (some (21, true)), none, []⟩, ⟨(some 27), .mv (.t 2), (some (21, true)), none, []⟩, ⟨(some 28), .bin .eql (.t 26) (.t 27), (some (21, true)), none, []⟩, ⟨(some 29), .pick (.t 21) (.t 28) (.v (.bool false)), none, none, []⟩])
  (.cond (.t 29) (.seq (.reg [⟨(some 30), .mv (.t 0), none, none, []⟩, ⟨(some 31), .mv (.t 7), none, none, []⟩, ⟨(some 32), .iaddr 3 (.t 30) (.t 31), none, none, []⟩, ⟨(some 33), .faddr 2 (.t 32), none, none, []⟩, ⟨(some 34), .load none (.t 33), none, none, []⟩, ⟨(some 6), .mv (.t 34), none, none, []⟩])
  .ret) .skip)))
  (.reg [⟨(some 12), .mv (.t 7), none, none, []⟩, ⟨(some 13), .bin .add (.t 12) (.v (.int .i64 1)), none, none, []⟩, ⟨(some 7), .mv (.t 13), none, none, []⟩]))))))
  (.seq (.reg [⟨(some 6), .mv (.v (.int .i64 0)), none, none, []⟩])
  .ret)))⟩
/-- pochoir/kern.Parse -/
def s17 : SFn :=
 ⟨85, [.tmp 4, .tmp 5],
  (.seq (.reg [⟨(some 4), .mv (.v .nils), none, none, []⟩, ⟨(some 5), .mv (.v (.int .i64 0)), none, none, []⟩])
  (.seq (.block 0 (.seq (.reg [⟨(some 14), .mv (.t 1), none, none, []⟩, ⟨(some 15), .bin .lss (.t 14) (.v (.int .i64 1)), none, none, []⟩, ⟨(some 16), .mv (.t 15), none, none, []⟩, ⟨(some 17), .mv (.t 1), (some (16, false)), none, []⟩, ⟨(some 18), .bin .gtr (.t 17) (.v (.int .i64 1024)), (some (16, false)), none, []⟩, ⟨(some 19), .pick (.t 16) (.v (.bool true)) (.t 18), none, none, []⟩, ⟨(some 13), .mv (.t 19), none, none, []⟩])
  (.cond (.t 13) (.seq (.reg [⟨(some 4), .mv (.v .nils), none, none, []⟩, ⟨(some 5), .mv (.v (.int .i64 1)), none, none, []⟩])
  .ret) (.seq (.reg [⟨(some 21), .mv (.t 0), none, none, []⟩, ⟨(some 22), .len true (.t 21), none, none, []⟩, ⟨(some 23), .bin .lss (.t 22) (.v (.int .i64 18)), none, none, []⟩, ⟨(some 20), .mv (.t 23), none, none, []⟩])
  (.cond (.t 20) (.seq (.reg [⟨(some 4), .mv (.v .nils), none, none, []⟩, ⟨(some 5), .mv (.v (.int .i64 3)), none, none, []⟩])
  .ret) .skip)))))
  (.seq (.reg [⟨(some 25), .mv (.t 0), none, none, []⟩, ⟨(some 26), .call 44 [(.t 25), (.v (.int .i64 10))], none, none, []⟩, ⟨(some 24), .mv (.t 26), none, none, []⟩, ⟨(some 27), .extract (.t 24) 0, none, none, []⟩, ⟨(some 28), .extract (.t 24) 1, none, none, []⟩, ⟨(some 6), .mv (.t 27), none, none, []⟩, ⟨(some 7), .mv (.t 28), none, none, []⟩])
  (.seq (.reg [⟨(some 29), .mv (.t 6), none, none, []⟩, ⟨(some 30), .conv .i64 (.t 29), none, none, []⟩, ⟨(some 8), .mv (.t 30), none, none, []⟩])
  (.seq (.block 1 (.seq (.reg [⟨(some 32), .mv (.t 8), none, none, []⟩, ⟨(some 33), .bin .gtr (.t 32) (.v (.int .i64 4096)), none, none, []⟩, ⟨(some 31), .mv (.t 33), none, none, []⟩])
  (.cond (.t 31) (.seq (.reg [⟨(some 4), .mv (.v .nils), none, none, []⟩, ⟨(some 5), .mv (.v (.int .i64 6)), none, none, []⟩])
  .ret) (.seq (.regd [⟨(some 35), .mv (.t 0), none, (some []), []⟩, ⟨(some 36), .slstr (.t 35) none (some (.v (.int .i64 18))), none, (some []), []⟩, ⟨(some 37), .mv (.t 8), none, (some []), []⟩, ⟨(some 38), .call 35 [(.t 37)], none, none, []⟩, ⟨(some 39), .bin .neq (.t 36) (.t 38), none, (some []), []⟩, ⟨(some 34), .mv (.t 39), none, (some []), []⟩])
  (.cond (.t 34) (.seq (.reg [⟨(some 4), .mv (.v .nils), none, none, []⟩, ⟨(some 5), .mv (.v (.int .i64 4)), none, none, []⟩])
  .ret) (.seq (.reg [⟨(some 41), .mv (.t 0), none, none, []⟩, ⟨(some 42), .len true (.t 41), none, none, []⟩, ⟨(some 43), .mv (.t 8), none, none, []⟩, ⟨(some 44), .bin .mul (.v (.int .i64 6)) (.t 43), none, none, []⟩, ⟨(some 45), .bin .add (.v (.int .i64 18)) (.t 44), none, none, []⟩, ⟨(some 46), .bin .lss (.t 42) (.t 45), none, none, []⟩, ⟨(some 40), .mv (.t 46), none, none, []⟩])
  (.cond (.t 40) (.seq (.reg [⟨(some 4), .mv (.v .nils), none, none, []⟩, ⟨(some 5), .mv (.v (.int .i64 3)), none, none, []⟩])
  .ret) .skip)))))))
  (.seq (.reg [⟨(some 47), .mv (.t 0), none, none, []⟩, ⟨(some 48), .call 45 [(.t 47)], none, none, []⟩, ⟨(some 9), .mv (.t 48), none, none, []⟩])
  (.seq (.reg [⟨(some 49), .mv (.t 9), none, none, []⟩, ⟨(some 50), .call 46 [(.t 49), (.v (.int .i64 18))], none, none, []⟩])
  (.seq (.reg [⟨(some 10), .mv (.v .nils), none, none, []⟩])
  (.seq (.seq (.reg [⟨(some 51), .mv (.t 8), none, none, []⟩, ⟨(some 52), .mv (.v (.int .i64 0)), none, none, []⟩])
  (.block 2 (.loop (.seq (.reg [⟨(some 53), .bin .lss (.t 52) (.t 51), none, none, []⟩])
  (.seq (.cond (.t 53) .skip (.exit 2))
  (.seq (.block 3 (.seq (.reg [⟨(some 54), .mv (.t 52), none, none, []⟩, ⟨(some 11), .mv (.t 54), none, none, []⟩])
  (.seq (.reg [⟨(some 55), .mv (.t 9), none, none, []⟩, ⟨(some 56), .call 47 [(.t 55)], none, none, []⟩, ⟨(some 57), .conv .i64 (.t 56), none, none, []⟩, ⟨(some 58), .mv (.t 9), none, none, []⟩, ⟨(some 59), .call 47 [(.t 58)], none, none, []⟩, ⟨(some 60), .conv .i64 (.t 59), none, none, []⟩, ⟨(some 61), .build [(.int .i64 0), (.int .i64 0), (.int .i64 0)] [(0, 1, (.t 57)), (1, 1, (.t 60))], none, none, []⟩, ⟨(some 12), .box 41 (.v (.agg [(.int .i64 0), (.int .i64 0), (.int .i64 0)])), none, none, []⟩, ⟨none, .store 3 (.t 12) (.t 61), none, none, []⟩])
  (.seq (.reg [⟨(some 62), .mv (.t 9), none, none, []⟩, ⟨(some 63), .call 48 [(.t 62)], none, none, []⟩, ⟨(some 64), .conv .i64 (.t 63), none, none, []⟩, ⟨(some 65), .faddr 2 (.t 12), none, none, []⟩, ⟨none, .store 1 (.t 65) (.t 64), none, none, []⟩])
  (.seq (.reg [⟨(some 66), .mv (.t 10), none, none, []⟩, ⟨(some 67), .load (some 3) (.t 12), none, none, []⟩, ⟨(some 68), .bsl 41 [(.int .i64 0), (.int .i64 0), (.int .i64 0)] 1 3 [(0, 3, (.t 67))], none, none, []⟩, ⟨(some 69), .app 41 3 (.t 66) (.t 68), none, none, []⟩, ⟨(some 10), .mv (.t 69), none, none, []⟩])
  (.seq (.reg [⟨(some 70), .faddr 0 (.t 12), none, none, []⟩, ⟨(some 71), .load none (.t 70), none, none, []⟩, ⟨(some 72), .faddr 1 (.t 12), none, none, []⟩, ⟨(some 73), .load none (.t 72), none, none, []⟩, ⟨(some 74), .mnmx true [(.t 71), (.t 73)], none, none, []⟩, ⟨(some 75), .mv (.t 1), none, none, []⟩, ⟨(some 76), .bin .geq (.t 74) (.t 75), none, none, []⟩, ⟨(some 77), .mv (.t 76), none, none, []⟩, ⟨(some 78), .mv (.t 10), (some (77, false)), none, []⟩, ⟨(some 79), .mv (.t 11), (some (77, false)), none, []⟩, ⟨(some 80), .call 40 [(.t 78), (.t 79)], (some (77, false)), none, []⟩, ⟨(some 81), .un .not (.t 80), (some (77, false)), none, []⟩, ⟨(some 82), .pick (.t 77) (.v (.bool true)) (.t 81), none, none, []⟩])
  (.cond (.t 82) (.seq (.reg [⟨(some 4), .mv (.v .nils), none, none, []⟩, ⟨(some 5), .mv (.v (.int .i64 4)), none, none, []⟩])
  .ret) .skip)))))))
  (.reg [⟨(some 83), .bin .add (.t 52) (.v (.int .i64 1)), none, none, []⟩, ⟨(some 52), .mv (.t 83), none, none, []⟩])))))))
  (.seq (.reg [⟨(some 84), .mv (.t 10), none, none, []⟩, ⟨(some 4), .mv (.t 84), none, none, []⟩, ⟨(some 5), .mv (.v (.int .i64 0)), none, none, []⟩])
  .ret))))))))))⟩
/-- pochoir/pochoirref40.Same -/
def s18 : SFn :=
 ⟨26, [.tmp 4],
  (.seq (.reg [⟨(some 4), .mv (.v (.bool false)), none, none, []⟩])
  (.seq (.seq (.reg [⟨(some 6), .mv (.t 0), none, none, []⟩, ⟨(some 7), .len false (.t 6), none, none, []⟩, ⟨(some 8), .mv (.t 1), none, none, []⟩, ⟨(some 9), .len false (.t 8), none, none, []⟩, ⟨(some 10), .bin .neq (.t 7) (.t 9), none, none, []⟩])
  (.cond (.t 10) (.seq (.reg [⟨(some 4), .mv (.v (.bool false)), none, none, []⟩])
  .ret) .skip))
  (.seq (.seq (.reg [⟨(some 5), .mv (.v (.int .i64 0)), none, none, []⟩])
  (.block 0 (.loop (.seq (.seq (.reg [⟨(some 11), .mv (.t 5), none, none, []⟩, ⟨(some 12), .mv (.t 0), none, none, []⟩, ⟨(some 13), .len false (.t 12), none, none, []⟩, ⟨(some 14), .bin .lss (.t 11) (.t 13), none, none, []⟩])
  (.cond (.t 14) .skip (.exit 0)))
  (.seq (.block 1 (.seq (.regd [⟨(some 17), .mv (.t 0), none, (some []), []⟩, ⟨(some 18), .mv (.t 5), none, (some []), []⟩, ⟨(some 19), .iaddr 3 (.t 17) (.t 18), none, (some []), []⟩, ⟨(some 20), .load (some 3) (.t 19), none, (some []), []⟩, ⟨(some 21), .mv (.t 1), none, (some []), []⟩, ⟨(some 22), .mv (.t 5), none, (some []), []⟩, ⟨(some 23), .iaddr 3 (.t 21) (.t 22), none, (some []), []⟩, ⟨(some 24), .load (some 3) (.t 23), none, (some []), []⟩, ⟨(some 25), .eqs 4 [1, 1, 1] true (.t 20) (.t 24), none, (some []), []⟩])
  (.cond (.t 25) (.seq (.reg [⟨(some 4), .mv (.v (.bool false)), none, none, []⟩])
  .ret) .skip)))
  (.reg [⟨(some 15), .mv (.t 5), none, none, []⟩, ⟨(some 16), .bin .add (.t 15) (.v (.int .i64 1)), none, none, []⟩, ⟨(some 5), .mv (.t 16), none, none, []⟩]))))))
  (.seq (.reg [⟨(some 4), .mv (.v (.bool true)), none, none, []⟩])
  .ret))))⟩
/-- pochoir/pochoirref40.Parse -/
def s19 : SFn :=
 ⟨103, [.tmp 4, .tmp 5],
  (.seq (.reg [⟨(some 4), .mv (.v .nils), none, none, []⟩, ⟨(some 5), .mv (.v (.int .i64 0)), none, none, []⟩])
  (.seq (.seq (.reg [⟨(some 12), .mv (.t 1), none, none, []⟩, ⟨(some 13), .bin .lss (.t 12) (.v (.int .i64 1)), none, none, []⟩, ⟨(some 14), .mv (.t 13), none, none, []⟩, ⟨(some 15), .mv (.t 1), (some (14, false)), none, []⟩, ⟨(some 16), .bin .gtr (.t 15) (.v (.int .i64 1024)), (some (14, false)), none, []⟩, ⟨(some 17), .pick (.t 14) (.v (.bool true)) (.t 16), none, none, []⟩])
  (.cond (.t 17) (.seq (.reg [⟨(some 4), .mv (.v .nils), none, none, []⟩, ⟨(some 5), .mv (.v (.int .i64 1)), none, none, []⟩])
  .ret) .skip))
  (.seq (.seq (.reg [⟨(some 18), .mv (.t 0), none, none, []⟩, ⟨(some 19), .len true (.t 18), none, none, []⟩, ⟨(some 20), .bin .lss (.t 19) (.v (.int .i64 18)), none, none, []⟩])
  (.cond (.t 20) (.seq (.reg [⟨(some 4), .mv (.v .nils), none, none, []⟩, ⟨(some 5), .mv (.v (.int .i64 3)), none, none, []⟩])
  .ret) .skip))
  (.seq (.reg [⟨(some 21), .mv (.t 0), none, none, []⟩, ⟨(some 22), .call 49 [(.t 21), (.v (.int .i64 10))], none, none, []⟩, ⟨(some 6), .mv (.t 22), none, none, []⟩])
  (.seq (.seq (.reg [⟨(some 23), .mv (.t 6), none, none, []⟩, ⟨(some 24), .bin .gtr (.t 23) (.v (.int .i64 4096)), none, none, []⟩])
  (.cond (.t 24) (.seq (.reg [⟨(some 4), .mv (.v .nils), none, none, []⟩, ⟨(some 5), .mv (.v (.int .i64 6)), none, none, []⟩])
  .ret) .skip))
  (.seq (.reg [⟨(some 25), .mv (.t 6), none, none, []⟩, ⟨(some 26), .bin .mul (.v (.int .i64 6)) (.t 25), none, none, []⟩, ⟨(some 27), .bin .add (.v (.int .i64 14)) (.t 26), none, none, []⟩, ⟨(some 28), .mv (.t 6), none, none, []⟩, ⟨(some 29), .bsl 3 [(.int .i64 0), (.int .i64 0), (.int .i64 0), (.int .i64 0), (.int .i64 0), (.int .i64 0)] 6 1 [(0, 1, (.v (.int .i64 0))), (1, 1, (.v (.int .i64 1))), (2, 1, (.v (.int .i64 0))), (3, 1, (.t 27)), (4, 1, (.v (.int .i64 1))), (5, 1, (.t 28))], none, none, []⟩, ⟨(some 7), .mv (.t 29), none, none, []⟩])
  (.seq (.reg [⟨(some 30), .mv (.t 7), none, none, []⟩, ⟨(some 31), .mv (.t 6), none, none, []⟩, ⟨(some 32), .call 38 [(.t 31)], none, none, []⟩, ⟨(some 33), .app 3 1 (.t 30) (.t 32), none, none, []⟩, ⟨(some 7), .mv (.t 33), none, none, []⟩])
  (.seq (.seq (.reg [⟨(some 8), .mv (.v (.int .i64 0)), none, none, []⟩])
  (.block 0 (.loop (.seq (.seq (.reg [⟨(some 34), .mv (.t 8), none, none, []⟩, ⟨(some 35), .bin .lss (.t 34) (.v (.int .i64 9)), none, none, []⟩])
  (.cond (.t 35) .skip (.exit 0)))
  (.seq (.block 1 (.seq (.regd [⟨(some 38), .mv (.t 0), none, (some []), []⟩, ⟨(some 39), .mv (.t 8), none, (some []), []⟩, ⟨(some 40), .bin .mul (.v (.int .i64 2)) (.t 39), none, (some []), []⟩, ⟨(some 41), .call 49 [(.t 38), (.t 40)], none, none, [(none, (.t 7))]⟩, ⟨(some 42), .mv (.t 7), none, (some [3]), []⟩, ⟨(some 43), .mv (.t 8), none, (some [3]), []⟩, ⟨(some 44), .iaddr 1 (.t 42) (.t 43), none, (some [3]), []⟩, ⟨(some 45), .load none (.t 44), none, (some [3]), []⟩, ⟨(some 46), .bin .neq (.t 41) (.t 45), none, (some []), []⟩])
  (.cond (.t 46) (.seq (.reg [⟨(some 4), .mv (.v .nils), none, none, []⟩, ⟨(some 5), .mv (.v (.int .i64 4)), none, none, []⟩])
  .ret) .skip)))
  (.reg [⟨(some 36), .mv (.t 8), none, none, []⟩, ⟨(some 37), .bin .add (.t 36) (.v (.int .i64 1)), none, none, []⟩, ⟨(some 8), .mv (.t 37), none, none, []⟩]))))))
  (.seq (.seq (.reg [⟨(some 47), .mv (.t 0), none, none, []⟩, ⟨(some 48), .len true (.t 47), none, none, []⟩, ⟨(some 49), .mv (.t 6), none, none, []⟩, ⟨(some 50), .bin .mul (.v (.int .i64 6)) (.t 49), none, none, []⟩, ⟨(some 51), .bin .add (.v (.int .i64 18)) (.t 50), none, none, []⟩, ⟨(some 52), .bin .lss (.t 48) (.t 51), none, none, []⟩])
  (.cond (.t 52) (.seq (.reg [⟨(some 4), .mv (.v .nils), none, none, []⟩, ⟨(some 5), .mv (.v (.int .i64 3)), none, none, []⟩])
  .ret) .skip))
  (.seq (.reg [⟨(some 9), .mv (.v .nils), none, none, []⟩])
  (.seq (.seq (.reg [⟨(some 10), .mv (.v (.int .i64 0)), none, none, []⟩])
  (.block 2 (.loop (.seq (.seq (.reg [⟨(some 53), .mv (.t 10), none, none, []⟩, ⟨(some 54), .mv (.t 6), none, none, []⟩, ⟨(some 55), .bin .lss (.t 53) (.t 54), none, none, []⟩])
  (.cond (.t 55) .skip (.exit 2)))
  (.seq (.block 3 (.seq (.reg [⟨(some 58), .mv (.t 0), none, none, []⟩, ⟨(some 59), .mv (.t 10), none, none, []⟩, ⟨(some 60), .bin .mul (.v (.int .i64 6)) (.t 59), none, none, []⟩, ⟨(some 61), .bin .add (.v (.int .i64 18)) (.t 60), none, none, []⟩, ⟨(some 62), .call 49 [(.t 58), (.t 61)], none, none, []⟩, ⟨(some 63), .mv (.t 0), none, none, []⟩, ⟨(some 64), .mv (.t 10), none, none, []⟩, ⟨(some 65), .bin .mul (.v (.int .i64 6)) (.t 64), none, none, []⟩, ⟨(some 66), .bin .add (.v (.int .i64 20)) (.t 65), none, none, []⟩, ⟨(some 67), .call 49 [(.t 63), (.t 66)], none, none, []⟩, ⟨(some 68), .mv (.t 0), none, none, []⟩, ⟨(some 69), .mv (.t 10), none, none, []⟩, ⟨(some 70), .bin .mul (.v (.int .i64 6)) (.t 69), none, none, []⟩, ⟨(some 71), .bin .add (.v (.int .i64 22)) (.t 70), none, none, []⟩, ⟨(some 72), .call 50 [(.t 68), (.t 71)], none, none, []⟩, ⟨(some 73), .build [(.int .i64 0), (.int .i64 0), (.int .i64 0)] [(0, 1, (.t 62)), (1, 1, (.t 67)), (2, 1, (.t 72))], none, none, []⟩, ⟨(some 11), .box 41 (.v (.agg [(.int .i64 0), (.int .i64 0), (.int .i64 0)])), none, none, []⟩, ⟨none, .store 3 (.t 11) (.t 73), none, none, []⟩])
  (.seq (.seq (.regd [⟨(some 74), .faddr 0 (.t 11), none, (some []), []⟩, ⟨(some 75), .load none (.t 74), none, none, []⟩, ⟨(some 76), .mv (.t 1), none, (some []), []⟩, ⟨(some 77), .bin .geq (.t 75) (.t 76), none, (some []), []⟩, ⟨(some 78), .mv (.t 77), none, (some []), []⟩, ⟨(some 79), .faddr 1 (.t 11), (some (78, false)), (some []), []⟩, ⟨(some 80), .load none (.t 79), (some (78, false)), none, []⟩, ⟨(some 81), .mv (.t 1), (some (78, false)), (some []), []⟩, ⟨(some 82), .bin .geq (.t 80) (.t 81), (some (78, false)), (some []), []⟩, ⟨(some 83), .pick (.t 78) (.v (.bool true)) (.t 82), none, (some []), []⟩, ⟨(some 84), .mv (.t 83), none, (some []), []⟩, ⟨(some 85), .mv (.t 10), (some (84, false)), (some []), []⟩, ⟨(some 86), .bin .gtr (.t 85) (.v (.int .i64 0)), (some (84, false)), (some []), []⟩, ⟨(some 87), .mv (.t 86), (some (84, false)), (some []), []⟩, ⟨(some 88), .load (some 3) (.t 11), (some (87, true)), (some []), []⟩, ⟨(some 89), .mv (.t 9), (some (87, true)), (some []), []⟩, ⟨(some 90), .mv (.t 10), (some (87, true)), (some []), []⟩, ⟨(some 91), .bin .sub (.t 90) (.v (.int .i64 1)), (some (87, true)), (some []), []⟩, ⟨(some 92), .iaddr 3 (.t 89) (.t 91), (some (87, true)), (some []), []⟩, ⟨(some 93), .load (some 3) (.t 92), (some (87, true)), (some []), []⟩, ⟨(some 94), .call 41 [(.t 88), (.t 93)], (some (87, true)), none, []⟩, ⟨(some 95), .un .not (.t 94), (some (87, true)), (some []), []⟩, ⟨(some 96), .pick (.t 87) (.t 95) (.v (.bool false)), (some (84, false)), (some []), []⟩, ⟨(some 97), .pick (.t 84) (.v (.bool true)) (.t 96), none, (some []), []⟩])
  (.cond (.t 97) (.seq (.reg [⟨(some 4), .mv (.v .nils), none, none, []⟩, ⟨(some 5), .mv (.v (.int .i64 4)), none, none, []⟩])
  .ret) .skip))
  (.reg [⟨(some 98), .mv (.t 9), none, none, []⟩, ⟨(some 99), .load (some 3) (.t 11), none, none, []⟩, ⟨(some 100), .bsl 41 [(.int .i64 0), (.int .i64 0), (.int .i64 0)] 1 3 [(0, 3, (.t 99))], none, none, []⟩, ⟨(some 101), .app 41 3 (.t 98) (.t 100), none, none, []⟩, ⟨(some 9), .mv (.t 101), none, none, []⟩]))))
  (.reg [⟨(some 56), .mv (.t 10), none, none, []⟩, ⟨(some 57), .bin .add (.t 56) (.v (.int .i64 1)), none, none, []⟩, ⟨(some 10), .mv (.t 57), none, none, []⟩]))))))
  (.seq (.reg [⟨(some 102), .mv (.t 9), none, none, []⟩, ⟨(some 4), .mv (.t 102), none, none, []⟩, ⟨(some 5), .mv (.v (.int .i64 0)), none, none, []⟩])
  .ret))))))))))))⟩
/-- pochoir/pochoirref33.Same -/
def s20 : SFn :=
 ⟨26, [.tmp 4],
  (.seq (.reg [⟨(some 4), .mv (.v (.bool false)), none, none, []⟩])
  (.seq (.seq (.reg [⟨(some 6), .mv (.t 0), none, none, []⟩, ⟨(some 7), .len false (.t 6), none, none, []⟩, ⟨(some 8), .mv (.t 1), none, none, []⟩, ⟨(some 9), .len false (.t 8), none, none, []⟩, ⟨(some 10), .bin .neq (.t 7) (.t 9), none, none, []⟩])
  (.cond (.t 10) (.seq (.reg [⟨(some 4), .mv (.v (.bool false)), none, none, []⟩])
  .ret) .skip))
  (.seq (.seq (.reg [⟨(some 5), .mv (.v (.int .i64 0)), none, none, []⟩])
  (.block 0 (.loop (.seq (.seq (.reg [⟨(some 11), .mv (.t 5), none, none, []⟩, ⟨(some 12), .mv (.t 0), none, none, []⟩, ⟨(some 13), .len false (.t 12), none, none, []⟩, ⟨(some 14), .bin .lss (.t 11) (.t 13), none, none, []⟩])
  (.cond (.t 14) .skip (.exit 0)))
  (.seq (.block 1 (.seq (.regd [⟨(some 17), .mv (.t 0), none, (some []), []⟩, ⟨(some 18), .mv (.t 5), none, (some []), []⟩, ⟨(some 19), .iaddr 3 (.t 17) (.t 18), none, (some []), []⟩, ⟨(some 20), .load (some 3) (.t 19), none, (some []), []⟩, ⟨(some 21), .mv (.t 1), none, (some []), []⟩, ⟨(some 22), .mv (.t 5), none, (some []), []⟩, ⟨(some 23), .iaddr 3 (.t 21) (.t 22), none, (some []), []⟩, ⟨(some 24), .load (some 3) (.t 23), none, (some []), []⟩, ⟨(some 25), .eqs 4 [1, 1, 1] true (.t 20) (.t 24), none, (some []), []⟩])
  (.cond (.t 25) (.seq (.reg [⟨(some 4), .mv (.v (.bool false)), none, none, []⟩])
  .ret) .skip)))
  (.reg [⟨(some 15), .mv (.t 5), none, none, []⟩, ⟨(some 16), .bin .add (.t 15) (.v (.int .i64 1)), none, none, []⟩, ⟨(some 5), .mv (.t 16), none, none, []⟩]))))))
  (.seq (.reg [⟨(some 4), .mv (.v (.bool true)), none, none, []⟩])
  .ret))))⟩
/-- pochoir/kern.Shift -/
def s21 : SFn :=
 ⟨91, [.tmp 4],
  (.seq (.reg [⟨(some 4), .mv (.v .nils), none, none, []⟩])
  (.seq (.reg [⟨(some 13), .mkmap, none, none, []⟩, ⟨(some 5), .mv (.t 13), none, none, []⟩])
  (.seq (.seq (.reg [⟨(some 14), .mv (.t 0), none, none, []⟩, ⟨(some 15), .len false (.t 14), none, none, []⟩, ⟨(some 16), .mv (.v (.int .i64 0)), none, none, []⟩])
  (.block 0 (.loop (.seq (.reg [⟨(some 17), .bin .lss (.t 16) (.t 15), none, none, []⟩])
  (.seq (.cond (.t 17) .skip (.exit 0))
  (.seq (.block 1 (.seq (.reg [⟨(some 18), .iaddr 3 (.t 14) (.t 16), none, none, []⟩, ⟨(some 19), .load (some 3) (.t 18), none, none, []⟩, ⟨(some 7), .box 41 (.v (.agg [(.int .i64 0), (.int .i64 0), (.int .i64 0)])), none, none, []⟩, ⟨none, .store 3 (.t 7) (.t 19), none, none, []⟩])
  (.seq (.reg [⟨(some 21), .mv (.t 5), none, none, []⟩, ⟨(some 22), .faddr 0 (.t 7), none, none, []⟩, ⟨(some 23), .load none (.t 22), none, none, []⟩, ⟨(some 24), .faddr 1 (.t 7), none, none, []⟩, ⟨(some 25), .load none (.t 24), none, none, []⟩, ⟨(some 26), .build [(.int .i64 0), (.int .i64 0)] [(0, 1, (.t 23)), (1, 1, (.t 25))], none, none, []⟩, ⟨(some 27), .lookup [1, 1] (.int .i64 0) true (.t 21) (.t 26), none, none, []⟩, ⟨(some 20), .mv (.t 27), none, none, []⟩, ⟨(some 28), .extract (.t 20) 0, none, none, []⟩, ⟨(some 29), .extract (.t 20) 1, none, none, []⟩, ⟨(some 8), .mv (.t 28), none, none, []⟩, ⟨(some 9), .mv (.t 29), none, none, []⟩])
  (.seq (.reg [⟨(some 30), .mv (.t 9), none, none, []⟩, ⟨(some 31), .un .not (.t 30), none, none, []⟩])
  (.cond (.t 31) (.reg [⟨(some 32), .mv (.t 5), none, none, []⟩, ⟨(some 33), .faddr 0 (.t 7), none, none, []⟩, ⟨(some 34), .load none (.t 33), none, none, []⟩, ⟨(some 35), .faddr 1 (.t 7), none, none, []⟩, ⟨(some 36), .load none (.t 35), none, none, []⟩, ⟨(some 37), .build [(.int .i64 0), (.int .i64 0)] [(0, 1, (.t 34)), (1, 1, (.t 36))], none, none, []⟩, ⟨(some 38), .faddr 2 (.t 7), none, none, []⟩, ⟨(some 39), .load none (.t 38), none, none, []⟩, ⟨none, .mapup [1, 1] (.t 32) (.t 37) (.t 39), none, none, []⟩]) .skip)))))
  (.reg [⟨(some 40), .bin .add (.t 16) (.v (.int .i64 1)), none, none, []⟩, ⟨(some 16), .mv (.t 40), none, none, []⟩])))))))
  (.seq (.reg [⟨(some 41), .mv (.t 1), none, none, []⟩, ⟨(some 42), .call 51 [(.t 41)], none, none, []⟩, ⟨(some 10), .mv (.t 42), none, none, []⟩])
  (.seq (.reg [⟨(some 11), .mv (.v (.int .i64 0)), none, none, []⟩])
  (.seq (.seq (.reg [⟨(some 43), .mv (.t 10), none, none, []⟩, ⟨(some 44), .len false (.t 43), none, none, []⟩, ⟨(some 45), .mv (.v (.int .i64 0)), none, none, []⟩])
  (.block 2 (.loop (.seq (.reg [⟨(some 46), .bin .lss (.t 45) (.t 44), none, none, []⟩])
  (.seq (.cond (.t 46) .skip (.exit 2))
  (.seq (.block 3 (.seq (.reg [⟨(some 47), .mv (.t 45), none, none, []⟩, ⟨(some 12), .mv (.t 47), none, none, []⟩])
  (.seq (.seq (.regd [⟨(some 48), .mv (.t 12), none, (some []), []⟩, ⟨(some 49), .bin .gtr (.t 48) (.v (.int .i64 0)), none, (some []), []⟩, ⟨(some 50), .mv (.t 49), none, (some []), []⟩, ⟨(some 51), .mv (.t 1), (some (50, true)), (some []), []⟩, ⟨(some 52), .mv (.t 12), (some (50, true)), (some []), []⟩, ⟨(some 53), .bin .sub (.t 52) (.v (.int .i64 1)), (some (50, true)), (some []), []⟩, ⟨(some 54), .iaddr 3 (.t 51) (.t 53), (some (50, true)), (some []), []⟩, ⟨(some 55), .faddr 2 (.t 54), (some (50, true)), (some []), []⟩, ⟨(some 56), .load none (.t 55), (some (50, true)), (some []), []⟩, ⟨(some 57), .mv (.t 1), (some (50, true)), (some []), []⟩, ⟨(some 58), .mv (.t 12), (some (50, true)), (some []), []⟩, ⟨(some 59), .iaddr 3 (.t 57) (.t 58), (some (50, true)), (some []), []⟩, ⟨(some 60), .faddr 2 (.t 59), (some (50, true)), (some []), []⟩, ⟨(some 61), .load none (.t 60), (some (50, true)), (some []), []⟩, ⟨(some 62), .bin .eql (.t 56) (.t 61), (some (50, true)), (some []), []⟩, ⟨(some 63), .pick (.t 50) (.t 62) (.v (.bool false)), none, (some []), []⟩])
  (.cond (.t 63) (.regd [⟨(some 64), .mv (.t 11), none, (some []), []⟩, ⟨(some 65), .mv (.t 5), none, (some []), []⟩, ⟨(some 66), .mv (.t 1), none, (some []), []⟩, ⟨(some 67), .mv (.t 12), none, (some []), []⟩, ⟨(some 68), .bin .sub (.t 67) (.v (.int .i64 1)), none, (some []), []⟩, ⟨(some 69), .iaddr 3 (.t 66) (.t 68), none, (some []), []⟩, ⟨(some 70), .faddr 0 (.t 69), none, (some []), []⟩, ⟨(some 71), .load none (.t 70), none, (some []), []⟩, ⟨(some 72), .mv (.t 1), none, (some []), []⟩, ⟨(some 73), .mv (.t 12), none, (some []), []⟩, ⟨(some 74), .iaddr 3 (.t 72) (.t 73), none, (some []), []⟩, ⟨(some 75), .faddr 0 (.t 74), none, (some []), []⟩, ⟨(some 76), .load none (.t 75), none, (some []), []⟩, ⟨(some 77), .build [(.int .i64 0), (.int .i64 0)] [(0, 1, (.t 71)), (1, 1, (.t 76))], none, (some []), []⟩, ⟨(some 78), .lookup [1, 1] (.int .i64 0) false (.t 65) (.t 77), none, none, []⟩, ⟨(some 79), .bin .add (.t 64) (.t 78), none, (some []), []⟩, ⟨(some 11), .mv (.t 79), none, (some []), []⟩]) (.reg [⟨(some 11), .mv (.v (.int .i64 0)), none, none, []⟩])))
  (.reg [⟨(some 80), .mv (.t 10), none, none, []⟩, ⟨(some 81), .mv (.t 12), none, none, []⟩, ⟨(some 82), .iaddr 3 (.t 80) (.t 81), none, none, []⟩, ⟨(some 83), .faddr 1 (.t 82), none, none, []⟩, ⟨(some 84), .load none (.t 83), none, none, []⟩, ⟨(some 85), .mv (.t 11), none, none, []⟩, ⟨(some 86), .bin .add (.t 84) (.t 85), none, none, []⟩, ⟨(some 87), .iaddr 3 (.t 80) (.t 81), none, none, []⟩, ⟨(some 88), .faddr 1 (.t 87), none, none, []⟩, ⟨none, .store 1 (.t 88) (.t 86), none, none, []⟩]))))
  (.reg [⟨(some 89), .bin .add (.t 45) (.v (.int .i64 1)), none, none, []⟩, ⟨(some 45), .mv (.t 89), none, none, []⟩])))))))
  (.seq (.reg [⟨(some 90), .mv (.t 10), none, none, []⟩, ⟨(some 4), .mv (.t 90), none, none, []⟩])
  .ret)))))))⟩
/-- pochoir/pochoirref40.Shift -/
def s22 : SFn :=
 ⟨54, [.tmp 4],
  (.seq (.reg [⟨(some 4), .mv (.v .nils), none, none, []⟩])
  (.seq (.reg [⟨(some 5), .mv (.v .nils), none, none, []⟩])
  (.seq (.reg [⟨(some 6), .mv (.v (.int .i64 0)), none, none, []⟩])
  (.seq (.seq (.reg [⟨(some 7), .mv (.v (.int .i64 0)), none, none, []⟩])
  (.block 0 (.loop (.seq (.seq (.reg [⟨(some 9), .mv (.t 7), none, none, []⟩, ⟨(some 10), .mv (.t 1), none, none, []⟩, ⟨(some 11), .len false (.t 10), none, none, []⟩, ⟨(some 12), .bin .lss (.t 9) (.t 11), none, none, []⟩])
  (.cond (.t 12) .skip (.exit 0)))
  (.seq (.block 1 (.seq (.reg [⟨(some 15), .mv (.t 1), none, none, []⟩, ⟨(some 16), .mv (.t 7), none, none, []⟩, ⟨(some 17), .iaddr 3 (.t 15) (.t 16), none, none, []⟩, ⟨(some 18), .load (some 3) (.t 17), none, none, []⟩, ⟨(some 8), .box 43 (.v (.agg [(.int .i64 0), (.int .i64 0), (.int .i64 0)])), none, none, []⟩, ⟨none, .store 3 (.t 8) (.t 18), none, none, []⟩])
  (.seq (.seq (.regd [⟨(some 19), .mv (.t 7), none, (some []), []⟩, ⟨(some 20), .bin .gtr (.t 19) (.v (.int .i64 0)), none, (some []), []⟩, ⟨(some 21), .mv (.t 20), none, (some []), []⟩, ⟨(some 22), .mv (.t 1), (some (21, true)), (some []), []⟩, ⟨(some 23), .mv (.t 7), (some (21, true)), (some []), []⟩, ⟨(some 24), .bin .sub (.t 23) (.v (.int .i64 1)), (some (21, true)), (some []), []⟩, ⟨(some 25), .iaddr 3 (.t 22) (.t 24), (some (21, true)), (some []), []⟩, ⟨(some 26), .faddr 2 (.t 25), (some (21, true)), (some []), []⟩, ⟨(some 27), .load none (.t 26), (some (21, true)), (some []), []⟩, ⟨(some 28), .faddr 2 (.t 8), (some (21, true)), (some []), []⟩, ⟨(some 29), .load none (.t 28), (some (21, true)), (some []), []⟩, ⟨(some 30), .bin .eql (.t 27) (.t 29), (some (21, true)), (some []), []⟩, ⟨(some 31), .pick (.t 21) (.t 30) (.v (.bool false)), none, (some []), []⟩])
  (.cond (.t 31) (.regd [⟨(some 32), .mv (.t 6), none, (some []), []⟩, ⟨(some 33), .mv (.t 0), none, (some []), []⟩, ⟨(some 34), .mv (.t 1), none, (some []), []⟩, ⟨(some 35), .mv (.t 7), none, (some []), []⟩, ⟨(some 36), .bin .sub (.t 35) (.v (.int .i64 1)), none, (some []), []⟩, ⟨(some 37), .iaddr 3 (.t 34) (.t 36), none, (some []), []⟩, ⟨(some 38), .faddr 0 (.t 37), none, (some []), []⟩, ⟨(some 39), .load none (.t 38), none, (some []), []⟩, ⟨(some 40), .faddr 0 (.t 8), none, (some []), []⟩, ⟨(some 41), .load none (.t 40), none, (some []), []⟩, ⟨(some 42), .call 16 [(.t 33), (.t 39), (.t 41)], none, none, []⟩, ⟨(some 43), .bin .add (.t 32) (.t 42), none, (some []), []⟩, ⟨(some 6), .mv (.t 43), none, (some []), []⟩]) (.reg [⟨(some 6), .mv (.v (.int .i64 0)), none, none, []⟩])))
  (.seq (.reg [⟨(some 44), .faddr 1 (.t 8), none, none, []⟩, ⟨(some 45), .load none (.t 44), none, none, []⟩, ⟨(some 46), .mv (.t 6), none, none, []⟩, ⟨(some 47), .bin .add (.t 45) (.t 46), none, none, []⟩, ⟨(some 48), .faddr 1 (.t 8), none, none, []⟩, ⟨none, .store 1 (.t 48) (.t 47), none, none, []⟩])
  (.reg [⟨(some 49), .mv (.t 5), none, none, []⟩, ⟨(some 50), .load (some 3) (.t 8), none, none, []⟩, ⟨(some 51), .bsl 43 [(.int .i64 0), (.int .i64 0), (.int .i64 0)] 1 3 [(0, 3, (.t 50))], none, none, []⟩, ⟨(some 52), .app 43 3 (.t 49) (.t 51), none, none, []⟩, ⟨(some 5), .mv (.t 52), none, none, []⟩])))))
  (.reg [⟨(some 13), .mv (.t 7), none, none, []⟩, ⟨(some 14), .bin .add (.t 13) (.v (.int .i64 1)), none, none, []⟩, ⟨(some 7), .mv (.t 14), none, none, []⟩]))))))
  (.seq (.reg [⟨(some 53), .mv (.t 5), none, none, []⟩, ⟨(some 4), .mv (.t 53), none, none, []⟩])
  .ret)))))⟩
/-- pochoir/pochoirlaw30.awake -/
def s23 : SFn :=
 ⟨69, [.tmp 0],
  (.seq (.reg [⟨(some 0), .mv (.v (.bool false)), none, none, []⟩])
  (.seq (.reg [⟨(some 10), .build [(.int .i64 0), (.int .i64 0)] [(0, 1, (.v (.int .i64 2))), (1, 1, (.v (.int .i64 1)))], none, none, []⟩, ⟨(some 11), .build [(.int .i64 0), (.int .i64 0), (.int .i64 0), (.int .i64 0)] [(0, 1, (.v (.int .i64 (-1)))), (2, 1, (.v (.int .i64 1))), (3, 1, (.v (.int .i64 1)))], none, none, []⟩, ⟨(some 12), .build [(.int .i64 0), (.int .i64 0), (.int .i64 0)] [(1, 1, (.v (.int .i64 1)))], none, none, []⟩, ⟨(some 13), .build [(.int .i64 0), (.int .i64 0), (.int .i64 0), (.int .i64 0), (.int .i64 0), (.int .i64 0), (.int .i64 0), (.int .i64 0)] [(0, 1, (.v (.int .i64 7))), (1, 4, (.t 11)), (5, 3, (.t 12))], none, none, []⟩, ⟨(some 14), .bsl 107 [(.int .i64 0), (.int .i64 0), (.int .i64 0), (.int .i64 0), (.int .i64 0), (.int .i64 0), (.int .i64 0), (.int .i64 0)] 1 8 [(0, 8, (.t 13))], none, none, []⟩, ⟨(some 15), .bsl 9 [(.str ⟨#[]⟩)] 1 1 [(0, 1, (.v (.str ⟨#[97, 98, 99, 100, 101, 102, 103, 104]⟩)))], none, none, []⟩, ⟨(some 16), .build [(.int .i64 0), (.int .i64 0), (.int .i64 0), (.int .i64 0), (.int .i64 0), (.int .i64 0), (.int .i64 0), (.int .i64 0), .nils, .nils, .nils] [(0, 1, (.v (.int .i64 16))), (1, 1, (.v (.int .i64 1))), (2, 1, (.v (.int .i64 1))), (6, 2, (.t 10)), (8, 1, (.t 14)), (10, 1, (.t 15))], none, none, []⟩, ⟨(some 1), .box 53 (.v (.agg [(.int .i64 0), (.int .i64 0), (.int .i64 0), (.int .i64 0), (.int .i64 0), (.int .i64 0), (.int .i64 0), (.int .i64 0), .nils, .nils, .nils])), none, none, []⟩, ⟨none, .store 11 (.t 1) (.t 16), none, none, []⟩])
  (.seq (.reg [⟨(some 18), .load (some 11) (.t 1), none, none, []⟩, ⟨(some 19), .call 25 [(.t 18)], none, none, []⟩, ⟨(some 17), .mv (.t 19), none, none, []⟩, ⟨(some 20), .extract (.t 17) 0, none, none, []⟩, ⟨(some 21), .extract (.t 17) 1, none, none, []⟩, ⟨(some 2), .mv (.t 20), none, none, []⟩, ⟨(some 3), .mv (.t 21), none, none, []⟩])
  (.seq (.reg [⟨(some 23), .mv (.t 2), none, none, []⟩, ⟨(some 24), .call 28 [(.t 23)], none, none, []⟩, ⟨(some 22), .mv (.t 24), none, none, []⟩, ⟨(some 25), .extract (.t 22) 0, none, none, []⟩, ⟨(some 26), .extract (.t 22) 1, none, none, []⟩, ⟨(some 4), .box 53 (.v (.agg [(.int .i64 0), (.int .i64 0), (.int .i64 0), (.int .i64 0), (.int .i64 0), (.int .i64 0), (.int .i64 0), (.int .i64 0), .nils, .nils, .nils])), none, none, []⟩, ⟨none, .store 11 (.t 4) (.t 25), none, none, []⟩, ⟨(some 5), .mv (.t 26), none, none, []⟩])
  (.seq (.reg [⟨(some 28), .load (some 11) (.t 1), none, none, []⟩, ⟨(some 29), .call 32 [(.t 28), (.v (.int .i64 0)), (.v (.int .i64 1)), (.v (.int .i64 0))], none, none, []⟩, ⟨(some 27), .mv (.t 29), none, none, []⟩, ⟨(some 30), .extract (.t 27) 0, none, none, []⟩, ⟨(some 31), .extract (.t 27) 1, none, none, []⟩, ⟨(some 6), .box 67 (.v (.agg [(.int .u8 0), (.int .u8 0), (.int .u8 0), (.int .u8 0)])), none, none, []⟩, ⟨none, .store 4 (.t 6) (.t 30), none, none, []⟩, ⟨(some 7), .mv (.t 31), none, none, []⟩])
  (.seq (.reg [⟨(some 33), .call 28 [(.v (.str ⟨#[]⟩))], none, none, []⟩, ⟨(some 32), .mv (.t 33), none, none, []⟩, ⟨(some 34), .extract (.t 32) 0, none, none, []⟩, ⟨(some 35), .extract (.t 32) 1, none, none, []⟩, ⟨(some 8), .box 53 (.v (.agg [(.int .i64 0), (.int .i64 0), (.int .i64 0), (.int .i64 0), (.int .i64 0), (.int .i64 0), (.int .i64 0), (.int .i64 0), .nils, .nils, .nils])), none, none, []⟩, ⟨none, .store 11 (.t 8) (.t 34), none, none, []⟩, ⟨(some 9), .mv (.t 35), none, none, []⟩])
  (.seq (.reg [⟨(some 36), .mv (.t 3), none, none, []⟩, ⟨(some 37), .bin .eql (.t 36) (.v (.int .i64 0)), none, none, []⟩, ⟨(some 38), .mv (.t 37), none, none, []⟩, ⟨(some 39), .mv (.t 2), (some (38, true)), none, []⟩, ⟨(some 40), .len true (.t 39), (some (38, true)), none, []⟩, ⟨(some 41), .bin .eql (.t 40) (.v (.int .i64 62)), (some (38, true)), none, []⟩, ⟨(some 42), .pick (.t 38) (.t 41) (.v (.bool false)), none, none, []⟩, ⟨(some 43), .mv (.t 42), none, none, []⟩, ⟨(some 44), .mv (.t 5), (some (43, true)), none, []⟩, ⟨(some 45), .bin .eql (.t 44) (.v (.int .i64 0)), (some (43, true)), none, []⟩, ⟨(some 46), .pick (.t 43) (.t 45) (.v (.bool false)), none, none, []⟩, ⟨(some 47), .mv (.t 46), none, none, []⟩, ⟨(some 48), .load (some 11) (.t 1), (some (47, true)), none, []⟩, ⟨(some 49), .load (some 11) (.t 4), (some (47, true)), none, []⟩, ⟨(some 50), .call 30 [(.t 48), (.t 49)], (some (47, true)), none, []⟩, ⟨(some 51), .pick (.t 47) (.t 50) (.v (.bool false)), none, none, []⟩, ⟨(some 52), .mv (.t 51), none, none, []⟩, ⟨(some 53), .load (some 4) (.t 6), (some (52, true)), none, []⟩, ⟨(some 54), .build [(.int .u8 0), (.int .u8 0), (.int .u8 0), (.int .u8 0)] [(0, 1, (.v (.int .u8 101))), (1, 1, (.v (.int .u8 102))), (2, 1, (.v (.int .u8 103))), (3, 1, (.v (.int .u8 104)))], (some (52, true)), none, []⟩, ⟨(some 55), .eqs 4 [1, 1, 1, 1] false (.t 53) (.t 54), (some (52, true)), none, []⟩, ⟨(some 56), .pick (.t 52) (.t 55) (.v (.bool false)), none, none, []⟩, ⟨(some 57), .mv (.t 56), none, none, []⟩, ⟨(some 58), .mv (.t 7), (some (57, true)), none, []⟩, ⟨(some 59), .bin .eql (.t 58) (.v (.int .i64 0)), (some (57, true)), none, []⟩, ⟨(some 60), .pick (.t 57) (.t 59) (.v (.bool false)), none, none, []⟩, ⟨(some 61), .mv (.t 60), none, none, []⟩, ⟨(some 62), .mv (.t 9), (some (61, true)), none, []⟩, ⟨(some 63), .bin .eql (.t 62) (.v (.int .i64 3)), (some (61, true)), none, []⟩, ⟨(some 64), .pick (.t 61) (.t 63) (.v (.bool false)), none, none, []⟩, ⟨(some 65), .mv (.t 64), none, none, []⟩, ⟨(some 66), .load (some 11) (.t 1), (some (65, true)), none, []⟩, ⟨(some 67), .call 26 [(.t 66)], (some (65, true)), none, []⟩, ⟨(some 68), .pick (.t 65) (.t 67) (.v (.bool false)), none, none, []⟩, ⟨(some 0), .mv (.t 68), none, none, []⟩])
  .ret)))))))⟩
/-- pochoir/pochoirlaw30.Few -/
def s24 : SFn :=
 ⟨32, [.tmp 2],
  (.seq (.reg [⟨(some 1), .box 53 (.t 0), none, none, []⟩, ⟨(some 2), .mv (.v (.bool false)), none, none, []⟩])
  (.seq (.seq (.reg [⟨(some 5), .faddr 10 (.t 1), none, none, []⟩, ⟨(some 6), .load none (.t 5), none, none, []⟩, ⟨(some 7), .len false (.t 6), none, none, []⟩, ⟨(some 8), .mv (.v (.int .i64 0)), none, none, []⟩])
  (.block 0 (.loop (.seq (.reg [⟨(some 9), .bin .lss (.t 8) (.t 7), none, none, []⟩])
  (.seq (.cond (.t 9) .skip (.exit 0))
  (.seq (.block 1 (.seq (.reg [⟨(some 10), .iaddr 1 (.t 6) (.t 8), none, none, []⟩, ⟨(some 11), .load none (.t 10), none, none, []⟩, ⟨(some 4), .mv (.t 11), none, none, []⟩])
  (.seq (.reg [⟨(some 12), .mv (.t 4), none, none, []⟩, ⟨(some 13), .len true (.t 12), none, none, []⟩, ⟨(some 14), .bin .gtr (.t 13) (.v (.int .i64 2000)), none, none, []⟩])
  (.cond (.t 14) (.seq (.reg [⟨(some 2), .mv (.v (.bool false)), none, none, []⟩])
  .ret) .skip))))
  (.reg [⟨(some 15), .bin .add (.t 8) (.v (.int .i64 1)), none, none, []⟩, ⟨(some 8), .mv (.t 15), none, none, []⟩])))))))
  (.seq (.reg [⟨(some 16), .faddr 8 (.t 1), none, none, []⟩, ⟨(some 17), .load none (.t 16), none, none, []⟩, ⟨(some 18), .len false (.t 17), none, none, []⟩, ⟨(some 19), .bin .leq (.t 18) (.v (.int .i64 10)), none, none, []⟩, ⟨(some 20), .mv (.t 19), none, none, []⟩, ⟨(some 21), .faddr 9 (.t 1), (some (20, true)), none, []⟩, ⟨(some 22), .load none (.t 21), (some (20, true)), none, []⟩, ⟨(some 23), .len false (.t 22), (some (20, true)), none, []⟩, ⟨(some 24), .bin .leq (.t 23) (.v (.int .i64 20)), (some (20, true)), none, []⟩, ⟨(some 25), .pick (.t 20) (.t 24) (.v (.bool false)), none, none, []⟩, ⟨(some 26), .mv (.t 25), none, none, []⟩, ⟨(some 27), .faddr 10 (.t 1), (some (26, true)), none, []⟩, ⟨(some 28), .load none (.t 27), (some (26, true)), none, []⟩, ⟨(some 29), .len false (.t 28), (some (26, true)), none, []⟩, ⟨(some 30), .bin .leq (.t 29) (.v (.int .i64 4)), (some (26, true)), none, []⟩, ⟨(some 31), .pick (.t 26) (.t 30) (.v (.bool false)), none, none, []⟩, ⟨(some 2), .mv (.t 31), none, none, []⟩])
  .ret)))⟩
/-- pochoir/atlas.Encode -/
def s25 : SFn :=
 ⟨138, [.tmp 2, .tmp 3],
  (.seq (.reg [⟨(some 1), .box 53 (.t 0), none, none, []⟩, ⟨(some 2), .mv (.v (.str ⟨#[]⟩)), none, none, []⟩, ⟨(some 3), .mv (.v (.int .i64 0)), none, none, []⟩])
  (.seq (.seq (.reg [⟨(some 11), .load (some 11) (.t 1), none, none, []⟩, ⟨(some 12), .call 26 [(.t 11)], none, none, []⟩, ⟨(some 13), .un .not (.t 12), none, none, []⟩])
  (.cond (.t 13) (.seq (.reg [⟨(some 2), .mv (.v (.str ⟨#[]⟩)), none, none, []⟩, ⟨(some 3), .mv (.v (.int .i64 1)), none, none, []⟩])
  .ret) .skip))
  (.seq (.reg [⟨(some 14), .build [.nilp, .nils] [], none, none, []⟩, ⟨(some 15), .box 110 (.t 14), none, none, []⟩, ⟨(some 4), .mv (.t 15), none, none, []⟩])
  (.seq (.reg [⟨(some 16), .mv (.t 4), none, none, []⟩, ⟨(some 17), .nilck (.t 16), none, none, []⟩, ⟨(some 18), .faddr 0 (.t 17), none, none, []⟩, ⟨(some 19), .call 34 [(.t 18), (.v (.str ⟨#[80, 79, 67, 72, 0, 1]⟩))], none, none, []⟩])
  (.seq (.reg [⟨(some 20), .mv (.t 4), none, none, []⟩, ⟨(some 21), .faddr 0 (.t 1), none, none, []⟩, ⟨(some 22), .load none (.t 21), none, none, []⟩, ⟨(some 23), .faddr 1 (.t 1), none, none, []⟩, ⟨(some 24), .load none (.t 23), none, none, []⟩, ⟨(some 25), .faddr 2 (.t 1), none, none, []⟩, ⟨(some 26), .load none (.t 25), none, none, []⟩, ⟨(some 27), .faddr 3 (.t 1), none, none, []⟩, ⟨(some 28), .load none (.t 27), none, none, []⟩, ⟨(some 29), .faddr 4 (.t 1), none, none, []⟩, ⟨(some 30), .load none (.t 29), none, none, []⟩, ⟨(some 31), .faddr 5 (.t 1), none, none, []⟩, ⟨(some 32), .load none (.t 31), none, none, []⟩, ⟨(some 33), .faddr 6 (.t 1), none, none, []⟩, ⟨(some 34), .faddr 0 (.t 33), none, none, []⟩, ⟨(some 35), .load none (.t 34), none, none, []⟩, ⟨(some 36), .faddr 6 (.t 1), none, none, []⟩, ⟨(some 37), .faddr 1 (.t 36), none, none, []⟩, ⟨(some 38), .load none (.t 37), none, none, []⟩, ⟨(some 39), .faddr 10 (.t 1), none, none, []⟩, ⟨(some 40), .load none (.t 39), none, none, []⟩, ⟨(some 41), .len false (.t 40), none, none, []⟩, ⟨(some 42), .faddr 8 (.t 1), none, none, []⟩, ⟨(some 43), .load none (.t 42), none, none, []⟩, ⟨(some 44), .len false (.t 43), none, none, []⟩, ⟨(some 45), .bsl 3 [(.int .i64 0), (.int .i64 0), (.int .i64 0), (.int .i64 0), (.int .i64 0), (.int .i64 0), (.int .i64 0), (.int .i64 0), (.int .i64 0), (.int .i64 0)] 10 1 [(0, 1, (.t 22)), (1, 1, (.t 24)), (2, 1, (.t 26)), (3, 1, (.t 28)), (4, 1, (.t 30)), (5, 1, (.t 32)), (6, 1, (.t 35)), (7, 1, (.t 38)), (8, 1, (.t 41)), (9, 1, (.t 44))], none, none, []⟩, ⟨(some 46), .call 52 [(.t 20), (.t 45)], none, none, []⟩])
  (.seq (.reg [⟨(some 47), .mv (.t 4), none, none, []⟩, ⟨(some 48), .faddr 9 (.t 1), none, none, []⟩, ⟨(some 49), .load none (.t 48), none, none, []⟩, ⟨(some 50), .len false (.t 49), none, none, []⟩, ⟨(some 51), .bsl 3 [(.int .i64 0)] 1 1 [(0, 1, (.t 50))], none, none, []⟩, ⟨(some 52), .call 53 [(.t 47), (.t 51)], none, none, []⟩])
  (.seq (.seq (.reg [⟨(some 53), .faddr 8 (.t 1), none, none, []⟩, ⟨(some 54), .load none (.t 53), none, none, []⟩, ⟨(some 55), .len false (.t 54), none, none, []⟩, ⟨(some 56), .mv (.v (.int .i64 0)), none, none, []⟩])
  (.block 0 (.loop (.seq (.reg [⟨(some 57), .bin .lss (.t 56) (.t 55), none, none, []⟩])
  (.seq (.cond (.t 57) .skip (.exit 0))
  (.seq (.block 1 (.seq (.reg [⟨(some 58), .iaddr 8 (.t 54) (.t 56), none, none, []⟩, ⟨(some 59), .load (some 8) (.t 58), none, none, []⟩, ⟨(some 6), .box 107 (.v (.agg [(.int .i64 0), (.int .i64 0), (.int .i64 0), (.int .i64 0), (.int .i64 0), (.int .i64 0), (.int .i64 0), (.int .i64 0)])), none, none, []⟩, ⟨none, .store 8 (.t 6) (.t 59), none, none, []⟩])
  (.seq (.reg [⟨(some 60), .mv (.t 4), none, none, []⟩, ⟨(some 61), .faddr 0 (.t 6), none, none, []⟩, ⟨(some 62), .load none (.t 61), none, none, []⟩, ⟨(some 63), .bsl 3 [(.int .i64 0)] 1 1 [(0, 1, (.t 62))], none, none, []⟩, ⟨(some 64), .call 52 [(.t 60), (.t 63)], none, none, []⟩])
  (.seq (.reg [⟨(some 65), .mv (.t 4), none, none, []⟩, ⟨(some 66), .faddr 1 (.t 6), none, none, []⟩, ⟨(some 67), .faddr 0 (.t 66), none, none, []⟩, ⟨(some 68), .load none (.t 67), none, none, []⟩, ⟨(some 69), .faddr 1 (.t 6), none, none, []⟩, ⟨(some 70), .faddr 1 (.t 69), none, none, []⟩, ⟨(some 71), .load none (.t 70), none, none, []⟩, ⟨(some 72), .bsl 3 [(.int .i64 0), (.int .i64 0)] 2 1 [(0, 1, (.t 68)), (1, 1, (.t 71))], none, none, []⟩, ⟨(some 73), .call 53 [(.t 65), (.t 72)], none, none, []⟩])
  (.reg [⟨(some 74), .mv (.t 4), none, none, []⟩, ⟨(some 75), .faddr 1 (.t 6), none, none, []⟩, ⟨(some 76), .faddr 2 (.t 75), none, none, []⟩, ⟨(some 77), .load none (.t 76), none, none, []⟩, ⟨(some 78), .faddr 1 (.t 6), none, none, []⟩, ⟨(some 79), .faddr 3 (.t 78), none, none, []⟩, ⟨(some 80), .load none (.t 79), none, none, []⟩, ⟨(some 81), .faddr 5 (.t 6), none, none, []⟩, ⟨(some 82), .faddr 0 (.t 81), none, none, []⟩, ⟨(some 83), .load none (.t 82), none, none, []⟩, ⟨(some 84), .faddr 5 (.t 6), none, none, []⟩, ⟨(some 85), .faddr 1 (.t 84), none, none, []⟩, ⟨(some 86), .load none (.t 85), none, none, []⟩, ⟨(some 87), .faddr 5 (.t 6), none, none, []⟩, ⟨(some 88), .faddr 2 (.t 87), none, none, []⟩, ⟨(some 89), .load none (.t 88), none, none, []⟩, ⟨(some 90), .bsl 3 [(.int .i64 0), (.int .i64 0), (.int .i64 0), (.int .i64 0), (.int .i64 0)] 5 1 [(0, 1, (.t 77)), (1, 1, (.t 80)), (2, 1, (.t 83)), (3, 1, (.t 86)), (4, 1, (.t 89))], none, none, []⟩, ⟨(some 91), .call 52 [(.t 74), (.t 90)], none, none, []⟩])))))
  (.reg [⟨(some 92), .bin .add (.t 56) (.v (.int .i64 1)), none, none, []⟩, ⟨(some 56), .mv (.t 92), none, none, []⟩])))))))
  (.seq (.seq (.reg [⟨(some 93), .faddr 9 (.t 1), none, none, []⟩, ⟨(some 94), .load none (.t 93), none, none, []⟩, ⟨(some 95), .len false (.t 94), none, none, []⟩, ⟨(some 96), .mv (.v (.int .i64 0)), none, none, []⟩])
  (.block 2 (.loop (.seq (.reg [⟨(some 97), .bin .lss (.t 96) (.t 95), none, none, []⟩])
  (.seq (.cond (.t 97) .skip (.exit 2))
  (.seq (.block 3 (.seq (.reg [⟨(some 98), .iaddr 2 (.t 94) (.t 96), none, none, []⟩, ⟨(some 99), .load (some 2) (.t 98), none, none, []⟩, ⟨(some 8), .box 113 (.v (.agg [(.int .i64 0), (.int .i64 0)])), none, none, []⟩, ⟨none, .store 2 (.t 8) (.t 99), none, none, []⟩])
  (.seq (.reg [⟨(some 100), .mv (.t 4), none, none, []⟩, ⟨(some 101), .faddr 0 (.t 8), none, none, []⟩, ⟨(some 102), .load none (.t 101), none, none, []⟩, ⟨(some 103), .bsl 3 [(.int .i64 0)] 1 1 [(0, 1, (.t 102))], none, none, []⟩, ⟨(some 104), .call 53 [(.t 100), (.t 103)], none, none, []⟩])
  (.reg [⟨(some 105), .mv (.t 4), none, none, []⟩, ⟨(some 106), .faddr 1 (.t 8), none, none, []⟩, ⟨(some 107), .load none (.t 106), none, none, []⟩, ⟨(some 108), .bsl 3 [(.int .i64 0)] 1 1 [(0, 1, (.t 107))], none, none, []⟩, ⟨(some 109), .call 52 [(.t 105), (.t 108)], none, none, []⟩]))))
  (.reg [⟨(some 110), .bin .add (.t 96) (.v (.int .i64 1)), none, none, []⟩, ⟨(some 96), .mv (.t 110), none, none, []⟩])))))))
  (.seq (.seq (.reg [⟨(some 111), .faddr 10 (.t 1), none, none, []⟩, ⟨(some 112), .load none (.t 111), none, none, []⟩, ⟨(some 113), .len false (.t 112), none, none, []⟩, ⟨(some 114), .mv (.v (.int .i64 0)), none, none, []⟩])
  (.block 4 (.loop (.seq (.reg [⟨(some 115), .bin .lss (.t 114) (.t 113), none, none, []⟩])
  (.seq (.cond (.t 115) .skip (.exit 4))
  (.seq (.block 5 (.seq (.reg [⟨(some 116), .iaddr 1 (.t 112) (.t 114), none, none, []⟩, ⟨(some 117), .load none (.t 116), none, none, []⟩, ⟨(some 10), .mv (.t 117), none, none, []⟩])
  (.reg [⟨(some 118), .mv (.t 4), none, none, []⟩, ⟨(some 119), .nilck (.t 118), none, none, []⟩, ⟨(some 120), .faddr 0 (.t 119), none, none, []⟩, ⟨(some 121), .mv (.t 10), none, none, []⟩, ⟨(some 122), .call 34 [(.t 120), (.t 121)], none, none, []⟩])))
  (.reg [⟨(some 123), .bin .add (.t 114) (.v (.int .i64 1)), none, none, []⟩, ⟨(some 114), .mv (.t 123), none, none, []⟩])))))))
  (.seq (.regd [⟨(some 124), .mv (.t 4), none, (some []), []⟩, ⟨(some 125), .nilck (.t 124), none, (some []), []⟩, ⟨(some 126), .faddr 0 (.t 125), none, (some []), []⟩, ⟨(some 127), .mv (.t 4), none, (some []), []⟩, ⟨(some 128), .nilck (.t 127), none, (some []), []⟩, ⟨(some 129), .faddr 0 (.t 128), none, (some []), []⟩, ⟨(some 130), .call 37 [(.t 129)], none, none, []⟩, ⟨(some 131), .call 55 [(.t 130)], none, none, []⟩, ⟨(some 132), .call 54 [(.t 131)], none, none, []⟩, ⟨(some 133), .call 34 [(.t 126), (.t 132)], none, none, []⟩])
  (.seq (.reg [⟨(some 134), .mv (.t 4), none, none, []⟩, ⟨(some 135), .nilck (.t 134), none, none, []⟩, ⟨(some 136), .faddr 0 (.t 135), none, none, []⟩, ⟨(some 137), .call 37 [(.t 136)], none, none, []⟩, ⟨(some 2), .mv (.t 137), none, none, []⟩, ⟨(some 3), .mv (.v (.int .i64 0)), none, none, []⟩])
  .ret)))))))))))⟩
/-- pochoir/atlas.May -/
def s26 : SFn :=
 ⟨51, [.tmp 2],
  (.seq (.reg [⟨(some 1), .box 53 (.t 0), none, none, []⟩, ⟨(some 2), .mv (.v (.bool false)), none, none, []⟩])
  (.seq (.seq (.reg [⟨(some 7), .load (some 11) (.t 1), none, none, []⟩, ⟨(some 8), .call 56 [(.t 7)], none, none, []⟩, ⟨(some 9), .un .not (.t 8), none, none, []⟩])
  (.cond (.t 9) (.seq (.reg [⟨(some 2), .mv (.v (.bool false)), none, none, []⟩])
  .ret) .skip))
  (.seq (.seq (.reg [⟨(some 10), .faddr 10 (.t 1), none, none, []⟩, ⟨(some 11), .load none (.t 10), none, none, []⟩, ⟨(some 12), .len false (.t 11), none, none, []⟩, ⟨(some 13), .mv (.v (.int .i64 0)), none, none, []⟩])
  (.block 0 (.loop (.seq (.reg [⟨(some 14), .bin .lss (.t 13) (.t 12), none, none, []⟩])
  (.seq (.cond (.t 14) .skip (.exit 0))
  (.seq (.block 1 (.seq (.reg [⟨(some 15), .iaddr 1 (.t 11) (.t 13), none, none, []⟩, ⟨(some 16), .load none (.t 15), none, none, []⟩, ⟨(some 4), .mv (.t 16), none, none, []⟩])
  (.seq (.reg [⟨(some 17), .mv (.t 4), none, none, []⟩, ⟨(some 18), .len true (.t 17), none, none, []⟩, ⟨(some 19), .faddr 6 (.t 1), none, none, []⟩, ⟨(some 20), .faddr 0 (.t 19), none, none, []⟩, ⟨(some 21), .load none (.t 20), none, none, []⟩, ⟨(some 22), .bin .mul (.v (.int .i64 4)) (.t 21), none, none, []⟩, ⟨(some 23), .faddr 6 (.t 1), none, none, []⟩, ⟨(some 24), .faddr 1 (.t 23), none, none, []⟩, ⟨(some 25), .load none (.t 24), none, none, []⟩, ⟨(some 26), .bin .mul (.t 22) (.t 25), none, none, []⟩, ⟨(some 27), .bin .neq (.t 18) (.t 26), none, none, []⟩])
  (.cond (.t 27) (.seq (.reg [⟨(some 2), .mv (.v (.bool false)), none, none, []⟩])
  .ret) .skip))))
  (.reg [⟨(some 28), .bin .add (.t 13) (.v (.int .i64 1)), none, none, []⟩, ⟨(some 13), .mv (.t 28), none, none, []⟩])))))))
  (.seq (.seq (.reg [⟨(some 29), .faddr 8 (.t 1), none, none, []⟩, ⟨(some 30), .load none (.t 29), none, none, []⟩, ⟨(some 31), .len false (.t 30), none, none, []⟩, ⟨(some 32), .mv (.v (.int .i64 0)), none, none, []⟩])
  (.block 2 (.loop (.seq (.reg [⟨(some 33), .bin .lss (.t 32) (.t 31), none, none, []⟩])
  (.seq (.cond (.t 33) .skip (.exit 2))
  (.seq (.block 3 (.seq (.reg [⟨(some 34), .iaddr 8 (.t 30) (.t 32), none, none, []⟩, ⟨(some 35), .load (some 8) (.t 34), none, none, []⟩, ⟨(some 6), .box 107 (.v (.agg [(.int .i64 0), (.int .i64 0), (.int .i64 0), (.int .i64 0), (.int .i64 0), (.int .i64 0), (.int .i64 0), (.int .i64 0)])), none, none, []⟩, ⟨none, .store 8 (.t 6) (.t 35), none, none, []⟩])
  (.seq (.reg [⟨(some 36), .load (some 8) (.t 6), none, none, []⟩, ⟨(some 37), .faddr 6 (.t 1), none, none, []⟩, ⟨(some 38), .load (some 2) (.t 37), none, none, []⟩, ⟨(some 39), .faddr 10 (.t 1), none, none, []⟩, ⟨(some 40), .load none (.t 39), none, none, []⟩, ⟨(some 41), .len false (.t 40), none, none, []⟩, ⟨(some 42), .call 57 [(.t 36), (.t 38), (.t 41)], none, none, []⟩, ⟨(some 43), .un .not (.t 42), none, none, []⟩])
  (.cond (.t 43) (.seq (.reg [⟨(some 2), .mv (.v (.bool false)), none, none, []⟩])
  .ret) .skip))))
  (.reg [⟨(some 44), .bin .add (.t 32) (.v (.int .i64 1)), none, none, []⟩, ⟨(some 32), .mv (.t 44), none, none, []⟩])))))))
  (.seq (.reg [⟨(some 45), .faddr 9 (.t 1), none, none, []⟩, ⟨(some 46), .load none (.t 45), none, none, []⟩, ⟨(some 47), .faddr 8 (.t 1), none, none, []⟩, ⟨(some 48), .load none (.t 47), none, none, []⟩, ⟨(some 49), .len false (.t 48), none, none, []⟩, ⟨(some 50), .call 58 [(.t 46), (.t 49)], none, none, []⟩, ⟨(some 2), .mv (.t 50), none, none, []⟩])
  .ret)))))⟩
/-- pochoir/pochoirref30.May -/
def s27 : SFn :=
 ⟨113, [.tmp 2],
  (.seq (.reg [⟨(some 1), .box 53 (.t 0), none, none, []⟩, ⟨(some 2), .mv (.v (.bool false)), none, none, []⟩])
  (.seq (.seq (.reg [⟨(some 5), .faddr 0 (.t 1), none, none, []⟩, ⟨(some 6), .load none (.t 5), none, none, []⟩, ⟨(some 7), .call 59 [(.t 6), (.v (.int .i64 16)), (.v (.int .i64 16384))], none, none, []⟩, ⟨(some 8), .un .not (.t 7), none, none, []⟩, ⟨(some 9), .mv (.t 8), none, none, []⟩, ⟨(some 10), .faddr 1 (.t 1), (some (9, false)), none, []⟩, ⟨(some 11), .load none (.t 10), (some (9, false)), none, []⟩, ⟨(some 12), .call 59 [(.t 11), (.v (.int .i64 1)), (.v (.int .i64 128))], (some (9, false)), none, []⟩, ⟨(some 13), .un .not (.t 12), (some (9, false)), none, []⟩, ⟨(some 14), .pick (.t 9) (.v (.bool true)) (.t 13), none, none, []⟩, ⟨(some 15), .mv (.t 14), none, none, []⟩, ⟨(some 16), .faddr 2 (.t 1), (some (15, false)), none, []⟩, ⟨(some 17), .load none (.t 16), (some (15, false)), none, []⟩, ⟨(some 18), .call 59 [(.t 17), (.v (.int .i64 1)), (.v (.int .i64 16))], (some (15, false)), none, []⟩, ⟨(some 19), .un .not (.t 18), (some (15, false)), none, []⟩, ⟨(some 20), .pick (.t 15) (.v (.bool true)) (.t 19), none, none, []⟩, ⟨(some 21), .mv (.t 20), none, none, []⟩, ⟨(some 22), .faddr 3 (.t 1), (some (21, false)), none, []⟩, ⟨(some 23), .load none (.t 22), (some (21, false)), none, []⟩, ⟨(some 24), .call 60 [(.t 23)], (some (21, false)), none, []⟩, ⟨(some 25), .un .not (.t 24), (some (21, false)), none, []⟩, ⟨(some 26), .pick (.t 21) (.v (.bool true)) (.t 25), none, none, []⟩, ⟨(some 27), .mv (.t 26), none, none, []⟩, ⟨(some 28), .faddr 4 (.t 1), (some (27, false)), none, []⟩, ⟨(some 29), .load none (.t 28), (some (27, false)), none, []⟩, ⟨(some 30), .call 60 [(.t 29)], (some (27, false)), none, []⟩, ⟨(some 31), .un .not (.t 30), (some (27, false)), none, []⟩, ⟨(some 32), .pick (.t 27) (.v (.bool true)) (.t 31), none, none, []⟩, ⟨(some 33), .mv (.t 32), none, none, []⟩, ⟨(some 34), .faddr 5 (.t 1), (some (33, false)), none, []⟩, ⟨(some 35), .load none (.t 34), (some (33, false)), none, []⟩, ⟨(some 36), .call 60 [(.t 35)], (some (33, false)), none, []⟩, ⟨(some 37), .un .not (.t 36), (some (33, false)), none, []⟩, ⟨(some 38), .pick (.t 33) (.v (.bool true)) (.t 37), none, none, []⟩, ⟨(some 39), .mv (.t 38), none, none, []⟩, ⟨(some 40), .faddr 6 (.t 1), (some (39, false)), none, []⟩, ⟨(some 41), .faddr 0 (.t 40), (some (39, false)), none, []⟩, ⟨(some 42), .load none (.t 41), (some (39, false)), none, []⟩, ⟨(some 43), .call 59 [(.t 42), (.v (.int .i64 1)), (.v (.int .i64 1024))], (some (39, false)), none, []⟩, ⟨(some 44), .un .not (.t 43), (some (39, false)), none, []⟩, ⟨(some 45), .pick (.t 39) (.v (.bool true)) (.t 44), none, none, []⟩, ⟨(some 46), .mv (.t 45), none, none, []⟩, ⟨(some 47), .faddr 6 (.t 1), (some (46, false)), none, []⟩, ⟨(some 48), .faddr 1 (.t 47), (some (46, false)), none, []⟩, ⟨(some 49), .load none (.t 48), (some (46, false)), none, []⟩, ⟨(some 50), .call 59 [(.t 49), (.v (.int .i64 1)), (.v (.int .i64 1024))], (some (46, false)), none, []⟩, ⟨(some 51), .un .not (.t 50), (some (46, false)), none, []⟩, ⟨(some 52), .pick (.t 46) (.v (.bool true)) (.t 51), none, none, []⟩, ⟨(some 53), .mv (.t 52), none, none, []⟩, ⟨(some 54), .faddr 10 (.t 1), (some (53, false)), none, []⟩, ⟨(some 55), .load none (.t 54), (some (53, false)), none, []⟩, ⟨(some 56), .len false (.t 55), (some (53, false)), none, []⟩, ⟨(some 57), .bin .gtr (.t 56) (.v (.int .i64 16)), (some (53, false)), none, []⟩, ⟨(some 58), .pick (.t 53) (.v (.bool true)) (.t 57), none, none, []⟩, ⟨(some 59), .mv (.t 58), none, none, []⟩, ⟨(some 60), .faddr 8 (.t 1), (some (59, false)), none, []⟩, ⟨(some 61), .load none (.t 60), (some (59, false)), none, []⟩, ⟨(some 62), .len false (.t 61), (some (59, false)), none, []⟩, ⟨(some 63), .call 59 [(.t 62), (.v (.int .i64 1)), (.v (.int .i64 1024))], (some (59, false)), none, []⟩, ⟨(some 64), .un .not (.t 63), (some (59, false)), none, []⟩, ⟨(some 65), .pick (.t 59) (.v (.bool true)) (.t 64), none, none, []⟩])
  (.cond (.t 65) (.seq (.reg [⟨(some 2), .mv (.v (.bool false)), none, none, []⟩])
  .ret) .skip))
  (.seq (.seq (.reg [⟨(some 3), .mv (.v (.int .i64 0)), none, none, []⟩])
  (.block 0 (.loop (.seq (.seq (.reg [⟨(some 66), .mv (.t 3), none, none, []⟩, ⟨(some 67), .faddr 10 (.t 1), none, none, []⟩, ⟨(some 68), .load none (.t 67), none, none, []⟩, ⟨(some 69), .len false (.t 68), none, none, []⟩, ⟨(some 70), .bin .lss (.t 66) (.t 69), none, none, []⟩])
  (.cond (.t 70) .skip (.exit 0)))
  (.seq (.block 1 (.seq (.regd [⟨(some 73), .faddr 10 (.t 1), none, (some []), []⟩, ⟨(some 74), .load none (.t 73), none, (some []), []⟩, ⟨(some 75), .mv (.t 3), none, (some []), []⟩, ⟨(some 76), .iaddr 1 (.t 74) (.t 75), none, (some []), []⟩, ⟨(some 77), .load none (.t 76), none, (some []), []⟩, ⟨(some 78), .len true (.t 77), none, (some []), []⟩, ⟨(some 79), .faddr 6 (.t 1), none, (some []), []⟩, ⟨(some 80), .faddr 0 (.t 79), none, (some []), []⟩, ⟨(some 81), .load none (.t 80), none, (some []), []⟩, ⟨(some 82), .bin .mul (.v (.int .i64 4)) (.t 81), none, (some []), []⟩, ⟨(some 83), .faddr 6 (.t 1), none, (some []), []⟩, ⟨(some 84), .faddr 1 (.t 83), none, (some []), []⟩, ⟨(some 85), .load none (.t 84), none, (some []), []⟩, ⟨(some 86), .bin .mul (.t 82) (.t 85), none, (some []), []⟩, ⟨(some 87), .bin .neq (.t 78) (.t 86), none, (some []), []⟩])
  (.cond (.t 87) (.seq (.reg [⟨(some 2), .mv (.v (.bool false)), none, none, []⟩])
  .ret) .skip)))
  (.reg [⟨(some 71), .mv (.t 3), none, none, []⟩, ⟨(some 72), .bin .add (.t 71) (.v (.int .i64 1)), none, none, []⟩, ⟨(some 3), .mv (.t 72), none, none, []⟩]))))))
  (.seq (.seq (.reg [⟨(some 4), .mv (.v (.int .i64 0)), none, none, []⟩])
  (.block 2 (.loop (.seq (.seq (.reg [⟨(some 88), .mv (.t 4), none, none, []⟩, ⟨(some 89), .faddr 8 (.t 1), none, none, []⟩, ⟨(some 90), .load none (.t 89), none, none, []⟩, ⟨(some 91), .len false (.t 90), none, none, []⟩, ⟨(some 92), .bin .lss (.t 88) (.t 91), none, none, []⟩])
  (.cond (.t 92) .skip (.exit 2)))
  (.seq (.block 3 (.seq (.regd [⟨(some 95), .faddr 8 (.t 1), none, (some []), []⟩, ⟨(some 96), .load none (.t 95), none, (some []), []⟩, ⟨(some 97), .mv (.t 4), none, (some []), []⟩, ⟨(some 98), .iaddr 8 (.t 96) (.t 97), none, (some []), []⟩, ⟨(some 99), .load (some 8) (.t 98), none, (some []), []⟩, ⟨(some 100), .faddr 6 (.t 1), none, (some []), []⟩, ⟨(some 101), .load (some 2) (.t 100), none, (some []), []⟩, ⟨(some 102), .faddr 10 (.t 1), none, (some []), []⟩, ⟨(some 103), .load none (.t 102), none, (some []), []⟩, ⟨(some 104), .len false (.t 103), none, (some []), []⟩, ⟨(some 105), .call 61 [(.t 99), (.t 101), (.t 104)], none, none, []⟩, ⟨(some 106), .un .not (.t 105), none, (some []), []⟩])
  (.cond (.t 106) (.seq (.reg [⟨(some 2), .mv (.v (.bool false)), none, none, []⟩])
  .ret) .skip)))
  (.reg [⟨(some 93), .mv (.t 4), none, none, []⟩, ⟨(some 94), .bin .add (.t 93) (.v (.int .i64 1)), none, none, []⟩, ⟨(some 4), .mv (.t 94), none, none, []⟩]))))))
  (.seq (.reg [⟨(some 107), .faddr 9 (.t 1), none, none, []⟩, ⟨(some 108), .load none (.t 107), none, none, []⟩, ⟨(some 109), .faddr 8 (.t 1), none, none, []⟩, ⟨(some 110), .load none (.t 109), none, none, []⟩, ⟨(some 111), .len false (.t 110), none, none, []⟩, ⟨(some 112), .call 62 [(.t 108), (.t 111)], none, none, []⟩, ⟨(some 2), .mv (.t 112), none, none, []⟩])
  .ret)))))⟩
/-- pochoir/atlas.Decode -/
def s28 : SFn :=
 ⟨83, [.cell 2 (some 11), .tmp 3],
  (.seq (.reg [⟨(some 2), .box 53 (.v (.agg [(.int .i64 0), (.int .i64 0), (.int .i64 0), (.int .i64 0), (.int .i64 0), (.int .i64 0), (.int .i64 0), (.int .i64 0), .nils, .nils, .nils])), none, none, []⟩, ⟨(some 3), .mv (.v (.int .i64 0)), none, none, []⟩])
  (.seq (.block 0 (.seq (.reg [⟨(some 11), .mv (.t 0), none, none, []⟩, ⟨(some 12), .len true (.t 11), none, none, []⟩, ⟨(some 13), .bin .lss (.t 12) (.v (.int .i64 34)), none, none, []⟩, ⟨(some 10), .mv (.t 13), none, none, []⟩])
  (.cond (.t 10) (.seq (.reg [⟨(some 14), .build [(.int .i64 0), (.int .i64 0), (.int .i64 0), (.int .i64 0), (.int .i64 0), (.int .i64 0), (.int .i64 0), (.int .i64 0), .nils, .nils, .nils] [], none, none, []⟩, ⟨none, .store 11 (.t 2) (.t 14), none, none, []⟩, ⟨(some 3), .mv (.v (.int .i64 3)), none, none, []⟩])
  .ret) (.seq (.reg [⟨(some 16), .mv (.t 0), none, none, []⟩, ⟨(some 17), .slstr (.t 16) none (some (.v (.int .i64 6))), none, none, []⟩, ⟨(some 18), .bin .neq (.t 17) (.v (.str ⟨#[80, 79, 67, 72, 0, 1]⟩)), none, none, []⟩, ⟨(some 15), .mv (.t 18), none, none, []⟩])
  (.cond (.t 15) (.seq (.reg [⟨(some 19), .build [(.int .i64 0), (.int .i64 0), (.int .i64 0), (.int .i64 0), (.int .i64 0), (.int .i64 0), (.int .i64 0), (.int .i64 0), .nils, .nils, .nils] [], none, none, []⟩, ⟨none, .store 11 (.t 2) (.t 19), none, none, []⟩, ⟨(some 3), .mv (.v (.int .i64 4)), none, none, []⟩])
  .ret) .skip)))))
  (.seq (.reg [⟨(some 20), .mv (.t 0), none, none, []⟩, ⟨(some 21), .call 45 [(.t 20)], none, none, []⟩, ⟨(some 4), .mv (.t 21), none, none, []⟩])
  (.seq (.reg [⟨(some 22), .mv (.t 4), none, none, []⟩, ⟨(some 23), .call 46 [(.t 22), (.v (.int .i64 6))], none, none, []⟩])
  (.seq (.reg [⟨(some 25), .mv (.t 4), none, none, []⟩, ⟨(some 26), .call 63 [(.t 25)], none, none, []⟩, ⟨(some 24), .mv (.t 26), none, none, []⟩, ⟨(some 27), .extract (.t 24) 0, none, none, []⟩, ⟨(some 28), .extract (.t 24) 1, none, none, []⟩, ⟨(some 5), .box 53 (.v (.agg [(.int .i64 0), (.int .i64 0), (.int .i64 0), (.int .i64 0), (.int .i64 0), (.int .i64 0), (.int .i64 0), (.int .i64 0), .nils, .nils, .nils])), none, none, []⟩, ⟨(some 6), .box 122 (.v (.agg [(.int .i64 0), (.int .i64 0), (.int .i64 0)])), none, none, []⟩, ⟨none, .store 11 (.t 5) (.t 27), none, none, []⟩, ⟨none, .store 3 (.t 6) (.t 28), none, none, []⟩])
  (.seq (.seq (.reg [⟨(some 29), .faddr 0 (.t 6), none, none, []⟩, ⟨(some 30), .load none (.t 29), none, none, []⟩, ⟨(some 31), .bin .gtr (.t 30) (.v (.int .i64 16)), none, none, []⟩, ⟨(some 32), .mv (.t 31), none, none, []⟩, ⟨(some 33), .faddr 1 (.t 6), (some (32, false)), none, []⟩, ⟨(some 34), .load none (.t 33), (some (32, false)), none, []⟩, ⟨(some 35), .bin .gtr (.t 34) (.v (.int .i64 1024)), (some (32, false)), none, []⟩, ⟨(some 36), .pick (.t 32) (.v (.bool true)) (.t 35), none, none, []⟩, ⟨(some 37), .mv (.t 36), none, none, []⟩, ⟨(some 38), .faddr 2 (.t 6), (some (37, false)), none, []⟩, ⟨(some 39), .load none (.t 38), (some (37, false)), none, []⟩, ⟨(some 40), .bin .gtr (.t 39) (.v (.int .i64 4096)), (some (37, false)), none, []⟩, ⟨(some 41), .pick (.t 37) (.v (.bool true)) (.t 40), none, none, []⟩])
  (.cond (.t 41) (.seq (.reg [⟨(some 42), .build [(.int .i64 0), (.int .i64 0), (.int .i64 0), (.int .i64 0), (.int .i64 0), (.int .i64 0), (.int .i64 0), (.int .i64 0), .nils, .nils, .nils] [], none, none, []⟩, ⟨none, .store 11 (.t 2) (.t 42), none, none, []⟩, ⟨(some 3), .mv (.v (.int .i64 6)), none, none, []⟩])
  .ret) .skip))
  (.seq (.reg [⟨(some 43), .load (some 3) (.t 6), none, none, []⟩, ⟨(some 44), .faddr 6 (.t 5), none, none, []⟩, ⟨(some 45), .load (some 2) (.t 44), none, none, []⟩, ⟨(some 46), .call 64 [(.t 43), (.t 45)], none, none, []⟩, ⟨(some 7), .mv (.t 46), none, none, []⟩])
  (.seq (.block 1 (.seq (.reg [⟨(some 48), .mv (.t 0), none, none, []⟩, ⟨(some 49), .len true (.t 48), none, none, []⟩, ⟨(some 50), .mv (.t 7), none, none, []⟩, ⟨(some 51), .bin .lss (.t 49) (.t 50), none, none, []⟩, ⟨(some 47), .mv (.t 51), none, none, []⟩])
  (.cond (.t 47) (.seq (.reg [⟨(some 52), .build [(.int .i64 0), (.int .i64 0), (.int .i64 0), (.int .i64 0), (.int .i64 0), (.int .i64 0), (.int .i64 0), (.int .i64 0), .nils, .nils, .nils] [], none, none, []⟩, ⟨none, .store 11 (.t 2) (.t 52), none, none, []⟩, ⟨(some 3), .mv (.v (.int .i64 3)), none, none, []⟩])
  .ret) (.seq (.reg [⟨(some 54), .mv (.t 0), none, none, []⟩, ⟨(some 55), .len true (.t 54), none, none, []⟩, ⟨(some 56), .mv (.t 7), none, none, []⟩, ⟨(some 57), .bin .gtr (.t 55) (.t 56), none, none, []⟩, ⟨(some 53), .mv (.t 57), none, none, []⟩])
  (.cond (.t 53) (.seq (.reg [⟨(some 58), .build [(.int .i64 0), (.int .i64 0), (.int .i64 0), (.int .i64 0), (.int .i64 0), (.int .i64 0), (.int .i64 0), (.int .i64 0), .nils, .nils, .nils] [], none, none, []⟩, ⟨none, .store 11 (.t 2) (.t 58), none, none, []⟩, ⟨(some 3), .mv (.v (.int .i64 6)), none, none, []⟩])
  .ret) .skip)))))
  (.seq (.seq (.reg [⟨(some 60), .mv (.t 0), none, none, []⟩, ⟨(some 61), .mv (.t 7), none, none, []⟩, ⟨(some 62), .bin .sub (.t 61) (.v (.int .i64 4)), none, none, []⟩, ⟨(some 63), .call 65 [(.t 60), (.t 62)], none, none, []⟩, ⟨(some 59), .mv (.t 63), none, none, []⟩, ⟨(some 64), .extract (.t 59) 0, none, none, []⟩, ⟨(some 65), .extract (.t 59) 1, none, none, []⟩, ⟨(some 8), .mv (.t 64), none, none, []⟩, ⟨(some 9), .mv (.t 65), none, none, []⟩])
  (.seq (.reg [⟨(some 66), .mv (.t 0), none, none, []⟩, ⟨(some 67), .mv (.t 7), none, none, []⟩, ⟨(some 68), .bin .sub (.t 67) (.v (.int .i64 4)), none, none, []⟩, ⟨(some 69), .slstr (.t 66) none (some (.t 68)), none, none, []⟩, ⟨(some 70), .call 55 [(.t 69)], none, none, []⟩, ⟨(some 71), .mv (.t 8), none, none, []⟩, ⟨(some 72), .bin .neq (.t 70) (.t 71), none, none, []⟩])
  (.cond (.t 72) (.seq (.reg [⟨(some 73), .build [(.int .i64 0), (.int .i64 0), (.int .i64 0), (.int .i64 0), (.int .i64 0), (.int .i64 0), (.int .i64 0), (.int .i64 0), .nils, .nils, .nils] [], none, none, []⟩, ⟨none, .store 11 (.t 2) (.t 73), none, none, []⟩, ⟨(some 3), .mv (.v (.int .i64 5)), none, none, []⟩])
  .ret) .skip)))
  (.seq (.reg [⟨(some 74), .mv (.t 4), none, none, []⟩, ⟨(some 75), .mv (.t 0), none, none, []⟩, ⟨(some 76), .load (some 3) (.t 6), none, none, []⟩, ⟨(some 77), .call 66 [(.t 74), (.t 75), (.t 5), (.t 76)], none, none, []⟩])
  (.seq (.seq (.reg [⟨(some 78), .load (some 11) (.t 5), none, none, []⟩, ⟨(some 79), .call 26 [(.t 78)], none, none, []⟩, ⟨(some 80), .un .not (.t 79), none, none, []⟩])
  (.cond (.t 80) (.seq (.reg [⟨(some 81), .build [(.int .i64 0), (.int .i64 0), (.int .i64 0), (.int .i64 0), (.int .i64 0), (.int .i64 0), (.int .i64 0), (.int .i64 0), .nils, .nils, .nils] [], none, none, []⟩, ⟨none, .store 11 (.t 2) (.t 81), none, none, []⟩, ⟨(some 3), .mv (.v (.int .i64 4)), none, none, []⟩])
  .ret) .skip))
  (.seq (.reg [⟨(some 82), .load (some 11) (.t 5), none, none, []⟩, ⟨none, .store 11 (.t 2) (.t 82), none, none, []⟩, ⟨(some 3), .mv (.v (.int .i64 0)), none, none, []⟩])
  .ret))))))))))))⟩
/-- pochoir/pochoirref30.Encode -/
def s29 : SFn :=
 ⟨154, [.tmp 2],
  (.seq (.reg [⟨(some 1), .box 53 (.t 0), none, none, []⟩, ⟨(some 2), .mv (.v (.str ⟨#[]⟩)), none, none, []⟩])
  (.seq (.regd [⟨(some 8), .call 67 [(.v (.int .i64 1)), (.v (.int .i64 2))], none, none, [(none, (.t 1)), (none, (.t 1)), (none, (.t 1)), (none, (.t 1)), (none, (.t 1)), (none, (.t 1)), (none, (.t 1)), (none, (.t 1)), (none, (.t 1)), (none, (.t 1)), (none, (.t 1))]⟩, ⟨(some 9), .bin .add (.v (.str ⟨#[80, 79, 67, 72]⟩)) (.t 8), none, (some []), []⟩, ⟨(some 10), .faddr 0 (.t 1), none, (some [0]), []⟩, ⟨(some 11), .load none (.t 10), none, (some [0]), []⟩, ⟨(some 12), .call 67 [(.t 11), (.v (.int .i64 2))], none, none, [(none, (.t 1)), (none, (.t 1)), (none, (.t 1)), (none, (.t 1)), (none, (.t 1)), (none, (.t 1)), (none, (.t 1)), (none, (.t 1)), (none, (.t 1)), (none, (.t 1))]⟩, ⟨(some 13), .bin .add (.t 9) (.t 12), none, (some []), []⟩, ⟨(some 14), .faddr 1 (.t 1), none, (some [0, 4]), []⟩, ⟨(some 15), .load none (.t 14), none, (some [0, 4]), []⟩, ⟨(some 16), .call 67 [(.t 15), (.v (.int .i64 2))], none, none, [(none, (.t 1)), (none, (.t 1)), (none, (.t 1)), (none, (.t 1)), (none, (.t 1)), (none, (.t 1)), (none, (.t 1)), (none, (.t 1)), (none, (.t 1))]⟩, ⟨(some 17), .bin .add (.t 13) (.t 16), none, (some []), []⟩, ⟨(some 18), .faddr 2 (.t 1), none, (some [0, 4, 8]), []⟩, ⟨(some 19), .load none (.t 18), none, (some [0, 4, 8]), []⟩, ⟨(some 20), .call 67 [(.t 19), (.v (.int .i64 2))], none, none, [(none, (.t 1)), (none, (.t 1)), (none, (.t 1)), (none, (.t 1)), (none, (.t 1)), (none, (.t 1)), (none, (.t 1)), (none, (.t 1))]⟩, ⟨(some 21), .bin .add (.t 17) (.t 20), none, (some []), []⟩, ⟨(some 22), .faddr 3 (.t 1), none, (some [0, 4, 8, 12]), []⟩, ⟨(some 23), .load none (.t 22), none, (some [0, 4, 8, 12]), []⟩, ⟨(some 24), .call 67 [(.t 23), (.v (.int .i64 2))], none, none, [(none, (.t 1)), (none, (.t 1)), (none, (.t 1)), (none, (.t 1)), (none, (.t 1)), (none, (.t 1)), (none, (.t 1))]⟩, ⟨(some 25), .bin .add (.t 21) (.t 24), none, (some []), []⟩, ⟨(some 26), .faddr 4 (.t 1), none, (some [0, 4, 8, 12, 16]), []⟩, ⟨(some 27), .load none (.t 26), none, (some [0, 4, 8, 12, 16]), []⟩, ⟨(some 28), .call 67 [(.t 27), (.v (.int .i64 2))], none, none, [(none, (.t 1)), (none, (.t 1)), (none, (.t 1)), (none, (.t 1)), (none, (.t 1)), (none, (.t 1))]⟩, ⟨(some 29), .bin .add (.t 25) (.t 28), none, (some []), []⟩, ⟨(some 30), .faddr 5 (.t 1), none, (some [0, 4, 8, 12, 16, 20]), []⟩, ⟨(some 31), .load none (.t 30), none, (some [0, 4, 8, 12, 16, 20]), []⟩, ⟨(some 32), .call 67 [(.t 31), (.v (.int .i64 2))], none, none, [(none, (.t 1)), (none, (.t 1)), (none, (.t 1)), (none, (.t 1)), (none, (.t 1))]⟩, ⟨(some 33), .bin .add (.t 29) (.t 32), none, (some []), []⟩, ⟨(some 34), .faddr 6 (.t 1), none, (some [0, 4, 8, 12, 16, 20, 24]), []⟩, ⟨(some 35), .faddr 0 (.t 34), none, (some [0, 4, 8, 12, 16, 20, 24]), []⟩, ⟨(some 36), .load none (.t 35), none, (some [0, 4, 8, 12, 16, 20, 24]), []⟩, ⟨(some 37), .call 67 [(.t 36), (.v (.int .i64 2))], none, none, [(none, (.t 1)), (none, (.t 1)), (none, (.t 1)), (none, (.t 1))]⟩, ⟨(some 38), .bin .add (.t 33) (.t 37), none, (some []), []⟩, ⟨(some 39), .faddr 6 (.t 1), none, (some [0, 4, 8, 12, 16, 20, 24, 29]), []⟩, ⟨(some 40), .faddr 1 (.t 39), none, (some [0, 4, 8, 12, 16, 20, 24, 29]), []⟩, ⟨(some 41), .load none (.t 40), none, (some [0, 4, 8, 12, 16, 20, 24, 29]), []⟩, ⟨(some 42), .call 67 [(.t 41), (.v (.int .i64 2))], none, none, [(none, (.t 1)), (none, (.t 1)), (none, (.t 1))]⟩, ⟨(some 43), .bin .add (.t 38) (.t 42), none, (some []), []⟩, ⟨(some 44), .faddr 10 (.t 1), none, (some [0, 4, 8, 12, 16, 20, 24, 29, 34]), []⟩, ⟨(some 45), .load none (.t 44), none, (some [0, 4, 8, 12, 16, 20, 24, 29, 34]), []⟩, ⟨(some 46), .len false (.t 45), none, (some [0, 4, 8, 12, 16, 20, 24, 29, 34]), []⟩, ⟨(some 47), .call 67 [(.t 46), (.v (.int .i64 2))], none, none, [(none, (.t 1)), (none, (.t 1))]⟩, ⟨(some 48), .bin .add (.t 43) (.t 47), none, (some []), []⟩, ⟨(some 49), .faddr 8 (.t 1), none, (some [0, 4, 8, 12, 16, 20, 24, 29, 34, 39]), []⟩, ⟨(some 50), .load none (.t 49), none, (some [0, 4, 8, 12, 16, 20, 24, 29, 34, 39]), []⟩, ⟨(some 51), .len false (.t 50), none, (some [0, 4, 8, 12, 16, 20, 24, 29, 34, 39]), []⟩, ⟨(some 52), .call 67 [(.t 51), (.v (.int .i64 2))], none, none, [(none, (.t 1))]⟩, ⟨(some 53), .bin .add (.t 48) (.t 52), none, (some []), []⟩, ⟨(some 54), .faddr 9 (.t 1), none, (some [0, 4, 8, 12, 16, 20, 24, 29, 34, 39, 44]), []⟩, ⟨(some 55), .load none (.t 54), none, (some [0, 4, 8, 12, 16, 20, 24, 29, 34, 39, 44]), []⟩, ⟨(some 56), .len false (.t 55), none, (some [0, 4, 8, 12, 16, 20, 24, 29, 34, 39, 44]), []⟩, ⟨(some 57), .call 67 [(.t 56), (.v (.int .i64 4))], none, none, []⟩, ⟨(some 58), .bin .add (.t 53) (.t 57), none, (some []), []⟩, ⟨(some 3), .mv (.t 58), none, (some []), []⟩])
  (.seq (.seq (.reg [⟨(some 4), .mv (.v (.int .i64 0)), none, none, []⟩])
  (.block 0 (.loop (.seq (.seq (.reg [⟨(some 59), .mv (.t 4), none, none, []⟩, ⟨(some 60), .faddr 8 (.t 1), none, none, []⟩, ⟨(some 61), .load none (.t 60), none, none, []⟩, ⟨(some 62), .len false (.t 61), none, none, []⟩, ⟨(some 63), .bin .lss (.t 59) (.t 62), none, none, []⟩])
  (.cond (.t 63) .skip (.exit 0)))
  (.seq (.block 1 (.seq (.reg [⟨(some 66), .faddr 8 (.t 1), none, none, []⟩, ⟨(some 67), .load none (.t 66), none, none, []⟩, ⟨(some 68), .mv (.t 4), none, none, []⟩, ⟨(some 69), .iaddr 8 (.t 67) (.t 68), none, none, []⟩, ⟨(some 70), .load (some 8) (.t 69), none, none, []⟩, ⟨(some 5), .box 107 (.v (.agg [(.int .i64 0), (.int .i64 0), (.int .i64 0), (.int .i64 0), (.int .i64 0), (.int .i64 0), (.int .i64 0), (.int .i64 0)])), none, none, []⟩, ⟨none, .store 8 (.t 5) (.t 70), none, none, []⟩])
  (.regd [⟨(some 71), .mv (.t 3), none, (some []), []⟩, ⟨(some 72), .faddr 0 (.t 5), none, (some []), []⟩, ⟨(some 73), .load none (.t 72), none, (some []), []⟩, ⟨(some 74), .call 67 [(.t 73), (.v (.int .i64 2))], none, none, [(none, (.t 5)), (none, (.t 5)), (none, (.t 5)), (none, (.t 5)), (none, (.t 5)), (none, (.t 5)), (none, (.t 5))]⟩, ⟨(some 75), .bin .add (.t 71) (.t 74), none, (some []), []⟩, ⟨(some 76), .faddr 1 (.t 5), none, (some [3]), []⟩, ⟨(some 77), .faddr 0 (.t 76), none, (some [3]), []⟩, ⟨(some 78), .load none (.t 77), none, (some [3]), []⟩, ⟨(some 79), .call 67 [(.t 78), (.v (.int .i64 4))], none, none, [(none, (.t 5)), (none, (.t 5)), (none, (.t 5)), (none, (.t 5)), (none, (.t 5)), (none, (.t 5))]⟩, ⟨(some 80), .bin .add (.t 75) (.t 79), none, (some []), []⟩, ⟨(some 81), .faddr 1 (.t 5), none, (some [3, 8]), []⟩, ⟨(some 82), .faddr 1 (.t 81), none, (some [3, 8]), []⟩, ⟨(some 83), .load none (.t 82), none, (some [3, 8]), []⟩, ⟨(some 84), .call 67 [(.t 83), (.v (.int .i64 4))], none, none, [(none, (.t 5)), (none, (.t 5)), (none, (.t 5)), (none, (.t 5)), (none, (.t 5))]⟩, ⟨(some 85), .bin .add (.t 80) (.t 84), none, (some []), []⟩, ⟨(some 86), .faddr 1 (.t 5), none, (some [3, 8, 13]), []⟩, ⟨(some 87), .faddr 2 (.t 86), none, (some [3, 8, 13]), []⟩, ⟨(some 88), .load none (.t 87), none, (some [3, 8, 13]), []⟩, ⟨(some 89), .call 67 [(.t 88), (.v (.int .i64 2))], none, none, [(none, (.t 5)), (none, (.t 5)), (none, (.t 5)), (none, (.t 5))]⟩, ⟨(some 90), .bin .add (.t 85) (.t 89), none, (some []), []⟩, ⟨(some 91), .faddr 1 (.t 5), none, (some [3, 8, 13, 18]), []⟩, ⟨(some 92), .faddr 3 (.t 91), none, (some [3, 8, 13, 18]), []⟩, ⟨(some 93), .load none (.t 92), none, (some [3, 8, 13, 18]), []⟩, ⟨(some 94), .call 67 [(.t 93), (.v (.int .i64 2))], none, none, [(none, (.t 5)), (none, (.t 5)), (none, (.t 5))]⟩, ⟨(some 95), .bin .add (.t 90) (.t 94), none, (some []), []⟩, ⟨(some 96), .faddr 5 (.t 5), none, (some [3, 8, 13, 18, 23]), []⟩, ⟨(some 97), .faddr 0 (.t 96), none, (some [3, 8, 13, 18, 23]), []⟩, ⟨(some 98), .load none (.t 97), none, (some [3, 8, 13, 18, 23]), []⟩, ⟨(some 99), .call 67 [(.t 98), (.v (.int .i64 2))], none, none, [(none, (.t 5)), (none, (.t 5))]⟩, ⟨(some 100), .bin .add (.t 95) (.t 99), none, (some []), []⟩, ⟨(some 101), .faddr 5 (.t 5), none, (some [3, 8, 13, 18, 23, 28]), []⟩, ⟨(some 102), .faddr 1 (.t 101), none, (some [3, 8, 13, 18, 23, 28]), []⟩, ⟨(some 103), .load none (.t 102), none, (some [3, 8, 13, 18, 23, 28]), []⟩, ⟨(some 104), .call 67 [(.t 103), (.v (.int .i64 2))], none, none, [(none, (.t 5))]⟩, ⟨(some 105), .bin .add (.t 100) (.t 104), none, (some []), []⟩, ⟨(some 106), .faddr 5 (.t 5), none, (some [3, 8, 13, 18, 23, 28, 33]), []⟩, ⟨(some 107), .faddr 2 (.t 106), none, (some [3, 8, 13, 18, 23, 28, 33]), []⟩, ⟨(some 108), .load none (.t 107), none, (some [3, 8, 13, 18, 23, 28, 33]), []⟩, ⟨(some 109), .call 67 [(.t 108), (.v (.int .i64 2))], none, none, []⟩, ⟨(some 110), .bin .add (.t 105) (.t 109), none, (some []), []⟩, ⟨(some 3), .mv (.t 110), none, (some []), []⟩])))
  (.reg [⟨(some 64), .mv (.t 4), none, none, []⟩, ⟨(some 65), .bin .add (.t 64) (.v (.int .i64 1)), none, none, []⟩, ⟨(some 4), .mv (.t 65), none, none, []⟩]))))))
  (.seq (.seq (.reg [⟨(some 6), .mv (.v (.int .i64 0)), none, none, []⟩])
  (.block 2 (.loop (.seq (.seq (.reg [⟨(some 111), .mv (.t 6), none, none, []⟩, ⟨(some 112), .faddr 9 (.t 1), none, none, []⟩, ⟨(some 113), .load none (.t 112), none, none, []⟩, ⟨(some 114), .len false (.t 113), none, none, []⟩, ⟨(some 115), .bin .lss (.t 111) (.t 114), none, none, []⟩])
  (.cond (.t 115) .skip (.exit 2)))
  (.seq (.block 3 (.regd [⟨(some 118), .mv (.t 3), none, (some []), []⟩, ⟨(some 119), .faddr 9 (.t 1), none, (some []), []⟩, ⟨(some 120), .load none (.t 119), none, (some []), []⟩, ⟨(some 121), .mv (.t 6), none, (some []), []⟩, ⟨(some 122), .iaddr 2 (.t 120) (.t 121), none, (some []), []⟩, ⟨(some 123), .faddr 0 (.t 122), none, (some []), []⟩, ⟨(some 124), .load none (.t 123), none, (some []), []⟩, ⟨(some 125), .call 67 [(.t 124), (.v (.int .i64 4))], none, none, [(none, (.t 1)), (none, (.v (.tup [])))]⟩, ⟨(some 126), .bin .add (.t 118) (.t 125), none, (some []), []⟩, ⟨(some 127), .faddr 9 (.t 1), none, (some [7]), []⟩, ⟨(some 128), .load none (.t 127), none, (some [7]), []⟩, ⟨(some 129), .mv (.t 6), none, (some [7]), []⟩, ⟨(some 130), .iaddr 2 (.t 128) (.t 129), none, (some [7]), []⟩, ⟨(some 131), .faddr 1 (.t 130), none, (some [7]), []⟩, ⟨(some 132), .load none (.t 131), none, (some [7]), []⟩, ⟨(some 133), .call 67 [(.t 132), (.v (.int .i64 2))], none, none, []⟩, ⟨(some 134), .bin .add (.t 126) (.t 133), none, (some []), []⟩, ⟨(some 3), .mv (.t 134), none, (some []), []⟩]))
  (.reg [⟨(some 116), .mv (.t 6), none, none, []⟩, ⟨(some 117), .bin .add (.t 116) (.v (.int .i64 1)), none, none, []⟩, ⟨(some 6), .mv (.t 117), none, none, []⟩]))))))
  (.seq (.seq (.reg [⟨(some 7), .mv (.v (.int .i64 0)), none, none, []⟩])
  (.block 4 (.loop (.seq (.seq (.reg [⟨(some 135), .mv (.t 7), none, none, []⟩, ⟨(some 136), .faddr 10 (.t 1), none, none, []⟩, ⟨(some 137), .load none (.t 136), none, none, []⟩, ⟨(some 138), .len false (.t 137), none, none, []⟩, ⟨(some 139), .bin .lss (.t 135) (.t 138), none, none, []⟩])
  (.cond (.t 139) .skip (.exit 4)))
  (.seq (.block 5 (.reg [⟨(some 142), .mv (.t 3), none, none, []⟩, ⟨(some 143), .faddr 10 (.t 1), none, none, []⟩, ⟨(some 144), .load none (.t 143), none, none, []⟩, ⟨(some 145), .mv (.t 7), none, none, []⟩, ⟨(some 146), .iaddr 1 (.t 144) (.t 145), none, none, []⟩, ⟨(some 147), .load none (.t 146), none, none, []⟩, ⟨(some 148), .bin .add (.t 142) (.t 147), none, none, []⟩, ⟨(some 3), .mv (.t 148), none, none, []⟩]))
  (.reg [⟨(some 140), .mv (.t 7), none, none, []⟩, ⟨(some 141), .bin .add (.t 140) (.v (.int .i64 1)), none, none, []⟩, ⟨(some 7), .mv (.t 141), none, none, []⟩]))))))
  (.seq (.reg [⟨(some 149), .mv (.t 3), none, none, []⟩, ⟨(some 150), .mv (.t 3), none, none, []⟩, ⟨(some 151), .call 69 [(.t 150)], none, none, []⟩, ⟨(some 152), .call 68 [(.t 151), (.v (.int .i64 4))], none, none, []⟩, ⟨(some 153), .bin .add (.t 149) (.t 152), none, none, []⟩, ⟨(some 2), .mv (.t 153), none, none, []⟩])
  .ret))))))⟩
/-- pochoir/pochoirref30.Same -/
def s30 : SFn :=
 ⟨116, [.tmp 4],
  (.seq (.reg [⟨(some 2), .box 53 (.t 0), none, none, []⟩, ⟨(some 3), .box 53 (.t 1), none, none, []⟩, ⟨(some 4), .mv (.v (.bool false)), none, none, []⟩])
  (.seq (.seq (.reg [⟨(some 7), .faddr 0 (.t 2), none, none, []⟩, ⟨(some 8), .load none (.t 7), none, none, []⟩, ⟨(some 9), .faddr 0 (.t 3), none, none, []⟩, ⟨(some 10), .load none (.t 9), none, none, []⟩, ⟨(some 11), .bin .neq (.t 8) (.t 10), none, none, []⟩, ⟨(some 12), .mv (.t 11), none, none, []⟩, ⟨(some 13), .faddr 1 (.t 2), (some (12, false)), none, []⟩, ⟨(some 14), .load none (.t 13), (some (12, false)), none, []⟩, ⟨(some 15), .faddr 1 (.t 3), (some (12, false)), none, []⟩, ⟨(some 16), .load none (.t 15), (some (12, false)), none, []⟩, ⟨(some 17), .bin .neq (.t 14) (.t 16), (some (12, false)), none, []⟩, ⟨(some 18), .pick (.t 12) (.v (.bool true)) (.t 17), none, none, []⟩, ⟨(some 19), .mv (.t 18), none, none, []⟩, ⟨(some 20), .faddr 2 (.t 2), (some (19, false)), none, []⟩, ⟨(some 21), .load none (.t 20), (some (19, false)), none, []⟩, ⟨(some 22), .faddr 2 (.t 3), (some (19, false)), none, []⟩, ⟨(some 23), .load none (.t 22), (some (19, false)), none, []⟩, ⟨(some 24), .bin .neq (.t 21) (.t 23), (some (19, false)), none, []⟩, ⟨(some 25), .pick (.t 19) (.v (.bool true)) (.t 24), none, none, []⟩, ⟨(some 26), .mv (.t 25), none, none, []⟩, ⟨(some 27), .faddr 3 (.t 2), (some (26, false)), none, []⟩, ⟨(some 28), .load none (.t 27), (some (26, false)), none, []⟩, ⟨(some 29), .faddr 3 (.t 3), (some (26, false)), none, []⟩, ⟨(some 30), .load none (.t 29), (some (26, false)), none, []⟩, ⟨(some 31), .bin .neq (.t 28) (.t 30), (some (26, false)), none, []⟩, ⟨(some 32), .pick (.t 26) (.v (.bool true)) (.t 31), none, none, []⟩, ⟨(some 33), .mv (.t 32), none, none, []⟩, ⟨(some 34), .faddr 4 (.t 2), (some (33, false)), none, []⟩, ⟨(some 35), .load none (.t 34), (some (33, false)), none, []⟩, ⟨(some 36), .faddr 4 (.t 3), (some (33, false)), none, []⟩, ⟨(some 37), .load none (.t 36), (some (33, false)), none, []⟩, ⟨(some 38), .bin .neq (.t 35) (.t 37), (some (33, false)), none, []⟩, ⟨(some 39), .pick (.t 33) (.v (.bool true)) (.t 38), none, none, []⟩, ⟨(some 40), .mv (.t 39), none, none, []⟩, ⟨(some 41), .faddr 5 (.t 2), (some (40, false)), none, []⟩, ⟨(some 42), .load none (.t 41), (some (40, false)), none, []⟩, ⟨(some 43), .faddr 5 (.t 3), (some (40, false)), none, []⟩, ⟨(some 44), .load none (.t 43), (some (40, false)), none, []⟩, ⟨(some 45), .bin .neq (.t 42) (.t 44), (some (40, false)), none, []⟩, ⟨(some 46), .pick (.t 40) (.v (.bool true)) (.t 45), none, none, []⟩, ⟨(some 47), .mv (.t 46), none, none, []⟩, ⟨(some 48), .faddr 6 (.t 2), (some (47, false)), none, []⟩, ⟨(some 49), .load (some 2) (.t 48), (some (47, false)), none, []⟩, ⟨(some 50), .faddr 6 (.t 3), (some (47, false)), none, []⟩, ⟨(some 51), .load (some 2) (.t 50), (some (47, false)), none, []⟩, ⟨(some 52), .eqs 4 [1, 1] true (.t 49) (.t 51), (some (47, false)), none, []⟩, ⟨(some 53), .pick (.t 47) (.v (.bool true)) (.t 52), none, none, []⟩, ⟨(some 54), .mv (.t 53), none, none, []⟩, ⟨(some 55), .faddr 8 (.t 2), (some (54, false)), none, []⟩, ⟨(some 56), .load none (.t 55), (some (54, false)), none, []⟩, ⟨(some 57), .len false (.t 56), (some (54, false)), none, []⟩, ⟨(some 58), .faddr 8 (.t 3), (some (54, false)), none, []⟩, ⟨(some 59), .load none (.t 58), (some (54, false)), none, []⟩, ⟨(some 60), .len false (.t 59), (some (54, false)), none, []⟩, ⟨(some 61), .bin .neq (.t 57) (.t 60), (some (54, false)), none, []⟩, ⟨(some 62), .pick (.t 54) (.v (.bool true)) (.t 61), none, none, []⟩, ⟨(some 63), .mv (.t 62), none, none, []⟩, ⟨(some 64), .faddr 10 (.t 2), (some (63, false)), none, []⟩, ⟨(some 65), .load none (.t 64), (some (63, false)), none, []⟩, ⟨(some 66), .len false (.t 65), (some (63, false)), none, []⟩, ⟨(some 67), .faddr 10 (.t 3), (some (63, false)), none, []⟩, ⟨(some 68), .load none (.t 67), (some (63, false)), none, []⟩, ⟨(some 69), .len false (.t 68), (some (63, false)), none, []⟩, ⟨(some 70), .bin .neq (.t 66) (.t 69), (some (63, false)), none, []⟩, ⟨(some 71), .pick (.t 63) (.v (.bool true)) (.t 70), none, none, []⟩, ⟨(some 72), .mv (.t 71), none, none, []⟩, ⟨(some 73), .faddr 9 (.t 2), (some (72, false)), none, []⟩, ⟨(some 74), .load none (.t 73), (some (72, false)), none, []⟩, ⟨(some 75), .faddr 9 (.t 3), (some (72, false)), none, []⟩, ⟨(some 76), .load none (.t 75), (some (72, false)), none, []⟩, ⟨(some 77), .call 70 [(.t 74), (.t 76)], (some (72, false)), none, []⟩, ⟨(some 78), .un .not (.t 77), (some (72, false)), none, []⟩, ⟨(some 79), .pick (.t 72) (.v (.bool true)) (.t 78), none, none, []⟩])
  (.cond (.t 79) (.seq (.reg [⟨(some 4), .mv (.v (.bool false)), none, none, []⟩])
  .ret) .skip))
  (.seq (.seq (.reg [⟨(some 5), .mv (.v (.int .i64 0)), none, none, []⟩])
  (.block 0 (.loop (.seq (.seq (.reg [⟨(some 80), .mv (.t 5), none, none, []⟩, ⟨(some 81), .faddr 8 (.t 2), none, none, []⟩, ⟨(some 82), .load none (.t 81), none, none, []⟩, ⟨(some 83), .len false (.t 82), none, none, []⟩, ⟨(some 84), .bin .lss (.t 80) (.t 83), none, none, []⟩])
  (.cond (.t 84) .skip (.exit 0)))
  (.seq (.block 1 (.seq (.regd [⟨(some 87), .faddr 8 (.t 2), none, (some []), []⟩, ⟨(some 88), .load none (.t 87), none, (some []), []⟩, ⟨(some 89), .mv (.t 5), none, (some []), []⟩, ⟨(some 90), .iaddr 8 (.t 88) (.t 89), none, (some []), []⟩, ⟨(some 91), .load (some 8) (.t 90), none, (some []), []⟩, ⟨(some 92), .faddr 8 (.t 3), none, (some []), []⟩, ⟨(some 93), .load none (.t 92), none, (some []), []⟩, ⟨(some 94), .mv (.t 5), none, (some []), []⟩, ⟨(some 95), .iaddr 8 (.t 93) (.t 94), none, (some []), []⟩, ⟨(some 96), .load (some 8) (.t 95), none, (some []), []⟩, ⟨(some 97), .eqs 4 [1, 1, 1, 1, 1, 1, 1, 1] true (.t 91) (.t 96), none, (some []), []⟩])
  (.cond (.t 97) (.seq (.reg [⟨(some 4), .mv (.v (.bool false)), none, none, []⟩])
  .ret) .skip)))
  (.reg [⟨(some 85), .mv (.t 5), none, none, []⟩, ⟨(some 86), .bin .add (.t 85) (.v (.int .i64 1)), none, none, []⟩, ⟨(some 5), .mv (.t 86), none, none, []⟩]))))))
  (.seq (.seq (.reg [⟨(some 6), .mv (.v (.int .i64 0)), none, none, []⟩])
  (.block 2 (.loop (.seq (.seq (.reg [⟨(some 98), .mv (.t 6), none, none, []⟩, ⟨(some 99), .faddr 10 (.t 2), none, none, []⟩, ⟨(some 100), .load none (.t 99), none, none, []⟩, ⟨(some 101), .len false (.t 100), none, none, []⟩, ⟨(some 102), .bin .lss (.t 98) (.t 101), none, none, []⟩])
  (.cond (.t 102) .skip (.exit 2)))
  (.seq (.block 3 (.seq (.regd [⟨(some 105), .faddr 10 (.t 2), none, (some []), []⟩, ⟨(some 106), .load none (.t 105), none, (some []), []⟩, ⟨(some 107), .mv (.t 6), none, (some []), []⟩, ⟨(some 108), .iaddr 1 (.t 106) (.t 107), none, (some []), []⟩, ⟨(some 109), .load none (.t 108), none, (some []), []⟩, ⟨(some 110), .faddr 10 (.t 3), none, (some []), []⟩, ⟨(some 111), .load none (.t 110), none, (some []), []⟩, ⟨(some 112), .mv (.t 6), none, (some []), []⟩, ⟨(some 113), .iaddr 1 (.t 111) (.t 112), none, (some []), []⟩, ⟨(some 114), .load none (.t 113), none, (some []), []⟩, ⟨(some 115), .bin .neq (.t 109) (.t 114), none, (some []), []⟩])
  (.cond (.t 115) (.seq (.reg [⟨(some 4), .mv (.v (.bool false)), none, none, []⟩])
  .ret) .skip)))
  (.reg [⟨(some 103), .mv (.t 6), none, none, []⟩, ⟨(some 104), .bin .add (.t 103) (.v (.int .i64 1)), none, none, []⟩, ⟨(some 6), .mv (.t 104), none, none, []⟩]))))))
  (.seq (.reg [⟨(some 4), .mv (.v (.bool true)), none, none, []⟩])
  .ret)))))⟩
/-- pochoir/pochoirref30.Decode -/
def s31 : SFn :=
 ⟨205, [.cell 2 (some 11), .tmp 3],
  (.seq (.reg [⟨(some 2), .box 53 (.v (.agg [(.int .i64 0), (.int .i64 0), (.int .i64 0), (.int .i64 0), (.int .i64 0), (.int .i64 0), (.int .i64 0), (.int .i64 0), .nils, .nils, .nils])), none, none, []⟩, ⟨(some 3), .mv (.v (.int .i64 0)), none, none, []⟩])
  (.seq (.seq (.reg [⟨(some 18), .mv (.t 0), none, none, []⟩, ⟨(some 19), .len true (.t 18), none, none, []⟩, ⟨(some 20), .bin .lss (.t 19) (.v (.int .i64 34)), none, none, []⟩])
  (.cond (.t 20) (.seq (.reg [⟨(some 21), .build [(.int .i64 0), (.int .i64 0), (.int .i64 0), (.int .i64 0), (.int .i64 0), (.int .i64 0), (.int .i64 0), (.int .i64 0), .nils, .nils, .nils] [], none, none, []⟩, ⟨none, .store 11 (.t 2) (.t 21), none, none, []⟩, ⟨(some 3), .mv (.v (.int .i64 3)), none, none, []⟩])
  .ret) .skip))
  (.seq (.seq (.reg [⟨(some 22), .mv (.t 0), none, none, []⟩, ⟨(some 23), .slstr (.t 22) none (some (.v (.int .i64 6))), none, none, []⟩, ⟨(some 24), .bin .neq (.t 23) (.v (.str ⟨#[80, 79, 67, 72, 0, 1]⟩)), none, none, []⟩])
  (.cond (.t 24) (.seq (.reg [⟨(some 25), .build [(.int .i64 0), (.int .i64 0), (.int .i64 0), (.int .i64 0), (.int .i64 0), (.int .i64 0), (.int .i64 0), (.int .i64 0), .nils, .nils, .nils] [], none, none, []⟩, ⟨none, .store 11 (.t 2) (.t 25), none, none, []⟩, ⟨(some 3), .mv (.v (.int .i64 4)), none, none, []⟩])
  .ret) .skip))
  (.seq (.reg [⟨(some 26), .mv (.t 0), none, none, []⟩, ⟨(some 27), .build [(.str ⟨#[]⟩), (.int .i64 0), (.bool false)] [(0, 1, (.t 26)), (1, 1, (.v (.int .i64 6)))], none, none, []⟩, ⟨(some 28), .box 135 (.t 27), none, none, []⟩, ⟨(some 4), .mv (.t 28), none, none, []⟩])
  (.seq (.reg [⟨(some 29), .mv (.t 4), none, none, []⟩, ⟨(some 30), .call 71 [(.t 29), (.v (.int .i64 2))], none, none, []⟩, ⟨(some 31), .conv .i64 (.t 30), none, none, []⟩, ⟨(some 32), .mv (.t 4), none, none, []⟩, ⟨(some 33), .call 71 [(.t 32), (.v (.int .i64 2))], none, none, []⟩, ⟨(some 34), .conv .i64 (.t 33), none, none, []⟩, ⟨(some 35), .mv (.t 4), none, none, []⟩, ⟨(some 36), .call 71 [(.t 35), (.v (.int .i64 2))], none, none, []⟩, ⟨(some 37), .conv .i64 (.t 36), none, none, []⟩, ⟨(some 38), .build [(.int .i64 0), (.int .i64 0), (.int .i64 0), (.int .i64 0), (.int .i64 0), (.int .i64 0), (.int .i64 0), (.int .i64 0), .nils, .nils, .nils] [(0, 1, (.t 31)), (1, 1, (.t 34)), (2, 1, (.t 37))], none, none, []⟩, ⟨(some 5), .box 53 (.v (.agg [(.int .i64 0), (.int .i64 0), (.int .i64 0), (.int .i64 0), (.int .i64 0), (.int .i64 0), (.int .i64 0), (.int .i64 0), .nils, .nils, .nils])), none, none, []⟩, ⟨none, .store 11 (.t 5) (.t 38), none, none, []⟩])
  (.seq (.reg [⟨(some 39), .mv (.t 4), none, none, []⟩, ⟨(some 40), .call 72 [(.t 39)], none, none, []⟩, ⟨(some 41), .faddr 3 (.t 5), none, none, []⟩, ⟨none, .store 1 (.t 41) (.t 40), none, none, []⟩])
  (.seq (.reg [⟨(some 42), .mv (.t 4), none, none, []⟩, ⟨(some 43), .call 72 [(.t 42)], none, none, []⟩, ⟨(some 44), .faddr 4 (.t 5), none, none, []⟩, ⟨none, .store 1 (.t 44) (.t 43), none, none, []⟩])
  (.seq (.reg [⟨(some 45), .mv (.t 4), none, none, []⟩, ⟨(some 46), .call 72 [(.t 45)], none, none, []⟩, ⟨(some 47), .faddr 5 (.t 5), none, none, []⟩, ⟨none, .store 1 (.t 47) (.t 46), none, none, []⟩])
  (.seq (.reg [⟨(some 48), .mv (.t 4), none, none, []⟩, ⟨(some 49), .call 71 [(.t 48), (.v (.int .i64 2))], none, none, []⟩, ⟨(some 50), .conv .i64 (.t 49), none, none, []⟩, ⟨(some 51), .faddr 6 (.t 5), none, none, []⟩, ⟨(some 52), .faddr 0 (.t 51), none, none, []⟩, ⟨none, .store 1 (.t 52) (.t 50), none, none, []⟩])
  (.seq (.reg [⟨(some 53), .mv (.t 4), none, none, []⟩, ⟨(some 54), .call 71 [(.t 53), (.v (.int .i64 2))], none, none, []⟩, ⟨(some 55), .conv .i64 (.t 54), none, none, []⟩, ⟨(some 56), .faddr 6 (.t 5), none, none, []⟩, ⟨(some 57), .faddr 1 (.t 56), none, none, []⟩, ⟨none, .store 1 (.t 57) (.t 55), none, none, []⟩])
  (.seq (.reg [⟨(some 58), .mv (.t 4), none, none, []⟩, ⟨(some 59), .call 71 [(.t 58), (.v (.int .i64 2))], none, none, []⟩, ⟨(some 60), .conv .i64 (.t 59), none, none, []⟩, ⟨(some 6), .mv (.t 60), none, none, []⟩])
  (.seq (.reg [⟨(some 61), .mv (.t 4), none, none, []⟩, ⟨(some 62), .call 71 [(.t 61), (.v (.int .i64 2))], none, none, []⟩, ⟨(some 63), .conv .i64 (.t 62), none, none, []⟩, ⟨(some 7), .mv (.t 63), none, none, []⟩])
  (.seq (.reg [⟨(some 64), .mv (.t 4), none, none, []⟩, ⟨(some 65), .call 71 [(.t 64), (.v (.int .i64 4))], none, none, []⟩, ⟨(some 66), .conv .i64 (.t 65), none, none, []⟩, ⟨(some 8), .mv (.t 66), none, none, []⟩])
  (.seq (.seq (.reg [⟨(some 67), .mv (.t 6), none, none, []⟩, ⟨(some 68), .bin .gtr (.t 67) (.v (.int .i64 16)), none, none, []⟩, ⟨(some 69), .mv (.t 68), none, none, []⟩, ⟨(some 70), .mv (.t 7), (some (69, false)), none, []⟩, ⟨(some 71), .bin .gtr (.t 70) (.v (.int .i64 1024)), (some (69, false)), none, []⟩, ⟨(some 72), .pick (.t 69) (.v (.bool true)) (.t 71), none, none, []⟩, ⟨(some 73), .mv (.t 72), none, none, []⟩, ⟨(some 74), .mv (.t 8), (some (73, false)), none, []⟩, ⟨(some 75), .bin .gtr (.t 74) (.v (.int .i64 4096)), (some (73, false)), none, []⟩, ⟨(some 76), .pick (.t 73) (.v (.bool true)) (.t 75), none, none, []⟩])
  (.cond (.t 76) (.seq (.reg [⟨(some 77), .build [(.int .i64 0), (.int .i64 0), (.int .i64 0), (.int .i64 0), (.int .i64 0), (.int .i64 0), (.int .i64 0), (.int .i64 0), .nils, .nils, .nils] [], none, none, []⟩, ⟨none, .store 11 (.t 2) (.t 77), none, none, []⟩, ⟨(some 3), .mv (.v (.int .i64 6)), none, none, []⟩])
  .ret) .skip))
  (.seq (.reg [⟨(some 78), .faddr 6 (.t 5), none, none, []⟩, ⟨(some 79), .faddr 0 (.t 78), none, none, []⟩, ⟨(some 80), .load none (.t 79), none, none, []⟩, ⟨(some 81), .bin .mul (.v (.int .i64 4)) (.t 80), none, none, []⟩, ⟨(some 82), .faddr 6 (.t 5), none, none, []⟩, ⟨(some 83), .faddr 1 (.t 82), none, none, []⟩, ⟨(some 84), .load none (.t 83), none, none, []⟩, ⟨(some 85), .bin .mul (.t 81) (.t 84), none, none, []⟩, ⟨(some 9), .mv (.t 85), none, none, []⟩])
  (.seq (.reg [⟨(some 86), .mv (.t 7), none, none, []⟩, ⟨(some 87), .bin .mul (.v (.int .i64 20)) (.t 86), none, none, []⟩, ⟨(some 88), .bin .add (.v (.int .i64 34)) (.t 87), none, none, []⟩, ⟨(some 89), .mv (.t 8), none, none, []⟩, ⟨(some 90), .bin .mul (.v (.int .i64 6)) (.t 89), none, none, []⟩, ⟨(some 91), .bin .add (.t 88) (.t 90), none, none, []⟩, ⟨(some 92), .mv (.t 6), none, none, []⟩, ⟨(some 93), .mv (.t 9), none, none, []⟩, ⟨(some 94), .bin .mul (.t 92) (.t 93), none, none, []⟩, ⟨(some 95), .bin .add (.t 91) (.t 94), none, none, []⟩, ⟨(some 10), .mv (.t 95), none, none, []⟩])
  (.seq (.seq (.reg [⟨(some 96), .mv (.t 0), none, none, []⟩, ⟨(some 97), .len true (.t 96), none, none, []⟩, ⟨(some 98), .mv (.t 10), none, none, []⟩, ⟨(some 99), .bin .lss (.t 97) (.t 98), none, none, []⟩])
  (.cond (.t 99) (.seq (.reg [⟨(some 100), .build [(.int .i64 0), (.int .i64 0), (.int .i64 0), (.int .i64 0), (.int .i64 0), (.int .i64 0), (.int .i64 0), (.int .i64 0), .nils, .nils, .nils] [], none, none, []⟩, ⟨none, .store 11 (.t 2) (.t 100), none, none, []⟩, ⟨(some 3), .mv (.v (.int .i64 3)), none, none, []⟩])
  .ret) .skip))
  (.seq (.seq (.reg [⟨(some 101), .mv (.t 0), none, none, []⟩, ⟨(some 102), .len true (.t 101), none, none, []⟩, ⟨(some 103), .mv (.t 10), none, none, []⟩, ⟨(some 104), .bin .gtr (.t 102) (.t 103), none, none, []⟩])
  (.cond (.t 104) (.seq (.reg [⟨(some 105), .build [(.int .i64 0), (.int .i64 0), (.int .i64 0), (.int .i64 0), (.int .i64 0), (.int .i64 0), (.int .i64 0), (.int .i64 0), .nils, .nils, .nils] [], none, none, []⟩, ⟨none, .store 11 (.t 2) (.t 105), none, none, []⟩, ⟨(some 3), .mv (.v (.int .i64 6)), none, none, []⟩])
  .ret) .skip))
  (.seq (.reg [⟨(some 107), .mv (.t 0), none, none, []⟩, ⟨(some 108), .mv (.t 10), none, none, []⟩, ⟨(some 109), .bin .sub (.t 108) (.v (.int .i64 4)), none, none, []⟩, ⟨(some 110), .call 73 [(.t 107), (.t 109)], none, none, []⟩, ⟨(some 106), .mv (.t 110), none, none, []⟩, ⟨(some 111), .extract (.t 106) 0, none, none, []⟩, ⟨(some 112), .extract (.t 106) 1, none, none, []⟩, ⟨(some 11), .mv (.t 111), none, none, []⟩, ⟨(some 12), .mv (.t 112), none, none, []⟩])
  (.seq (.seq (.reg [⟨(some 113), .mv (.t 0), none, none, []⟩, ⟨(some 114), .mv (.t 10), none, none, []⟩, ⟨(some 115), .bin .sub (.t 114) (.v (.int .i64 4)), none, none, []⟩, ⟨(some 116), .slstr (.t 113) none (some (.t 115)), none, none, []⟩, ⟨(some 117), .call 69 [(.t 116)], none, none, []⟩, ⟨(some 118), .mv (.t 11), none, none, []⟩, ⟨(some 119), .bin .neq (.t 117) (.t 118), none, none, []⟩])
  (.cond (.t 119) (.seq (.reg [⟨(some 120), .build [(.int .i64 0), (.int .i64 0), (.int .i64 0), (.int .i64 0), (.int .i64 0), (.int .i64 0), (.int .i64 0), (.int .i64 0), .nils, .nils, .nils] [], none, none, []⟩, ⟨none, .store 11 (.t 2) (.t 120), none, none, []⟩, ⟨(some 3), .mv (.v (.int .i64 5)), none, none, []⟩])
  .ret) .skip))
  (.seq (.seq (.reg [⟨(some 13), .mv (.v (.int .i64 0)), none, none, []⟩])
  (.block 0 (.loop (.seq (.seq (.reg [⟨(some 121), .mv (.t 13), none, none, []⟩, ⟨(some 122), .mv (.t 7), none, none, []⟩, ⟨(some 123), .bin .lss (.t 121) (.t 122), none, none, []⟩])
  (.cond (.t 123) .skip (.exit 0)))
  (.seq (.block 1 (.seq (.reg [⟨(some 126), .mv (.t 4), none, none, []⟩, ⟨(some 127), .call 71 [(.t 126), (.v (.int .i64 2))], none, none, []⟩, ⟨(some 128), .conv .i64 (.t 127), none, none, []⟩, ⟨(some 129), .build [(.int .i64 0), (.int .i64 0), (.int .i64 0), (.int .i64 0), (.int .i64 0), (.int .i64 0), (.int .i64 0), (.int .i64 0)] [(0, 1, (.t 128))], none, none, []⟩, ⟨(some 14), .box 107 (.v (.agg [(.int .i64 0), (.int .i64 0), (.int .i64 0), (.int .i64 0), (.int .i64 0), (.int .i64 0), (.int .i64 0), (.int .i64 0)])), none, none, []⟩, ⟨none, .store 8 (.t 14) (.t 129), none, none, []⟩])
  (.seq (.reg [⟨(some 130), .mv (.t 4), none, none, []⟩, ⟨(some 131), .call 74 [(.t 130)], none, none, []⟩, ⟨(some 132), .faddr 1 (.t 14), none, none, []⟩, ⟨(some 133), .faddr 0 (.t 132), none, none, []⟩, ⟨none, .store 1 (.t 133) (.t 131), none, none, []⟩])
  (.seq (.reg [⟨(some 134), .mv (.t 4), none, none, []⟩, ⟨(some 135), .call 74 [(.t 134)], none, none, []⟩, ⟨(some 136), .faddr 1 (.t 14), none, none, []⟩, ⟨(some 137), .faddr 1 (.t 136), none, none, []⟩, ⟨none, .store 1 (.t 137) (.t 135), none, none, []⟩])
  (.seq (.reg [⟨(some 138), .mv (.t 4), none, none, []⟩, ⟨(some 139), .call 71 [(.t 138), (.v (.int .i64 2))], none, none, []⟩, ⟨(some 140), .conv .i64 (.t 139), none, none, []⟩, ⟨(some 141), .faddr 1 (.t 14), none, none, []⟩, ⟨(some 142), .faddr 2 (.t 141), none, none, []⟩, ⟨none, .store 1 (.t 142) (.t 140), none, none, []⟩])
  (.seq (.reg [⟨(some 143), .mv (.t 4), none, none, []⟩, ⟨(some 144), .call 71 [(.t 143), (.v (.int .i64 2))], none, none, []⟩, ⟨(some 145), .conv .i64 (.t 144), none, none, []⟩, ⟨(some 146), .faddr 1 (.t 14), none, none, []⟩, ⟨(some 147), .faddr 3 (.t 146), none, none, []⟩, ⟨none, .store 1 (.t 147) (.t 145), none, none, []⟩])
  (.seq (.reg [⟨(some 148), .mv (.t 4), none, none, []⟩, ⟨(some 149), .call 71 [(.t 148), (.v (.int .i64 2))], none, none, []⟩, ⟨(some 150), .conv .i64 (.t 149), none, none, []⟩, ⟨(some 151), .faddr 5 (.t 14), none, none, []⟩, ⟨(some 152), .faddr 0 (.t 151), none, none, []⟩, ⟨none, .store 1 (.t 152) (.t 150), none, none, []⟩])
  (.seq (.reg [⟨(some 153), .mv (.t 4), none, none, []⟩, ⟨(some 154), .call 71 [(.t 153), (.v (.int .i64 2))], none, none, []⟩, ⟨(some 155), .conv .i64 (.t 154), none, none, []⟩, ⟨(some 156), .faddr 5 (.t 14), none, none, []⟩, ⟨(some 157), .faddr 1 (.t 156), none, none, []⟩, ⟨none, .store 1 (.t 157) (.t 155), none, none, []⟩])
  (.seq (.reg [⟨(some 158), .mv (.t 4), none, none, []⟩, ⟨(some 159), .call 71 [(.t 158), (.v (.int .i64 2))], none, none, []⟩, ⟨(some 160), .conv .i64 (.t 159), none, none, []⟩, ⟨(some 161), .faddr 5 (.t 14), none, none, []⟩, ⟨(some 162), .faddr 2 (.t 161), none, none, []⟩, ⟨none, .store 1 (.t 162) (.t 160), none, none, []⟩])
  (.reg [⟨(some 163), .faddr 8 (.t 5), none, none, []⟩, ⟨(some 164), .load none (.t 163), none, none, []⟩, ⟨(some 165), .load (some 8) (.t 14), none, none, []⟩, ⟨(some 166), .bsl 107 [(.int .i64 0), (.int .i64 0), (.int .i64 0), (.int .i64 0), (.int .i64 0), (.int .i64 0), (.int .i64 0), (.int .i64 0)] 1 8 [(0, 8, (.t 165))], none, none, []⟩, ⟨(some 167), .app 107 8 (.t 164) (.t 166), none, none, []⟩, ⟨(some 168), .faddr 8 (.t 5), none, none, []⟩, ⟨none, .store 1 (.t 168) (.t 167), none, none, []⟩]))))))))))
  (.reg [⟨(some 124), .mv (.t 13), none, none, []⟩, ⟨(some 125), .bin .add (.t 124) (.v (.int .i64 1)), none, none, []⟩, ⟨(some 13), .mv (.t 125), none, none, []⟩]))))))
  (.seq (.seq (.reg [⟨(some 15), .mv (.v (.int .i64 0)), none, none, []⟩])
  (.block 2 (.loop (.seq (.seq (.reg [⟨(some 169), .mv (.t 15), none, none, []⟩, ⟨(some 170), .mv (.t 8), none, none, []⟩, ⟨(some 171), .bin .lss (.t 169) (.t 170), none, none, []⟩])
  (.cond (.t 171) .skip (.exit 2)))
  (.seq (.block 3 (.seq (.reg [⟨(some 174), .mv (.t 4), none, none, []⟩, ⟨(some 175), .call 74 [(.t 174)], none, none, []⟩, ⟨(some 176), .build [(.int .i64 0), (.int .i64 0)] [(0, 1, (.t 175))], none, none, []⟩, ⟨(some 16), .box 113 (.v (.agg [(.int .i64 0), (.int .i64 0)])), none, none, []⟩, ⟨none, .store 2 (.t 16) (.t 176), none, none, []⟩])
  (.seq (.reg [⟨(some 177), .mv (.t 4), none, none, []⟩, ⟨(some 178), .call 71 [(.t 177), (.v (.int .i64 2))], none, none, []⟩, ⟨(some 179), .conv .i64 (.t 178), none, none, []⟩, ⟨(some 180), .faddr 1 (.t 16), none, none, []⟩, ⟨none, .store 1 (.t 180) (.t 179), none, none, []⟩])
  (.reg [⟨(some 181), .faddr 9 (.t 5), none, none, []⟩, ⟨(some 182), .load none (.t 181), none, none, []⟩, ⟨(some 183), .load (some 2) (.t 16), none, none, []⟩, ⟨(some 184), .bsl 113 [(.int .i64 0), (.int .i64 0)] 1 2 [(0, 2, (.t 183))], none, none, []⟩, ⟨(some 185), .app 113 2 (.t 182) (.t 184), none, none, []⟩, ⟨(some 186), .faddr 9 (.t 5), none, none, []⟩, ⟨none, .store 1 (.t 186) (.t 185), none, none, []⟩]))))
  (.reg [⟨(some 172), .mv (.t 15), none, none, []⟩, ⟨(some 173), .bin .add (.t 172) (.v (.int .i64 1)), none, none, []⟩, ⟨(some 15), .mv (.t 173), none, none, []⟩]))))))
  (.seq (.seq (.reg [⟨(some 17), .mv (.v (.int .i64 0)), none, none, []⟩])
  (.block 4 (.loop (.seq (.seq (.reg [⟨(some 187), .mv (.t 17), none, none, []⟩, ⟨(some 188), .mv (.t 6), none, none, []⟩, ⟨(some 189), .bin .lss (.t 187) (.t 188), none, none, []⟩])
  (.cond (.t 189) .skip (.exit 4)))
  (.seq (.block 5 (.regd [⟨(some 192), .faddr 10 (.t 5), none, (some []), []⟩, ⟨(some 193), .load none (.t 192), none, (some []), []⟩, ⟨(some 194), .mv (.t 4), none, (some []), []⟩, ⟨(some 195), .mv (.t 9), none, (some []), []⟩, ⟨(some 196), .call 75 [(.t 194), (.t 195)], none, none, [(none, (.t 192))]⟩, ⟨(some 197), .bsl 9 [(.str ⟨#[]⟩)] 1 1 [(0, 1, (.t 196))], none, none, [(none, (.t 192))]⟩, ⟨(some 198), .app 9 1 (.t 193) (.t 197), none, none, []⟩, ⟨(some 199), .faddr 10 (.t 5), none, (some []), []⟩, ⟨none, .store 1 (.t 199) (.t 198), none, none, []⟩]))
  (.reg [⟨(some 190), .mv (.t 17), none, none, []⟩, ⟨(some 191), .bin .add (.t 190) (.v (.int .i64 1)), none, none, []⟩, ⟨(some 17), .mv (.t 191), none, none, []⟩]))))))
  (.seq (.seq (.reg [⟨(some 200), .load (some 11) (.t 5), none, none, []⟩, ⟨(some 201), .call 27 [(.t 200)], none, none, []⟩, ⟨(some 202), .un .not (.t 201), none, none, []⟩])
  (.cond (.t 202) (.seq (.reg [⟨(some 203), .build [(.int .i64 0), (.int .i64 0), (.int .i64 0), (.int .i64 0), (.int .i64 0), (.int .i64 0), (.int .i64 0), (.int .i64 0), .nils, .nils, .nils] [], none, none, []⟩, ⟨none, .store 11 (.t 2) (.t 203), none, none, []⟩, ⟨(some 3), .mv (.v (.int .i64 4)), none, none, []⟩])
  .ret) .skip))
  (.seq (.reg [⟨(some 204), .load (some 11) (.t 5), none, none, []⟩, ⟨none, .store 11 (.t 2) (.t 204), none, none, []⟩, ⟨(some 3), .mv (.v (.int .i64 0)), none, none, []⟩])
  .ret)))))))))))))))))))))))))⟩
/-- pochoir/atlas.Texel -/
def s32 : SFn :=
 ⟨65, [.cell 8 (some 4), .tmp 9],
  (.seq (.reg [⟨(some 4), .box 53 (.t 0), none, none, []⟩, ⟨(some 8), .box 67 (.v (.agg [(.int .u8 0), (.int .u8 0), (.int .u8 0), (.int .u8 0)])), none, none, []⟩, ⟨(some 9), .mv (.v (.int .i64 0)), none, none, []⟩])
  (.seq (.seq (.reg [⟨(some 11), .load (some 11) (.t 4), none, none, []⟩, ⟨(some 12), .call 26 [(.t 11)], none, none, []⟩, ⟨(some 13), .un .not (.t 12), none, none, []⟩, ⟨(some 14), .mv (.t 13), none, none, []⟩, ⟨(some 15), .mv (.t 1), (some (14, false)), none, []⟩, ⟨(some 16), .faddr 10 (.t 4), (some (14, false)), none, []⟩, ⟨(some 17), .load none (.t 16), (some (14, false)), none, []⟩, ⟨(some 18), .len false (.t 17), (some (14, false)), none, []⟩, ⟨(some 19), .bin .sub (.t 18) (.v (.int .i64 1)), (some (14, false)), none, []⟩, ⟨(some 20), .call 76 [(.t 15), (.v (.int .i64 0)), (.t 19)], (some (14, false)), none, []⟩, ⟨(some 21), .un .not (.t 20), (some (14, false)), none, []⟩, ⟨(some 22), .pick (.t 14) (.v (.bool true)) (.t 21), none, none, []⟩, ⟨(some 23), .mv (.t 22), none, none, []⟩, ⟨(some 24), .mv (.t 2), (some (23, false)), none, []⟩, ⟨(some 25), .faddr 6 (.t 4), (some (23, false)), none, []⟩, ⟨(some 26), .faddr 0 (.t 25), (some (23, false)), none, []⟩, ⟨(some 27), .load none (.t 26), (some (23, false)), none, []⟩, ⟨(some 28), .bin .sub (.t 27) (.v (.int .i64 1)), (some (23, false)), none, []⟩, ⟨(some 29), .call 76 [(.t 24), (.v (.int .i64 0)), (.t 28)], (some (23, false)), none, []⟩, ⟨(some 30), .un .not (.t 29), (some (23, false)), none, []⟩, ⟨(some 31), .pick (.t 23) (.v (.bool true)) (.t 30), none, none, []⟩, ⟨(some 32), .mv (.t 31), none, none, []⟩, ⟨(some 33), .mv (.t 3), (some (32, false)), none, []⟩, ⟨(some 34), .faddr 6 (.t 4), (some (32, false)), none, []⟩, ⟨(some 35), .faddr 1 (.t 34), (some (32, false)), none, []⟩, ⟨(some 36), .load none (.t 35), (some (32, false)), none, []⟩, ⟨(some 37), .bin .sub (.t 36) (.v (.int .i64 1)), (some (32, false)), none, []⟩, ⟨(some 38), .call 76 [(.t 33), (.v (.int .i64 0)), (.t 37)], (some (32, false)), none, []⟩, ⟨(some 39), .un .not (.t 38), (some (32, false)), none, []⟩, ⟨(some 40), .pick (.t 32) (.v (.bool true)) (.t 39), none, none, []⟩])
  (.cond (.t 40) (.seq (.reg [⟨(some 41), .build [(.int .u8 0), (.int .u8 0), (.int .u8 0), (.int .u8 0)] [], none, none, []⟩, ⟨none, .store 4 (.t 8) (.t 41), none, none, []⟩, ⟨(some 9), .mv (.v (.int .i64 1)), none, none, []⟩])
  .ret) .skip))
  (.seq (.regd [⟨(some 42), .faddr 10 (.t 4), none, (some []), []⟩, ⟨(some 43), .load none (.t 42), none, (some []), []⟩, ⟨(some 44), .mv (.t 1), none, (some []), []⟩, ⟨(some 45), .iaddr 1 (.t 43) (.t 44), none, (some []), []⟩, ⟨(some 46), .load none (.t 45), none, (some []), []⟩, ⟨(some 47), .mv (.t 3), none, (some []), []⟩, ⟨(some 48), .faddr 6 (.t 4), none, (some []), []⟩, ⟨(some 49), .faddr 0 (.t 48), none, (some []), []⟩, ⟨(some 50), .load none (.t 49), none, (some []), []⟩, ⟨(some 51), .bin .mul (.t 47) (.t 50), none, (some []), []⟩, ⟨(some 52), .mv (.t 2), none, (some []), []⟩, ⟨(some 53), .bin .add (.t 51) (.t 52), none, (some []), []⟩, ⟨(some 54), .bin .mul (.v (.int .i64 4)) (.t 53), none, (some []), []⟩, ⟨(some 55), .slstr (.t 46) (some (.t 54)) none, none, (some []), []⟩, ⟨(some 10), .mv (.t 55), none, (some []), []⟩])
  (.seq (.regd [⟨(some 56), .mv (.t 10), none, (some []), []⟩, ⟨(some 57), .ixs (.t 56) (.v (.int .i64 0)), none, (some []), []⟩, ⟨(some 58), .mv (.t 10), none, (some []), []⟩, ⟨(some 59), .ixs (.t 58) (.v (.int .i64 1)), none, (some []), []⟩, ⟨(some 60), .mv (.t 10), none, (some []), []⟩, ⟨(some 61), .ixs (.t 60) (.v (.int .i64 2)), none, (some []), []⟩, ⟨(some 62), .mv (.t 10), none, (some []), []⟩, ⟨(some 63), .ixs (.t 62) (.v (.int .i64 3)), none, (some []), []⟩, ⟨(some 64), .build [(.int .u8 0), (.int .u8 0), (.int .u8 0), (.int .u8 0)] [(0, 1, (.t 57)), (1, 1, (.t 59)), (2, 1, (.t 61)), (3, 1, (.t 63))], none, (some []), []⟩, ⟨none, .store 4 (.t 8) (.t 64), none, none, []⟩, ⟨(some 9), .mv (.v (.int .i64 0)), none, (some []), []⟩])
  .ret))))⟩
/-- pochoir/pochoirref30.Texel -/
def s33 : SFn :=
 ⟨72, [.cell 8 (some 4), .tmp 9],
  (.seq (.reg [⟨(some 4), .box 53 (.t 0), none, none, []⟩, ⟨(some 8), .box 67 (.v (.agg [(.int .u8 0), (.int .u8 0), (.int .u8 0), (.int .u8 0)])), none, none, []⟩, ⟨(some 9), .mv (.v (.int .i64 0)), none, none, []⟩])
  (.seq (.seq (.reg [⟨(some 12), .load (some 11) (.t 4), none, none, []⟩, ⟨(some 13), .call 27 [(.t 12)], none, none, []⟩, ⟨(some 14), .un .not (.t 13), none, none, []⟩, ⟨(some 15), .mv (.t 14), none, none, []⟩, ⟨(some 16), .mv (.t 1), (some (15, false)), none, []⟩, ⟨(some 17), .faddr 10 (.t 4), (some (15, false)), none, []⟩, ⟨(some 18), .load none (.t 17), (some (15, false)), none, []⟩, ⟨(some 19), .len false (.t 18), (some (15, false)), none, []⟩, ⟨(some 20), .bin .sub (.t 19) (.v (.int .i64 1)), (some (15, false)), none, []⟩, ⟨(some 21), .call 59 [(.t 16), (.v (.int .i64 0)), (.t 20)], (some (15, false)), none, []⟩, ⟨(some 22), .un .not (.t 21), (some (15, false)), none, []⟩, ⟨(some 23), .pick (.t 15) (.v (.bool true)) (.t 22), none, none, []⟩, ⟨(some 24), .mv (.t 23), none, none, []⟩, ⟨(some 25), .mv (.t 2), (some (24, false)), none, []⟩, ⟨(some 26), .faddr 6 (.t 4), (some (24, false)), none, []⟩, ⟨(some 27), .faddr 0 (.t 26), (some (24, false)), none, []⟩, ⟨(some 28), .load none (.t 27), (some (24, false)), none, []⟩, ⟨(some 29), .bin .sub (.t 28) (.v (.int .i64 1)), (some (24, false)), none, []⟩, ⟨(some 30), .call 59 [(.t 25), (.v (.int .i64 0)), (.t 29)], (some (24, false)), none, []⟩, ⟨(some 31), .un .not (.t 30), (some (24, false)), none, []⟩, ⟨(some 32), .pick (.t 24) (.v (.bool true)) (.t 31), none, none, []⟩, ⟨(some 33), .mv (.t 32), none, none, []⟩, ⟨(some 34), .mv (.t 3), (some (33, false)), none, []⟩, ⟨(some 35), .faddr 6 (.t 4), (some (33, false)), none, []⟩, ⟨(some 36), .faddr 1 (.t 35), (some (33, false)), none, []⟩, ⟨(some 37), .load none (.t 36), (some (33, false)), none, []⟩, ⟨(some 38), .bin .sub (.t 37) (.v (.int .i64 1)), (some (33, false)), none, []⟩, ⟨(some 39), .call 59 [(.t 34), (.v (.int .i64 0)), (.t 38)], (some (33, false)), none, []⟩, ⟨(some 40), .un .not (.t 39), (some (33, false)), none, []⟩, ⟨(some 41), .pick (.t 33) (.v (.bool true)) (.t 40), none, none, []⟩])
  (.cond (.t 41) (.seq (.reg [⟨(some 42), .build [(.int .u8 0), (.int .u8 0), (.int .u8 0), (.int .u8 0)] [], none, none, []⟩, ⟨none, .store 4 (.t 8) (.t 42), none, none, []⟩, ⟨(some 9), .mv (.v (.int .i64 1)), none, none, []⟩])
  .ret) .skip))
  (.seq (.reg [⟨(some 43), .mv (.t 3), none, none, []⟩, ⟨(some 44), .faddr 6 (.t 4), none, none, []⟩, ⟨(some 45), .faddr 0 (.t 44), none, none, []⟩, ⟨(some 46), .load none (.t 45), none, none, []⟩, ⟨(some 47), .bin .mul (.t 43) (.t 46), none, none, []⟩, ⟨(some 48), .mv (.t 2), none, none, []⟩, ⟨(some 49), .bin .add (.t 47) (.t 48), none, none, []⟩, ⟨(some 50), .bin .mul (.v (.int .i64 4)) (.t 49), none, none, []⟩, ⟨(some 10), .mv (.t 50), none, none, []⟩])
  (.seq (.reg [⟨(some 51), .faddr 10 (.t 4), none, none, []⟩, ⟨(some 52), .load none (.t 51), none, none, []⟩, ⟨(some 53), .mv (.t 1), none, none, []⟩, ⟨(some 54), .iaddr 1 (.t 52) (.t 53), none, none, []⟩, ⟨(some 55), .load none (.t 54), none, none, []⟩, ⟨(some 11), .mv (.t 55), none, none, []⟩])
  (.seq (.regd [⟨(some 56), .mv (.t 11), none, (some []), []⟩, ⟨(some 57), .mv (.t 10), none, (some []), []⟩, ⟨(some 58), .ixs (.t 56) (.t 57), none, (some []), []⟩, ⟨(some 59), .mv (.t 11), none, (some []), []⟩, ⟨(some 60), .mv (.t 10), none, (some []), []⟩, ⟨(some 61), .bin .add (.t 60) (.v (.int .i64 1)), none, (some []), []⟩, ⟨(some 62), .ixs (.t 59) (.t 61), none, (some []), []⟩, ⟨(some 63), .mv (.t 11), none, (some []), []⟩, ⟨(some 64), .mv (.t 10), none, (some []), []⟩, ⟨(some 65), .bin .add (.t 64) (.v (.int .i64 2)), none, (some []), []⟩, ⟨(some 66), .ixs (.t 63) (.t 65), none, (some []), []⟩, ⟨(some 67), .mv (.t 11), none, (some []), []⟩, ⟨(some 68), .mv (.t 10), none, (some []), []⟩, ⟨(some 69), .bin .add (.t 68) (.v (.int .i64 3)), none, (some []), []⟩, ⟨(some 70), .ixs (.t 67) (.t 69), none, (some []), []⟩, ⟨(some 71), .build [(.int .u8 0), (.int .u8 0), (.int .u8 0), (.int .u8 0)] [(0, 1, (.t 58)), (1, 1, (.t 62)), (2, 1, (.t 66)), (3, 1, (.t 70))], none, (some []), []⟩, ⟨none, .store 4 (.t 8) (.t 71), none, none, []⟩, ⟨(some 9), .mv (.v (.int .i64 0)), none, (some []), []⟩])
  .ret)))))⟩
/-- (*strings.Builder).WriteString -/
def s34 : SFn :=
 ⟨19, [.tmp 4, .tmp 5],
  (.seq (.reg [⟨(some 4), .mv (.v (.int .i64 0)), none, none, []⟩, ⟨(some 5), .mv (.v .nili), none, none, []⟩])
  (.seq (.reg [⟨(some 6), .mv (.t 0), none, none, []⟩, ⟨(some 7), .call 77 [(.t 6)], none, none, []⟩])
  (.seq (.reg [⟨(some 8), .mv (.t 0), none, none, []⟩, ⟨(some 9), .mv (.t 0), none, none, []⟩, ⟨(some 10), .nilck (.t 9), none, none, []⟩, ⟨(some 11), .faddr 1 (.t 10), none, none, []⟩, ⟨(some 12), .load none (.t 11), none, none, []⟩, ⟨(some 13), .mv (.t 1), none, none, []⟩, ⟨(some 14), .app 5 1 (.t 12) (.t 13), none, none, []⟩, ⟨(some 15), .nilck (.t 8), none, none, []⟩, ⟨(some 16), .faddr 1 (.t 15), none, none, []⟩, ⟨none, .store 1 (.t 16) (.t 14), none, none, []⟩])
  (.seq (.reg [⟨(some 17), .mv (.t 1), none, none, []⟩, ⟨(some 18), .len true (.t 17), none, none, []⟩, ⟨(some 4), .mv (.t 18), none, none, []⟩, ⟨(some 5), .mv (.v .nili), none, none, []⟩])
  .ret))))⟩
/-- pochoir/kern.ahead -/
def s35 : SFn :=
 ⟨12, [.tmp 2],
  (.seq (.reg [⟨(some 2), .mv (.v (.str ⟨#[]⟩)), none, none, []⟩])
  (.seq (.reg [⟨(some 3), .mv (.t 0), none, none, []⟩, ⟨(some 4), .bin .mul (.v (.int .i64 6)) (.t 3), none, none, []⟩, ⟨(some 5), .bin .add (.v (.int .i64 14)) (.t 4), none, none, []⟩, ⟨(some 6), .mv (.t 0), none, none, []⟩, ⟨(some 7), .bsl 3 [(.int .i64 0), (.int .i64 0), (.int .i64 0), (.int .i64 0), (.int .i64 0), (.int .i64 0)] 6 1 [(0, 1, (.v (.int .i64 0))), (1, 1, (.v (.int .i64 1))), (2, 1, (.v (.int .i64 0))), (3, 1, (.t 5)), (4, 1, (.v (.int .i64 1))), (5, 1, (.t 6))], none, none, []⟩, ⟨(some 8), .call 36 [(.t 7)], none, none, []⟩, ⟨(some 9), .mv (.t 0), none, none, []⟩, ⟨(some 10), .call 78 [(.t 9)], none, none, []⟩, ⟨(some 11), .bin .add (.t 8) (.t 10), none, none, []⟩, ⟨(some 2), .mv (.t 11), none, none, []⟩])
  .ret))⟩
/-- pochoir/kern.p16 -/
def s36 : SFn :=
 ⟨19, [.tmp 2],
  (.seq (.reg [⟨(some 2), .mv (.v (.str ⟨#[]⟩)), none, none, []⟩])
  (.seq (.reg [⟨(some 3), .mv (.v (.str ⟨#[]⟩)), none, none, []⟩])
  (.seq (.seq (.reg [⟨(some 6), .mv (.t 0), none, none, []⟩, ⟨(some 7), .len false (.t 6), none, none, []⟩, ⟨(some 8), .mv (.v (.int .i64 0)), none, none, []⟩])
  (.block 0 (.loop (.seq (.reg [⟨(some 9), .bin .lss (.t 8) (.t 7), none, none, []⟩])
  (.seq (.cond (.t 9) .skip (.exit 0))
  (.seq (.block 1 (.seq (.reg [⟨(some 10), .iaddr 1 (.t 6) (.t 8), none, none, []⟩, ⟨(some 11), .load none (.t 10), none, none, []⟩, ⟨(some 5), .mv (.t 11), none, none, []⟩])
  (.reg [⟨(some 12), .mv (.t 3), none, none, []⟩, ⟨(some 13), .mv (.t 5), none, none, []⟩, ⟨(some 14), .conv .u16 (.t 13), none, none, []⟩, ⟨(some 15), .call 79 [(.t 14)], none, none, []⟩, ⟨(some 16), .bin .add (.t 12) (.t 15), none, none, []⟩, ⟨(some 3), .mv (.t 16), none, none, []⟩])))
  (.reg [⟨(some 17), .bin .add (.t 8) (.v (.int .i64 1)), none, none, []⟩, ⟨(some 8), .mv (.t 17), none, none, []⟩])))))))
  (.seq (.reg [⟨(some 18), .mv (.t 3), none, none, []⟩, ⟨(some 2), .mv (.t 18), none, none, []⟩])
  .ret))))⟩
/-- (*strings.Builder).String -/
def s37 : SFn :=
 ⟨14, [.tmp 2],
  (.seq (.reg [⟨(some 2), .mv (.v (.str ⟨#[]⟩)), none, none, []⟩])
  (.seq (.regd [⟨(some 3), .mv (.t 0), none, (some []), []⟩, ⟨(some 4), .nilck (.t 3), none, (some []), []⟩, ⟨(some 5), .faddr 1 (.t 4), none, (some []), []⟩, ⟨(some 6), .load none (.t 5), none, (some []), []⟩, ⟨(some 7), .sdata (.t 6), none, (some []), []⟩, ⟨(some 8), .mv (.t 0), none, (some []), []⟩, ⟨(some 9), .nilck (.t 8), none, (some []), []⟩, ⟨(some 10), .faddr 1 (.t 9), none, (some []), []⟩, ⟨(some 11), .load none (.t 10), none, (some []), []⟩, ⟨(some 12), .len false (.t 11), none, (some []), []⟩, ⟨(some 13), .ustr 5 (.t 7) (.t 12), none, none, []⟩, ⟨(some 2), .mv (.t 13), none, (some []), []⟩])
  .ret))⟩
/-- pochoir/pochoirref40.three -/
def s38 : SFn :=
 ⟨25, [.tmp 2],
  (.seq (.reg [⟨(some 2), .mv (.v .nils), none, none, []⟩])
  (.seq (.seq (.reg [⟨(some 5), .mv (.t 0), none, none, []⟩, ⟨(some 6), .bin .eql (.t 5) (.v (.int .i64 0)), none, none, []⟩])
  (.cond (.t 6) (.seq (.reg [⟨(some 7), .bsl 3 [(.int .i64 0), (.int .i64 0), (.int .i64 0)] 3 1 [(0, 1, (.v (.int .i64 0))), (1, 1, (.v (.int .i64 0))), (2, 1, (.v (.int .i64 0)))], none, none, []⟩, ⟨(some 2), .mv (.t 7), none, none, []⟩])
  .ret) .skip))
  (.seq (.reg [⟨(some 3), .mv (.v (.int .i64 1)), none, none, []⟩])
  (.seq (.reg [⟨(some 4), .mv (.v (.int .i64 0)), none, none, []⟩])
  (.seq (.block 0 (.loop (.seq (.seq (.reg [⟨(some 8), .mv (.t 3), none, none, []⟩, ⟨(some 9), .bin .mul (.v (.int .i64 2)) (.t 8), none, none, []⟩, ⟨(some 10), .mv (.t 0), none, none, []⟩, ⟨(some 11), .bin .leq (.t 9) (.t 10), none, none, []⟩])
  (.cond (.t 11) .skip (.exit 0)))
  (.block 1 (.seq (.reg [⟨(some 12), .mv (.t 3), none, none, []⟩, ⟨(some 13), .bin .mul (.v (.int .i64 2)) (.t 12), none, none, []⟩, ⟨(some 3), .mv (.t 13), none, none, []⟩])
  (.reg [⟨(some 14), .mv (.t 4), none, none, []⟩, ⟨(some 15), .bin .add (.t 14) (.v (.int .i64 1)), none, none, []⟩, ⟨(some 4), .mv (.t 15), none, none, []⟩]))))))
  (.seq (.reg [⟨(some 16), .mv (.t 3), none, none, []⟩, ⟨(some 17), .bin .mul (.v (.int .i64 6)) (.t 16), none, none, []⟩, ⟨(some 18), .mv (.t 4), none, none, []⟩, ⟨(some 19), .mv (.t 0), none, none, []⟩, ⟨(some 20), .bin .mul (.v (.int .i64 6)) (.t 19), none, none, []⟩, ⟨(some 21), .mv (.t 3), none, none, []⟩, ⟨(some 22), .bin .mul (.v (.int .i64 6)) (.t 21), none, none, []⟩, ⟨(some 23), .bin .sub (.t 20) (.t 22), none, none, []⟩, ⟨(some 24), .bsl 3 [(.int .i64 0), (.int .i64 0), (.int .i64 0)] 3 1 [(0, 1, (.t 17)), (1, 1, (.t 18)), (2, 1, (.t 23))], none, none, []⟩, ⟨(some 2), .mv (.t 24), none, none, []⟩])
  .ret))))))⟩
/-- pochoir/pochoirref40.p16 -/
def s39 : SFn :=
 ⟨7, [.tmp 2],
  (.seq (.reg [⟨(some 2), .mv (.v (.str ⟨#[]⟩)), none, none, []⟩])
  (.seq (.reg [⟨(some 3), .mv (.t 0), none, none, []⟩, ⟨(some 4), .conv .u16 (.t 3), none, none, []⟩, ⟨(some 5), .conv .u32 (.t 4), none, none, []⟩, ⟨(some 6), .call 68 [(.t 5), (.v (.int .i64 2))], none, none, []⟩, ⟨(some 2), .mv (.t 6), none, none, []⟩])
  .ret))⟩
/-- pochoir/kern.rises -/
def s40 : SFn :=
 ⟨20, [.tmp 4],
  (.seq (.reg [⟨(some 4), .mv (.v (.bool false)), none, none, []⟩])
  (.seq (.regd [⟨(some 5), .mv (.t 1), none, (some []), []⟩, ⟨(some 6), .bin .eql (.t 5) (.v (.int .i64 0)), none, (some []), []⟩, ⟨(some 7), .mv (.t 6), none, (some []), []⟩, ⟨(some 8), .mv (.t 0), (some (7, false)), (some []), []⟩, ⟨(some 9), .mv (.t 1), (some (7, false)), (some []), []⟩, ⟨(some 10), .bin .sub (.t 9) (.v (.int .i64 1)), (some (7, false)), (some []), []⟩, ⟨(some 11), .iaddr 3 (.t 8) (.t 10), (some (7, false)), (some []), []⟩, ⟨(some 12), .load (some 3) (.t 11), (some (7, false)), (some []), []⟩, ⟨(some 13), .mv (.t 0), (some (7, false)), (some []), []⟩, ⟨(some 14), .mv (.t 1), (some (7, false)), (some []), []⟩, ⟨(some 15), .iaddr 3 (.t 13) (.t 14), (some (7, false)), (some []), []⟩, ⟨(some 16), .load (some 3) (.t 15), (some (7, false)), (some []), []⟩, ⟨(some 17), .call 80 [(.t 12), (.t 16)], (some (7, false)), none, []⟩, ⟨(some 18), .bin .lss (.t 17) (.v (.int .i64 0)), (some (7, false)), (some []), []⟩, ⟨(some 19), .pick (.t 7) (.v (.bool true)) (.t 18), none, (some []), []⟩, ⟨(some 4), .mv (.t 19), none, (some []), []⟩])
  .ret))⟩
/-- pochoir/pochoirref40.after -/
def s41 : SFn :=
 ⟨24, [.tmp 4],
  (.seq (.reg [⟨(some 2), .box 41 (.t 0), none, none, []⟩, ⟨(some 3), .box 41 (.t 1), none, none, []⟩, ⟨(some 4), .mv (.v (.bool false)), none, none, []⟩])
  (.seq (.reg [⟨(some 5), .faddr 0 (.t 2), none, none, []⟩, ⟨(some 6), .load none (.t 5), none, none, []⟩, ⟨(some 7), .faddr 0 (.t 3), none, none, []⟩, ⟨(some 8), .load none (.t 7), none, none, []⟩, ⟨(some 9), .bin .gtr (.t 6) (.t 8), none, none, []⟩, ⟨(some 10), .mv (.t 9), none, none, []⟩, ⟨(some 11), .faddr 0 (.t 2), (some (10, false)), none, []⟩, ⟨(some 12), .load none (.t 11), (some (10, false)), none, []⟩, ⟨(some 13), .faddr 0 (.t 3), (some (10, false)), none, []⟩, ⟨(some 14), .load none (.t 13), (some (10, false)), none, []⟩, ⟨(some 15), .bin .eql (.t 12) (.t 14), (some (10, false)), none, []⟩, ⟨(some 16), .mv (.t 15), (some (10, false)), none, []⟩, ⟨(some 17), .faddr 1 (.t 2), (some (16, true)), none, []⟩, ⟨(some 18), .load none (.t 17), (some (16, true)), none, []⟩, ⟨(some 19), .faddr 1 (.t 3), (some (16, true)), none, []⟩, ⟨(some 20), .load none (.t 19), (some (16, true)), none, []⟩, ⟨(some 21), .bin .gtr (.t 18) (.t 20), (some (16, true)), none, []⟩, ⟨(some 22), .pick (.t 16) (.t 21) (.v (.bool false)), (some (10, false)), none, []⟩, ⟨(some 23), .pick (.t 10) (.v (.bool true)) (.t 22), none, none, []⟩, ⟨(some 4), .mv (.t 23), none, none, []⟩])
  .ret))⟩
/-- slices.IndexFunc[[]pochoir/api.Kern,pochoir/api.Kern] -/
def s42 : SFn :=
 ⟨19, [.tmp 4],
  (.seq (.reg [⟨(some 4), .mv (.v (.int .i64 0)), none, none, []⟩])
  (.seq (.seq (.reg [⟨(some 6), .mv (.t 0), none, none, []⟩, ⟨(some 7), .len false (.t 6), none, none, []⟩, ⟨(some 8), .mv (.v (.int .i64 0)), none, none, []⟩])
  (.block 0 (.loop (.seq (.reg [⟨(some 9), .bin .lss (.t 8) (.t 7), none, none, []⟩])
  (.seq (.cond (.t 9) .skip (.exit 0))
  (.seq (.block 1 (.seq (.reg [⟨(some 10), .mv (.t 8), none, none, []⟩, ⟨(some 5), .mv (.t 10), none, none, []⟩])
  (.seq (.reg [⟨(some 11), .mv (.t 1), none, none, []⟩, ⟨(some 12), .mv (.t 0), none, none, []⟩, ⟨(some 13), .mv (.t 5), none, none, []⟩, ⟨(some 14), .iaddr 3 (.t 12) (.t 13), none, none, []⟩, ⟨(some 15), .load (some 3) (.t 14), none, none, []⟩, ⟨(some 16), .callv (.t 11) [(.t 15)], none, none, []⟩])
  (.cond (.t 16) (.seq (.reg [⟨(some 17), .mv (.t 5), none, none, []⟩, ⟨(some 4), .mv (.t 17), none, none, []⟩])
  .ret) .skip))))
  (.reg [⟨(some 18), .bin .add (.t 8) (.v (.int .i64 1)), none, none, []⟩, ⟨(some 8), .mv (.t 18), none, none, []⟩])))))))
  (.seq (.reg [⟨(some 4), .mv (.v (.int .i64 (-1))), none, none, []⟩])
  .ret)))⟩
/-- pochoir/kern.By$1 -/
def s43 : SFn :=
 ⟨15, [.tmp 4],
  (.seq (.reg [⟨(some 3), .box 41 (.t 0), none, none, []⟩, ⟨(some 4), .mv (.v (.bool false)), none, none, []⟩])
  (.seq (.reg [⟨(some 5), .faddr 0 (.t 3), none, none, []⟩, ⟨(some 6), .load none (.t 5), none, none, []⟩, ⟨(some 7), .load none (.t 1), none, none, []⟩, ⟨(some 8), .bin .eql (.t 6) (.t 7), none, none, []⟩, ⟨(some 9), .mv (.t 8), none, none, []⟩, ⟨(some 10), .faddr 1 (.t 3), (some (9, true)), none, []⟩, ⟨(some 11), .load none (.t 10), (some (9, true)), none, []⟩, ⟨(some 12), .load none (.t 2), (some (9, true)), none, []⟩, ⟨(some 13), .bin .eql (.t 11) (.t 12), (some (9, true)), none, []⟩, ⟨(some 14), .pick (.t 9) (.t 13) (.v (.bool false)), none, none, []⟩, ⟨(some 4), .mv (.t 14), none, none, []⟩])
  .ret))⟩
/-- pochoir/octet.U16 -/
def s44 : SFn :=
 ⟨18, [.tmp 4, .tmp 5],
  (.seq (.reg [⟨(some 4), .mv (.v (.int .u16 0)), none, none, []⟩, ⟨(some 5), .mv (.v (.int .i64 0)), none, none, []⟩])
  (.seq (.reg [⟨(some 9), .mv (.t 0), none, none, []⟩, ⟨(some 10), .mv (.t 1), none, none, []⟩, ⟨(some 11), .call 81 [(.t 9), (.t 10), (.v (.int .i64 2))], none, none, []⟩, ⟨(some 8), .mv (.t 11), none, none, []⟩, ⟨(some 12), .extract (.t 8) 0, none, none, []⟩, ⟨(some 13), .extract (.t 8) 1, none, none, []⟩, ⟨(some 6), .mv (.t 12), none, none, []⟩, ⟨(some 7), .mv (.t 13), none, none, []⟩])
  (.seq (.reg [⟨(some 14), .mv (.t 6), none, none, []⟩, ⟨(some 15), .call 82 [(.t 14)], none, none, []⟩, ⟨(some 16), .conv .u16 (.t 15), none, none, []⟩, ⟨(some 17), .mv (.t 7), none, none, []⟩, ⟨(some 4), .mv (.t 16), none, none, []⟩, ⟨(some 5), .mv (.t 17), none, none, []⟩])
  .ret)))⟩
/-- pochoir/octet.New -/
def s45 : SFn :=
 ⟨6, [.tmp 2],
  (.seq (.reg [⟨(some 2), .mv (.v .nilp), none, none, []⟩])
  (.seq (.reg [⟨(some 3), .mv (.t 0), none, none, []⟩, ⟨(some 4), .build [(.str ⟨#[]⟩), (.int .i64 0), (.bool false)] [(0, 1, (.t 3))], none, none, []⟩, ⟨(some 5), .box 146 (.t 4), none, none, []⟩, ⟨(some 2), .mv (.t 5), none, none, []⟩])
  .ret))⟩
/-- (*pochoir/octet.Reader).Skip -/
def s46 : SFn :=
 ⟨7, [],
  (.reg [⟨(some 4), .mv (.t 0), none, none, []⟩, ⟨(some 5), .mv (.t 1), none, none, []⟩, ⟨(some 6), .call 83 [(.t 4), (.t 5)], none, none, []⟩])⟩
/-- (*pochoir/octet.Reader).U16 -/
def s47 : SFn :=
 ⟨7, [.tmp 2],
  (.seq (.reg [⟨(some 2), .mv (.v (.int .u16 0)), none, none, []⟩])
  (.seq (.reg [⟨(some 3), .mv (.t 0), none, none, []⟩, ⟨(some 4), .call 83 [(.t 3), (.v (.int .i64 2))], none, none, []⟩, ⟨(some 5), .call 82 [(.t 4)], none, none, []⟩, ⟨(some 6), .conv .u16 (.t 5), none, none, []⟩, ⟨(some 2), .mv (.t 6), none, none, []⟩])
  .ret))⟩
/-- (*pochoir/octet.Reader).I16 -/
def s48 : SFn :=
 ⟨6, [.tmp 2],
  (.seq (.reg [⟨(some 2), .mv (.v (.int .i16 0)), none, none, []⟩])
  (.seq (.reg [⟨(some 3), .mv (.t 0), none, none, []⟩, ⟨(some 4), .call 47 [(.t 3)], none, none, []⟩, ⟨(some 5), .conv .i16 (.t 4), none, none, []⟩, ⟨(some 2), .mv (.t 5), none, none, []⟩])
  .ret))⟩
/-- pochoir/pochoirref40.u16 -/
def s49 : SFn :=
 ⟨15, [.tmp 4],
  (.seq (.reg [⟨(some 4), .mv (.v (.int .i64 0)), none, none, []⟩])
  (.seq (.reg [⟨(some 8), .mv (.t 0), none, none, []⟩, ⟨(some 9), .mv (.t 1), none, none, []⟩, ⟨(some 10), .call 84 [(.t 8), (.t 9)], none, none, []⟩, ⟨(some 7), .mv (.t 10), none, none, []⟩, ⟨(some 11), .extract (.t 7) 0, none, none, []⟩, ⟨(some 12), .extract (.t 7) 1, none, none, []⟩, ⟨(some 5), .mv (.t 11), none, none, []⟩, ⟨(some 6), .mv (.t 12), none, none, []⟩])
  (.seq (.reg [⟨(some 13), .mv (.t 5), none, none, []⟩, ⟨(some 14), .conv .i64 (.t 13), none, none, []⟩, ⟨(some 4), .mv (.t 14), none, none, []⟩])
  .ret)))⟩
/-- pochoir/pochoirref07.Signed -/
def s50 : SFn :=
 ⟨12, [.tmp 4],
  (.seq (.reg [⟨(some 4), .mv (.v (.int .i64 0)), none, none, []⟩])
  (.seq (.reg [⟨(some 6), .mv (.t 0), none, none, []⟩, ⟨(some 7), .mv (.t 1), none, none, []⟩, ⟨(some 8), .build [(.str ⟨#[]⟩), (.int .i64 0), (.bool false)] [(0, 1, (.t 6)), (1, 1, (.t 7))], none, none, []⟩, ⟨(some 9), .box 135 (.t 8), none, none, []⟩, ⟨(some 5), .mv (.t 9), none, none, []⟩])
  (.seq (.reg [⟨(some 10), .mv (.t 5), none, none, []⟩, ⟨(some 11), .call 72 [(.t 10)], none, none, []⟩, ⟨(some 4), .mv (.t 11), none, none, []⟩])
  .ret)))⟩
/-- slices.Clone[[]pochoir/api.Placed,pochoir/api.Placed] -/
def s51 : SFn :=
 ⟨8, [.tmp 2],
  (.seq (.reg [⟨(some 2), .mv (.v .nils), none, none, []⟩])
  (.seq (.seq (.reg [⟨(some 3), .mv (.t 0), none, none, []⟩, ⟨(some 4), .eqs 2 [] false (.t 3) (.v .nils), none, none, []⟩])
  (.cond (.t 4) (.seq (.reg [⟨(some 2), .mv (.v .nils), none, none, []⟩])
  .ret) .skip))
  (.seq (.reg [⟨(some 5), .bsl 43 [] 0 3 [], none, none, []⟩, ⟨(some 6), .mv (.t 0), none, none, []⟩, ⟨(some 7), .app 43 3 (.t 5) (.t 6), none, none, []⟩, ⟨(some 2), .mv (.t 7), none, none, []⟩])
  .ret)))⟩
/-- (*pochoir/atlas.writer).short -/
def s52 : SFn :=
 ⟨20, [],
  (.seq (.reg [⟨(some 6), .mv (.t 1), none, none, []⟩, ⟨(some 7), .len false (.t 6), none, none, []⟩, ⟨(some 8), .mv (.v (.int .i64 0)), none, none, []⟩])
  (.block 0 (.loop (.seq (.reg [⟨(some 9), .bin .lss (.t 8) (.t 7), none, none, []⟩])
  (.seq (.cond (.t 9) .skip (.exit 0))
  (.seq (.block 1 (.seq (.reg [⟨(some 10), .iaddr 1 (.t 6) (.t 8), none, none, []⟩, ⟨(some 11), .load none (.t 10), none, none, []⟩, ⟨(some 5), .mv (.t 11), none, none, []⟩])
  (.regd [⟨(some 12), .mv (.t 0), none, (some []), []⟩, ⟨(some 13), .nilck (.t 12), none, (some []), []⟩, ⟨(some 14), .faddr 0 (.t 13), none, (some []), []⟩, ⟨(some 15), .mv (.t 5), none, (some []), []⟩, ⟨(some 16), .conv .u16 (.t 15), none, (some []), []⟩, ⟨(some 17), .call 79 [(.t 16)], none, none, []⟩, ⟨(some 18), .call 34 [(.t 14), (.t 17)], none, none, []⟩])))
  (.reg [⟨(some 19), .bin .add (.t 8) (.v (.int .i64 1)), none, none, []⟩, ⟨(some 8), .mv (.t 19), none, none, []⟩])))))))⟩
/-- (*pochoir/atlas.writer).long -/
def s53 : SFn :=
 ⟨20, [],
  (.seq (.reg [⟨(some 6), .mv (.t 1), none, none, []⟩, ⟨(some 7), .len false (.t 6), none, none, []⟩, ⟨(some 8), .mv (.v (.int .i64 0)), none, none, []⟩])
  (.block 0 (.loop (.seq (.reg [⟨(some 9), .bin .lss (.t 8) (.t 7), none, none, []⟩])
  (.seq (.cond (.t 9) .skip (.exit 0))
  (.seq (.block 1 (.seq (.reg [⟨(some 10), .iaddr 1 (.t 6) (.t 8), none, none, []⟩, ⟨(some 11), .load none (.t 10), none, none, []⟩, ⟨(some 5), .mv (.t 11), none, none, []⟩])
  (.regd [⟨(some 12), .mv (.t 0), none, (some []), []⟩, ⟨(some 13), .nilck (.t 12), none, (some []), []⟩, ⟨(some 14), .faddr 0 (.t 13), none, (some []), []⟩, ⟨(some 15), .mv (.t 5), none, (some []), []⟩, ⟨(some 16), .conv .u32 (.t 15), none, (some []), []⟩, ⟨(some 17), .call 54 [(.t 16)], none, none, []⟩, ⟨(some 18), .call 34 [(.t 14), (.t 17)], none, none, []⟩])))
  (.reg [⟨(some 19), .bin .add (.t 8) (.v (.int .i64 1)), none, none, []⟩, ⟨(some 8), .mv (.t 19), none, none, []⟩])))))))⟩
/-- pochoir/octet.P32 -/
def s54 : SFn :=
 ⟨11, [.tmp 2],
  (.seq (.reg [⟨(some 2), .mv (.v (.str ⟨#[]⟩)), none, none, []⟩])
  (.seq (.reg [⟨(some 3), .mv (.t 0), none, none, []⟩, ⟨(some 4), .bin .shr (.t 3) (.v (.int .u64 16)), none, none, []⟩, ⟨(some 5), .conv .u16 (.t 4), none, none, []⟩, ⟨(some 6), .call 79 [(.t 5)], none, none, []⟩, ⟨(some 7), .mv (.t 0), none, none, []⟩, ⟨(some 8), .conv .u16 (.t 7), none, none, []⟩, ⟨(some 9), .call 79 [(.t 8)], none, none, []⟩, ⟨(some 10), .bin .add (.t 6) (.t 9), none, none, []⟩, ⟨(some 2), .mv (.t 10), none, none, []⟩])
  .ret))⟩
/-- pochoir/sum.Crc -/
def s55 : SFn :=
 ⟨26, [.tmp 2],
  (.seq (.reg [⟨(some 2), .mv (.v (.int .u32 0)), none, none, []⟩])
  (.seq (.reg [⟨(some 6), .call 85 [], none, none, []⟩, ⟨(some 3), .box 150 (.v (.agg (List.replicate 256 (.int .u32 0)))), none, none, []⟩, ⟨none, .store 256 (.t 3) (.t 6), none, none, []⟩])
  (.seq (.reg [⟨(some 4), .mv (.v (.int .u32 4294967295)), none, none, []⟩])
  (.seq (.seq (.reg [⟨(some 7), .mv (.t 0), none, none, []⟩, ⟨(some 8), .len true (.t 7), none, none, []⟩, ⟨(some 9), .mv (.v (.int .i64 0)), none, none, []⟩])
  (.block 0 (.loop (.seq (.reg [⟨(some 10), .bin .lss (.t 9) (.t 8), none, none, []⟩])
  (.seq (.cond (.t 10) .skip (.exit 0))
  (.seq (.block 1 (.seq (.reg [⟨(some 11), .mv (.t 9), none, none, []⟩, ⟨(some 5), .mv (.t 11), none, none, []⟩])
  (.reg [⟨(some 12), .mv (.t 4), none, none, []⟩, ⟨(some 13), .bin .shr (.t 12) (.v (.int .u64 8)), none, none, []⟩, ⟨(some 14), .mv (.t 4), none, none, []⟩, ⟨(some 15), .conv .u8 (.t 14), none, none, []⟩, ⟨(some 16), .mv (.t 0), none, none, []⟩, ⟨(some 17), .mv (.t 5), none, none, []⟩, ⟨(some 18), .ixs (.t 16) (.t 17), none, none, []⟩, ⟨(some 19), .bin .xor (.t 15) (.t 18), none, none, []⟩, ⟨(some 20), .iarr 256 1 (.t 3) (.t 19), none, none, []⟩, ⟨(some 21), .load none (.t 20), none, none, []⟩, ⟨(some 22), .bin .xor (.t 13) (.t 21), none, none, []⟩, ⟨(some 4), .mv (.t 22), none, none, []⟩])))
  (.reg [⟨(some 23), .bin .add (.t 9) (.v (.int .i64 1)), none, none, []⟩, ⟨(some 9), .mv (.t 23), none, none, []⟩])))))))
  (.seq (.reg [⟨(some 24), .mv (.t 4), none, none, []⟩, ⟨(some 25), .un .xor (.t 24), none, none, []⟩, ⟨(some 2), .mv (.t 25), none, none, []⟩])
  .ret)))))⟩
/-- pochoir/atlas.numbers -/
def s56 : SFn :=
 ⟨55, [.tmp 2],
  (.seq (.reg [⟨(some 1), .box 53 (.t 0), none, none, []⟩, ⟨(some 2), .mv (.v (.bool false)), none, none, []⟩])
  (.seq (.reg [⟨(some 3), .faddr 0 (.t 1), none, none, []⟩, ⟨(some 4), .load none (.t 3), none, none, []⟩, ⟨(some 5), .call 76 [(.t 4), (.v (.int .i64 16)), (.v (.int .i64 16384))], none, none, []⟩, ⟨(some 6), .mv (.t 5), none, none, []⟩, ⟨(some 7), .faddr 1 (.t 1), (some (6, true)), none, []⟩, ⟨(some 8), .load none (.t 7), (some (6, true)), none, []⟩, ⟨(some 9), .call 76 [(.t 8), (.v (.int .i64 1)), (.v (.int .i64 128))], (some (6, true)), none, []⟩, ⟨(some 10), .pick (.t 6) (.t 9) (.v (.bool false)), none, none, []⟩, ⟨(some 11), .mv (.t 10), none, none, []⟩, ⟨(some 12), .faddr 2 (.t 1), (some (11, true)), none, []⟩, ⟨(some 13), .load none (.t 12), (some (11, true)), none, []⟩, ⟨(some 14), .call 76 [(.t 13), (.v (.int .i64 1)), (.v (.int .i64 16))], (some (11, true)), none, []⟩, ⟨(some 15), .pick (.t 11) (.t 14) (.v (.bool false)), none, none, []⟩, ⟨(some 16), .mv (.t 15), none, none, []⟩, ⟨(some 17), .faddr 3 (.t 1), (some (16, true)), none, []⟩, ⟨(some 18), .load none (.t 17), (some (16, true)), none, []⟩, ⟨(some 19), .call 86 [(.t 18)], (some (16, true)), none, []⟩, ⟨(some 20), .pick (.t 16) (.t 19) (.v (.bool false)), none, none, []⟩, ⟨(some 21), .mv (.t 20), none, none, []⟩, ⟨(some 22), .faddr 4 (.t 1), (some (21, true)), none, []⟩, ⟨(some 23), .load none (.t 22), (some (21, true)), none, []⟩, ⟨(some 24), .call 86 [(.t 23)], (some (21, true)), none, []⟩, ⟨(some 25), .pick (.t 21) (.t 24) (.v (.bool false)), none, none, []⟩, ⟨(some 26), .mv (.t 25), none, none, []⟩, ⟨(some 27), .faddr 5 (.t 1), (some (26, true)), none, []⟩, ⟨(some 28), .load none (.t 27), (some (26, true)), none, []⟩, ⟨(some 29), .call 86 [(.t 28)], (some (26, true)), none, []⟩, ⟨(some 30), .pick (.t 26) (.t 29) (.v (.bool false)), none, none, []⟩, ⟨(some 31), .mv (.t 30), none, none, []⟩, ⟨(some 32), .faddr 6 (.t 1), (some (31, true)), none, []⟩, ⟨(some 33), .faddr 0 (.t 32), (some (31, true)), none, []⟩, ⟨(some 34), .load none (.t 33), (some (31, true)), none, []⟩, ⟨(some 35), .call 76 [(.t 34), (.v (.int .i64 1)), (.v (.int .i64 1024))], (some (31, true)), none, []⟩, ⟨(some 36), .pick (.t 31) (.t 35) (.v (.bool false)), none, none, []⟩, ⟨(some 37), .mv (.t 36), none, none, []⟩, ⟨(some 38), .faddr 6 (.t 1), (some (37, true)), none, []⟩, ⟨(some 39), .faddr 1 (.t 38), (some (37, true)), none, []⟩, ⟨(some 40), .load none (.t 39), (some (37, true)), none, []⟩, ⟨(some 41), .call 76 [(.t 40), (.v (.int .i64 1)), (.v (.int .i64 1024))], (some (37, true)), none, []⟩, ⟨(some 42), .pick (.t 37) (.t 41) (.v (.bool false)), none, none, []⟩, ⟨(some 43), .mv (.t 42), none, none, []⟩, ⟨(some 44), .faddr 10 (.t 1), (some (43, true)), none, []⟩, ⟨(some 45), .load none (.t 44), (some (43, true)), none, []⟩, ⟨(some 46), .len false (.t 45), (some (43, true)), none, []⟩, ⟨(some 47), .bin .leq (.t 46) (.v (.int .i64 16)), (some (43, true)), none, []⟩, ⟨(some 48), .pick (.t 43) (.t 47) (.v (.bool false)), none, none, []⟩, ⟨(some 49), .mv (.t 48), none, none, []⟩, ⟨(some 50), .faddr 8 (.t 1), (some (49, true)), none, []⟩, ⟨(some 51), .load none (.t 50), (some (49, true)), none, []⟩, ⟨(some 52), .len false (.t 51), (some (49, true)), none, []⟩, ⟨(some 53), .call 76 [(.t 52), (.v (.int .i64 1)), (.v (.int .i64 1024))], (some (49, true)), none, []⟩, ⟨(some 54), .pick (.t 49) (.t 53) (.v (.bool false)), none, none, []⟩, ⟨(some 2), .mv (.t 54), none, none, []⟩])
  .ret))⟩
/-- pochoir/atlas.entry -/
def s57 : SFn :=
 ⟨57, [.tmp 6],
  (.seq (.reg [⟨(some 3), .box 107 (.t 0), none, none, []⟩, ⟨(some 4), .box 48 (.t 1), none, none, []⟩, ⟨(some 6), .mv (.v (.bool false)), none, none, []⟩])
  (.seq (.block 0 (.seq (.reg [⟨(some 8), .faddr 0 (.t 3), none, none, []⟩, ⟨(some 9), .load none (.t 8), none, none, []⟩, ⟨(some 10), .call 76 [(.t 9), (.v (.int .i64 0)), (.v (.int .i64 65535))], none, none, []⟩, ⟨(some 11), .un .not (.t 10), none, none, []⟩, ⟨(some 12), .mv (.t 11), none, none, []⟩, ⟨(some 13), .faddr 1 (.t 3), (some (12, false)), none, []⟩, ⟨(some 14), .load (some 4) (.t 13), (some (12, false)), none, []⟩, ⟨(some 15), .call 87 [(.t 14)], (some (12, false)), none, []⟩, ⟨(some 16), .un .not (.t 15), (some (12, false)), none, []⟩, ⟨(some 17), .pick (.t 12) (.v (.bool true)) (.t 16), none, none, []⟩, ⟨(some 7), .mv (.t 17), none, none, []⟩])
  (.cond (.t 7) (.seq (.reg [⟨(some 6), .mv (.v (.bool false)), none, none, []⟩])
  .ret) (.seq (.reg [⟨(some 19), .faddr 1 (.t 3), none, none, []⟩, ⟨(some 20), .load (some 4) (.t 19), none, none, []⟩, ⟨(some 21), .build [(.int .i64 0), (.int .i64 0), (.int .i64 0), (.int .i64 0)] [], none, none, []⟩, ⟨(some 22), .eqs 4 [1, 1, 1, 1] false (.t 20) (.t 21), none, none, []⟩, ⟨(some 18), .mv (.t 22), none, none, []⟩])
  (.cond (.t 18) (.seq (.reg [⟨(some 23), .faddr 5 (.t 3), none, none, []⟩, ⟨(some 24), .load (some 3) (.t 23), none, none, []⟩, ⟨(some 25), .build [(.int .i64 0), (.int .i64 0), (.int .i64 0)] [], none, none, []⟩, ⟨(some 26), .eqs 4 [1, 1, 1] false (.t 24) (.t 25), none, none, []⟩, ⟨(some 6), .mv (.t 26), none, none, []⟩])
  .ret) .skip)))))
  (.seq (.reg [⟨(some 27), .faddr 5 (.t 3), none, none, []⟩, ⟨(some 28), .faddr 0 (.t 27), none, none, []⟩, ⟨(some 29), .load none (.t 28), none, none, []⟩, ⟨(some 30), .mv (.t 2), none, none, []⟩, ⟨(some 31), .bin .sub (.t 30) (.v (.int .i64 1)), none, none, []⟩, ⟨(some 32), .call 76 [(.t 29), (.v (.int .i64 0)), (.t 31)], none, none, []⟩, ⟨(some 33), .mv (.t 32), none, none, []⟩, ⟨(some 34), .faddr 5 (.t 3), (some (33, true)), none, []⟩, ⟨(some 35), .faddr 1 (.t 34), (some (33, true)), none, []⟩, ⟨(some 36), .load none (.t 35), (some (33, true)), none, []⟩, ⟨(some 37), .faddr 0 (.t 4), (some (33, true)), none, []⟩, ⟨(some 38), .load none (.t 37), (some (33, true)), none, []⟩, ⟨(some 39), .faddr 1 (.t 3), (some (33, true)), none, []⟩, ⟨(some 40), .faddr 2 (.t 39), (some (33, true)), none, []⟩, ⟨(some 41), .load none (.t 40), (some (33, true)), none, []⟩, ⟨(some 42), .bin .sub (.t 38) (.t 41), (some (33, true)), none, []⟩, ⟨(some 43), .call 76 [(.t 36), (.v (.int .i64 0)), (.t 42)], (some (33, true)), none, []⟩, ⟨(some 44), .pick (.t 33) (.t 43) (.v (.bool false)), none, none, []⟩, ⟨(some 45), .mv (.t 44), none, none, []⟩, ⟨(some 46), .faddr 5 (.t 3), (some (45, true)), none, []⟩, ⟨(some 47), .faddr 2 (.t 46), (some (45, true)), none, []⟩, ⟨(some 48), .load none (.t 47), (some (45, true)), none, []⟩, ⟨(some 49), .faddr 1 (.t 4), (some (45, true)), none, []⟩, ⟨(some 50), .load none (.t 49), (some (45, true)), none, []⟩, ⟨(some 51), .faddr 1 (.t 3), (some (45, true)), none, []⟩, ⟨(some 52), .faddr 3 (.t 51), (some (45, true)), none, []⟩, ⟨(some 53), .load none (.t 52), (some (45, true)), none, []⟩, ⟨(some 54), .bin .sub (.t 50) (.t 53), (some (45, true)), none, []⟩, ⟨(some 55), .call 76 [(.t 48), (.v (.int .i64 0)), (.t 54)], (some (45, true)), none, []⟩, ⟨(some 56), .pick (.t 45) (.t 55) (.v (.bool false)), none, none, []⟩, ⟨(some 6), .mv (.t 56), none, none, []⟩])
  .ret)))⟩
/-- pochoir/cmap.May -/
def s58 : SFn :=
 ⟨48, [.tmp 4],
  (.seq (.reg [⟨(some 4), .mv (.v (.bool false)), none, none, []⟩])
  (.seq (.seq (.reg [⟨(some 8), .mv (.t 1), none, none, []⟩, ⟨(some 9), .bin .lss (.t 8) (.v (.int .i64 1)), none, none, []⟩, ⟨(some 10), .mv (.t 9), none, none, []⟩, ⟨(some 11), .mv (.t 1), (some (10, false)), none, []⟩, ⟨(some 12), .bin .gtr (.t 11) (.v (.int .i64 1024)), (some (10, false)), none, []⟩, ⟨(some 13), .pick (.t 10) (.v (.bool true)) (.t 12), none, none, []⟩, ⟨(some 14), .mv (.t 13), none, none, []⟩, ⟨(some 15), .mv (.t 0), (some (14, false)), none, []⟩, ⟨(some 16), .len false (.t 15), (some (14, false)), none, []⟩, ⟨(some 17), .bin .gtr (.t 16) (.v (.int .i64 4096)), (some (14, false)), none, []⟩, ⟨(some 18), .pick (.t 14) (.v (.bool true)) (.t 17), none, none, []⟩])
  (.cond (.t 18) (.seq (.reg [⟨(some 4), .mv (.v (.bool false)), none, none, []⟩])
  .ret) .skip))
  (.seq (.reg [⟨(some 5), .mv (.v (.int .i64 (-1))), none, none, []⟩])
  (.seq (.seq (.reg [⟨(some 19), .mv (.t 0), none, none, []⟩, ⟨(some 20), .len false (.t 19), none, none, []⟩, ⟨(some 21), .mv (.v (.int .i64 0)), none, none, []⟩])
  (.block 0 (.loop (.seq (.reg [⟨(some 22), .bin .lss (.t 21) (.t 20), none, none, []⟩])
  (.seq (.cond (.t 22) .skip (.exit 0))
  (.seq (.block 1 (.seq (.reg [⟨(some 23), .iaddr 2 (.t 19) (.t 21), none, none, []⟩, ⟨(some 24), .load (some 2) (.t 23), none, none, []⟩, ⟨(some 7), .box 113 (.v (.agg [(.int .i64 0), (.int .i64 0)])), none, none, []⟩, ⟨none, .store 2 (.t 7) (.t 24), none, none, []⟩])
  (.seq (.seq (.reg [⟨(some 25), .faddr 0 (.t 7), none, none, []⟩, ⟨(some 26), .load none (.t 25), none, none, []⟩, ⟨(some 27), .mv (.t 5), none, none, []⟩, ⟨(some 28), .bin .leq (.t 26) (.t 27), none, none, []⟩, ⟨(some 29), .mv (.t 28), none, none, []⟩, ⟨(some 30), .faddr 0 (.t 7), (some (29, false)), none, []⟩, ⟨(some 31), .load none (.t 30), (some (29, false)), none, []⟩, ⟨(some 32), .bin .gtr (.t 31) (.v (.int .i64 1114111)), (some (29, false)), none, []⟩, ⟨(some 33), .pick (.t 29) (.v (.bool true)) (.t 32), none, none, []⟩, ⟨(some 34), .mv (.t 33), none, none, []⟩, ⟨(some 35), .faddr 1 (.t 7), (some (34, false)), none, []⟩, ⟨(some 36), .load none (.t 35), (some (34, false)), none, []⟩, ⟨(some 37), .bin .lss (.t 36) (.v (.int .i64 1)), (some (34, false)), none, []⟩, ⟨(some 38), .pick (.t 34) (.v (.bool true)) (.t 37), none, none, []⟩, ⟨(some 39), .mv (.t 38), none, none, []⟩, ⟨(some 40), .faddr 1 (.t 7), (some (39, false)), none, []⟩, ⟨(some 41), .load none (.t 40), (some (39, false)), none, []⟩, ⟨(some 42), .mv (.t 1), (some (39, false)), none, []⟩, ⟨(some 43), .bin .geq (.t 41) (.t 42), (some (39, false)), none, []⟩, ⟨(some 44), .pick (.t 39) (.v (.bool true)) (.t 43), none, none, []⟩])
  (.cond (.t 44) (.seq (.reg [⟨(some 4), .mv (.v (.bool false)), none, none, []⟩])
  .ret) .skip))
  (.reg [⟨(some 45), .faddr 0 (.t 7), none, none, []⟩, ⟨(some 46), .load none (.t 45), none, none, []⟩, ⟨(some 5), .mv (.t 46), none, none, []⟩]))))
  (.reg [⟨(some 47), .bin .add (.t 21) (.v (.int .i64 1)), none, none, []⟩, ⟨(some 21), .mv (.t 47), none, none, []⟩])))))))
  (.seq (.reg [⟨(some 4), .mv (.v (.bool true)), none, none, []⟩])
  .ret)))))⟩
/-- pochoir/pochoirref30.in -/
def s59 : SFn :=
 ⟨15, [.tmp 6],
  (.seq (.reg [⟨(some 6), .mv (.v (.bool false)), none, none, []⟩])
  (.seq (.reg [⟨(some 7), .mv (.t 0), none, none, []⟩, ⟨(some 8), .mv (.t 1), none, none, []⟩, ⟨(some 9), .bin .geq (.t 7) (.t 8), none, none, []⟩, ⟨(some 10), .mv (.t 9), none, none, []⟩, ⟨(some 11), .mv (.t 0), (some (10, true)), none, []⟩, ⟨(some 12), .mv (.t 2), (some (10, true)), none, []⟩, ⟨(some 13), .bin .leq (.t 11) (.t 12), (some (10, true)), none, []⟩, ⟨(some 14), .pick (.t 10) (.t 13) (.v (.bool false)), none, none, []⟩, ⟨(some 6), .mv (.t 14), none, none, []⟩])
  .ret))⟩
/-- pochoir/pochoirref30.short -/
def s60 : SFn :=
 ⟨9, [.tmp 2],
  (.seq (.reg [⟨(some 2), .mv (.v (.bool false)), none, none, []⟩])
  (.seq (.reg [⟨(some 3), .mv (.t 0), none, none, []⟩, ⟨(some 4), .bin .geq (.t 3) (.v (.int .i64 (-32768))), none, none, []⟩, ⟨(some 5), .mv (.t 4), none, none, []⟩, ⟨(some 6), .mv (.t 0), (some (5, true)), none, []⟩, ⟨(some 7), .bin .leq (.t 6) (.v (.int .i64 32767)), (some (5, true)), none, []⟩, ⟨(some 8), .pick (.t 5) (.t 7) (.v (.bool false)), none, none, []⟩, ⟨(some 2), .mv (.t 8), none, none, []⟩])
  .ret))⟩
/-- pochoir/pochoirref30.entry -/
def s61 : SFn :=
 ⟨55, [.tmp 6],
  (.seq (.reg [⟨(some 3), .box 107 (.t 0), none, none, []⟩, ⟨(some 4), .box 48 (.t 1), none, none, []⟩, ⟨(some 6), .mv (.v (.bool false)), none, none, []⟩])
  (.seq (.seq (.reg [⟨(some 7), .faddr 0 (.t 3), none, none, []⟩, ⟨(some 8), .load none (.t 7), none, none, []⟩, ⟨(some 9), .call 59 [(.t 8), (.v (.int .i64 0)), (.v (.int .i64 65535))], none, none, []⟩, ⟨(some 10), .un .not (.t 9), none, none, []⟩, ⟨(some 11), .mv (.t 10), none, none, []⟩, ⟨(some 12), .faddr 1 (.t 3), (some (11, false)), none, []⟩, ⟨(some 13), .load (some 4) (.t 12), (some (11, false)), none, []⟩, ⟨(some 14), .call 88 [(.t 13)], (some (11, false)), none, []⟩, ⟨(some 15), .un .not (.t 14), (some (11, false)), none, []⟩, ⟨(some 16), .pick (.t 11) (.v (.bool true)) (.t 15), none, none, []⟩])
  (.cond (.t 16) (.seq (.reg [⟨(some 6), .mv (.v (.bool false)), none, none, []⟩])
  .ret) .skip))
  (.seq (.seq (.reg [⟨(some 17), .faddr 1 (.t 3), none, none, []⟩, ⟨(some 18), .load (some 4) (.t 17), none, none, []⟩, ⟨(some 19), .build [(.int .i64 0), (.int .i64 0), (.int .i64 0), (.int .i64 0)] [], none, none, []⟩, ⟨(some 20), .eqs 4 [1, 1, 1, 1] false (.t 18) (.t 19), none, none, []⟩])
  (.cond (.t 20) (.seq (.reg [⟨(some 21), .faddr 5 (.t 3), none, none, []⟩, ⟨(some 22), .load (some 3) (.t 21), none, none, []⟩, ⟨(some 23), .build [(.int .i64 0), (.int .i64 0), (.int .i64 0)] [], none, none, []⟩, ⟨(some 24), .eqs 4 [1, 1, 1] false (.t 22) (.t 23), none, none, []⟩, ⟨(some 6), .mv (.t 24), none, none, []⟩])
  .ret) .skip))
  (.seq (.reg [⟨(some 25), .faddr 5 (.t 3), none, none, []⟩, ⟨(some 26), .faddr 0 (.t 25), none, none, []⟩, ⟨(some 27), .load none (.t 26), none, none, []⟩, ⟨(some 28), .mv (.t 2), none, none, []⟩, ⟨(some 29), .bin .sub (.t 28) (.v (.int .i64 1)), none, none, []⟩, ⟨(some 30), .call 59 [(.t 27), (.v (.int .i64 0)), (.t 29)], none, none, []⟩, ⟨(some 31), .mv (.t 30), none, none, []⟩, ⟨(some 32), .faddr 5 (.t 3), (some (31, true)), none, []⟩, ⟨(some 33), .faddr 1 (.t 32), (some (31, true)), none, []⟩, ⟨(some 34), .load none (.t 33), (some (31, true)), none, []⟩, ⟨(some 35), .faddr 0 (.t 4), (some (31, true)), none, []⟩, ⟨(some 36), .load none (.t 35), (some (31, true)), none, []⟩, ⟨(some 37), .faddr 1 (.t 3), (some (31, true)), none, []⟩, ⟨(some 38), .faddr 2 (.t 37), (some (31, true)), none, []⟩, ⟨(some 39), .load none (.t 38), (some (31, true)), none, []⟩, ⟨(some 40), .bin .sub (.t 36) (.t 39), (some (31, true)), none, []⟩, ⟨(some 41), .call 59 [(.t 34), (.v (.int .i64 0)), (.t 40)], (some (31, true)), none, []⟩, ⟨(some 42), .pick (.t 31) (.t 41) (.v (.bool false)), none, none, []⟩, ⟨(some 43), .mv (.t 42), none, none, []⟩, ⟨(some 44), .faddr 5 (.t 3), (some (43, true)), none, []⟩, ⟨(some 45), .faddr 2 (.t 44), (some (43, true)), none, []⟩, ⟨(some 46), .load none (.t 45), (some (43, true)), none, []⟩, ⟨(some 47), .faddr 1 (.t 4), (some (43, true)), none, []⟩, ⟨(some 48), .load none (.t 47), (some (43, true)), none, []⟩, ⟨(some 49), .faddr 1 (.t 3), (some (43, true)), none, []⟩, ⟨(some 50), .faddr 3 (.t 49), (some (43, true)), none, []⟩, ⟨(some 51), .load none (.t 50), (some (43, true)), none, []⟩, ⟨(some 52), .bin .sub (.t 48) (.t 51), (some (43, true)), none, []⟩, ⟨(some 53), .call 59 [(.t 46), (.v (.int .i64 0)), (.t 52)], (some (43, true)), none, []⟩, ⟨(some 54), .pick (.t 43) (.t 53) (.v (.bool false)), none, none, []⟩, ⟨(some 6), .mv (.t 54), none, none, []⟩])
  .ret))))⟩
/-- pochoir/pochoirref12.May -/
def s62 : SFn :=
 ⟨61, [.tmp 4],
  (.seq (.reg [⟨(some 4), .mv (.v (.bool false)), none, none, []⟩])
  (.seq (.seq (.reg [⟨(some 7), .mv (.t 1), none, none, []⟩, ⟨(some 8), .bin .lss (.t 7) (.v (.int .i64 1)), none, none, []⟩, ⟨(some 9), .mv (.t 8), none, none, []⟩, ⟨(some 10), .mv (.t 1), (some (9, false)), none, []⟩, ⟨(some 11), .bin .gtr (.t 10) (.v (.int .i64 1024)), (some (9, false)), none, []⟩, ⟨(some 12), .pick (.t 9) (.v (.bool true)) (.t 11), none, none, []⟩, ⟨(some 13), .mv (.t 12), none, none, []⟩, ⟨(some 14), .mv (.t 0), (some (13, false)), none, []⟩, ⟨(some 15), .len false (.t 14), (some (13, false)), none, []⟩, ⟨(some 16), .bin .gtr (.t 15) (.v (.int .i64 4096)), (some (13, false)), none, []⟩, ⟨(some 17), .pick (.t 13) (.v (.bool true)) (.t 16), none, none, []⟩])
  (.cond (.t 17) (.seq (.reg [⟨(some 4), .mv (.v (.bool false)), none, none, []⟩])
  .ret) .skip))
  (.seq (.reg [⟨(some 5), .mv (.v (.int .i64 (-1))), none, none, []⟩])
  (.seq (.seq (.reg [⟨(some 6), .mv (.v (.int .i64 0)), none, none, []⟩])
  (.block 0 (.loop (.seq (.seq (.reg [⟨(some 18), .mv (.t 6), none, none, []⟩, ⟨(some 19), .mv (.t 0), none, none, []⟩, ⟨(some 20), .len false (.t 19), none, none, []⟩, ⟨(some 21), .bin .lss (.t 18) (.t 20), none, none, []⟩])
  (.cond (.t 21) .skip (.exit 0)))
  (.seq (.block 1 (.seq (.seq (.reg [⟨(some 24), .mv (.t 0), none, none, []⟩, ⟨(some 25), .mv (.t 6), none, none, []⟩, ⟨(some 26), .iaddr 2 (.t 24) (.t 25), none, none, []⟩, ⟨(some 27), .faddr 0 (.t 26), none, none, []⟩, ⟨(some 28), .load none (.t 27), none, none, []⟩, ⟨(some 29), .mv (.t 5), none, none, []⟩, ⟨(some 30), .bin .leq (.t 28) (.t 29), none, none, []⟩, ⟨(some 31), .mv (.t 30), none, none, []⟩, ⟨(some 32), .mv (.t 0), (some (31, false)), none, []⟩, ⟨(some 33), .mv (.t 6), (some (31, false)), none, []⟩, ⟨(some 34), .iaddr 2 (.t 32) (.t 33), (some (31, false)), none, []⟩, ⟨(some 35), .faddr 0 (.t 34), (some (31, false)), none, []⟩, ⟨(some 36), .load none (.t 35), (some (31, false)), none, []⟩, ⟨(some 37), .bin .gtr (.t 36) (.v (.int .i64 1114111)), (some (31, false)), none, []⟩, ⟨(some 38), .pick (.t 31) (.v (.bool true)) (.t 37), none, none, []⟩, ⟨(some 39), .mv (.t 38), none, none, []⟩, ⟨(some 40), .mv (.t 0), (some (39, false)), none, []⟩, ⟨(some 41), .mv (.t 6), (some (39, false)), none, []⟩, ⟨(some 42), .iaddr 2 (.t 40) (.t 41), (some (39, false)), none, []⟩, ⟨(some 43), .faddr 1 (.t 42), (some (39, false)), none, []⟩, ⟨(some 44), .load none (.t 43), (some (39, false)), none, []⟩, ⟨(some 45), .bin .lss (.t 44) (.v (.int .i64 1)), (some (39, false)), none, []⟩, ⟨(some 46), .pick (.t 39) (.v (.bool true)) (.t 45), none, none, []⟩, ⟨(some 47), .mv (.t 46), none, none, []⟩, ⟨(some 48), .mv (.t 0), (some (47, false)), none, []⟩, ⟨(some 49), .mv (.t 6), (some (47, false)), none, []⟩, ⟨(some 50), .iaddr 2 (.t 48) (.t 49), (some (47, false)), none, []⟩, ⟨(some 51), .faddr 1 (.t 50), (some (47, false)), none, []⟩, ⟨(some 52), .load none (.t 51), (some (47, false)), none, []⟩, ⟨(some 53), .mv (.t 1), (some (47, false)), none, []⟩, ⟨(some 54), .bin .geq (.t 52) (.t 53), (some (47, false)), none, []⟩, ⟨(some 55), .pick (.t 47) (.v (.bool true)) (.t 54), none, none, []⟩])
  (.cond (.t 55) (.seq (.reg [⟨(some 4), .mv (.v (.bool false)), none, none, []⟩])
  .ret) .skip))
  (.reg [⟨(some 56), .mv (.t 0), none, none, []⟩, ⟨(some 57), .mv (.t 6), none, none, []⟩, ⟨(some 58), .iaddr 2 (.t 56) (.t 57), none, none, []⟩, ⟨(some 59), .faddr 0 (.t 58), none, none, []⟩, ⟨(some 60), .load none (.t 59), none, none, []⟩, ⟨(some 5), .mv (.t 60), none, none, []⟩])))
  (.reg [⟨(some 22), .mv (.t 6), none, none, []⟩, ⟨(some 23), .bin .add (.t 22) (.v (.int .i64 1)), none, none, []⟩, ⟨(some 6), .mv (.t 23), none, none, []⟩]))))))
  (.seq (.reg [⟨(some 4), .mv (.v (.bool true)), none, none, []⟩])
  .ret)))))⟩
/-- pochoir/atlas.begin -/
def s63 : SFn :=
 ⟨38, [.cell 2 (some 11), .cell 3 (some 3)],
  (.seq (.reg [⟨(some 2), .box 53 (.v (.agg [(.int .i64 0), (.int .i64 0), (.int .i64 0), (.int .i64 0), (.int .i64 0), (.int .i64 0), (.int .i64 0), (.int .i64 0), .nils, .nils, .nils])), none, none, []⟩, ⟨(some 3), .box 122 (.v (.agg [(.int .i64 0), (.int .i64 0), (.int .i64 0)])), none, none, []⟩])
  (.seq (.reg [⟨(some 5), .mv (.t 0), none, none, []⟩, ⟨(some 6), .call 89 [(.t 5)], none, none, []⟩, ⟨(some 7), .mv (.t 0), none, none, []⟩, ⟨(some 8), .call 89 [(.t 7)], none, none, []⟩, ⟨(some 9), .mv (.t 0), none, none, []⟩, ⟨(some 10), .call 89 [(.t 9)], none, none, []⟩, ⟨(some 11), .build [(.int .i64 0), (.int .i64 0), (.int .i64 0), (.int .i64 0), (.int .i64 0), (.int .i64 0), (.int .i64 0), (.int .i64 0), .nils, .nils, .nils] [(0, 1, (.t 6)), (1, 1, (.t 8)), (2, 1, (.t 10))], none, none, []⟩, ⟨(some 4), .box 53 (.v (.agg [(.int .i64 0), (.int .i64 0), (.int .i64 0), (.int .i64 0), (.int .i64 0), (.int .i64 0), (.int .i64 0), (.int .i64 0), .nils, .nils, .nils])), none, none, []⟩, ⟨none, .store 11 (.t 4) (.t 11), none, none, []⟩])
  (.seq (.reg [⟨(some 12), .mv (.t 0), none, none, []⟩, ⟨(some 13), .call 90 [(.t 12)], none, none, []⟩, ⟨(some 14), .mv (.t 0), none, none, []⟩, ⟨(some 15), .call 90 [(.t 14)], none, none, []⟩, ⟨(some 16), .mv (.t 0), none, none, []⟩, ⟨(some 17), .call 90 [(.t 16)], none, none, []⟩, ⟨(some 18), .faddr 3 (.t 4), none, none, []⟩, ⟨none, .store 1 (.t 18) (.t 13), none, none, []⟩, ⟨(some 19), .faddr 4 (.t 4), none, none, []⟩, ⟨none, .store 1 (.t 19) (.t 15), none, none, []⟩, ⟨(some 20), .faddr 5 (.t 4), none, none, []⟩, ⟨none, .store 1 (.t 20) (.t 17), none, none, []⟩])
  (.seq (.reg [⟨(some 21), .mv (.t 0), none, none, []⟩, ⟨(some 22), .call 89 [(.t 21)], none, none, []⟩, ⟨(some 23), .mv (.t 0), none, none, []⟩, ⟨(some 24), .call 89 [(.t 23)], none, none, []⟩, ⟨(some 25), .faddr 6 (.t 4), none, none, []⟩, ⟨(some 26), .faddr 0 (.t 25), none, none, []⟩, ⟨none, .store 1 (.t 26) (.t 22), none, none, []⟩, ⟨(some 27), .faddr 6 (.t 4), none, none, []⟩, ⟨(some 28), .faddr 1 (.t 27), none, none, []⟩, ⟨none, .store 1 (.t 28) (.t 24), none, none, []⟩])
  (.seq (.regd [⟨(some 29), .load (some 11) (.t 4), none, (some []), []⟩, ⟨(some 30), .mv (.t 0), none, (some []), []⟩, ⟨(some 31), .call 89 [(.t 30)], none, none, [(none, (.t 4))]⟩, ⟨(some 32), .mv (.t 0), none, (some [2]), []⟩, ⟨(some 33), .call 89 [(.t 32)], none, none, [(none, (.t 4))]⟩, ⟨(some 34), .mv (.t 0), none, (some [2, 4]), []⟩, ⟨(some 35), .call 91 [(.t 34)], none, none, [(none, (.t 4))]⟩, ⟨(some 36), .conv .i64 (.t 35), none, (some []), []⟩, ⟨(some 37), .build [(.int .i64 0), (.int .i64 0), (.int .i64 0)] [(0, 1, (.t 31)), (1, 1, (.t 33)), (2, 1, (.t 36))], none, (some []), []⟩, ⟨none, .store 11 (.t 2) (.t 29), none, none, []⟩, ⟨none, .store 3 (.t 3) (.t 37), none, none, []⟩])
  .ret)))))⟩
/-- (pochoir/atlas.counts).size -/
def s64 : SFn :=
 ⟨23, [.tmp 4],
  (.seq (.reg [⟨(some 2), .box 122 (.t 0), none, none, []⟩, ⟨(some 3), .box 48 (.t 1), none, none, []⟩, ⟨(some 4), .mv (.v (.int .i64 0)), none, none, []⟩])
  (.seq (.reg [⟨(some 5), .faddr 1 (.t 2), none, none, []⟩, ⟨(some 6), .load none (.t 5), none, none, []⟩, ⟨(some 7), .bin .mul (.v (.int .i64 20)) (.t 6), none, none, []⟩, ⟨(some 8), .bin .add (.v (.int .i64 34)) (.t 7), none, none, []⟩, ⟨(some 9), .faddr 2 (.t 2), none, none, []⟩, ⟨(some 10), .load none (.t 9), none, none, []⟩, ⟨(some 11), .bin .mul (.v (.int .i64 6)) (.t 10), none, none, []⟩, ⟨(some 12), .bin .add (.t 8) (.t 11), none, none, []⟩, ⟨(some 13), .faddr 0 (.t 3), none, none, []⟩, ⟨(some 14), .load none (.t 13), none, none, []⟩, ⟨(some 15), .bin .mul (.v (.int .i64 4)) (.t 14), none, none, []⟩, ⟨(some 16), .faddr 1 (.t 3), none, none, []⟩, ⟨(some 17), .load none (.t 16), none, none, []⟩, ⟨(some 18), .bin .mul (.t 15) (.t 17), none, none, []⟩, ⟨(some 19), .faddr 0 (.t 2), none, none, []⟩, ⟨(some 20), .load none (.t 19), none, none, []⟩, ⟨(some 21), .bin .mul (.t 18) (.t 20), none, none, []⟩, ⟨(some 22), .bin .add (.t 12) (.t 21), none, none, []⟩, ⟨(some 4), .mv (.t 22), none, none, []⟩])
  .ret))⟩
/-- pochoir/octet.U32 -/
def s65 : SFn :=
 ⟨17, [.tmp 4, .tmp 5],
  (.seq (.reg [⟨(some 4), .mv (.v (.int .u32 0)), none, none, []⟩, ⟨(some 5), .mv (.v (.int .i64 0)), none, none, []⟩])
  (.seq (.reg [⟨(some 9), .mv (.t 0), none, none, []⟩, ⟨(some 10), .mv (.t 1), none, none, []⟩, ⟨(some 11), .call 81 [(.t 9), (.t 10), (.v (.int .i64 4))], none, none, []⟩, ⟨(some 8), .mv (.t 11), none, none, []⟩, ⟨(some 12), .extract (.t 8) 0, none, none, []⟩, ⟨(some 13), .extract (.t 8) 1, none, none, []⟩, ⟨(some 6), .mv (.t 12), none, none, []⟩, ⟨(some 7), .mv (.t 13), none, none, []⟩])
  (.seq (.reg [⟨(some 14), .mv (.t 6), none, none, []⟩, ⟨(some 15), .call 82 [(.t 14)], none, none, []⟩, ⟨(some 16), .mv (.t 7), none, none, []⟩, ⟨(some 4), .mv (.t 15), none, none, []⟩, ⟨(some 5), .mv (.t 16), none, none, []⟩])
  .ret)))⟩
/-- pochoir/atlas.rest -/
def s66 : SFn :=
 ⟨118, [],
  (.seq (.reg [⟨(some 7), .box 122 (.t 3), none, none, []⟩])
  (.seq (.seq (.reg [⟨(some 13), .faddr 1 (.t 7), none, none, []⟩, ⟨(some 14), .load none (.t 13), none, none, []⟩, ⟨(some 15), .mv (.v (.int .i64 0)), none, none, []⟩])
  (.block 0 (.loop (.seq (.reg [⟨(some 16), .bin .lss (.t 15) (.t 14), none, none, []⟩])
  (.seq (.cond (.t 16) .skip (.exit 0))
  (.seq (.block 1 (.seq (.reg [⟨(some 17), .mv (.t 0), none, none, []⟩, ⟨(some 18), .call 89 [(.t 17)], none, none, []⟩, ⟨(some 19), .build [(.int .i64 0), (.int .i64 0), (.int .i64 0), (.int .i64 0), (.int .i64 0), (.int .i64 0), (.int .i64 0), (.int .i64 0)] [(0, 1, (.t 18))], none, none, []⟩, ⟨(some 8), .box 107 (.v (.agg [(.int .i64 0), (.int .i64 0), (.int .i64 0), (.int .i64 0), (.int .i64 0), (.int .i64 0), (.int .i64 0), (.int .i64 0)])), none, none, []⟩, ⟨none, .store 8 (.t 8) (.t 19), none, none, []⟩])
  (.seq (.reg [⟨(some 20), .mv (.t 0), none, none, []⟩, ⟨(some 21), .call 92 [(.t 20)], none, none, []⟩, ⟨(some 22), .mv (.t 0), none, none, []⟩, ⟨(some 23), .call 92 [(.t 22)], none, none, []⟩, ⟨(some 24), .faddr 1 (.t 8), none, none, []⟩, ⟨(some 25), .faddr 0 (.t 24), none, none, []⟩, ⟨none, .store 1 (.t 25) (.t 21), none, none, []⟩, ⟨(some 26), .faddr 1 (.t 8), none, none, []⟩, ⟨(some 27), .faddr 1 (.t 26), none, none, []⟩, ⟨none, .store 1 (.t 27) (.t 23), none, none, []⟩])
  (.seq (.reg [⟨(some 28), .mv (.t 0), none, none, []⟩, ⟨(some 29), .call 89 [(.t 28)], none, none, []⟩, ⟨(some 30), .mv (.t 0), none, none, []⟩, ⟨(some 31), .call 89 [(.t 30)], none, none, []⟩, ⟨(some 32), .faddr 1 (.t 8), none, none, []⟩, ⟨(some 33), .faddr 2 (.t 32), none, none, []⟩, ⟨none, .store 1 (.t 33) (.t 29), none, none, []⟩, ⟨(some 34), .faddr 1 (.t 8), none, none, []⟩, ⟨(some 35), .faddr 3 (.t 34), none, none, []⟩, ⟨none, .store 1 (.t 35) (.t 31), none, none, []⟩])
  (.seq (.reg [⟨(some 36), .mv (.t 0), none, none, []⟩, ⟨(some 37), .call 89 [(.t 36)], none, none, []⟩, ⟨(some 38), .mv (.t 0), none, none, []⟩, ⟨(some 39), .call 89 [(.t 38)], none, none, []⟩, ⟨(some 40), .mv (.t 0), none, none, []⟩, ⟨(some 41), .call 89 [(.t 40)], none, none, []⟩, ⟨(some 42), .faddr 5 (.t 8), none, none, []⟩, ⟨(some 43), .faddr 0 (.t 42), none, none, []⟩, ⟨none, .store 1 (.t 43) (.t 37), none, none, []⟩, ⟨(some 44), .faddr 5 (.t 8), none, none, []⟩, ⟨(some 45), .faddr 1 (.t 44), none, none, []⟩, ⟨none, .store 1 (.t 45) (.t 39), none, none, []⟩, ⟨(some 46), .faddr 5 (.t 8), none, none, []⟩, ⟨(some 47), .faddr 2 (.t 46), none, none, []⟩, ⟨none, .store 1 (.t 47) (.t 41), none, none, []⟩])
  (.regd [⟨(some 48), .mv (.t 2), none, (some []), []⟩, ⟨(some 49), .mv (.t 2), none, (some []), []⟩, ⟨(some 50), .nilck (.t 49), none, (some []), []⟩, ⟨(some 51), .faddr 8 (.t 50), none, (some []), []⟩, ⟨(some 52), .load none (.t 51), none, (some []), []⟩, ⟨(some 53), .load (some 8) (.t 8), none, (some []), []⟩, ⟨(some 54), .bsl 107 [(.int .i64 0), (.int .i64 0), (.int .i64 0), (.int .i64 0), (.int .i64 0), (.int .i64 0), (.int .i64 0), (.int .i64 0)] 1 8 [(0, 8, (.t 53))], none, none, [(none, (.t 51))]⟩, ⟨(some 55), .app 107 8 (.t 52) (.t 54), none, none, []⟩, ⟨(some 56), .nilck (.t 48), none, (some []), []⟩, ⟨(some 57), .faddr 8 (.t 56), none, (some []), []⟩, ⟨none, .store 1 (.t 57) (.t 55), none, none, []⟩]))))))
  (.reg [⟨(some 58), .bin .add (.t 15) (.v (.int .i64 1)), none, none, []⟩, ⟨(some 15), .mv (.t 58), none, none, []⟩])))))))
  (.seq (.seq (.reg [⟨(some 59), .faddr 2 (.t 7), none, none, []⟩, ⟨(some 60), .load none (.t 59), none, none, []⟩, ⟨(some 61), .mv (.v (.int .i64 0)), none, none, []⟩])
  (.block 2 (.loop (.seq (.reg [⟨(some 62), .bin .lss (.t 61) (.t 60), none, none, []⟩])
  (.seq (.cond (.t 62) .skip (.exit 2))
  (.seq (.block 3 (.seq (.reg [⟨(some 63), .mv (.t 0), none, none, []⟩, ⟨(some 64), .call 92 [(.t 63)], none, none, []⟩, ⟨(some 65), .build [(.int .i64 0), (.int .i64 0)] [(0, 1, (.t 64))], none, none, []⟩, ⟨(some 9), .box 113 (.v (.agg [(.int .i64 0), (.int .i64 0)])), none, none, []⟩, ⟨none, .store 2 (.t 9) (.t 65), none, none, []⟩])
  (.seq (.reg [⟨(some 66), .mv (.t 0), none, none, []⟩, ⟨(some 67), .call 89 [(.t 66)], none, none, []⟩, ⟨(some 68), .faddr 1 (.t 9), none, none, []⟩, ⟨none, .store 1 (.t 68) (.t 67), none, none, []⟩])
  (.regd [⟨(some 69), .mv (.t 2), none, (some []), []⟩, ⟨(some 70), .mv (.t 2), none, (some []), []⟩, ⟨(some 71), .nilck (.t 70), none, (some []), []⟩, ⟨(some 72), .faddr 9 (.t 71), none, (some []), []⟩, ⟨(some 73), .load none (.t 72), none, (some []), []⟩, ⟨(some 74), .load (some 2) (.t 9), none, (some []), []⟩, ⟨(some 75), .bsl 113 [(.int .i64 0), (.int .i64 0)] 1 2 [(0, 2, (.t 74))], none, none, [(none, (.t 72))]⟩, ⟨(some 76), .app 113 2 (.t 73) (.t 75), none, none, []⟩, ⟨(some 77), .nilck (.t 69), none, (some []), []⟩, ⟨(some 78), .faddr 9 (.t 77), none, (some []), []⟩, ⟨none, .store 1 (.t 78) (.t 76), none, none, []⟩]))))
  (.reg [⟨(some 79), .bin .add (.t 61) (.v (.int .i64 1)), none, none, []⟩, ⟨(some 61), .mv (.t 79), none, none, []⟩])))))))
  (.seq (.regd [⟨(some 80), .mv (.t 2), none, (some []), []⟩, ⟨(some 81), .nilck (.t 80), none, (some []), []⟩, ⟨(some 82), .faddr 6 (.t 81), none, (some []), []⟩, ⟨(some 83), .faddr 0 (.t 82), none, (some []), []⟩, ⟨(some 84), .load none (.t 83), none, (some []), []⟩, ⟨(some 85), .bin .mul (.v (.int .i64 4)) (.t 84), none, (some []), []⟩, ⟨(some 86), .mv (.t 2), none, (some []), []⟩, ⟨(some 87), .nilck (.t 86), none, (some []), []⟩, ⟨(some 88), .faddr 6 (.t 87), none, (some []), []⟩, ⟨(some 89), .faddr 1 (.t 88), none, (some []), []⟩, ⟨(some 90), .load none (.t 89), none, (some []), []⟩, ⟨(some 91), .bin .mul (.t 85) (.t 90), none, (some []), []⟩, ⟨(some 10), .mv (.t 91), none, (some []), []⟩])
  (.seq (.reg [⟨(some 92), .faddr 0 (.t 7), none, none, []⟩, ⟨(some 93), .load none (.t 92), none, none, []⟩, ⟨(some 94), .mv (.v (.int .i64 0)), none, none, []⟩])
  (.block 4 (.loop (.seq (.reg [⟨(some 95), .bin .lss (.t 94) (.t 93), none, none, []⟩])
  (.seq (.cond (.t 95) .skip (.exit 4))
  (.seq (.block 5 (.seq (.reg [⟨(some 97), .mv (.t 1), none, none, []⟩, ⟨(some 98), .mv (.t 0), none, none, []⟩, ⟨(some 99), .call 93 [(.t 98)], none, none, []⟩, ⟨(some 100), .mv (.t 10), none, none, []⟩, ⟨(some 101), .call 81 [(.t 97), (.t 99), (.t 100)], none, none, []⟩, ⟨(some 96), .mv (.t 101), none, none, []⟩, ⟨(some 102), .extract (.t 96) 0, none, none, []⟩, ⟨(some 103), .extract (.t 96) 1, none, none, []⟩, ⟨(some 11), .mv (.t 102), none, none, []⟩, ⟨(some 12), .mv (.t 103), none, none, []⟩])
  (.seq (.reg [⟨(some 104), .mv (.t 2), none, none, []⟩, ⟨(some 105), .mv (.t 2), none, none, []⟩, ⟨(some 106), .nilck (.t 105), none, none, []⟩, ⟨(some 107), .faddr 10 (.t 106), none, none, []⟩, ⟨(some 108), .load none (.t 107), none, none, []⟩, ⟨(some 109), .mv (.t 11), none, none, []⟩, ⟨(some 110), .bsl 9 [(.str ⟨#[]⟩)] 1 1 [(0, 1, (.t 109))], none, none, []⟩, ⟨(some 111), .app 9 1 (.t 108) (.t 110), none, none, []⟩, ⟨(some 112), .nilck (.t 104), none, none, []⟩, ⟨(some 113), .faddr 10 (.t 112), none, none, []⟩, ⟨none, .store 1 (.t 113) (.t 111), none, none, []⟩])
  (.reg [⟨(some 114), .mv (.t 0), none, none, []⟩, ⟨(some 115), .mv (.t 10), none, none, []⟩, ⟨(some 116), .call 46 [(.t 114), (.t 115)], none, none, []⟩]))))
  (.reg [⟨(some 117), .bin .add (.t 94) (.v (.int .i64 1)), none, none, []⟩, ⟨(some 94), .mv (.t 117), none, none, []⟩])))))))))))⟩
/-- pochoir/pochoirref30.p -/
def s67 : SFn :=
 ⟨14, [.tmp 4],
  (.seq (.reg [⟨(some 4), .mv (.v (.str ⟨#[]⟩)), none, none, []⟩])
  (.seq (.seq (.reg [⟨(some 5), .mv (.t 1), none, none, []⟩, ⟨(some 6), .bin .eql (.t 5) (.v (.int .i64 2)), none, none, []⟩])
  (.cond (.t 6) (.seq (.reg [⟨(some 7), .mv (.t 0), none, none, []⟩, ⟨(some 8), .conv .u16 (.t 7), none, none, []⟩, ⟨(some 9), .conv .u32 (.t 8), none, none, []⟩, ⟨(some 10), .call 68 [(.t 9), (.v (.int .i64 2))], none, none, []⟩, ⟨(some 4), .mv (.t 10), none, none, []⟩])
  .ret) .skip))
  (.seq (.reg [⟨(some 11), .mv (.t 0), none, none, []⟩, ⟨(some 12), .conv .u32 (.t 11), none, none, []⟩, ⟨(some 13), .call 68 [(.t 12), (.v (.int .i64 4))], none, none, []⟩, ⟨(some 4), .mv (.t 13), none, none, []⟩])
  .ret)))⟩
/-- pochoir/pochoirref07.Put -/
def s68 : SFn :=
 ⟨22, [.tmp 4],
  (.seq (.reg [⟨(some 4), .mv (.v (.str ⟨#[]⟩)), none, none, []⟩])
  (.seq (.reg [⟨(some 5), .mv (.v (.str ⟨#[]⟩)), none, none, []⟩])
  (.seq (.seq (.reg [⟨(some 6), .mv (.v (.int .i64 0)), none, none, []⟩])
  (.block 0 (.loop (.seq (.seq (.reg [⟨(some 7), .mv (.t 6), none, none, []⟩, ⟨(some 8), .mv (.t 1), none, none, []⟩, ⟨(some 9), .bin .lss (.t 7) (.t 8), none, none, []⟩])
  (.cond (.t 9) .skip (.exit 0)))
  (.seq (.block 1 (.seq (.reg [⟨(some 12), .mv (.t 0), none, none, []⟩, ⟨(some 13), .bin .rem (.t 12) (.v (.int .u32 256)), none, none, []⟩, ⟨(some 14), .conv .u8 (.t 13), none, none, []⟩, ⟨(some 15), .bsl 5 [(.int .u8 0)] 1 1 [(0, 1, (.t 14))], none, none, []⟩, ⟨(some 16), .b2s (.t 15), none, none, []⟩, ⟨(some 17), .mv (.t 5), none, none, []⟩, ⟨(some 18), .bin .add (.t 16) (.t 17), none, none, []⟩, ⟨(some 5), .mv (.t 18), none, none, []⟩])
  (.reg [⟨(some 19), .mv (.t 0), none, none, []⟩, ⟨(some 20), .bin .quo (.t 19) (.v (.int .u32 256)), none, none, []⟩, ⟨(some 0), .mv (.t 20), none, none, []⟩])))
  (.reg [⟨(some 10), .mv (.t 6), none, none, []⟩, ⟨(some 11), .bin .add (.t 10) (.v (.int .i64 1)), none, none, []⟩, ⟨(some 6), .mv (.t 11), none, none, []⟩]))))))
  (.seq (.reg [⟨(some 21), .mv (.t 5), none, none, []⟩, ⟨(some 4), .mv (.t 21), none, none, []⟩])
  .ret))))⟩
/-- pochoir/pochoirref08.Crc -/
def s69 : SFn :=
 ⟨33, [.tmp 2],
  (.seq (.reg [⟨(some 2), .mv (.v (.int .u32 0)), none, none, []⟩])
  (.seq (.reg [⟨(some 3), .mv (.v (.int .u32 4294967295)), none, none, []⟩])
  (.seq (.seq (.reg [⟨(some 4), .mv (.v (.int .i64 0)), none, none, []⟩])
  (.block 0 (.loop (.seq (.seq (.reg [⟨(some 7), .mv (.t 4), none, none, []⟩, ⟨(some 8), .mv (.t 0), none, none, []⟩, ⟨(some 9), .len true (.t 8), none, none, []⟩, ⟨(some 10), .bin .lss (.t 7) (.t 9), none, none, []⟩])
  (.cond (.t 10) .skip (.exit 0)))
  (.seq (.block 1 (.seq (.reg [⟨(some 13), .mv (.t 3), none, none, []⟩, ⟨(some 14), .mv (.t 0), none, none, []⟩, ⟨(some 15), .mv (.t 4), none, none, []⟩, ⟨(some 16), .ixs (.t 14) (.t 15), none, none, []⟩, ⟨(some 17), .conv .u32 (.t 16), none, none, []⟩, ⟨(some 18), .call 94 [(.t 13), (.t 17)], none, none, []⟩, ⟨(some 3), .mv (.t 18), none, none, []⟩])
  (.seq (.reg [⟨(some 5), .mv (.v (.int .i64 0)), none, none, []⟩])
  (.block 2 (.loop (.seq (.seq (.reg [⟨(some 19), .mv (.t 5), none, none, []⟩, ⟨(some 20), .bin .lss (.t 19) (.v (.int .i64 8)), none, none, []⟩])
  (.cond (.t 20) .skip (.exit 2)))
  (.seq (.block 3 (.seq (.reg [⟨(some 23), .mv (.t 3), none, none, []⟩, ⟨(some 24), .bin .rem (.t 23) (.v (.int .u32 2)), none, none, []⟩, ⟨(some 6), .mv (.t 24), none, none, []⟩])
  (.seq (.reg [⟨(some 25), .mv (.t 3), none, none, []⟩, ⟨(some 26), .bin .quo (.t 25) (.v (.int .u32 2)), none, none, []⟩, ⟨(some 3), .mv (.t 26), none, none, []⟩])
  (.seq (.reg [⟨(some 27), .mv (.t 6), none, none, []⟩, ⟨(some 28), .bin .eql (.t 27) (.v (.int .u32 1)), none, none, []⟩])
  (.cond (.t 28) (.reg [⟨(some 29), .mv (.t 3), none, none, []⟩, ⟨(some 30), .call 94 [(.t 29), (.v (.int .u32 3988292384))], none, none, []⟩, ⟨(some 3), .mv (.t 30), none, none, []⟩]) .skip)))))
  (.reg [⟨(some 21), .mv (.t 5), none, none, []⟩, ⟨(some 22), .bin .add (.t 21) (.v (.int .i64 1)), none, none, []⟩, ⟨(some 5), .mv (.t 22), none, none, []⟩]))))))))
  (.reg [⟨(some 11), .mv (.t 4), none, none, []⟩, ⟨(some 12), .bin .add (.t 11) (.v (.int .i64 1)), none, none, []⟩, ⟨(some 4), .mv (.t 12), none, none, []⟩]))))))
  (.seq (.reg [⟨(some 31), .mv (.t 3), none, none, []⟩, ⟨(some 32), .call 94 [(.t 31), (.v (.int .u32 4294967295))], none, none, []⟩, ⟨(some 2), .mv (.t 32), none, none, []⟩])
  .ret))))⟩
/-- pochoir/pochoirref12.Same -/
def s70 : SFn :=
 ⟨26, [.tmp 4],
  (.seq (.reg [⟨(some 4), .mv (.v (.bool false)), none, none, []⟩])
  (.seq (.seq (.reg [⟨(some 6), .mv (.t 0), none, none, []⟩, ⟨(some 7), .len false (.t 6), none, none, []⟩, ⟨(some 8), .mv (.t 1), none, none, []⟩, ⟨(some 9), .len false (.t 8), none, none, []⟩, ⟨(some 10), .bin .neq (.t 7) (.t 9), none, none, []⟩])
  (.cond (.t 10) (.seq (.reg [⟨(some 4), .mv (.v (.bool false)), none, none, []⟩])
  .ret) .skip))
  (.seq (.seq (.reg [⟨(some 5), .mv (.v (.int .i64 0)), none, none, []⟩])
  (.block 0 (.loop (.seq (.seq (.reg [⟨(some 11), .mv (.t 5), none, none, []⟩, ⟨(some 12), .mv (.t 0), none, none, []⟩, ⟨(some 13), .len false (.t 12), none, none, []⟩, ⟨(some 14), .bin .lss (.t 11) (.t 13), none, none, []⟩])
  (.cond (.t 14) .skip (.exit 0)))
  (.seq (.block 1 (.seq (.regd [⟨(some 17), .mv (.t 0), none, (some []), []⟩, ⟨(some 18), .mv (.t 5), none, (some []), []⟩, ⟨(some 19), .iaddr 2 (.t 17) (.t 18), none, (some []), []⟩, ⟨(some 20), .load (some 2) (.t 19), none, (some []), []⟩, ⟨(some 21), .mv (.t 1), none, (some []), []⟩, ⟨(some 22), .mv (.t 5), none, (some []), []⟩, ⟨(some 23), .iaddr 2 (.t 21) (.t 22), none, (some []), []⟩, ⟨(some 24), .load (some 2) (.t 23), none, (some []), []⟩, ⟨(some 25), .eqs 4 [1, 1] true (.t 20) (.t 24), none, (some []), []⟩])
  (.cond (.t 25) (.seq (.reg [⟨(some 4), .mv (.v (.bool false)), none, none, []⟩])
  .ret) .skip)))
  (.reg [⟨(some 15), .mv (.t 5), none, none, []⟩, ⟨(some 16), .bin .add (.t 15) (.v (.int .i64 1)), none, none, []⟩, ⟨(some 5), .mv (.t 16), none, none, []⟩]))))))
  (.seq (.reg [⟨(some 4), .mv (.v (.bool true)), none, none, []⟩])
  .ret))))⟩
/-- (*pochoir/pochoirref07.Reader).Num -/
def s71 : SFn :=
 ⟨9, [.tmp 4],
  (.seq (.reg [⟨(some 4), .mv (.v (.int .u32 0)), none, none, []⟩])
  (.seq (.reg [⟨(some 5), .mv (.t 0), none, none, []⟩, ⟨(some 6), .mv (.t 1), none, none, []⟩, ⟨(some 7), .call 75 [(.t 5), (.t 6)], none, none, []⟩, ⟨(some 8), .call 95 [(.t 7)], none, none, []⟩, ⟨(some 4), .mv (.t 8), none, none, []⟩])
  .ret))⟩
/-- (*pochoir/pochoirref07.Reader).I16 -/
def s72 : SFn :=
 ⟨12, [.tmp 2],
  (.seq (.reg [⟨(some 2), .mv (.v (.int .i64 0)), none, none, []⟩])
  (.seq (.reg [⟨(some 4), .mv (.t 0), none, none, []⟩, ⟨(some 5), .call 71 [(.t 4), (.v (.int .i64 2))], none, none, []⟩, ⟨(some 6), .conv .i64 (.t 5), none, none, []⟩, ⟨(some 3), .mv (.t 6), none, none, []⟩])
  (.seq (.seq (.reg [⟨(some 7), .mv (.t 3), none, none, []⟩, ⟨(some 8), .bin .geq (.t 7) (.v (.int .i64 32768)), none, none, []⟩])
  (.cond (.t 8) (.seq (.reg [⟨(some 9), .mv (.t 3), none, none, []⟩, ⟨(some 10), .bin .sub (.t 9) (.v (.int .i64 65536)), none, none, []⟩, ⟨(some 2), .mv (.t 10), none, none, []⟩])
  .ret) .skip))
  (.seq (.reg [⟨(some 11), .mv (.t 3), none, none, []⟩, ⟨(some 2), .mv (.t 11), none, none, []⟩])
  .ret))))⟩
/-- pochoir/pochoirref07.U32 -/
def s73 : SFn :=
 ⟨17, [.tmp 4, .tmp 5],
  (.seq (.reg [⟨(some 4), .mv (.v (.int .u32 0)), none, none, []⟩, ⟨(some 5), .mv (.v (.int .i64 0)), none, none, []⟩])
  (.seq (.reg [⟨(some 9), .mv (.t 0), none, none, []⟩, ⟨(some 10), .mv (.t 1), none, none, []⟩, ⟨(some 11), .call 96 [(.t 9), (.t 10), (.v (.int .i64 4))], none, none, []⟩, ⟨(some 8), .mv (.t 11), none, none, []⟩, ⟨(some 12), .extract (.t 8) 0, none, none, []⟩, ⟨(some 13), .extract (.t 8) 1, none, none, []⟩, ⟨(some 6), .mv (.t 12), none, none, []⟩, ⟨(some 7), .mv (.t 13), none, none, []⟩])
  (.seq (.reg [⟨(some 14), .mv (.t 6), none, none, []⟩, ⟨(some 15), .call 95 [(.t 14)], none, none, []⟩, ⟨(some 16), .mv (.t 7), none, none, []⟩, ⟨(some 4), .mv (.t 15), none, none, []⟩, ⟨(some 5), .mv (.t 16), none, none, []⟩])
  .ret)))⟩
/-- pochoir/pochoirref30.whole -/
def s74 : SFn :=
 ⟨12, [.tmp 2],
  (.seq (.reg [⟨(some 2), .mv (.v (.int .i64 0)), none, none, []⟩])
  (.seq (.reg [⟨(some 4), .mv (.t 0), none, none, []⟩, ⟨(some 5), .call 71 [(.t 4), (.v (.int .i64 4))], none, none, []⟩, ⟨(some 6), .conv .i64 (.t 5), none, none, []⟩, ⟨(some 3), .mv (.t 6), none, none, []⟩])
  (.seq (.seq (.reg [⟨(some 7), .mv (.t 3), none, none, []⟩, ⟨(some 8), .bin .geq (.t 7) (.v (.int .i64 2147483648)), none, none, []⟩])
  (.cond (.t 8) (.seq (.reg [⟨(some 9), .mv (.t 3), none, none, []⟩, ⟨(some 10), .bin .sub (.t 9) (.v (.int .i64 4294967296)), none, none, []⟩, ⟨(some 2), .mv (.t 10), none, none, []⟩])
  .ret) .skip))
  (.seq (.reg [⟨(some 11), .mv (.t 3), none, none, []⟩, ⟨(some 2), .mv (.t 11), none, none, []⟩])
  .ret))))⟩
/-- (*pochoir/pochoirref07.Reader).Take -/
def s75 : SFn :=
 ⟨41, [.tmp 4],
  (.seq (.reg [⟨(some 4), .mv (.v (.str ⟨#[]⟩)), none, none, []⟩])
  (.seq (.regd [⟨(some 8), .mv (.t 0), none, (some []), []⟩, ⟨(some 9), .nilck (.t 8), none, (some []), []⟩, ⟨(some 10), .faddr 0 (.t 9), none, (some []), []⟩, ⟨(some 11), .load none (.t 10), none, (some []), []⟩, ⟨(some 12), .mv (.t 0), none, (some []), []⟩, ⟨(some 13), .nilck (.t 12), none, (some []), []⟩, ⟨(some 14), .faddr 1 (.t 13), none, (some []), []⟩, ⟨(some 15), .load none (.t 14), none, (some []), []⟩, ⟨(some 16), .mv (.t 1), none, (some []), []⟩, ⟨(some 17), .call 96 [(.t 11), (.t 15), (.t 16)], none, none, []⟩, ⟨(some 7), .mv (.t 17), none, (some []), []⟩, ⟨(some 18), .extract (.t 7) 0, none, (some []), []⟩, ⟨(some 19), .extract (.t 7) 1, none, (some []), []⟩, ⟨(some 5), .mv (.t 18), none, (some []), []⟩, ⟨(some 6), .mv (.t 19), none, (some []), []⟩])
  (.seq (.seq (.reg [⟨(some 20), .mv (.t 0), none, none, []⟩, ⟨(some 21), .nilck (.t 20), none, none, []⟩, ⟨(some 22), .faddr 2 (.t 21), none, none, []⟩, ⟨(some 23), .load none (.t 22), none, none, []⟩, ⟨(some 24), .mv (.t 23), none, none, []⟩, ⟨(some 25), .mv (.t 6), (some (24, false)), none, []⟩, ⟨(some 26), .bin .neq (.t 25) (.v (.int .i64 0)), (some (24, false)), none, []⟩, ⟨(some 27), .pick (.t 24) (.v (.bool true)) (.t 26), none, none, []⟩])
  (.cond (.t 27) (.seq (.reg [⟨(some 28), .mv (.t 0), none, none, []⟩, ⟨(some 29), .nilck (.t 28), none, none, []⟩, ⟨(some 30), .faddr 2 (.t 29), none, none, []⟩, ⟨none, .store 1 (.t 30) (.v (.bool true)), none, none, []⟩])
  (.seq (.reg [⟨(some 4), .mv (.v (.str ⟨#[]⟩)), none, none, []⟩])
  .ret)) .skip))
  (.seq (.reg [⟨(some 31), .mv (.t 0), none, none, []⟩, ⟨(some 32), .mv (.t 0), none, none, []⟩, ⟨(some 33), .nilck (.t 32), none, none, []⟩, ⟨(some 34), .faddr 1 (.t 33), none, none, []⟩, ⟨(some 35), .load none (.t 34), none, none, []⟩, ⟨(some 36), .mv (.t 1), none, none, []⟩, ⟨(some 37), .bin .add (.t 35) (.t 36), none, none, []⟩, ⟨(some 38), .nilck (.t 31), none, none, []⟩, ⟨(some 39), .faddr 1 (.t 38), none, none, []⟩, ⟨none, .store 1 (.t 39) (.t 37), none, none, []⟩])
  (.seq (.reg [⟨(some 40), .mv (.t 5), none, none, []⟩, ⟨(some 4), .mv (.t 40), none, none, []⟩])
  .ret)))))⟩
/-- pochoir/atlas.within -/
def s76 : SFn :=
 ⟨15, [.tmp 6],
  (.seq (.reg [⟨(some 6), .mv (.v (.bool false)), none, none, []⟩])
  (.seq (.reg [⟨(some 7), .mv (.t 0), none, none, []⟩, ⟨(some 8), .mv (.t 1), none, none, []⟩, ⟨(some 9), .bin .geq (.t 7) (.t 8), none, none, []⟩, ⟨(some 10), .mv (.t 9), none, none, []⟩, ⟨(some 11), .mv (.t 0), (some (10, true)), none, []⟩, ⟨(some 12), .mv (.t 2), (some (10, true)), none, []⟩, ⟨(some 13), .bin .leq (.t 11) (.t 12), (some (10, true)), none, []⟩, ⟨(some 14), .pick (.t 10) (.t 13) (.v (.bool false)), none, none, []⟩, ⟨(some 6), .mv (.t 14), none, none, []⟩])
  .ret))⟩
/-- pochoir/kern.search -/
def s78 : SFn :=
 ⟨22, [.tmp 2],
  (.seq (.reg [⟨(some 2), .mv (.v (.str ⟨#[]⟩)), none, none, []⟩])
  (.seq (.seq (.reg [⟨(some 4), .mv (.t 0), none, none, []⟩, ⟨(some 5), .bin .eql (.t 4) (.v (.int .i64 0)), none, none, []⟩])
  (.cond (.t 5) (.seq (.reg [⟨(some 6), .bsl 3 [(.int .i64 0), (.int .i64 0), (.int .i64 0)] 3 1 [(0, 1, (.v (.int .i64 0))), (1, 1, (.v (.int .i64 0))), (2, 1, (.v (.int .i64 0)))], none, none, []⟩, ⟨(some 7), .call 36 [(.t 6)], none, none, []⟩, ⟨(some 2), .mv (.t 7), none, none, []⟩])
  .ret) .skip))
  (.seq (.reg [⟨(some 8), .mv (.t 0), none, none, []⟩, ⟨(some 9), .conv .u64 (.t 8), none, none, []⟩, ⟨(some 10), .call 98 [(.t 9)], none, none, []⟩, ⟨(some 11), .bin .sub (.t 10) (.v (.int .i64 1)), none, none, []⟩, ⟨(some 3), .mv (.t 11), none, none, []⟩])
  (.seq (.regd [⟨(some 12), .mv (.t 3), none, (some []), []⟩, ⟨(some 13), .bin .shl (.v (.int .i64 6)) (.t 12), none, (some []), []⟩, ⟨(some 14), .mv (.t 3), none, (some []), []⟩, ⟨(some 15), .mv (.t 0), none, (some []), []⟩, ⟨(some 16), .bin .mul (.v (.int .i64 6)) (.t 15), none, (some []), []⟩, ⟨(some 17), .mv (.t 3), none, (some []), []⟩, ⟨(some 18), .bin .shl (.v (.int .i64 6)) (.t 17), none, (some []), []⟩, ⟨(some 19), .bin .sub (.t 16) (.t 18), none, (some []), []⟩, ⟨(some 20), .bsl 3 [(.int .i64 0), (.int .i64 0), (.int .i64 0)] 3 1 [(0, 1, (.t 13)), (1, 1, (.t 14)), (2, 1, (.t 19))], none, none, []⟩, ⟨(some 21), .call 36 [(.t 20)], none, none, []⟩, ⟨(some 2), .mv (.t 21), none, (some []), []⟩])
  .ret))))⟩
/-- pochoir/octet.P16 -/
def s79 : SFn :=
 ⟨10, [.tmp 2],
  (.seq (.reg [⟨(some 2), .mv (.v (.str ⟨#[]⟩)), none, none, []⟩])
  (.seq (.reg [⟨(some 3), .mv (.t 0), none, none, []⟩, ⟨(some 4), .bin .shr (.t 3) (.v (.int .u64 8)), none, none, []⟩, ⟨(some 5), .conv .u8 (.t 4), none, none, []⟩, ⟨(some 6), .mv (.t 0), none, none, []⟩, ⟨(some 7), .conv .u8 (.t 6), none, none, []⟩, ⟨(some 8), .bsl 5 [(.int .u8 0), (.int .u8 0)] 2 1 [(0, 1, (.t 5)), (1, 1, (.t 7))], none, none, []⟩, ⟨(some 9), .b2s (.t 8), none, none, []⟩, ⟨(some 2), .mv (.t 9), none, none, []⟩])
  .ret))⟩
/-- pochoir/kern.compare -/
def s80 : SFn :=
 ⟨17, [.tmp 4],
  (.seq (.reg [⟨(some 2), .box 41 (.t 0), none, none, []⟩, ⟨(some 3), .box 41 (.t 1), none, none, []⟩, ⟨(some 4), .mv (.v (.int .i64 0)), none, none, []⟩])
  (.seq (.regd [⟨(some 5), .faddr 0 (.t 2), none, (some []), []⟩, ⟨(some 6), .load none (.t 5), none, (some []), []⟩, ⟨(some 7), .faddr 0 (.t 3), none, (some []), []⟩, ⟨(some 8), .load none (.t 7), none, (some []), []⟩, ⟨(some 9), .call 100 [(.t 6), (.t 8)], none, none, [(none, (.t 2)), (none, (.t 3))]⟩, ⟨(some 10), .faddr 1 (.t 2), none, (some [4]), []⟩, ⟨(some 11), .load none (.t 10), none, (some [4]), []⟩, ⟨(some 12), .faddr 1 (.t 3), none, (some [4]), []⟩, ⟨(some 13), .load none (.t 12), none, (some [4]), []⟩, ⟨(some 14), .call 100 [(.t 11), (.t 13)], none, none, []⟩, ⟨(some 15), .bsl 3 [(.int .i64 0), (.int .i64 0)] 2 1 [(0, 1, (.t 9)), (1, 1, (.t 14))], none, none, []⟩, ⟨(some 16), .call 99 [(.t 15)], none, none, []⟩, ⟨(some 4), .mv (.t 16), none, (some []), []⟩])
  .ret))⟩
/-- pochoir/octet.Cut -/
def s81 : SFn :=
 ⟨34, [.tmp 6, .tmp 7],
  (.seq (.reg [⟨(some 6), .mv (.v (.str ⟨#[]⟩)), none, none, []⟩, ⟨(some 7), .mv (.v (.int .i64 0)), none, none, []⟩])
  (.seq (.seq (.reg [⟨(some 8), .mv (.t 1), none, none, []⟩, ⟨(some 9), .bin .lss (.t 8) (.v (.int .i64 0)), none, none, []⟩, ⟨(some 10), .mv (.t 9), none, none, []⟩, ⟨(some 11), .mv (.t 2), (some (10, false)), none, []⟩, ⟨(some 12), .bin .lss (.t 11) (.v (.int .i64 0)), (some (10, false)), none, []⟩, ⟨(some 13), .pick (.t 10) (.v (.bool true)) (.t 12), none, none, []⟩, ⟨(some 14), .mv (.t 13), none, none, []⟩, ⟨(some 15), .mv (.t 1), (some (14, false)), none, []⟩, ⟨(some 16), .mv (.t 0), (some (14, false)), none, []⟩, ⟨(some 17), .len true (.t 16), (some (14, false)), none, []⟩, ⟨(some 18), .bin .gtr (.t 15) (.t 17), (some (14, false)), none, []⟩, ⟨(some 19), .pick (.t 14) (.v (.bool true)) (.t 18), none, none, []⟩, ⟨(some 20), .mv (.t 19), none, none, []⟩, ⟨(some 21), .mv (.t 2), (some (20, false)), none, []⟩, ⟨(some 22), .mv (.t 0), (some (20, false)), none, []⟩, ⟨(some 23), .len true (.t 22), (some (20, false)), none, []⟩, ⟨(some 24), .mv (.t 1), (some (20, false)), none, []⟩, ⟨(some 25), .bin .sub (.t 23) (.t 24), (some (20, false)), none, []⟩, ⟨(some 26), .bin .gtr (.t 21) (.t 25), (some (20, false)), none, []⟩, ⟨(some 27), .pick (.t 20) (.v (.bool true)) (.t 26), none, none, []⟩])
  (.cond (.t 27) (.seq (.reg [⟨(some 6), .mv (.v (.str ⟨#[]⟩)), none, none, []⟩, ⟨(some 7), .mv (.v (.int .i64 3)), none, none, []⟩])
  .ret) .skip))
  (.seq (.reg [⟨(some 28), .mv (.t 0), none, none, []⟩, ⟨(some 29), .mv (.t 1), none, none, []⟩, ⟨(some 30), .mv (.t 1), none, none, []⟩, ⟨(some 31), .mv (.t 2), none, none, []⟩, ⟨(some 32), .bin .add (.t 30) (.t 31), none, none, []⟩, ⟨(some 33), .slstr (.t 28) (some (.t 29)) (some (.t 32)), none, none, []⟩, ⟨(some 6), .mv (.t 33), none, none, []⟩, ⟨(some 7), .mv (.v (.int .i64 0)), none, none, []⟩])
  .ret)))⟩
/-- pochoir/octet.number -/
def s82 : SFn :=
 ⟨19, [.tmp 2],
  (.seq (.reg [⟨(some 2), .mv (.v (.int .u32 0)), none, none, []⟩])
  (.seq (.reg [⟨(some 3), .mv (.v (.int .u32 0)), none, none, []⟩])
  (.seq (.seq (.reg [⟨(some 5), .mv (.t 0), none, none, []⟩, ⟨(some 6), .len true (.t 5), none, none, []⟩, ⟨(some 7), .mv (.v (.int .i64 0)), none, none, []⟩])
  (.block 0 (.loop (.seq (.reg [⟨(some 8), .bin .lss (.t 7) (.t 6), none, none, []⟩])
  (.seq (.cond (.t 8) .skip (.exit 0))
  (.seq (.block 1 (.seq (.reg [⟨(some 9), .mv (.t 7), none, none, []⟩, ⟨(some 4), .mv (.t 9), none, none, []⟩])
  (.reg [⟨(some 10), .mv (.t 3), none, none, []⟩, ⟨(some 11), .bin .shl (.t 10) (.v (.int .u64 8)), none, none, []⟩, ⟨(some 12), .mv (.t 0), none, none, []⟩, ⟨(some 13), .mv (.t 4), none, none, []⟩, ⟨(some 14), .ixs (.t 12) (.t 13), none, none, []⟩, ⟨(some 15), .conv .u32 (.t 14), none, none, []⟩, ⟨(some 16), .bin .or (.t 11) (.t 15), none, none, []⟩, ⟨(some 3), .mv (.t 16), none, none, []⟩])))
  (.reg [⟨(some 17), .bin .add (.t 7) (.v (.int .i64 1)), none, none, []⟩, ⟨(some 7), .mv (.t 17), none, none, []⟩])))))))
  (.seq (.reg [⟨(some 18), .mv (.t 3), none, none, []⟩, ⟨(some 2), .mv (.t 18), none, none, []⟩])
  .ret))))⟩
/-- (*pochoir/octet.Reader).take -/
def s83 : SFn :=
 ⟨42, [.tmp 4],
  (.seq (.reg [⟨(some 4), .mv (.v (.str ⟨#[]⟩)), none, none, []⟩])
  (.seq (.seq (.reg [⟨(some 7), .mv (.t 0), none, none, []⟩, ⟨(some 8), .eqs 1 [] false (.t 7) (.v .nilp), none, none, []⟩, ⟨(some 9), .mv (.t 8), none, none, []⟩, ⟨(some 10), .mv (.t 0), (some (9, false)), none, []⟩, ⟨(some 11), .nilck (.t 10), (some (9, false)), none, []⟩, ⟨(some 12), .faddr 2 (.t 11), (some (9, false)), none, []⟩, ⟨(some 13), .load none (.t 12), (some (9, false)), none, []⟩, ⟨(some 14), .pick (.t 9) (.v (.bool true)) (.t 13), none, none, []⟩])
  (.cond (.t 14) (.seq (.reg [⟨(some 4), .mv (.v (.str ⟨#[]⟩)), none, none, []⟩])
  .ret) .skip))
  (.seq (.regd [⟨(some 16), .mv (.t 0), none, (some []), []⟩, ⟨(some 17), .nilck (.t 16), none, (some []), []⟩, ⟨(some 18), .faddr 0 (.t 17), none, (some []), []⟩, ⟨(some 19), .load none (.t 18), none, (some []), []⟩, ⟨(some 20), .mv (.t 0), none, (some []), []⟩, ⟨(some 21), .nilck (.t 20), none, (some []), []⟩, ⟨(some 22), .faddr 1 (.t 21), none, (some []), []⟩, ⟨(some 23), .load none (.t 22), none, (some []), []⟩, ⟨(some 24), .mv (.t 1), none, (some []), []⟩, ⟨(some 25), .call 81 [(.t 19), (.t 23), (.t 24)], none, none, []⟩, ⟨(some 15), .mv (.t 25), none, (some []), []⟩, ⟨(some 26), .extract (.t 15) 0, none, (some []), []⟩, ⟨(some 27), .extract (.t 15) 1, none, (some []), []⟩, ⟨(some 5), .mv (.t 26), none, (some []), []⟩, ⟨(some 6), .mv (.t 27), none, (some []), []⟩])
  (.seq (.seq (.reg [⟨(some 28), .mv (.t 6), none, none, []⟩, ⟨(some 29), .bin .neq (.t 28) (.v (.int .i64 0)), none, none, []⟩])
  (.cond (.t 29) (.seq (.reg [⟨(some 30), .mv (.t 0), none, none, []⟩, ⟨(some 31), .nilck (.t 30), none, none, []⟩, ⟨(some 32), .faddr 2 (.t 31), none, none, []⟩, ⟨none, .store 1 (.t 32) (.v (.bool true)), none, none, []⟩])
  (.seq (.reg [⟨(some 4), .mv (.v (.str ⟨#[]⟩)), none, none, []⟩])
  .ret)) .skip))
  (.seq (.reg [⟨(some 33), .mv (.t 0), none, none, []⟩, ⟨(some 34), .nilck (.t 33), none, none, []⟩, ⟨(some 35), .faddr 1 (.t 34), none, none, []⟩, ⟨(some 36), .load none (.t 35), none, none, []⟩, ⟨(some 37), .mv (.t 1), none, none, []⟩, ⟨(some 38), .bin .add (.t 36) (.t 37), none, none, []⟩, ⟨(some 39), .nilck (.t 33), none, none, []⟩, ⟨(some 40), .faddr 1 (.t 39), none, none, []⟩, ⟨none, .store 1 (.t 40) (.t 38), none, none, []⟩])
  (.seq (.reg [⟨(some 41), .mv (.t 5), none, none, []⟩, ⟨(some 4), .mv (.t 41), none, none, []⟩])
  .ret))))))⟩
/-- pochoir/pochoirref07.U16 -/
def s84 : SFn :=
 ⟨18, [.tmp 4, .tmp 5],
  (.seq (.reg [⟨(some 4), .mv (.v (.int .u16 0)), none, none, []⟩, ⟨(some 5), .mv (.v (.int .i64 0)), none, none, []⟩])
  (.seq (.reg [⟨(some 9), .mv (.t 0), none, none, []⟩, ⟨(some 10), .mv (.t 1), none, none, []⟩, ⟨(some 11), .call 96 [(.t 9), (.t 10), (.v (.int .i64 2))], none, none, []⟩, ⟨(some 8), .mv (.t 11), none, none, []⟩, ⟨(some 12), .extract (.t 8) 0, none, none, []⟩, ⟨(some 13), .extract (.t 8) 1, none, none, []⟩, ⟨(some 6), .mv (.t 12), none, none, []⟩, ⟨(some 7), .mv (.t 13), none, none, []⟩])
  (.seq (.reg [⟨(some 14), .mv (.t 6), none, none, []⟩, ⟨(some 15), .call 95 [(.t 14)], none, none, []⟩, ⟨(some 16), .conv .u16 (.t 15), none, none, []⟩, ⟨(some 17), .mv (.t 7), none, none, []⟩, ⟨(some 4), .mv (.t 16), none, none, []⟩, ⟨(some 5), .mv (.t 17), none, none, []⟩])
  .ret)))⟩
/-- pochoir/sum.table -/
def s85 : SFn :=
 ⟨13, [.cell 0 (some 256)],
  (.seq (.reg [⟨(some 0), .box 150 (.v (.agg (List.replicate 256 (.int .u32 0)))), none, none, []⟩])
  (.seq (.reg [⟨(some 1), .box 150 (.v (.agg (List.replicate 256 (.int .u32 0)))), none, none, []⟩])
  (.seq (.seq (.reg [⟨(some 3), .mv (.v (.int .i64 0)), none, none, []⟩])
  (.block 0 (.loop (.seq (.reg [⟨(some 4), .bin .lss (.t 3) (.v (.int .i64 256)), none, none, []⟩])
  (.seq (.cond (.t 4) .skip (.exit 0))
  (.seq (.block 1 (.seq (.reg [⟨(some 5), .mv (.t 3), none, none, []⟩, ⟨(some 2), .mv (.t 5), none, none, []⟩])
  (.reg [⟨(some 6), .mv (.t 2), none, none, []⟩, ⟨(some 7), .mv (.t 2), none, none, []⟩, ⟨(some 8), .conv .u32 (.t 7), none, none, []⟩, ⟨(some 9), .call 101 [(.t 8), (.v (.int .i64 8))], none, none, []⟩, ⟨(some 10), .iarr 256 1 (.t 1) (.t 6), none, none, []⟩, ⟨none, .store 1 (.t 10) (.t 9), none, none, []⟩])))
  (.reg [⟨(some 11), .bin .add (.t 3) (.v (.int .i64 1)), none, none, []⟩, ⟨(some 3), .mv (.t 11), none, none, []⟩])))))))
  (.seq (.reg [⟨(some 12), .load (some 256) (.t 1), none, none, []⟩, ⟨none, .store 256 (.t 0) (.t 12), none, none, []⟩])
  .ret))))⟩
/-- pochoir/atlas.short -/
def s86 : SFn :=
 ⟨5, [.tmp 2],
  (.seq (.reg [⟨(some 2), .mv (.v (.bool false)), none, none, []⟩])
  (.seq (.reg [⟨(some 3), .mv (.t 0), none, none, []⟩, ⟨(some 4), .call 76 [(.t 3), (.v (.int .i64 (-32768))), (.v (.int .i64 32767))], none, none, []⟩, ⟨(some 2), .mv (.t 4), none, none, []⟩])
  .ret))⟩
/-- pochoir/cell.May -/
def s87 : SFn :=
 ⟨24, [.tmp 2],
  (.seq (.reg [⟨(some 1), .box 103 (.t 0), none, none, []⟩, ⟨(some 2), .mv (.v (.bool false)), none, none, []⟩])
  (.seq (.seq (.reg [⟨(some 3), .load (some 4) (.t 1), none, none, []⟩, ⟨(some 4), .build [(.int .i64 0), (.int .i64 0), (.int .i64 0), (.int .i64 0)] [], none, none, []⟩, ⟨(some 5), .eqs 4 [1, 1, 1, 1] false (.t 3) (.t 4), none, none, []⟩])
  (.cond (.t 5) (.seq (.reg [⟨(some 2), .mv (.v (.bool true)), none, none, []⟩])
  .ret) .skip))
  (.seq (.reg [⟨(some 6), .faddr 2 (.t 1), none, none, []⟩, ⟨(some 7), .load none (.t 6), none, none, []⟩, ⟨(some 8), .call 102 [(.t 7), (.v (.int .i64 1)), (.v (.int .i64 256))], none, none, []⟩, ⟨(some 9), .mv (.t 8), none, none, []⟩, ⟨(some 10), .faddr 3 (.t 1), (some (9, true)), none, []⟩, ⟨(some 11), .load none (.t 10), (some (9, true)), none, []⟩, ⟨(some 12), .call 102 [(.t 11), (.v (.int .i64 1)), (.v (.int .i64 256))], (some (9, true)), none, []⟩, ⟨(some 13), .pick (.t 9) (.t 12) (.v (.bool false)), none, none, []⟩, ⟨(some 14), .mv (.t 13), none, none, []⟩, ⟨(some 15), .faddr 0 (.t 1), (some (14, true)), none, []⟩, ⟨(some 16), .load none (.t 15), (some (14, true)), none, []⟩, ⟨(some 17), .call 102 [(.t 16), (.v (.int .i64 (-1048576))), (.v (.int .i64 1048576))], (some (14, true)), none, []⟩, ⟨(some 18), .pick (.t 14) (.t 17) (.v (.bool false)), none, none, []⟩, ⟨(some 19), .mv (.t 18), none, none, []⟩, ⟨(some 20), .faddr 1 (.t 1), (some (19, true)), none, []⟩, ⟨(some 21), .load none (.t 20), (some (19, true)), none, []⟩, ⟨(some 22), .call 102 [(.t 21), (.v (.int .i64 (-1048576))), (.v (.int .i64 1048576))], (some (19, true)), none, []⟩, ⟨(some 23), .pick (.t 19) (.t 22) (.v (.bool false)), none, none, []⟩, ⟨(some 2), .mv (.t 23), none, none, []⟩])
  .ret)))⟩
/-- pochoir/pochoirref25.May -/
def s88 : SFn :=
 ⟨44, [.tmp 2],
  (.seq (.reg [⟨(some 1), .box 103 (.t 0), none, none, []⟩, ⟨(some 2), .mv (.v (.bool false)), none, none, []⟩])
  (.seq (.seq (.reg [⟨(some 3), .load (some 4) (.t 1), none, none, []⟩, ⟨(some 4), .build [(.int .i64 0), (.int .i64 0), (.int .i64 0), (.int .i64 0)] [], none, none, []⟩, ⟨(some 5), .eqs 4 [1, 1, 1, 1] false (.t 3) (.t 4), none, none, []⟩])
  (.cond (.t 5) (.seq (.reg [⟨(some 2), .mv (.v (.bool true)), none, none, []⟩])
  .ret) .skip))
  (.seq (.reg [⟨(some 6), .faddr 2 (.t 1), none, none, []⟩, ⟨(some 7), .load none (.t 6), none, none, []⟩, ⟨(some 8), .bin .geq (.t 7) (.v (.int .i64 1)), none, none, []⟩, ⟨(some 9), .mv (.t 8), none, none, []⟩, ⟨(some 10), .faddr 2 (.t 1), (some (9, true)), none, []⟩, ⟨(some 11), .load none (.t 10), (some (9, true)), none, []⟩, ⟨(some 12), .bin .leq (.t 11) (.v (.int .i64 256)), (some (9, true)), none, []⟩, ⟨(some 13), .pick (.t 9) (.t 12) (.v (.bool false)), none, none, []⟩, ⟨(some 14), .mv (.t 13), none, none, []⟩, ⟨(some 15), .faddr 3 (.t 1), (some (14, true)), none, []⟩, ⟨(some 16), .load none (.t 15), (some (14, true)), none, []⟩, ⟨(some 17), .bin .geq (.t 16) (.v (.int .i64 1)), (some (14, true)), none, []⟩, ⟨(some 18), .pick (.t 14) (.t 17) (.v (.bool false)), none, none, []⟩, ⟨(some 19), .mv (.t 18), none, none, []⟩, ⟨(some 20), .faddr 3 (.t 1), (some (19, true)), none, []⟩, ⟨(some 21), .load none (.t 20), (some (19, true)), none, []⟩, ⟨(some 22), .bin .leq (.t 21) (.v (.int .i64 256)), (some (19, true)), none, []⟩, ⟨(some 23), .pick (.t 19) (.t 22) (.v (.bool false)), none, none, []⟩, ⟨(some 24), .mv (.t 23), none, none, []⟩, ⟨(some 25), .faddr 0 (.t 1), (some (24, true)), none, []⟩, ⟨(some 26), .load none (.t 25), (some (24, true)), none, []⟩, ⟨(some 27), .bin .geq (.t 26) (.v (.int .i64 (-1048576))), (some (24, true)), none, []⟩, ⟨(some 28), .pick (.t 24) (.t 27) (.v (.bool false)), none, none, []⟩, ⟨(some 29), .mv (.t 28), none, none, []⟩, ⟨(some 30), .faddr 0 (.t 1), (some (29, true)), none, []⟩, ⟨(some 31), .load none (.t 30), (some (29, true)), none, []⟩, ⟨(some 32), .bin .leq (.t 31) (.v (.int .i64 1048576)), (some (29, true)), none, []⟩, ⟨(some 33), .pick (.t 29) (.t 32) (.v (.bool false)), none, none, []⟩, ⟨(some 34), .mv (.t 33), none, none, []⟩, ⟨(some 35), .faddr 1 (.t 1), (some (34, true)), none, []⟩, ⟨(some 36), .load none (.t 35), (some (34, true)), none, []⟩, ⟨(some 37), .bin .geq (.t 36) (.v (.int .i64 (-1048576))), (some (34, true)), none, []⟩, ⟨(some 38), .pick (.t 34) (.t 37) (.v (.bool false)), none, none, []⟩, ⟨(some 39), .mv (.t 38), none, none, []⟩, ⟨(some 40), .faddr 1 (.t 1), (some (39, true)), none, []⟩, ⟨(some 41), .load none (.t 40), (some (39, true)), none, []⟩, ⟨(some 42), .bin .leq (.t 41) (.v (.int .i64 1048576)), (some (39, true)), none, []⟩, ⟨(some 43), .pick (.t 39) (.t 42) (.v (.bool false)), none, none, []⟩, ⟨(some 2), .mv (.t 43), none, none, []⟩])
  .ret)))⟩
/-- pochoir/atlas.u16 -/
def s89 : SFn :=
 ⟨6, [.tmp 2],
  (.seq (.reg [⟨(some 2), .mv (.v (.int .i64 0)), none, none, []⟩])
  (.seq (.reg [⟨(some 3), .mv (.t 0), none, none, []⟩, ⟨(some 4), .call 47 [(.t 3)], none, none, []⟩, ⟨(some 5), .conv .i64 (.t 4), none, none, []⟩, ⟨(some 2), .mv (.t 5), none, none, []⟩])
  .ret))⟩
/-- pochoir/atlas.i16 -/
def s90 : SFn :=
 ⟨6, [.tmp 2],
  (.seq (.reg [⟨(some 2), .mv (.v (.int .i64 0)), none, none, []⟩])
  (.seq (.reg [⟨(some 3), .mv (.t 0), none, none, []⟩, ⟨(some 4), .call 48 [(.t 3)], none, none, []⟩, ⟨(some 5), .conv .i64 (.t 4), none, none, []⟩, ⟨(some 2), .mv (.t 5), none, none, []⟩])
  .ret))⟩
/-- (*pochoir/octet.Reader).U32 -/
def s91 : SFn :=
 ⟨6, [.tmp 2],
  (.seq (.reg [⟨(some 2), .mv (.v (.int .u32 0)), none, none, []⟩])
  (.seq (.reg [⟨(some 3), .mv (.t 0), none, none, []⟩, ⟨(some 4), .call 83 [(.t 3), (.v (.int .i64 4))], none, none, []⟩, ⟨(some 5), .call 82 [(.t 4)], none, none, []⟩, ⟨(some 2), .mv (.t 5), none, none, []⟩])
  .ret))⟩
/-- pochoir/atlas.i32 -/
def s92 : SFn :=
 ⟨7, [.tmp 2],
  (.seq (.reg [⟨(some 2), .mv (.v (.int .i64 0)), none, none, []⟩])
  (.seq (.reg [⟨(some 3), .mv (.t 0), none, none, []⟩, ⟨(some 4), .call 91 [(.t 3)], none, none, []⟩, ⟨(some 5), .conv .i32 (.t 4), none, none, []⟩, ⟨(some 6), .conv .i64 (.t 5), none, none, []⟩, ⟨(some 2), .mv (.t 6), none, none, []⟩])
  .ret))⟩
/-- (*pochoir/octet.Reader).At -/
def s93 : SFn :=
 ⟨9, [.tmp 2],
  (.seq (.reg [⟨(some 2), .mv (.v (.int .i64 0)), none, none, []⟩])
  (.seq (.seq (.reg [⟨(some 3), .mv (.t 0), none, none, []⟩, ⟨(some 4), .eqs 1 [] false (.t 3) (.v .nilp), none, none, []⟩])
  (.cond (.t 4) (.seq (.reg [⟨(some 2), .mv (.v (.int .i64 0)), none, none, []⟩])
  .ret) .skip))
  (.seq (.reg [⟨(some 5), .mv (.t 0), none, none, []⟩, ⟨(some 6), .nilck (.t 5), none, none, []⟩, ⟨(some 7), .faddr 1 (.t 6), none, none, []⟩, ⟨(some 8), .load none (.t 7), none, none, []⟩, ⟨(some 2), .mv (.t 8), none, none, []⟩])
  .ret)))⟩
/-- pochoir/pochoirref08.xor -/
def s94 : SFn :=
 ⟨25, [.tmp 4],
  (.seq (.reg [⟨(some 4), .mv (.v (.int .u32 0)), none, none, []⟩])
  (.seq (.reg [⟨(some 5), .mv (.v (.int .u32 0)), none, none, []⟩])
  (.seq (.seq (.reg [⟨(some 6), .mv (.v (.int .i64 0)), none, none, []⟩])
  (.block 0 (.loop (.seq (.seq (.reg [⟨(some 7), .mv (.t 6), none, none, []⟩, ⟨(some 8), .bin .lss (.t 7) (.v (.int .i64 32)), none, none, []⟩])
  (.cond (.t 8) .skip (.exit 0)))
  (.seq (.block 1 (.seq (.regd [⟨(some 11), .mv (.t 0), none, (some []), []⟩, ⟨(some 12), .mv (.t 6), none, (some []), []⟩, ⟨(some 13), .bin .shr (.t 11) (.t 12), none, (some []), []⟩, ⟨(some 14), .bin .rem (.t 13) (.v (.int .u32 2)), none, (some []), []⟩, ⟨(some 15), .mv (.t 1), none, (some []), []⟩, ⟨(some 16), .mv (.t 6), none, (some []), []⟩, ⟨(some 17), .bin .shr (.t 15) (.t 16), none, (some []), []⟩, ⟨(some 18), .bin .rem (.t 17) (.v (.int .u32 2)), none, (some []), []⟩, ⟨(some 19), .bin .neq (.t 14) (.t 18), none, (some []), []⟩])
  (.cond (.t 19) (.reg [⟨(some 20), .mv (.t 5), none, none, []⟩, ⟨(some 21), .mv (.t 6), none, none, []⟩, ⟨(some 22), .bin .shl (.v (.int .u32 1)) (.t 21), none, none, []⟩, ⟨(some 23), .bin .add (.t 20) (.t 22), none, none, []⟩, ⟨(some 5), .mv (.t 23), none, none, []⟩]) .skip)))
  (.reg [⟨(some 9), .mv (.t 6), none, none, []⟩, ⟨(some 10), .bin .add (.t 9) (.v (.int .i64 1)), none, none, []⟩, ⟨(some 6), .mv (.t 10), none, none, []⟩]))))))
  (.seq (.reg [⟨(some 24), .mv (.t 5), none, none, []⟩, ⟨(some 4), .mv (.t 24), none, none, []⟩])
  .ret))))⟩
/-- pochoir/pochoirref07.number -/
def s95 : SFn :=
 ⟨19, [.tmp 2],
  (.seq (.reg [⟨(some 2), .mv (.v (.int .u32 0)), none, none, []⟩])
  (.seq (.reg [⟨(some 3), .mv (.v (.int .u32 0)), none, none, []⟩])
  (.seq (.seq (.reg [⟨(some 4), .mv (.v (.int .i64 0)), none, none, []⟩])
  (.block 0 (.loop (.seq (.seq (.reg [⟨(some 5), .mv (.t 4), none, none, []⟩, ⟨(some 6), .mv (.t 0), none, none, []⟩, ⟨(some 7), .len true (.t 6), none, none, []⟩, ⟨(some 8), .bin .lss (.t 5) (.t 7), none, none, []⟩])
  (.cond (.t 8) .skip (.exit 0)))
  (.seq (.block 1 (.reg [⟨(some 11), .mv (.t 3), none, none, []⟩, ⟨(some 12), .bin .mul (.t 11) (.v (.int .u32 256)), none, none, []⟩, ⟨(some 13), .mv (.t 0), none, none, []⟩, ⟨(some 14), .mv (.t 4), none, none, []⟩, ⟨(some 15), .ixs (.t 13) (.t 14), none, none, []⟩, ⟨(some 16), .conv .u32 (.t 15), none, none, []⟩, ⟨(some 17), .bin .add (.t 12) (.t 16), none, none, []⟩, ⟨(some 3), .mv (.t 17), none, none, []⟩]))
  (.reg [⟨(some 9), .mv (.t 4), none, none, []⟩, ⟨(some 10), .bin .add (.t 9) (.v (.int .i64 1)), none, none, []⟩, ⟨(some 4), .mv (.t 10), none, none, []⟩]))))))
  (.seq (.reg [⟨(some 18), .mv (.t 3), none, none, []⟩, ⟨(some 2), .mv (.t 18), none, none, []⟩])
  .ret))))⟩
/-- pochoir/pochoirref07.Cut -/
def s96 : SFn :=
 ⟨34, [.tmp 6, .tmp 7],
  (.seq (.reg [⟨(some 6), .mv (.v (.str ⟨#[]⟩)), none, none, []⟩, ⟨(some 7), .mv (.v (.int .i64 0)), none, none, []⟩])
  (.seq (.seq (.reg [⟨(some 8), .mv (.t 1), none, none, []⟩, ⟨(some 9), .bin .lss (.t 8) (.v (.int .i64 0)), none, none, []⟩, ⟨(some 10), .mv (.t 9), none, none, []⟩, ⟨(some 11), .mv (.t 2), (some (10, false)), none, []⟩, ⟨(some 12), .bin .lss (.t 11) (.v (.int .i64 0)), (some (10, false)), none, []⟩, ⟨(some 13), .pick (.t 10) (.v (.bool true)) (.t 12), none, none, []⟩, ⟨(some 14), .mv (.t 13), none, none, []⟩, ⟨(some 15), .mv (.t 1), (some (14, false)), none, []⟩, ⟨(some 16), .mv (.t 0), (some (14, false)), none, []⟩, ⟨(some 17), .len true (.t 16), (some (14, false)), none, []⟩, ⟨(some 18), .bin .gtr (.t 15) (.t 17), (some (14, false)), none, []⟩, ⟨(some 19), .pick (.t 14) (.v (.bool true)) (.t 18), none, none, []⟩, ⟨(some 20), .mv (.t 19), none, none, []⟩, ⟨(some 21), .mv (.t 2), (some (20, false)), none, []⟩, ⟨(some 22), .mv (.t 0), (some (20, false)), none, []⟩, ⟨(some 23), .len true (.t 22), (some (20, false)), none, []⟩, ⟨(some 24), .mv (.t 1), (some (20, false)), none, []⟩, ⟨(some 25), .bin .sub (.t 23) (.t 24), (some (20, false)), none, []⟩, ⟨(some 26), .bin .gtr (.t 21) (.t 25), (some (20, false)), none, []⟩, ⟨(some 27), .pick (.t 20) (.v (.bool true)) (.t 26), none, none, []⟩])
  (.cond (.t 27) (.seq (.reg [⟨(some 6), .mv (.v (.str ⟨#[]⟩)), none, none, []⟩, ⟨(some 7), .mv (.v (.int .i64 3)), none, none, []⟩])
  .ret) .skip))
  (.seq (.reg [⟨(some 28), .mv (.t 0), none, none, []⟩, ⟨(some 29), .mv (.t 1), none, none, []⟩, ⟨(some 30), .mv (.t 1), none, none, []⟩, ⟨(some 31), .mv (.t 2), none, none, []⟩, ⟨(some 32), .bin .add (.t 30) (.t 31), none, none, []⟩, ⟨(some 33), .slstr (.t 28) (some (.t 29)) (some (.t 32)), none, none, []⟩, ⟨(some 6), .mv (.t 33), none, none, []⟩, ⟨(some 7), .mv (.v (.int .i64 0)), none, none, []⟩])
  .ret)))⟩
/-- math/bits.Len -/
def s98 : SFn :=
 ⟨8, [.tmp 2],
  (.seq (.reg [⟨(some 2), .mv (.v (.int .i64 0)), none, none, []⟩])
  (.seq (.cond (.v (.bool false)) (.seq (.reg [⟨(some 3), .mv (.t 0), none, none, []⟩, ⟨(some 4), .conv .u32 (.t 3), none, none, []⟩, ⟨(some 5), .call 103 [(.t 4)], none, none, []⟩, ⟨(some 2), .mv (.t 5), none, none, []⟩])
  .ret) .skip)
  (.seq (.reg [⟨(some 6), .mv (.t 0), none, none, []⟩, ⟨(some 7), .call 104 [(.t 6)], none, none, []⟩, ⟨(some 2), .mv (.t 7), none, none, []⟩])
  .ret)))⟩
/-- cmp.Or[int] -/
def s99 : SFn :=
 ⟨18, [.tmp 2],
  (.seq (.reg [⟨(some 2), .mv (.v (.int .i64 0)), none, none, []⟩])
  (.seq (.reg [⟨(some 3), .mv (.v (.int .i64 0)), none, none, []⟩])
  (.seq (.seq (.reg [⟨(some 6), .mv (.t 0), none, none, []⟩, ⟨(some 7), .len false (.t 6), none, none, []⟩, ⟨(some 8), .mv (.v (.int .i64 0)), none, none, []⟩])
  (.block 0 (.loop (.seq (.reg [⟨(some 9), .bin .lss (.t 8) (.t 7), none, none, []⟩])
  (.seq (.cond (.t 9) .skip (.exit 0))
  (.seq (.block 1 (.seq (.reg [⟨(some 10), .iaddr 1 (.t 6) (.t 8), none, none, []⟩, ⟨(some 11), .load none (.t 10), none, none, []⟩, ⟨(some 5), .mv (.t 11), none, none, []⟩])
  (.seq (.reg [⟨(some 12), .mv (.t 5), none, none, []⟩, ⟨(some 13), .mv (.t 3), none, none, []⟩, ⟨(some 14), .bin .neq (.t 12) (.t 13), none, none, []⟩])
  (.cond (.t 14) (.seq (.reg [⟨(some 15), .mv (.t 5), none, none, []⟩, ⟨(some 2), .mv (.t 15), none, none, []⟩])
  .ret) .skip))))
  (.reg [⟨(some 16), .bin .add (.t 8) (.v (.int .i64 1)), none, none, []⟩, ⟨(some 8), .mv (.t 16), none, none, []⟩])))))))
  (.seq (.reg [⟨(some 17), .mv (.t 3), none, none, []⟩, ⟨(some 2), .mv (.t 17), none, none, []⟩])
  .ret))))⟩
/-- cmp.Compare[int] -/
def s100 : SFn :=
 ⟨20, [.tmp 4],
  (.seq (.reg [⟨(some 4), .mv (.v (.int .i64 0)), none, none, []⟩])
  (.seq (.reg [⟨(some 7), .mv (.t 0), none, none, []⟩, ⟨(some 8), .call 105 [(.t 7)], none, none, []⟩, ⟨(some 5), .mv (.t 8), none, none, []⟩])
  (.seq (.reg [⟨(some 9), .mv (.t 1), none, none, []⟩, ⟨(some 10), .call 105 [(.t 9)], none, none, []⟩, ⟨(some 6), .mv (.t 10), none, none, []⟩])
  (.seq (.seq (.reg [⟨(some 11), .mv (.t 5), none, none, []⟩])
  (.cond (.t 11) (.seq (.seq (.reg [⟨(some 12), .mv (.t 6), none, none, []⟩])
  (.cond (.t 12) (.seq (.reg [⟨(some 4), .mv (.v (.int .i64 0)), none, none, []⟩])
  .ret) .skip))
  (.seq (.reg [⟨(some 4), .mv (.v (.int .i64 (-1))), none, none, []⟩])
  .ret)) .skip))
  (.seq (.seq (.reg [⟨(some 13), .mv (.t 6), none, none, []⟩])
  (.cond (.t 13) (.seq (.reg [⟨(some 4), .mv (.v (.int .i64 1)), none, none, []⟩])
  .ret) .skip))
  (.seq (.seq (.reg [⟨(some 14), .mv (.t 0), none, none, []⟩, ⟨(some 15), .mv (.t 1), none, none, []⟩, ⟨(some 16), .bin .lss (.t 14) (.t 15), none, none, []⟩])
  (.cond (.t 16) (.seq (.reg [⟨(some 4), .mv (.v (.int .i64 (-1))), none, none, []⟩])
  .ret) .skip))
  (.seq (.seq (.reg [⟨(some 17), .mv (.t 0), none, none, []⟩, ⟨(some 18), .mv (.t 1), none, none, []⟩, ⟨(some 19), .bin .gtr (.t 17) (.t 18), none, none, []⟩])
  (.cond (.t 19) (.seq (.reg [⟨(some 4), .mv (.v (.int .i64 1)), none, none, []⟩])
  .ret) .skip))
  (.seq (.reg [⟨(some 4), .mv (.v (.int .i64 0)), none, none, []⟩])
  .ret))))))))⟩
/-- pochoir/sum.through -/
def s101 : SFn :=
 ⟨17, [.tmp 4],
  (.seq (.reg [⟨(some 4), .mv (.v (.int .u32 0)), none, none, []⟩])
  (.seq (.seq (.reg [⟨(some 5), .mv (.t 1), none, none, []⟩, ⟨(some 6), .mv (.v (.int .i64 0)), none, none, []⟩])
  (.block 0 (.loop (.seq (.reg [⟨(some 7), .bin .lss (.t 6) (.t 5), none, none, []⟩])
  (.seq (.cond (.t 7) .skip (.exit 0))
  (.seq (.block 1 (.reg [⟨(some 8), .mv (.t 0), none, none, []⟩, ⟨(some 9), .bin .shr (.t 8) (.v (.int .u64 1)), none, none, []⟩, ⟨(some 10), .mv (.t 0), none, none, []⟩, ⟨(some 11), .bin .and (.t 10) (.v (.int .u32 1)), none, none, []⟩, ⟨(some 12), .un .neg (.t 11), none, none, []⟩, ⟨(some 13), .bin .and (.v (.int .u32 3988292384)) (.t 12), none, none, []⟩, ⟨(some 14), .bin .xor (.t 9) (.t 13), none, none, []⟩, ⟨(some 0), .mv (.t 14), none, none, []⟩]))
  (.reg [⟨(some 15), .bin .add (.t 6) (.v (.int .i64 1)), none, none, []⟩, ⟨(some 6), .mv (.t 15), none, none, []⟩])))))))
  (.seq (.reg [⟨(some 16), .mv (.t 0), none, none, []⟩, ⟨(some 4), .mv (.t 16), none, none, []⟩])
  .ret)))⟩
/-- pochoir/cell.within -/
def s102 : SFn :=
 ⟨15, [.tmp 6],
  (.seq (.reg [⟨(some 6), .mv (.v (.bool false)), none, none, []⟩])
  (.seq (.reg [⟨(some 7), .mv (.t 0), none, none, []⟩, ⟨(some 8), .mv (.t 1), none, none, []⟩, ⟨(some 9), .bin .geq (.t 7) (.t 8), none, none, []⟩, ⟨(some 10), .mv (.t 9), none, none, []⟩, ⟨(some 11), .mv (.t 0), (some (10, true)), none, []⟩, ⟨(some 12), .mv (.t 2), (some (10, true)), none, []⟩, ⟨(some 13), .bin .leq (.t 11) (.t 12), (some (10, true)), none, []⟩, ⟨(some 14), .pick (.t 10) (.t 13) (.v (.bool false)), none, none, []⟩, ⟨(some 6), .mv (.t 14), none, none, []⟩])
  .ret))⟩
/-- math/bits.Len32 -/
def s103 : SFn :=
 ⟨19, [.tmp 2],
  (.seq (.reg [⟨(some 2), .mv (.v (.int .i64 0)), none, none, []⟩])
  (.seq (.seq (.reg [⟨(some 3), .mv (.t 0), none, none, []⟩, ⟨(some 4), .bin .geq (.t 3) (.v (.int .u32 65536)), none, none, []⟩])
  (.cond (.t 4) (.seq (.reg [⟨(some 5), .mv (.t 0), none, none, []⟩, ⟨(some 6), .bin .shr (.t 5) (.v (.int .u64 16)), none, none, []⟩, ⟨(some 0), .mv (.t 6), none, none, []⟩])
  (.reg [⟨(some 2), .mv (.v (.int .i64 16)), none, none, []⟩])) .skip))
  (.seq (.seq (.reg [⟨(some 7), .mv (.t 0), none, none, []⟩, ⟨(some 8), .bin .geq (.t 7) (.v (.int .u32 256)), none, none, []⟩])
  (.cond (.t 8) (.seq (.reg [⟨(some 9), .mv (.t 0), none, none, []⟩, ⟨(some 10), .bin .shr (.t 9) (.v (.int .u64 8)), none, none, []⟩, ⟨(some 0), .mv (.t 10), none, none, []⟩])
  (.reg [⟨(some 11), .mv (.t 2), none, none, []⟩, ⟨(some 12), .bin .add (.t 11) (.v (.int .i64 8)), none, none, []⟩, ⟨(some 2), .mv (.t 12), none, none, []⟩])) .skip))
  (.seq (.reg [⟨(some 13), .mv (.t 2), none, none, []⟩, ⟨(some 14), .mv (.t 0), none, none, []⟩, ⟨(some 15), .conv .u8 (.t 14), none, none, []⟩, ⟨(some 16), .ixs (.v (.str ⟨#[0, 1, 2, 2, 3, 3, 3, 3, 4, 4, 4, 4, 4, 4, 4, 4, 5, 5, 5, 5, 5, 5, 5, 5, 5, 5, 5, 5, 5, 5, 5, 5, 6, 6, 6, 6, 6, 6, 6, 6, 6, 6, 6, 6, 6, 6, 6, 6, 6, 6, 6, 6, 6, 6, 6, 6, 6, 6, 6, 6, 6, 6, 6, 6, 7, 7, 7, 7, 7, 7, 7, 7, 7, 7, 7, 7, 7, 7, 7, 7, 7, 7, 7, 7, 7, 7, 7, 7, 7, 7, 7, 7, 7, 7, 7, 7, 7, 7, 7, 7, 7, 7, 7, 7, 7, 7, 7, 7, 7, 7, 7, 7, 7, 7, 7, 7, 7, 7, 7, 7, 7, 7, 7, 7, 7, 7, 7, 7, 8, 8, 8, 8, 8, 8, 8, 8, 8, 8, 8, 8, 8, 8, 8, 8, 8, 8, 8, 8, 8, 8, 8, 8, 8, 8, 8, 8, 8, 8, 8, 8, 8, 8, 8, 8, 8, 8, 8, 8, 8, 8, 8, 8, 8, 8, 8, 8, 8, 8, 8, 8, 8, 8, 8, 8, 8, 8, 8, 8, 8, 8, 8, 8, 8, 8, 8, 8, 8, 8, 8, 8, 8, 8, 8, 8, 8, 8, 8, 8, 8, 8, 8, 8, 8, 8, 8, 8, 8, 8, 8, 8, 8, 8, 8, 8, 8, 8, 8, 8, 8, 8, 8, 8, 8, 8, 8, 8, 8, 8, 8, 8, 8, 8, 8, 8, 8, 8, 8, 8, 8, 8, 8, 8, 8, 8, 8, 8]⟩)) (.t 15), none, none, []⟩, ⟨(some 17), .conv .i64 (.t 16), none, none, []⟩, ⟨(some 18), .bin .add (.t 13) (.t 17), none, none, []⟩, ⟨(some 2), .mv (.t 18), none, none, []⟩])
  .ret))))⟩
/-- math/bits.Len64 -/
def s104 : SFn :=
 ⟨25, [.tmp 2],
  (.seq (.reg [⟨(some 2), .mv (.v (.int .i64 0)), none, none, []⟩])
  (.seq (.seq (.reg [⟨(some 3), .mv (.t 0), none, none, []⟩, ⟨(some 4), .bin .geq (.t 3) (.v (.int .u64 4294967296)), none, none, []⟩])
  (.cond (.t 4) (.seq (.reg [⟨(some 5), .mv (.t 0), none, none, []⟩, ⟨(some 6), .bin .shr (.t 5) (.v (.int .u64 32)), none, none, []⟩, ⟨(some 0), .mv (.t 6), none, none, []⟩])
  (.reg [⟨(some 2), .mv (.v (.int .i64 32)), none, none, []⟩])) .skip))
  (.seq (.seq (.reg [⟨(some 7), .mv (.t 0), none, none, []⟩, ⟨(some 8), .bin .geq (.t 7) (.v (.int .u64 65536)), none, none, []⟩])
  (.cond (.t 8) (.seq (.reg [⟨(some 9), .mv (.t 0), none, none, []⟩, ⟨(some 10), .bin .shr (.t 9) (.v (.int .u64 16)), none, none, []⟩, ⟨(some 0), .mv (.t 10), none, none, []⟩])
  (.reg [⟨(some 11), .mv (.t 2), none, none, []⟩, ⟨(some 12), .bin .add (.t 11) (.v (.int .i64 16)), none, none, []⟩, ⟨(some 2), .mv (.t 12), none, none, []⟩])) .skip))
  (.seq (.seq (.reg [⟨(some 13), .mv (.t 0), none, none, []⟩, ⟨(some 14), .bin .geq (.t 13) (.v (.int .u64 256)), none, none, []⟩])
  (.cond (.t 14) (.seq (.reg [⟨(some 15), .mv (.t 0), none, none, []⟩, ⟨(some 16), .bin .shr (.t 15) (.v (.int .u64 8)), none, none, []⟩, ⟨(some 0), .mv (.t 16), none, none, []⟩])
  (.reg [⟨(some 17), .mv (.t 2), none, none, []⟩, ⟨(some 18), .bin .add (.t 17) (.v (.int .i64 8)), none, none, []⟩, ⟨(some 2), .mv (.t 18), none, none, []⟩])) .skip))
  (.seq (.reg [⟨(some 19), .mv (.t 2), none, none, []⟩, ⟨(some 20), .mv (.t 0), none, none, []⟩, ⟨(some 21), .conv .u8 (.t 20), none, none, []⟩, ⟨(some 22), .ixs (.v (.str ⟨#[0, 1, 2, 2, 3, 3, 3, 3, 4, 4, 4, 4, 4, 4, 4, 4, 5, 5, 5, 5, 5, 5, 5, 5, 5, 5, 5, 5, 5, 5, 5, 5, 6, 6, 6, 6, 6, 6, 6, 6, 6, 6, 6, 6, 6, 6, 6, 6, 6, 6, 6, 6, 6, 6, 6, 6, 6, 6, 6, 6, 6, 6, 6, 6, 7, 7, 7, 7, 7, 7, 7, 7, 7, 7, 7, 7, 7, 7, 7, 7, 7, 7, 7, 7, 7, 7, 7, 7, 7, 7, 7, 7, 7, 7, 7, 7, 7, 7, 7, 7, 7, 7, 7, 7, 7, 7, 7, 7, 7, 7, 7, 7, 7, 7, 7, 7, 7, 7, 7, 7, 7, 7, 7, 7, 7, 7, 7, 7, 8, 8, 8, 8, 8, 8, 8, 8, 8, 8, 8, 8, 8, 8, 8, 8, 8, 8, 8, 8, 8, 8, 8, 8, 8, 8, 8, 8, 8, 8, 8, 8, 8, 8, 8, 8, 8, 8, 8, 8, 8, 8, 8, 8, 8, 8, 8, 8, 8, 8, 8, 8, 8, 8, 8, 8, 8, 8, 8, 8, 8, 8, 8, 8, 8, 8, 8, 8, 8, 8, 8, 8, 8, 8, 8, 8, 8, 8, 8, 8, 8, 8, 8, 8, 8, 8, 8, 8, 8, 8, 8, 8, 8, 8, 8, 8, 8, 8, 8, 8, 8, 8, 8, 8, 8, 8, 8, 8, 8, 8, 8, 8, 8, 8, 8, 8, 8, 8, 8, 8, 8, 8, 8, 8, 8, 8, 8, 8]⟩)) (.t 21), none, none, []⟩, ⟨(some 23), .conv .i64 (.t 22), none, none, []⟩, ⟨(some 24), .bin .add (.t 19) (.t 23), none, none, []⟩, ⟨(some 2), .mv (.t 24), none, none, []⟩])
  .ret)))))⟩
/-- cmp.isNaN[int] -/
def s105 : SFn :=
 ⟨6, [.tmp 2],
  (.seq (.reg [⟨(some 2), .mv (.v (.bool false)), none, none, []⟩])
  (.seq (.reg [⟨(some 3), .mv (.t 0), none, none, []⟩, ⟨(some 4), .mv (.t 0), none, none, []⟩, ⟨(some 5), .bin .neq (.t 3) (.t 4), none, none, []⟩, ⟨(some 2), .mv (.t 5), none, none, []⟩])
  .ret))⟩
def E : Nat → Option SFn
  | 3 => some s3
  | 4 => some s4
  | 5 => some s5
  | 6 => some s6
  | 7 => some s7
  | 8 => some s8
  | 9 => some s9
  | 10 => some s10
  | 11 => some s11
  | 12 => some s12
  | 13 => some s13
  | 14 => some s14
  | 15 => some s15
  | 16 => some s16
  | 17 => some s17
  | 18 => some s18
  | 19 => some s19
  | 20 => some s20
  | 21 => some s21
  | 22 => some s22
  | 23 => some s23
  | 24 => some s24
  | 25 => some s25
  | 26 => some s26
  | 27 => some s27
  | 28 => some s28
  | 29 => some s29
  | 30 => some s30
  | 31 => some s31
  | 32 => some s32
  | 33 => some s33
  | 34 => some s34
  | 35 => some s35
  | 36 => some s36
  | 37 => some s37
  | 38 => some s38
  | 39 => some s39
  | 40 => some s40
  | 41 => some s41
  | 42 => some s42
  | 43 => some s43
  | 44 => some s44
  | 45 => some s45
  | 46 => some s46
  | 47 => some s47
  | 48 => some s48
  | 49 => some s49
  | 50 => some s50
  | 51 => some s51
  | 52 => some s52
  | 53 => some s53
  | 54 => some s54
  | 55 => some s55
  | 56 => some s56
  | 57 => some s57
  | 58 => some s58
  | 59 => some s59
  | 60 => some s60
  | 61 => some s61
  | 62 => some s62
  | 63 => some s63
  | 64 => some s64
  | 65 => some s65
  | 66 => some s66
  | 67 => some s67
  | 68 => some s68
  | 69 => some s69
  | 70 => some s70
  | 71 => some s71
  | 72 => some s72
  | 73 => some s73
  | 74 => some s74
  | 75 => some s75
  | 76 => some s76
  | 78 => some s78
  | 79 => some s79
  | 80 => some s80
  | 81 => some s81
  | 82 => some s82
  | 83 => some s83
  | 84 => some s84
  | 85 => some s85
  | 86 => some s86
  | 87 => some s87
  | 88 => some s88
  | 89 => some s89
  | 90 => some s90
  | 91 => some s91
  | 92 => some s92
  | 93 => some s93
  | 94 => some s94
  | 95 => some s95
  | 96 => some s96
  | 98 => some s98
  | 99 => some s99
  | 100 => some s100
  | 101 => some s101
  | 102 => some s102
  | 103 => some s103
  | 104 => some s104
  | 105 => some s105
  | _ => none
def env0 : Env := { E := E, I := fun _ _ _ => none, isI := fun _ => false }
end Go.Proofs.Ytppkggodpihfiaa
