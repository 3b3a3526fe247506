/- For every vtree that the reference finds valid, the blocks below an inner node are those below its left child followed by those below its right child; no condition. -/
import Derived.Test.YticedbngmmcbjaaKd1
set_option linter.all false
namespace Go.Proofs.AM.I28
open Go Go.Proofs.AM
set_option maxRecDepth 100000
/-- credence/credencelaw28.VtreeConstructions -/
def ir3 : IFn := ⟨56,
 (.seq (.ops [⟨(some 2), none, .p (.mov (.const (.bool false))), 0, 0⟩])
 (.seq (.seq (.ops [⟨(some 11), none, .p (.mov (.tmp 0)), 0, 0⟩,
  ⟨(some 12), none, .p (.lenSlice (.tmp 11)), 0, 0⟩,
  ⟨(some 13), none, .p (.bin .gtr (.tmp 12) (.const (.int .i64 300))), 0, 0⟩])
 (.cond (.tmp 13)
  (.seq (.ops [⟨(some 14), none, .call (.func 5) [], 0, 0⟩,
   ⟨(some 2), none, .p (.mov (.tmp 14)), 0, 0⟩])
  .ret)
  .skip))
 (.seq (.ops [⟨(some 16), none, .p (.mov (.tmp 0)), 0, 0⟩,
  ⟨(some 17), none, .call (.func 6) [(.tmp 16)], 0, 0⟩,
  ⟨(some 15), none, .p (.mov (.tmp 17)), 0, 0⟩,
  ⟨(some 18), none, .p (.extract (.tmp 15) 0), 0, 0⟩,
  ⟨(some 19), none, .p (.extract (.tmp 15) 1), 0, 0⟩,
  ⟨(some 3), none, .n (.alloc [(.slice none 0 0)] 26), 0, 0⟩,
  ⟨none, none, .e (.store 1 (.tmp 3) (.tmp 18)), 0, 0⟩,
  ⟨(some 4), none, .p (.mov (.tmp 19)), 0, 0⟩])
 (.seq (.ops [⟨(some 21), none, .p (.mov (.tmp 0)), 0, 0⟩,
  ⟨(some 22), none, .call (.func 7) [(.tmp 21)], 0, 0⟩,
  ⟨(some 20), none, .p (.mov (.tmp 22)), 0, 0⟩,
  ⟨(some 23), none, .p (.extract (.tmp 20) 0), 0, 0⟩,
  ⟨(some 24), none, .p (.extract (.tmp 20) 1), 0, 0⟩,
  ⟨(some 5), none, .n (.alloc [(.slice none 0 0)] 26), 0, 0⟩,
  ⟨none, none, .e (.store 1 (.tmp 5) (.tmp 23)), 0, 0⟩,
  ⟨(some 6), none, .p (.mov (.tmp 24)), 0, 0⟩])
 (.seq (.ops [⟨(some 26), none, .p (.mov (.tmp 0)), 0, 0⟩,
  ⟨(some 27), none, .call (.func 8) [(.tmp 26)], 0, 0⟩,
  ⟨(some 25), none, .p (.mov (.tmp 27)), 0, 0⟩,
  ⟨(some 28), none, .p (.extract (.tmp 25) 0), 0, 0⟩,
  ⟨(some 29), none, .p (.extract (.tmp 25) 1), 0, 0⟩,
  ⟨(some 7), none, .n (.alloc [(.slice none 0 0)] 26), 0, 0⟩,
  ⟨none, none, .e (.store 1 (.tmp 7) (.tmp 28)), 0, 0⟩,
  ⟨(some 8), none, .p (.mov (.tmp 29)), 0, 0⟩])
 (.seq (.ops [⟨(some 31), none, .p (.mov (.tmp 0)), 0, 0⟩,
  ⟨(some 32), none, .call (.func 9) [(.tmp 31)], 0, 0⟩,
  ⟨(some 30), none, .p (.mov (.tmp 32)), 0, 0⟩,
  ⟨(some 33), none, .p (.extract (.tmp 30) 0), 0, 0⟩,
  ⟨(some 34), none, .p (.extract (.tmp 30) 1), 0, 0⟩,
  ⟨(some 9), none, .n (.alloc [(.slice none 0 0)] 26), 0, 0⟩,
  ⟨none, none, .e (.store 1 (.tmp 9) (.tmp 33)), 0, 0⟩,
  ⟨(some 10), none, .p (.mov (.tmp 34)), 0, 0⟩])
 (.seq (.ops [⟨(some 35), none, .p (.mov (.tmp 4)), 0, 0⟩,
  ⟨(some 36), none, .p (.mov (.tmp 8)), 0, 0⟩,
  ⟨(some 37), none, .p (.bin .eql (.tmp 35) (.tmp 36)), 0, 0⟩,
  ⟨(some 38), none, .p (.mov (.tmp 37)), 0, 0⟩,
  ⟨(some 39), (some (38, true)), .p (.mov (.tmp 6)), 0, 0⟩,
  ⟨(some 40), (some (38, true)), .p (.mov (.tmp 10)), 0, 0⟩,
  ⟨(some 41), (some (38, true)), .p (.bin .eql (.tmp 39) (.tmp 40)), 0, 0⟩,
  ⟨(some 42), none, .p (.pick (.tmp 38) (.tmp 41) (.const (.bool false))), 0, 0⟩,
  ⟨(some 43), none, .p (.mov (.tmp 42)), 0, 0⟩,
  ⟨(some 44), (some (43, true)), .r (.loadA 1 (.tmp 3)), 0, 0⟩,
  ⟨(some 45), (some (43, true)), .r (.loadA 1 (.tmp 7)), 0, 0⟩,
  ⟨(some 46), (some (43, true)), .call (.func 10) [(.tmp 44), (.tmp 45)], 0, 0⟩,
  ⟨(some 47), none, .p (.pick (.tmp 43) (.tmp 46) (.const (.bool false))), 0, 0⟩,
  ⟨(some 48), none, .p (.mov (.tmp 47)), 0, 0⟩,
  ⟨(some 49), (some (48, true)), .r (.loadA 1 (.tmp 5)), 0, 0⟩,
  ⟨(some 50), (some (48, true)), .r (.loadA 1 (.tmp 9)), 0, 0⟩,
  ⟨(some 51), (some (48, true)), .call (.func 10) [(.tmp 49), (.tmp 50)], 0, 0⟩,
  ⟨(some 52), none, .p (.pick (.tmp 48) (.tmp 51) (.const (.bool false))), 0, 0⟩,
  ⟨(some 53), none, .p (.mov (.tmp 52)), 0, 0⟩,
  ⟨(some 54), (some (53, true)), .call (.func 5) [], 0, 0⟩,
  ⟨(some 55), none, .p (.pick (.tmp 53) (.tmp 54) (.const (.bool false))), 0, 0⟩,
  ⟨(some 2), none, .p (.mov (.tmp 55)), 0, 0⟩])
 .ret))))))),
 [.tmp 2]⟩

/-- credence/credencelaw28.VtreeBelow -/
def ir4 : IFn := ⟨68,
 (.seq (.ops [⟨(some 1), none, .n (.box (.tmp 0) 26), 0, 0⟩,
  ⟨(some 2), none, .p (.mov (.const (.bool false))), 0, 0⟩])
 (.seq (.seq (.ops [⟨(some 6), none, .r (.loadA 1 (.tmp 1)), 0, 0⟩,
  ⟨(some 7), none, .call (.func 11) [(.tmp 6)], 0, 0⟩,
  ⟨(some 8), none, .p (.not (.tmp 7)), 0, 0⟩,
  ⟨(some 9), none, .p (.mov (.tmp 8)), 0, 0⟩,
  ⟨(some 10), (some (9, false)), .r (.loadA 1 (.tmp 1)), 0, 0⟩,
  ⟨(some 11), (some (9, false)), .call (.func 12) [(.tmp 10)], 0, 0⟩,
  ⟨(some 12), (some (9, false)), .p (.not (.tmp 11)), 0, 0⟩,
  ⟨(some 13), none, .p (.pick (.tmp 9) (.const (.bool true)) (.tmp 12)), 0, 0⟩])
 (.cond (.tmp 13)
  (.seq (.ops [⟨(some 14), none, .call (.func 5) [], 0, 0⟩,
   ⟨(some 2), none, .p (.mov (.tmp 14)), 0, 0⟩])
  .ret)
  .skip))
 (.seq (.seq (.ops [⟨(some 15), none, .p (.fieldAddr 0 (.tmp 1)), 0, 0⟩,
  ⟨(some 16), none, .r (.load1 (.tmp 15)), 0, 0⟩,
  ⟨(some 17), none, .p (.lenSlice (.tmp 16)), 0, 0⟩,
  ⟨(some 18), none, .p (.mov (.const (.int .i64 0))), 0, 0⟩])
 (.block 0
  (.loop
   (.seq (.ops [⟨(some 19), none, .p (.bin .lss (.tmp 18) (.tmp 17)), 0, 0⟩])
   (.seq (.cond (.tmp 19)
    .skip
    (.exit 0))
   (.seq (.block 1
    (.seq (.ops [⟨(some 20), none, .p (.mov (.tmp 18)), 0, 0⟩,
     ⟨(some 21), none, .p (.indexAddr 3 (.tmp 16) (.tmp 18)), 0, 0⟩,
     ⟨(some 22), none, .r (.loadA 3 (.tmp 21)), 0, 0⟩,
     ⟨(some 4), none, .n (.alloc [(.int .i64 0), (.int .i64 0), (.int .i64 0)] 34), 0, 0⟩,
     ⟨(some 3), none, .p (.mov (.tmp 20)), 0, 0⟩,
     ⟨none, none, .e (.store 3 (.tmp 4) (.tmp 22)), 0, 0⟩])
    (.seq (.ops [⟨(some 23), none, .r (.loadA 1 (.tmp 1)), 0, 0⟩,
     ⟨(some 24), none, .p (.mov (.tmp 3)), 0, 0⟩,
     ⟨(some 25), none, .call (.func 13) [(.tmp 23), (.tmp 24)], 0, 0⟩,
     ⟨(some 5), none, .p (.mov (.tmp 25)), 0, 0⟩])
    (.seq (.seq (.ops [⟨(some 26), none, .p (.fieldAddr 1 (.tmp 4)), 0, 0⟩,
     ⟨(some 27), none, .r (.load1 (.tmp 26)), 0, 0⟩,
     ⟨(some 28), none, .p (.bin .lss (.tmp 27) (.const (.int .i64 0))), 0, 0⟩])
    (.cond (.tmp 28)
     (.seq (.seq (.ops [⟨(some 29), none, .p (.mov (.tmp 5)), 0, 0⟩,
      ⟨(some 30), none, .p (.fieldAddr 0 (.tmp 4)), 0, 0⟩,
      ⟨(some 31), none, .r (.load1 (.tmp 30)), 0, 0⟩,
      ⟨(some 32), none, .n (.buildSlice 1 1 [(.int .i64 0)] 3 [(0, 1, (.tmp 31))]), 0, 0⟩,
      ⟨(some 33), none, .call (.func 14) [(.tmp 29), (.tmp 32)], 0, 0⟩,
      ⟨(some 34), none, .p (.not (.tmp 33)), 0, 0⟩])
     (.cond (.tmp 34)
      (.seq (.ops [⟨(some 2), none, .p (.mov (.const (.bool false))), 0, 0⟩])
      .ret)
      .skip))
     (.exit 1))
     .skip))
    (.seq (.drawn [⟨(some 35), none, .p (.mov (.tmp 5)), 0, 4⟩,
     ⟨(some 36), none, .n (.buildSlice 0 1 [(.int .i64 0)] 3 []), 0, 1⟩,
     ⟨(some 37), none, .r (.loadA 1 (.tmp 1)), 0, 0⟩,
     ⟨(some 38), none, .p (.fieldAddr 1 (.tmp 4)), 0, 0⟩,
     ⟨(some 39), none, .r (.load1 (.tmp 38)), 0, 0⟩,
     ⟨(some 40), none, .call (.func 13) [(.tmp 37), (.tmp 39)], 0, 1⟩,
     ⟨(some 41), none, .e (.append 1 3 (.tmp 36) (.tmp 40)), 1, 2⟩,
     ⟨(some 42), none, .r (.loadA 1 (.tmp 1)), 0, 2⟩,
     ⟨(some 43), none, .p (.fieldAddr 2 (.tmp 4)), 0, 2⟩,
     ⟨(some 44), none, .r (.load1 (.tmp 43)), 0, 2⟩,
     ⟨(some 45), none, .call (.func 13) [(.tmp 42), (.tmp 44)], 2, 3⟩,
     ⟨(some 46), none, .e (.append 1 3 (.tmp 41) (.tmp 45)), 3, 4⟩,
     ⟨(some 47), none, .call (.func 14) [(.tmp 35), (.tmp 46)], 4, 5⟩,
     ⟨(some 48), none, .p (.not (.tmp 47)), 5, 5⟩])
    (.cond (.tmp 48)
     (.seq (.ops [⟨(some 2), none, .p (.mov (.const (.bool false))), 0, 0⟩])
     .ret)
     .skip))))))
   (.ops [⟨(some 49), none, .p (.bin .add (.tmp 18) (.const (.int .i64 1))), 0, 0⟩,
    ⟨(some 18), none, .p (.mov (.tmp 49)), 0, 0⟩])))))))
 (.seq (.drawn [⟨(some 50), none, .p (.fieldAddr 0 (.tmp 1)), 0, 0⟩,
  ⟨(some 51), none, .r (.load1 (.tmp 50)), 0, 0⟩,
  ⟨(some 52), none, .p (.lenSlice (.tmp 51)), 0, 0⟩,
  ⟨(some 53), none, .p (.bin .eql (.tmp 52) (.const (.int .i64 0))), 0, 0⟩,
  ⟨(some 54), none, .p (.mov (.tmp 53)), 0, 0⟩,
  ⟨(some 55), (some (54, false)), .r (.loadA 1 (.tmp 1)), 0, 0⟩,
  ⟨(some 56), (some (54, false)), .call (.func 15) [(.tmp 55)], 0, 1⟩,
  ⟨(some 57), (some (54, false)), .r (.loadA 1 (.tmp 1)), 0, 1⟩,
  ⟨(some 58), (some (54, false)), .p (.fieldAddr 0 (.tmp 1)), 0, 1⟩,
  ⟨(some 59), (some (54, false)), .r (.load1 (.tmp 58)), 0, 1⟩,
  ⟨(some 60), (some (54, false)), .p (.lenSlice (.tmp 59)), 0, 1⟩,
  ⟨(some 61), (some (54, false)), .p (.bin .sub (.tmp 60) (.const (.int .i64 1))), 0, 1⟩,
  ⟨(some 62), (some (54, false)), .call (.func 13) [(.tmp 57), (.tmp 61)], 1, 2⟩,
  ⟨(some 63), (some (54, false)), .call (.func 14) [(.tmp 56), (.tmp 62)], 2, 3⟩,
  ⟨(some 64), none, .p (.pick (.tmp 54) (.const (.bool true)) (.tmp 63)), 3, 3⟩,
  ⟨(some 65), none, .p (.mov (.tmp 64)), 3, 3⟩,
  ⟨(some 66), (some (65, true)), .call (.func 5) [], 3, 4⟩,
  ⟨(some 67), none, .p (.pick (.tmp 65) (.tmp 66) (.const (.bool false))), 4, 4⟩,
  ⟨(some 2), none, .p (.mov (.tmp 67)), 4, 4⟩])
 .ret)))),
 [.tmp 2]⟩

/-- credence/credencelaw28.awake -/
def ir5 : IFn := ⟨86,
 (.seq (.ops [⟨(some 0), none, .p (.mov (.const (.bool false))), 0, 0⟩])
 (.seq (.ops [⟨(some 11), none, .n (.buildSlice 3 1 [(.int .i64 0)] 3 [(0, 1, (.const (.int .i64 5))), (1, 1, (.const (.int .i64 3))), (2, 1, (.const (.int .i64 9)))]), 0, 0⟩,
  ⟨(some 12), none, .call (.func 6) [(.tmp 11)], 0, 0⟩,
  ⟨(some 10), none, .p (.mov (.tmp 12)), 0, 0⟩,
  ⟨(some 13), none, .p (.extract (.tmp 10) 0), 0, 0⟩,
  ⟨(some 14), none, .p (.extract (.tmp 10) 1), 0, 0⟩,
  ⟨(some 1), none, .n (.alloc [(.slice none 0 0)] 26), 0, 0⟩,
  ⟨none, none, .e (.store 1 (.tmp 1) (.tmp 13)), 0, 0⟩,
  ⟨(some 2), none, .p (.mov (.tmp 14)), 0, 0⟩])
 (.seq (.ops [⟨(some 16), none, .n (.buildSlice 3 1 [(.int .i64 0)] 3 [(0, 1, (.const (.int .i64 5))), (1, 1, (.const (.int .i64 3))), (2, 1, (.const (.int .i64 9)))]), 0, 0⟩,
  ⟨(some 17), none, .call (.func 7) [(.tmp 16)], 0, 0⟩,
  ⟨(some 15), none, .p (.mov (.tmp 17)), 0, 0⟩,
  ⟨(some 18), none, .p (.extract (.tmp 15) 0), 0, 0⟩,
  ⟨(some 19), none, .p (.extract (.tmp 15) 1), 0, 0⟩,
  ⟨(some 3), none, .n (.alloc [(.slice none 0 0)] 26), 0, 0⟩,
  ⟨none, none, .e (.store 1 (.tmp 3) (.tmp 18)), 0, 0⟩,
  ⟨(some 4), none, .p (.mov (.tmp 19)), 0, 0⟩])
 (.seq (.ops [⟨(some 20), none, .p (.build [(.int .i64 0), (.int .i64 0), (.int .i64 0), (.slice none 0 0)] [(0, 1, (.const (.int .i64 2))), (1, 1, (.const (.int .i64 5)))]), 0, 0⟩,
  ⟨(some 21), none, .p (.build [(.int .i64 0), (.int .i64 0), (.int .i64 0), (.slice none 0 0)] [(0, 1, (.const (.int .i64 2))), (1, 1, (.const (.int .i64 9)))]), 0, 0⟩,
  ⟨(some 22), none, .n (.buildSlice 2 1 [(.int .i64 0)] 3 [(0, 1, (.const (.int .i64 0))), (1, 1, (.const (.int .i64 1)))]), 0, 0⟩,
  ⟨(some 23), none, .p (.build [(.int .i64 0), (.int .i64 0), (.int .i64 0), (.slice none 0 0)] [(0, 1, (.const (.int .i64 4))), (3, 1, (.tmp 22))]), 0, 0⟩,
  ⟨(some 24), none, .p (.build [(.int .i64 0), (.int .i64 0), (.int .i64 0), (.slice none 0 0)] [(0, 1, (.const (.int .i64 2))), (1, 1, (.const (.int .i64 3)))]), 0, 0⟩,
  ⟨(some 25), none, .n (.buildSlice 2 1 [(.int .i64 0)] 3 [(0, 1, (.const (.int .i64 2))), (1, 1, (.const (.int .i64 3)))]), 0, 0⟩,
  ⟨(some 26), none, .p (.build [(.int .i64 0), (.int .i64 0), (.int .i64 0), (.slice none 0 0)] [(0, 1, (.const (.int .i64 5))), (3, 1, (.tmp 25))]), 0, 0⟩,
  ⟨(some 27), none, .n (.buildSlice 5 4 [(.int .i64 0), (.int .i64 0), (.int .i64 0), (.slice none 0 0)] 39 [(0, 4, (.tmp 20)), (4, 4, (.tmp 21)), (8, 4, (.tmp 23)), (12, 4, (.tmp 24)), (16, 4, (.tmp 26))]), 0, 0⟩,
  ⟨(some 28), none, .p (.build [(.slice none 0 0)] [(0, 1, (.tmp 27))]), 0, 0⟩,
  ⟨(some 5), none, .n (.alloc [(.slice none 0 0)] 42), 0, 0⟩,
  ⟨none, none, .e (.store 1 (.tmp 5) (.tmp 28)), 0, 0⟩])
 (.seq (.ops [⟨(some 30), none, .r (.loadA 1 (.tmp 1)), 0, 0⟩,
  ⟨(some 31), none, .r (.loadA 1 (.tmp 5)), 0, 0⟩,
  ⟨(some 32), none, .call (.func 16) [(.tmp 30), (.tmp 31)], 0, 0⟩,
  ⟨(some 29), none, .p (.mov (.tmp 32)), 0, 0⟩,
  ⟨(some 33), none, .p (.extract (.tmp 29) 0), 0, 0⟩,
  ⟨(some 34), none, .p (.extract (.tmp 29) 1), 0, 0⟩,
  ⟨(some 6), none, .p (.mov (.tmp 33)), 0, 0⟩,
  ⟨(some 7), none, .p (.mov (.tmp 34)), 0, 0⟩])
 (.seq (.ops [⟨(some 36), none, .r (.loadA 1 (.tmp 5)), 0, 0⟩,
  ⟨(some 37), none, .call (.func 17) [(.tmp 36), (.const (.int .i64 0))], 0, 0⟩,
  ⟨(some 35), none, .p (.mov (.tmp 37)), 0, 0⟩,
  ⟨(some 38), none, .p (.extract (.tmp 35) 0), 0, 0⟩,
  ⟨(some 39), none, .p (.extract (.tmp 35) 1), 0, 0⟩,
  ⟨(some 8), none, .n (.alloc [(.slice none 0 0)] 26), 0, 0⟩,
  ⟨none, none, .e (.store 1 (.tmp 8) (.tmp 38)), 0, 0⟩,
  ⟨(some 9), none, .p (.mov (.tmp 39)), 0, 0⟩])
 (.seq (.ops [⟨(some 40), none, .p (.mov (.tmp 2)), 0, 0⟩,
  ⟨(some 41), none, .p (.bin .eql (.tmp 40) (.const (.int .i64 0))), 0, 0⟩,
  ⟨(some 42), none, .p (.mov (.tmp 41)), 0, 0⟩,
  ⟨(some 43), (some (42, true)), .p (.mov (.tmp 4)), 0, 0⟩,
  ⟨(some 44), (some (42, true)), .p (.bin .eql (.tmp 43) (.const (.int .i64 0))), 0, 0⟩,
  ⟨(some 45), none, .p (.pick (.tmp 42) (.tmp 44) (.const (.bool false))), 0, 0⟩,
  ⟨(some 46), none, .p (.mov (.tmp 45)), 0, 0⟩,
  ⟨(some 47), (some (46, true)), .p (.mov (.tmp 7)), 0, 0⟩,
  ⟨(some 48), (some (46, true)), .p (.bin .eql (.tmp 47) (.const (.int .i64 0))), 0, 0⟩,
  ⟨(some 49), none, .p (.pick (.tmp 46) (.tmp 48) (.const (.bool false))), 0, 0⟩,
  ⟨(some 50), none, .p (.mov (.tmp 49)), 0, 0⟩,
  ⟨(some 51), (some (50, true)), .p (.mov (.tmp 9)), 0, 0⟩,
  ⟨(some 52), (some (50, true)), .p (.bin .eql (.tmp 51) (.const (.int .i64 0))), 0, 0⟩,
  ⟨(some 53), none, .p (.pick (.tmp 50) (.tmp 52) (.const (.bool false))), 0, 0⟩,
  ⟨(some 54), none, .p (.mov (.tmp 53)), 0, 0⟩,
  ⟨(some 55), (some (54, true)), .r (.loadA 1 (.tmp 1)), 0, 0⟩,
  ⟨(some 56), (some (54, true)), .call (.func 18) [(.tmp 55)], 0, 0⟩,
  ⟨(some 57), none, .p (.pick (.tmp 54) (.tmp 56) (.const (.bool false))), 0, 0⟩,
  ⟨(some 58), none, .p (.mov (.tmp 57)), 0, 0⟩,
  ⟨(some 59), (some (58, true)), .p (.fieldAddr 0 (.tmp 1)), 0, 0⟩,
  ⟨(some 60), (some (58, true)), .r (.load1 (.tmp 59)), 0, 0⟩,
  ⟨(some 61), (some (58, true)), .p (.lenSlice (.tmp 60)), 0, 0⟩,
  ⟨(some 62), (some (58, true)), .p (.bin .eql (.tmp 61) (.const (.int .i64 5))), 0, 0⟩,
  ⟨(some 63), none, .p (.pick (.tmp 58) (.tmp 62) (.const (.bool false))), 0, 0⟩,
  ⟨(some 64), none, .p (.mov (.tmp 63)), 0, 0⟩,
  ⟨(some 65), (some (64, true)), .p (.fieldAddr 0 (.tmp 3)), 0, 0⟩,
  ⟨(some 66), (some (64, true)), .r (.load1 (.tmp 65)), 0, 0⟩,
  ⟨(some 67), (some (64, true)), .p (.lenSlice (.tmp 66)), 0, 0⟩,
  ⟨(some 68), (some (64, true)), .p (.bin .eql (.tmp 67) (.const (.int .i64 5))), 0, 0⟩,
  ⟨(some 69), none, .p (.pick (.tmp 64) (.tmp 68) (.const (.bool false))), 0, 0⟩,
  ⟨(some 70), none, .p (.mov (.tmp 69)), 0, 0⟩,
  ⟨(some 71), (some (70, true)), .r (.loadA 1 (.tmp 3)), 0, 0⟩,
  ⟨(some 72), (some (70, true)), .call (.func 15) [(.tmp 71)], 0, 0⟩,
  ⟨(some 73), (some (70, true)), .n (.buildSlice 3 1 [(.int .i64 0)] 3 [(0, 1, (.const (.int .i64 5))), (1, 1, (.const (.int .i64 3))), (2, 1, (.const (.int .i64 9)))]), 0, 0⟩,
  ⟨(some 74), (some (70, true)), .call (.func 14) [(.tmp 72), (.tmp 73)], 0, 0⟩,
  ⟨(some 75), none, .p (.pick (.tmp 70) (.tmp 74) (.const (.bool false))), 0, 0⟩,
  ⟨(some 76), none, .p (.mov (.tmp 75)), 0, 0⟩,
  ⟨(some 77), (some (76, true)), .p (.mov (.tmp 6)), 0, 0⟩,
  ⟨(some 78), (some (76, true)), .p (.bin .eql (.tmp 77) (.const (.int .i64 1))), 0, 0⟩,
  ⟨(some 79), none, .p (.pick (.tmp 76) (.tmp 78) (.const (.bool false))), 0, 0⟩,
  ⟨(some 80), none, .p (.mov (.tmp 79)), 0, 0⟩,
  ⟨(some 81), (some (80, true)), .r (.loadA 1 (.tmp 8)), 0, 0⟩,
  ⟨(some 82), (some (80, true)), .call (.func 15) [(.tmp 81)], 0, 0⟩,
  ⟨(some 83), (some (80, true)), .p (.lenSlice (.tmp 82)), 0, 0⟩,
  ⟨(some 84), (some (80, true)), .p (.bin .eql (.tmp 83) (.const (.int .i64 3))), 0, 0⟩,
  ⟨(some 85), none, .p (.pick (.tmp 80) (.tmp 84) (.const (.bool false))), 0, 0⟩,
  ⟨(some 0), none, .p (.mov (.tmp 85)), 0, 0⟩])
 .ret))))))),
 [.tmp 0]⟩

/-- credence/vtree.RightLinear -/
def ir6 : IFn := ⟨41,
 (.seq (.ops [⟨(some 2), none, .n (.alloc [(.slice none 0 0)] 26), 0, 0⟩,
  ⟨(some 3), none, .p (.mov (.const (.int .i64 0))), 0, 0⟩])
 (.seq (.seq (.ops [⟨(some 8), none, .p (.mov (.tmp 0)), 0, 0⟩,
  ⟨(some 9), none, .call (.func 19) [(.tmp 8)], 0, 0⟩,
  ⟨(some 10), none, .p (.not (.tmp 9)), 0, 0⟩])
 (.cond (.tmp 10)
  (.seq (.ops [⟨(some 11), none, .p (.build [(.slice none 0 0)] []), 0, 0⟩,
   ⟨none, none, .e (.store 1 (.tmp 2) (.tmp 11)), 0, 0⟩,
   ⟨(some 3), none, .p (.mov (.const (.int .i64 1))), 0, 0⟩])
  .ret)
  .skip))
 (.seq (.ops [⟨(some 4), none, .p (.mov (.const (.slice none 0 0))), 0, 0⟩])
 (.seq (.seq (.ops [⟨(some 12), none, .p (.mov (.tmp 0)), 0, 0⟩,
  ⟨(some 13), none, .p (.lenSlice (.tmp 12)), 0, 0⟩,
  ⟨(some 14), none, .p (.mov (.const (.int .i64 0))), 0, 0⟩])
 (.block 0
  (.loop
   (.seq (.ops [⟨(some 15), none, .p (.bin .lss (.tmp 14) (.tmp 13)), 0, 0⟩])
   (.seq (.cond (.tmp 15)
    .skip
    (.exit 0))
   (.seq (.block 1
    (.seq (.ops [⟨(some 16), none, .p (.indexAddr 1 (.tmp 12) (.tmp 14)), 0, 0⟩,
     ⟨(some 17), none, .r (.load1 (.tmp 16)), 0, 0⟩,
     ⟨(some 6), none, .p (.mov (.tmp 17)), 0, 0⟩])
    (.ops [⟨(some 18), none, .p (.mov (.tmp 4)), 0, 0⟩,
     ⟨(some 19), none, .p (.mov (.tmp 6)), 0, 0⟩,
     ⟨(some 20), none, .p (.build [(.int .i64 0), (.int .i64 0), (.int .i64 0)] [(0, 1, (.tmp 19)), (1, 1, (.const (.int .i64 (-1)))), (2, 1, (.const (.int .i64 (-1))))]), 0, 0⟩,
     ⟨(some 21), none, .n (.buildSlice 1 3 [(.int .i64 0), (.int .i64 0), (.int .i64 0)] 34 [(0, 3, (.tmp 20))]), 0, 0⟩,
     ⟨(some 22), none, .e (.append 3 34 (.tmp 18) (.tmp 21)), 0, 0⟩,
     ⟨(some 4), none, .p (.mov (.tmp 22)), 0, 0⟩])))
   (.ops [⟨(some 23), none, .p (.bin .add (.tmp 14) (.const (.int .i64 1))), 0, 0⟩,
    ⟨(some 14), none, .p (.mov (.tmp 23)), 0, 0⟩])))))))
 (.seq (.seq (.ops [⟨(some 24), none, .p (.mov (.tmp 0)), 0, 0⟩,
  ⟨(some 25), none, .p (.lenSlice (.tmp 24)), 0, 0⟩,
  ⟨(some 26), none, .p (.bin .sub (.tmp 25) (.const (.int .i64 2))), 0, 0⟩,
  ⟨(some 7), none, .p (.mov (.tmp 26)), 0, 0⟩])
 (.block 2
  (.loop
   (.seq (.seq (.ops [⟨(some 27), none, .p (.mov (.tmp 7)), 0, 0⟩,
    ⟨(some 28), none, .p (.bin .geq (.tmp 27) (.const (.int .i64 0))), 0, 0⟩])
   (.cond (.tmp 28)
    .skip
    (.exit 2)))
   (.seq (.block 3
    (.ops [⟨(some 31), none, .p (.mov (.tmp 4)), 0, 0⟩,
     ⟨(some 32), none, .p (.mov (.tmp 7)), 0, 0⟩,
     ⟨(some 33), none, .p (.mov (.tmp 4)), 0, 0⟩,
     ⟨(some 34), none, .p (.lenSlice (.tmp 33)), 0, 0⟩,
     ⟨(some 35), none, .p (.bin .sub (.tmp 34) (.const (.int .i64 1))), 0, 0⟩,
     ⟨(some 36), none, .p (.build [(.int .i64 0), (.int .i64 0), (.int .i64 0)] [(1, 1, (.tmp 32)), (2, 1, (.tmp 35))]), 0, 0⟩,
     ⟨(some 37), none, .n (.buildSlice 1 3 [(.int .i64 0), (.int .i64 0), (.int .i64 0)] 34 [(0, 3, (.tmp 36))]), 0, 0⟩,
     ⟨(some 38), none, .e (.append 3 34 (.tmp 31) (.tmp 37)), 0, 0⟩,
     ⟨(some 4), none, .p (.mov (.tmp 38)), 0, 0⟩]))
   (.ops [⟨(some 29), none, .p (.mov (.tmp 7)), 0, 0⟩,
    ⟨(some 30), none, .p (.bin .sub (.tmp 29) (.const (.int .i64 1))), 0, 0⟩,
    ⟨(some 7), none, .p (.mov (.tmp 30)), 0, 0⟩]))))))
 (.seq (.ops [⟨(some 39), none, .p (.mov (.tmp 4)), 0, 0⟩,
  ⟨(some 40), none, .p (.build [(.slice none 0 0)] [(0, 1, (.tmp 39))]), 0, 0⟩,
  ⟨none, none, .e (.store 1 (.tmp 2) (.tmp 40)), 0, 0⟩,
  ⟨(some 3), none, .p (.mov (.const (.int .i64 0))), 0, 0⟩])
 .ret)))))),
 [.cell 2 1, .tmp 3]⟩

/-- credence/vtree.Balanced -/
def ir7 : IFn := ⟨11,
 (.seq (.ops [⟨(some 2), none, .n (.alloc [(.slice none 0 0)] 26), 0, 0⟩,
  ⟨(some 3), none, .p (.mov (.const (.int .i64 0))), 0, 0⟩])
 (.seq (.seq (.ops [⟨(some 4), none, .p (.mov (.tmp 0)), 0, 0⟩,
  ⟨(some 5), none, .call (.func 19) [(.tmp 4)], 0, 0⟩,
  ⟨(some 6), none, .p (.not (.tmp 5)), 0, 0⟩])
 (.cond (.tmp 6)
  (.seq (.ops [⟨(some 7), none, .p (.build [(.slice none 0 0)] []), 0, 0⟩,
   ⟨none, none, .e (.store 1 (.tmp 2) (.tmp 7)), 0, 0⟩,
   ⟨(some 3), none, .p (.mov (.const (.int .i64 1))), 0, 0⟩])
  .ret)
  .skip))
 (.seq (.ops [⟨(some 8), none, .p (.mov (.tmp 0)), 0, 0⟩,
  ⟨(some 9), none, .call (.func 20) [(.const (.slice none 0 0)), (.tmp 8)], 0, 0⟩,
  ⟨(some 10), none, .p (.build [(.slice none 0 0)] [(0, 1, (.tmp 9))]), 0, 0⟩,
  ⟨none, none, .e (.store 1 (.tmp 2) (.tmp 10)), 0, 0⟩,
  ⟨(some 3), none, .p (.mov (.const (.int .i64 0))), 0, 0⟩])
 .ret))),
 [.cell 2 1, .tmp 3]⟩

/-- credence/credenceref26.RightLinear -/
def ir8 : IFn := ⟨46,
 (.seq (.ops [⟨(some 2), none, .n (.alloc [(.slice none 0 0)] 26), 0, 0⟩,
  ⟨(some 3), none, .p (.mov (.const (.int .i64 0))), 0, 0⟩])
 (.seq (.seq (.ops [⟨(some 8), none, .p (.mov (.tmp 0)), 0, 0⟩,
  ⟨(some 9), none, .call (.func 21) [(.tmp 8)], 0, 0⟩,
  ⟨(some 10), none, .p (.not (.tmp 9)), 0, 0⟩])
 (.cond (.tmp 10)
  (.seq (.ops [⟨(some 11), none, .p (.build [(.slice none 0 0)] []), 0, 0⟩,
   ⟨none, none, .e (.store 1 (.tmp 2) (.tmp 11)), 0, 0⟩,
   ⟨(some 3), none, .p (.mov (.const (.int .i64 1))), 0, 0⟩])
  .ret)
  .skip))
 (.seq (.ops [⟨(some 12), none, .p (.build [(.slice none 0 0)] []), 0, 0⟩,
  ⟨(some 4), none, .n (.alloc [(.slice none 0 0)] 26), 0, 0⟩,
  ⟨none, none, .e (.store 1 (.tmp 4) (.tmp 12)), 0, 0⟩])
 (.seq (.seq (.ops [⟨(some 13), none, .p (.mov (.tmp 0)), 0, 0⟩,
  ⟨(some 14), none, .p (.lenSlice (.tmp 13)), 0, 0⟩,
  ⟨(some 15), none, .p (.mov (.const (.int .i64 0))), 0, 0⟩])
 (.block 0
  (.loop
   (.seq (.ops [⟨(some 16), none, .p (.bin .lss (.tmp 15) (.tmp 14)), 0, 0⟩])
   (.seq (.cond (.tmp 16)
    .skip
    (.exit 0))
   (.seq (.block 1
    (.seq (.ops [⟨(some 17), none, .p (.indexAddr 1 (.tmp 13) (.tmp 15)), 0, 0⟩,
     ⟨(some 18), none, .r (.load1 (.tmp 17)), 0, 0⟩,
     ⟨(some 6), none, .p (.mov (.tmp 18)), 0, 0⟩])
    (.ops [⟨(some 19), none, .p (.fieldAddr 0 (.tmp 4)), 0, 0⟩,
     ⟨(some 20), none, .r (.load1 (.tmp 19)), 0, 0⟩,
     ⟨(some 21), none, .p (.mov (.tmp 6)), 0, 0⟩,
     ⟨(some 22), none, .p (.build [(.int .i64 0), (.int .i64 0), (.int .i64 0)] [(0, 1, (.tmp 21)), (1, 1, (.const (.int .i64 (-1)))), (2, 1, (.const (.int .i64 (-1))))]), 0, 0⟩,
     ⟨(some 23), none, .n (.buildSlice 1 3 [(.int .i64 0), (.int .i64 0), (.int .i64 0)] 34 [(0, 3, (.tmp 22))]), 0, 0⟩,
     ⟨(some 24), none, .e (.append 3 34 (.tmp 20) (.tmp 23)), 0, 0⟩,
     ⟨(some 25), none, .p (.fieldAddr 0 (.tmp 4)), 0, 0⟩,
     ⟨none, none, .e (.store 1 (.tmp 25) (.tmp 24)), 0, 0⟩])))
   (.ops [⟨(some 26), none, .p (.bin .add (.tmp 15) (.const (.int .i64 1))), 0, 0⟩,
    ⟨(some 15), none, .p (.mov (.tmp 26)), 0, 0⟩])))))))
 (.seq (.seq (.ops [⟨(some 27), none, .p (.mov (.tmp 0)), 0, 0⟩,
  ⟨(some 28), none, .p (.lenSlice (.tmp 27)), 0, 0⟩,
  ⟨(some 29), none, .p (.bin .sub (.tmp 28) (.const (.int .i64 2))), 0, 0⟩,
  ⟨(some 7), none, .p (.mov (.tmp 29)), 0, 0⟩])
 (.block 2
  (.loop
   (.seq (.seq (.ops [⟨(some 30), none, .p (.mov (.tmp 7)), 0, 0⟩,
    ⟨(some 31), none, .p (.bin .geq (.tmp 30) (.const (.int .i64 0))), 0, 0⟩])
   (.cond (.tmp 31)
    .skip
    (.exit 2)))
   (.seq (.block 3
    (.ops [⟨(some 34), none, .p (.fieldAddr 0 (.tmp 4)), 0, 0⟩,
     ⟨(some 35), none, .r (.load1 (.tmp 34)), 0, 0⟩,
     ⟨(some 36), none, .p (.mov (.tmp 7)), 0, 0⟩,
     ⟨(some 37), none, .p (.fieldAddr 0 (.tmp 4)), 0, 0⟩,
     ⟨(some 38), none, .r (.load1 (.tmp 37)), 0, 0⟩,
     ⟨(some 39), none, .p (.lenSlice (.tmp 38)), 0, 0⟩,
     ⟨(some 40), none, .p (.bin .sub (.tmp 39) (.const (.int .i64 1))), 0, 0⟩,
     ⟨(some 41), none, .p (.build [(.int .i64 0), (.int .i64 0), (.int .i64 0)] [(1, 1, (.tmp 36)), (2, 1, (.tmp 40))]), 0, 0⟩,
     ⟨(some 42), none, .n (.buildSlice 1 3 [(.int .i64 0), (.int .i64 0), (.int .i64 0)] 34 [(0, 3, (.tmp 41))]), 0, 0⟩,
     ⟨(some 43), none, .e (.append 3 34 (.tmp 35) (.tmp 42)), 0, 0⟩,
     ⟨(some 44), none, .p (.fieldAddr 0 (.tmp 4)), 0, 0⟩,
     ⟨none, none, .e (.store 1 (.tmp 44) (.tmp 43)), 0, 0⟩]))
   (.ops [⟨(some 32), none, .p (.mov (.tmp 7)), 0, 0⟩,
    ⟨(some 33), none, .p (.bin .sub (.tmp 32) (.const (.int .i64 1))), 0, 0⟩,
    ⟨(some 7), none, .p (.mov (.tmp 33)), 0, 0⟩]))))))
 (.seq (.ops [⟨(some 45), none, .r (.loadA 1 (.tmp 4)), 0, 0⟩,
  ⟨none, none, .e (.store 1 (.tmp 2) (.tmp 45)), 0, 0⟩,
  ⟨(some 3), none, .p (.mov (.const (.int .i64 0))), 0, 0⟩])
 .ret)))))),
 [.cell 2 1, .tmp 3]⟩

/-- credence/credenceref26.Balanced -/
def ir9 : IFn := ⟨15,
 (.seq (.ops [⟨(some 2), none, .n (.alloc [(.slice none 0 0)] 26), 0, 0⟩,
  ⟨(some 3), none, .p (.mov (.const (.int .i64 0))), 0, 0⟩])
 (.seq (.seq (.ops [⟨(some 4), none, .p (.mov (.tmp 0)), 0, 0⟩,
  ⟨(some 5), none, .call (.func 21) [(.tmp 4)], 0, 0⟩,
  ⟨(some 6), none, .p (.not (.tmp 5)), 0, 0⟩])
 (.cond (.tmp 6)
  (.seq (.ops [⟨(some 7), none, .p (.build [(.slice none 0 0)] []), 0, 0⟩,
   ⟨none, none, .e (.store 1 (.tmp 2) (.tmp 7)), 0, 0⟩,
   ⟨(some 3), none, .p (.mov (.const (.int .i64 1))), 0, 0⟩])
  .ret)
  .skip))
 (.seq (.seq (.ops [⟨(some 8), none, .p (.mov (.tmp 0)), 0, 0⟩,
  ⟨(some 9), none, .p (.lenSlice (.tmp 8)), 0, 0⟩,
  ⟨(some 10), none, .p (.bin .eql (.tmp 9) (.const (.int .i64 0))), 0, 0⟩])
 (.cond (.tmp 10)
  (.seq (.ops [⟨(some 11), none, .p (.build [(.slice none 0 0)] []), 0, 0⟩,
   ⟨none, none, .e (.store 1 (.tmp 2) (.tmp 11)), 0, 0⟩,
   ⟨(some 3), none, .p (.mov (.const (.int .i64 0))), 0, 0⟩])
  .ret)
  .skip))
 (.seq (.ops [⟨(some 12), none, .p (.mov (.tmp 0)), 0, 0⟩,
  ⟨(some 13), none, .call (.func 22) [(.const (.slice none 0 0)), (.tmp 12)], 0, 0⟩,
  ⟨(some 14), none, .p (.build [(.slice none 0 0)] [(0, 1, (.tmp 13))]), 0, 0⟩,
  ⟨none, none, .e (.store 1 (.tmp 2) (.tmp 14)), 0, 0⟩,
  ⟨(some 3), none, .p (.mov (.const (.int .i64 0))), 0, 0⟩])
 .ret)))),
 [.cell 2 1, .tmp 3]⟩

/-- credence/credenceref26.SameVtree -/
def ir10 : IFn := ⟨31,
 (.seq (.ops [⟨(some 2), none, .n (.box (.tmp 0) 26), 0, 0⟩,
  ⟨(some 3), none, .n (.box (.tmp 1) 26), 0, 0⟩,
  ⟨(some 4), none, .p (.mov (.const (.bool false))), 0, 0⟩])
 (.seq (.seq (.ops [⟨(some 6), none, .p (.fieldAddr 0 (.tmp 2)), 0, 0⟩,
  ⟨(some 7), none, .r (.load1 (.tmp 6)), 0, 0⟩,
  ⟨(some 8), none, .p (.lenSlice (.tmp 7)), 0, 0⟩,
  ⟨(some 9), none, .p (.fieldAddr 0 (.tmp 3)), 0, 0⟩,
  ⟨(some 10), none, .r (.load1 (.tmp 9)), 0, 0⟩,
  ⟨(some 11), none, .p (.lenSlice (.tmp 10)), 0, 0⟩,
  ⟨(some 12), none, .p (.bin .neq (.tmp 8) (.tmp 11)), 0, 0⟩])
 (.cond (.tmp 12)
  (.seq (.ops [⟨(some 4), none, .p (.mov (.const (.bool false))), 0, 0⟩])
  .ret)
  .skip))
 (.seq (.seq (.ops [⟨(some 13), none, .p (.fieldAddr 0 (.tmp 2)), 0, 0⟩,
  ⟨(some 14), none, .r (.load1 (.tmp 13)), 0, 0⟩,
  ⟨(some 15), none, .p (.lenSlice (.tmp 14)), 0, 0⟩,
  ⟨(some 16), none, .p (.mov (.const (.int .i64 0))), 0, 0⟩])
 (.block 0
  (.loop
   (.seq (.ops [⟨(some 17), none, .p (.bin .lss (.tmp 16) (.tmp 15)), 0, 0⟩])
   (.seq (.cond (.tmp 17)
    .skip
    (.exit 0))
   (.seq (.block 1
    (.seq (.ops [⟨(some 18), none, .p (.mov (.tmp 16)), 0, 0⟩,
     ⟨(some 5), none, .p (.mov (.tmp 18)), 0, 0⟩])
    (.seq (.drawn [⟨(some 19), none, .p (.fieldAddr 0 (.tmp 2)), 0, 0⟩,
     ⟨(some 20), none, .r (.load1 (.tmp 19)), 0, 0⟩,
     ⟨(some 21), none, .p (.mov (.tmp 5)), 0, 0⟩,
     ⟨(some 22), none, .p (.indexAddr 3 (.tmp 20) (.tmp 21)), 0, 0⟩,
     ⟨(some 23), none, .r (.loadA 3 (.tmp 22)), 0, 0⟩,
     ⟨(some 24), none, .p (.fieldAddr 0 (.tmp 3)), 0, 0⟩,
     ⟨(some 25), none, .r (.load1 (.tmp 24)), 0, 0⟩,
     ⟨(some 26), none, .p (.mov (.tmp 5)), 0, 0⟩,
     ⟨(some 27), none, .p (.indexAddr 3 (.tmp 25) (.tmp 26)), 0, 0⟩,
     ⟨(some 28), none, .r (.loadA 3 (.tmp 27)), 0, 0⟩,
     ⟨(some 29), none, .p (.eqv (.cells [.int, .int, .int]) true (.tmp 23) (.tmp 28)), 0, 0⟩])
    (.cond (.tmp 29)
     (.seq (.ops [⟨(some 4), none, .p (.mov (.const (.bool false))), 0, 0⟩])
     .ret)
     .skip))))
   (.ops [⟨(some 30), none, .p (.bin .add (.tmp 16) (.const (.int .i64 1))), 0, 0⟩,
    ⟨(some 16), none, .p (.mov (.tmp 30)), 0, 0⟩])))))))
 (.seq (.ops [⟨(some 4), none, .p (.mov (.const (.bool true))), 0, 0⟩])
 .ret)))),
 [.tmp 4]⟩

/-- credence/credencelaw28.small -/
def ir11 : IFn := ⟨7,
 (.seq (.ops [⟨(some 1), none, .n (.box (.tmp 0) 26), 0, 0⟩,
  ⟨(some 2), none, .p (.mov (.const (.bool false))), 0, 0⟩])
 (.seq (.ops [⟨(some 3), none, .p (.fieldAddr 0 (.tmp 1)), 0, 0⟩,
  ⟨(some 4), none, .r (.load1 (.tmp 3)), 0, 0⟩,
  ⟨(some 5), none, .p (.lenSlice (.tmp 4)), 0, 0⟩,
  ⟨(some 6), none, .p (.bin .leq (.tmp 5) (.const (.int .i64 200))), 0, 0⟩,
  ⟨(some 2), none, .p (.mov (.tmp 6)), 0, 0⟩])
 .ret)),
 [.tmp 2]⟩

/-- credence/credenceref26.VtreeValid -/
def ir12 : IFn := ⟨126,
 (.seq (.ops [⟨(some 1), none, .n (.box (.tmp 0) 26), 0, 0⟩,
  ⟨(some 2), none, .p (.mov (.const (.bool false))), 0, 0⟩])
 (.seq (.seq (.ops [⟨(some 9), none, .p (.fieldAddr 0 (.tmp 1)), 0, 0⟩,
  ⟨(some 10), none, .r (.load1 (.tmp 9)), 0, 0⟩,
  ⟨(some 11), none, .p (.lenSlice (.tmp 10)), 0, 0⟩,
  ⟨(some 12), none, .p (.bin .gtr (.tmp 11) (.const (.int .i64 65536))), 0, 0⟩])
 (.cond (.tmp 12)
  (.seq (.ops [⟨(some 2), none, .p (.mov (.const (.bool false))), 0, 0⟩])
  .ret)
  .skip))
 (.seq (.ops [⟨(some 13), none, .p (.fieldAddr 0 (.tmp 1)), 0, 0⟩,
  ⟨(some 14), none, .r (.load1 (.tmp 13)), 0, 0⟩,
  ⟨(some 15), none, .p (.lenSlice (.tmp 14)), 0, 0⟩,
  ⟨(some 16), none, .n (.makeSlice 1 8 [(.int .i64 0)] 3 (.tmp 15) (.tmp 15)), 0, 0⟩,
  ⟨(some 3), none, .p (.mov (.tmp 16)), 0, 0⟩])
 (.seq (.ops [⟨(some 17), none, .n (.makeMap none), 0, 0⟩,
  ⟨(some 4), none, .p (.mov (.tmp 17)), 0, 0⟩])
 (.seq (.seq (.ops [⟨(some 18), none, .p (.fieldAddr 0 (.tmp 1)), 0, 0⟩,
  ⟨(some 19), none, .r (.load1 (.tmp 18)), 0, 0⟩,
  ⟨(some 20), none, .p (.lenSlice (.tmp 19)), 0, 0⟩,
  ⟨(some 21), none, .p (.mov (.const (.int .i64 0))), 0, 0⟩])
 (.block 0
  (.loop
   (.seq (.ops [⟨(some 22), none, .p (.bin .lss (.tmp 21) (.tmp 20)), 0, 0⟩])
   (.seq (.cond (.tmp 22)
    .skip
    (.exit 0))
   (.seq (.block 1
    (.seq (.ops [⟨(some 23), none, .p (.mov (.tmp 21)), 0, 0⟩,
     ⟨(some 24), none, .p (.indexAddr 3 (.tmp 19) (.tmp 21)), 0, 0⟩,
     ⟨(some 25), none, .r (.loadA 3 (.tmp 24)), 0, 0⟩,
     ⟨(some 6), none, .n (.alloc [(.int .i64 0), (.int .i64 0), (.int .i64 0)] 34), 0, 0⟩,
     ⟨(some 5), none, .p (.mov (.tmp 23)), 0, 0⟩,
     ⟨none, none, .e (.store 3 (.tmp 6) (.tmp 25)), 0, 0⟩])
    (.seq (.seq (.ops [⟨(some 26), none, .p (.fieldAddr 1 (.tmp 6)), 0, 0⟩,
     ⟨(some 27), none, .r (.load1 (.tmp 26)), 0, 0⟩,
     ⟨(some 28), none, .p (.bin .eql (.tmp 27) (.const (.int .i64 (-1)))), 0, 0⟩,
     ⟨(some 29), none, .p (.mov (.tmp 28)), 0, 0⟩,
     ⟨(some 30), (some (29, true)), .p (.fieldAddr 2 (.tmp 6)), 0, 0⟩,
     ⟨(some 31), (some (29, true)), .r (.load1 (.tmp 30)), 0, 0⟩,
     ⟨(some 32), (some (29, true)), .p (.bin .eql (.tmp 31) (.const (.int .i64 (-1)))), 0, 0⟩,
     ⟨(some 33), none, .p (.pick (.tmp 29) (.tmp 32) (.const (.bool false))), 0, 0⟩])
    (.cond (.tmp 33)
     (.seq (.seq (.ops [⟨(some 34), none, .p (.fieldAddr 0 (.tmp 6)), 0, 0⟩,
      ⟨(some 35), none, .r (.load1 (.tmp 34)), 0, 0⟩,
      ⟨(some 36), none, .p (.bin .lss (.tmp 35) (.const (.int .i64 0))), 0, 0⟩,
      ⟨(some 37), none, .p (.mov (.tmp 36)), 0, 0⟩,
      ⟨(some 38), (some (37, false)), .p (.fieldAddr 0 (.tmp 6)), 0, 0⟩,
      ⟨(some 39), (some (37, false)), .r (.load1 (.tmp 38)), 0, 0⟩,
      ⟨(some 40), (some (37, false)), .p (.bin .geq (.tmp 39) (.const (.int .i64 4096))), 0, 0⟩,
      ⟨(some 41), none, .p (.pick (.tmp 37) (.const (.bool true)) (.tmp 40)), 0, 0⟩,
      ⟨(some 42), none, .p (.mov (.tmp 41)), 0, 0⟩,
      ⟨(some 43), (some (42, false)), .p (.mov (.tmp 4)), 0, 0⟩,
      ⟨(some 44), (some (42, false)), .p (.fieldAddr 0 (.tmp 6)), 0, 0⟩,
      ⟨(some 45), (some (42, false)), .r (.load1 (.tmp 44)), 0, 0⟩,
      ⟨(some 46), (some (42, false)), .r (.lookup .int (.bool false) (.tmp 43) (.tmp 45) false), 0, 0⟩,
      ⟨(some 47), none, .p (.pick (.tmp 42) (.const (.bool true)) (.tmp 46)), 0, 0⟩])
     (.cond (.tmp 47)
      (.seq (.ops [⟨(some 2), none, .p (.mov (.const (.bool false))), 0, 0⟩])
      .ret)
      .skip))
     (.seq (.ops [⟨(some 48), none, .p (.mov (.tmp 4)), 0, 0⟩,
      ⟨(some 49), none, .p (.fieldAddr 0 (.tmp 6)), 0, 0⟩,
      ⟨(some 50), none, .r (.load1 (.tmp 49)), 0, 0⟩,
      ⟨none, none, .e (.mapUpdate .int (.tmp 48) (.tmp 50) (.const (.bool true))), 0, 0⟩])
     (.exit 1)))
     .skip))
    (.seq (.seq (.ops [⟨(some 51), none, .p (.fieldAddr 0 (.tmp 6)), 0, 0⟩,
     ⟨(some 52), none, .r (.load1 (.tmp 51)), 0, 0⟩,
     ⟨(some 53), none, .p (.bin .neq (.tmp 52) (.const (.int .i64 0))), 0, 0⟩,
     ⟨(some 54), none, .p (.mov (.tmp 53)), 0, 0⟩,
     ⟨(some 55), (some (54, false)), .p (.fieldAddr 1 (.tmp 6)), 0, 0⟩,
     ⟨(some 56), (some (54, false)), .r (.load1 (.tmp 55)), 0, 0⟩,
     ⟨(some 57), (some (54, false)), .p (.bin .lss (.tmp 56) (.const (.int .i64 0))), 0, 0⟩,
     ⟨(some 58), none, .p (.pick (.tmp 54) (.const (.bool true)) (.tmp 57)), 0, 0⟩,
     ⟨(some 59), none, .p (.mov (.tmp 58)), 0, 0⟩,
     ⟨(some 60), (some (59, false)), .p (.fieldAddr 1 (.tmp 6)), 0, 0⟩,
     ⟨(some 61), (some (59, false)), .r (.load1 (.tmp 60)), 0, 0⟩,
     ⟨(some 62), (some (59, false)), .p (.mov (.tmp 5)), 0, 0⟩,
     ⟨(some 63), (some (59, false)), .p (.bin .geq (.tmp 61) (.tmp 62)), 0, 0⟩,
     ⟨(some 64), none, .p (.pick (.tmp 59) (.const (.bool true)) (.tmp 63)), 0, 0⟩,
     ⟨(some 65), none, .p (.mov (.tmp 64)), 0, 0⟩,
     ⟨(some 66), (some (65, false)), .p (.fieldAddr 2 (.tmp 6)), 0, 0⟩,
     ⟨(some 67), (some (65, false)), .r (.load1 (.tmp 66)), 0, 0⟩,
     ⟨(some 68), (some (65, false)), .p (.bin .lss (.tmp 67) (.const (.int .i64 0))), 0, 0⟩,
     ⟨(some 69), none, .p (.pick (.tmp 65) (.const (.bool true)) (.tmp 68)), 0, 0⟩,
     ⟨(some 70), none, .p (.mov (.tmp 69)), 0, 0⟩,
     ⟨(some 71), (some (70, false)), .p (.fieldAddr 2 (.tmp 6)), 0, 0⟩,
     ⟨(some 72), (some (70, false)), .r (.load1 (.tmp 71)), 0, 0⟩,
     ⟨(some 73), (some (70, false)), .p (.mov (.tmp 5)), 0, 0⟩,
     ⟨(some 74), (some (70, false)), .p (.bin .geq (.tmp 72) (.tmp 73)), 0, 0⟩,
     ⟨(some 75), none, .p (.pick (.tmp 70) (.const (.bool true)) (.tmp 74)), 0, 0⟩,
     ⟨(some 76), none, .p (.mov (.tmp 75)), 0, 0⟩,
     ⟨(some 77), (some (76, false)), .p (.fieldAddr 1 (.tmp 6)), 0, 0⟩,
     ⟨(some 78), (some (76, false)), .r (.load1 (.tmp 77)), 0, 0⟩,
     ⟨(some 79), (some (76, false)), .p (.fieldAddr 2 (.tmp 6)), 0, 0⟩,
     ⟨(some 80), (some (76, false)), .r (.load1 (.tmp 79)), 0, 0⟩,
     ⟨(some 81), (some (76, false)), .p (.bin .eql (.tmp 78) (.tmp 80)), 0, 0⟩,
     ⟨(some 82), none, .p (.pick (.tmp 76) (.const (.bool true)) (.tmp 81)), 0, 0⟩])
    (.cond (.tmp 82)
     (.seq (.ops [⟨(some 2), none, .p (.mov (.const (.bool false))), 0, 0⟩])
     .ret)
     .skip))
    (.seq (.ops [⟨(some 83), none, .p (.mov (.tmp 3)), 0, 0⟩,
     ⟨(some 84), none, .p (.fieldAddr 1 (.tmp 6)), 0, 0⟩,
     ⟨(some 85), none, .r (.load1 (.tmp 84)), 0, 0⟩,
     ⟨(some 86), none, .p (.indexAddr 1 (.tmp 83) (.tmp 85)), 0, 0⟩,
     ⟨(some 87), none, .r (.load1 (.tmp 86)), 0, 0⟩,
     ⟨(some 88), none, .p (.bin .add (.tmp 87) (.const (.int .i64 1))), 0, 0⟩,
     ⟨(some 89), none, .p (.indexAddr 1 (.tmp 83) (.tmp 85)), 0, 0⟩,
     ⟨none, none, .e (.store 1 (.tmp 89) (.tmp 88)), 0, 0⟩])
    (.ops [⟨(some 90), none, .p (.mov (.tmp 3)), 0, 0⟩,
     ⟨(some 91), none, .p (.fieldAddr 2 (.tmp 6)), 0, 0⟩,
     ⟨(some 92), none, .r (.load1 (.tmp 91)), 0, 0⟩,
     ⟨(some 93), none, .p (.indexAddr 1 (.tmp 90) (.tmp 92)), 0, 0⟩,
     ⟨(some 94), none, .r (.load1 (.tmp 93)), 0, 0⟩,
     ⟨(some 95), none, .p (.bin .add (.tmp 94) (.const (.int .i64 1))), 0, 0⟩,
     ⟨(some 96), none, .p (.indexAddr 1 (.tmp 90) (.tmp 92)), 0, 0⟩,
     ⟨none, none, .e (.store 1 (.tmp 96) (.tmp 95)), 0, 0⟩]))))))
   (.ops [⟨(some 97), none, .p (.bin .add (.tmp 21) (.const (.int .i64 1))), 0, 0⟩,
    ⟨(some 21), none, .p (.mov (.tmp 97)), 0, 0⟩])))))))
 (.seq (.seq (.ops [⟨(some 98), none, .p (.mov (.tmp 3)), 0, 0⟩,
  ⟨(some 99), none, .p (.lenSlice (.tmp 98)), 0, 0⟩,
  ⟨(some 100), none, .p (.mov (.const (.int .i64 0))), 0, 0⟩])
 (.block 2
  (.loop
   (.seq (.ops [⟨(some 101), none, .p (.bin .lss (.tmp 100) (.tmp 99)), 0, 0⟩])
   (.seq (.cond (.tmp 101)
    .skip
    (.exit 2))
   (.seq (.block 3
    (.seq (.ops [⟨(some 102), none, .p (.mov (.tmp 100)), 0, 0⟩,
     ⟨(some 103), none, .p (.indexAddr 1 (.tmp 98) (.tmp 100)), 0, 0⟩,
     ⟨(some 104), none, .r (.load1 (.tmp 103)), 0, 0⟩,
     ⟨(some 7), none, .p (.mov (.tmp 102)), 0, 0⟩,
     ⟨(some 8), none, .p (.mov (.tmp 104)), 0, 0⟩])
    (.seq (.ops [⟨(some 105), none, .p (.mov (.tmp 7)), 0, 0⟩,
     ⟨(some 106), none, .p (.bin .add (.tmp 105) (.const (.int .i64 1))), 0, 0⟩,
     ⟨(some 107), none, .p (.mov (.tmp 3)), 0, 0⟩,
     ⟨(some 108), none, .p (.lenSlice (.tmp 107)), 0, 0⟩,
     ⟨(some 109), none, .p (.bin .lss (.tmp 106) (.tmp 108)), 0, 0⟩,
     ⟨(some 110), none, .p (.mov (.tmp 109)), 0, 0⟩,
     ⟨(some 111), (some (110, true)), .p (.mov (.tmp 8)), 0, 0⟩,
     ⟨(some 112), (some (110, true)), .p (.bin .neq (.tmp 111) (.const (.int .i64 1))), 0, 0⟩,
     ⟨(some 113), none, .p (.pick (.tmp 110) (.tmp 112) (.const (.bool false))), 0, 0⟩,
     ⟨(some 114), none, .p (.mov (.tmp 113)), 0, 0⟩,
     ⟨(some 115), (some (114, false)), .p (.mov (.tmp 7)), 0, 0⟩,
     ⟨(some 116), (some (114, false)), .p (.bin .add (.tmp 115) (.const (.int .i64 1))), 0, 0⟩,
     ⟨(some 117), (some (114, false)), .p (.mov (.tmp 3)), 0, 0⟩,
     ⟨(some 118), (some (114, false)), .p (.lenSlice (.tmp 117)), 0, 0⟩,
     ⟨(some 119), (some (114, false)), .p (.bin .eql (.tmp 116) (.tmp 118)), 0, 0⟩,
     ⟨(some 120), (some (114, false)), .p (.mov (.tmp 119)), 0, 0⟩,
     ⟨(some 121), (some (120, true)), .p (.mov (.tmp 8)), 0, 0⟩,
     ⟨(some 122), (some (120, true)), .p (.bin .neq (.tmp 121) (.const (.int .i64 0))), 0, 0⟩,
     ⟨(some 123), (some (114, false)), .p (.pick (.tmp 120) (.tmp 122) (.const (.bool false))), 0, 0⟩,
     ⟨(some 124), none, .p (.pick (.tmp 114) (.const (.bool true)) (.tmp 123)), 0, 0⟩])
    (.cond (.tmp 124)
     (.seq (.ops [⟨(some 2), none, .p (.mov (.const (.bool false))), 0, 0⟩])
     .ret)
     .skip))))
   (.ops [⟨(some 125), none, .p (.bin .add (.tmp 100) (.const (.int .i64 1))), 0, 0⟩,
    ⟨(some 100), none, .p (.mov (.tmp 125)), 0, 0⟩])))))))
 (.seq (.ops [⟨(some 2), none, .p (.mov (.const (.bool true))), 0, 0⟩])
 .ret))))))),
 [.tmp 2]⟩

/-- credence/vtree.Below -/
def ir13 : IFn := ⟨57,
 (.seq (.ops [⟨(some 2), none, .n (.box (.tmp 0) 26), 0, 0⟩,
  ⟨(some 4), none, .p (.mov (.const (.slice none 0 0))), 0, 0⟩])
 (.seq (.seq (.ops [⟨(some 8), none, .p (.mov (.tmp 1)), 0, 0⟩,
  ⟨(some 9), none, .p (.bin .lss (.tmp 8) (.const (.int .i64 0))), 0, 0⟩,
  ⟨(some 10), none, .p (.mov (.tmp 9)), 0, 0⟩,
  ⟨(some 11), (some (10, false)), .p (.mov (.tmp 1)), 0, 0⟩,
  ⟨(some 12), (some (10, false)), .p (.fieldAddr 0 (.tmp 2)), 0, 0⟩,
  ⟨(some 13), (some (10, false)), .r (.load1 (.tmp 12)), 0, 0⟩,
  ⟨(some 14), (some (10, false)), .p (.lenSlice (.tmp 13)), 0, 0⟩,
  ⟨(some 15), (some (10, false)), .p (.bin .geq (.tmp 11) (.tmp 14)), 0, 0⟩,
  ⟨(some 16), none, .p (.pick (.tmp 10) (.const (.bool true)) (.tmp 15)), 0, 0⟩,
  ⟨(some 17), none, .p (.mov (.tmp 16)), 0, 0⟩,
  ⟨(some 18), (some (17, false)), .r (.loadA 1 (.tmp 2)), 0, 0⟩,
  ⟨(some 19), (some (17, false)), .call (.func 18) [(.tmp 18)], 0, 0⟩,
  ⟨(some 20), (some (17, false)), .p (.not (.tmp 19)), 0, 0⟩,
  ⟨(some 21), none, .p (.pick (.tmp 17) (.const (.bool true)) (.tmp 20)), 0, 0⟩])
 (.cond (.tmp 21)
  (.seq (.ops [⟨(some 4), none, .p (.mov (.const (.slice none 0 0))), 0, 0⟩])
  .ret)
  .skip))
 (.seq (.ops [⟨(some 5), none, .p (.mov (.const (.slice none 0 0))), 0, 0⟩])
 (.seq (.ops [⟨(some 22), none, .p (.mov (.tmp 1)), 0, 0⟩,
  ⟨(some 23), none, .n (.buildSlice 1 1 [(.int .i64 0)] 3 [(0, 1, (.tmp 22))]), 0, 0⟩,
  ⟨(some 6), none, .p (.mov (.tmp 23)), 0, 0⟩])
 (.seq (.block 0
  (.loop
   (.seq (.seq (.ops [⟨(some 24), none, .p (.mov (.tmp 6)), 0, 0⟩,
    ⟨(some 25), none, .p (.lenSlice (.tmp 24)), 0, 0⟩,
    ⟨(some 26), none, .p (.bin .gtr (.tmp 25) (.const (.int .i64 0))), 0, 0⟩])
   (.cond (.tmp 26)
    .skip
    (.exit 0)))
   (.block 1
    (.seq (.drawn [⟨(some 27), none, .p (.fieldAddr 0 (.tmp 2)), 0, 0⟩,
     ⟨(some 28), none, .r (.load1 (.tmp 27)), 0, 0⟩,
     ⟨(some 29), none, .p (.mov (.tmp 6)), 0, 0⟩,
     ⟨(some 30), none, .p (.mov (.tmp 6)), 0, 0⟩,
     ⟨(some 31), none, .p (.lenSlice (.tmp 30)), 0, 0⟩,
     ⟨(some 32), none, .p (.bin .sub (.tmp 31) (.const (.int .i64 1))), 0, 0⟩,
     ⟨(some 33), none, .p (.indexAddr 1 (.tmp 29) (.tmp 32)), 0, 0⟩,
     ⟨(some 34), none, .r (.load1 (.tmp 33)), 0, 0⟩,
     ⟨(some 35), none, .p (.indexAddr 3 (.tmp 28) (.tmp 34)), 0, 0⟩,
     ⟨(some 36), none, .r (.loadA 3 (.tmp 35)), 0, 0⟩,
     ⟨(some 7), none, .n (.alloc [(.int .i64 0), (.int .i64 0), (.int .i64 0)] 34), 0, 0⟩,
     ⟨none, none, .e (.store 3 (.tmp 7) (.tmp 36)), 0, 1⟩])
    (.seq (.ops [⟨(some 37), none, .p (.mov (.tmp 6)), 0, 0⟩,
     ⟨(some 38), none, .p (.mov (.tmp 6)), 0, 0⟩,
     ⟨(some 39), none, .p (.lenSlice (.tmp 38)), 0, 0⟩,
     ⟨(some 40), none, .p (.bin .sub (.tmp 39) (.const (.int .i64 1))), 0, 0⟩,
     ⟨(some 41), none, .p (.slice 1 (.tmp 37) none (some (.tmp 40)) none), 0, 0⟩,
     ⟨(some 6), none, .p (.mov (.tmp 41)), 0, 0⟩])
    (.seq (.ops [⟨(some 42), none, .r (.loadA 3 (.tmp 7)), 0, 0⟩,
     ⟨(some 43), none, .call (.func 23) [(.tmp 42)], 0, 0⟩])
    (.cond (.tmp 43)
     (.ops [⟨(some 44), none, .p (.mov (.tmp 5)), 0, 0⟩,
      ⟨(some 45), none, .p (.fieldAddr 0 (.tmp 7)), 0, 0⟩,
      ⟨(some 46), none, .r (.load1 (.tmp 45)), 0, 0⟩,
      ⟨(some 47), none, .n (.buildSlice 1 1 [(.int .i64 0)] 3 [(0, 1, (.tmp 46))]), 0, 0⟩,
      ⟨(some 48), none, .e (.append 1 3 (.tmp 44) (.tmp 47)), 0, 0⟩,
      ⟨(some 5), none, .p (.mov (.tmp 48)), 0, 0⟩])
     (.ops [⟨(some 49), none, .p (.mov (.tmp 6)), 0, 0⟩,
      ⟨(some 50), none, .p (.fieldAddr 2 (.tmp 7)), 0, 0⟩,
      ⟨(some 51), none, .r (.load1 (.tmp 50)), 0, 0⟩,
      ⟨(some 52), none, .p (.fieldAddr 1 (.tmp 7)), 0, 0⟩,
      ⟨(some 53), none, .r (.load1 (.tmp 52)), 0, 0⟩,
      ⟨(some 54), none, .n (.buildSlice 2 1 [(.int .i64 0)] 3 [(0, 1, (.tmp 51)), (1, 1, (.tmp 53))]), 0, 0⟩,
      ⟨(some 55), none, .e (.append 1 3 (.tmp 49) (.tmp 54)), 0, 0⟩,
      ⟨(some 6), none, .p (.mov (.tmp 55)), 0, 0⟩])))))))))
 (.seq (.ops [⟨(some 56), none, .p (.mov (.tmp 5)), 0, 0⟩,
  ⟨(some 4), none, .p (.mov (.tmp 56)), 0, 0⟩])
 .ret)))))),
 [.tmp 4]⟩

/-- credence/credenceref22.SameInts -/
def ir14 : IFn := ⟨26,
 (.seq (.ops [⟨(some 4), none, .p (.mov (.const (.bool false))), 0, 0⟩])
 (.seq (.seq (.ops [⟨(some 6), none, .p (.mov (.tmp 0)), 0, 0⟩,
  ⟨(some 7), none, .p (.lenSlice (.tmp 6)), 0, 0⟩,
  ⟨(some 8), none, .p (.mov (.tmp 1)), 0, 0⟩,
  ⟨(some 9), none, .p (.lenSlice (.tmp 8)), 0, 0⟩,
  ⟨(some 10), none, .p (.bin .neq (.tmp 7) (.tmp 9)), 0, 0⟩])
 (.cond (.tmp 10)
  (.seq (.ops [⟨(some 4), none, .p (.mov (.const (.bool false))), 0, 0⟩])
  .ret)
  .skip))
 (.seq (.seq (.ops [⟨(some 11), none, .p (.mov (.tmp 0)), 0, 0⟩,
  ⟨(some 12), none, .p (.lenSlice (.tmp 11)), 0, 0⟩,
  ⟨(some 13), none, .p (.mov (.const (.int .i64 0))), 0, 0⟩])
 (.block 0
  (.loop
   (.seq (.ops [⟨(some 14), none, .p (.bin .lss (.tmp 13) (.tmp 12)), 0, 0⟩])
   (.seq (.cond (.tmp 14)
    .skip
    (.exit 0))
   (.seq (.block 1
    (.seq (.ops [⟨(some 15), none, .p (.mov (.tmp 13)), 0, 0⟩,
     ⟨(some 5), none, .p (.mov (.tmp 15)), 0, 0⟩])
    (.seq (.drawn [⟨(some 16), none, .p (.mov (.tmp 0)), 0, 0⟩,
     ⟨(some 17), none, .p (.mov (.tmp 5)), 0, 0⟩,
     ⟨(some 18), none, .p (.indexAddr 1 (.tmp 16) (.tmp 17)), 0, 0⟩,
     ⟨(some 19), none, .r (.load1 (.tmp 18)), 0, 0⟩,
     ⟨(some 20), none, .p (.mov (.tmp 1)), 0, 0⟩,
     ⟨(some 21), none, .p (.mov (.tmp 5)), 0, 0⟩,
     ⟨(some 22), none, .p (.indexAddr 1 (.tmp 20) (.tmp 21)), 0, 0⟩,
     ⟨(some 23), none, .r (.load1 (.tmp 22)), 0, 0⟩,
     ⟨(some 24), none, .p (.bin .neq (.tmp 19) (.tmp 23)), 0, 0⟩])
    (.cond (.tmp 24)
     (.seq (.ops [⟨(some 4), none, .p (.mov (.const (.bool false))), 0, 0⟩])
     .ret)
     .skip))))
   (.ops [⟨(some 25), none, .p (.bin .add (.tmp 13) (.const (.int .i64 1))), 0, 0⟩,
    ⟨(some 13), none, .p (.mov (.tmp 25)), 0, 0⟩])))))))
 (.seq (.ops [⟨(some 4), none, .p (.mov (.const (.bool true))), 0, 0⟩])
 .ret)))),
 [.tmp 4]⟩

/-- credence/vtree.Blocks -/
def ir15 : IFn := ⟨9,
 (.seq (.ops [⟨(some 1), none, .n (.box (.tmp 0) 26), 0, 0⟩,
  ⟨(some 2), none, .p (.mov (.const (.slice none 0 0))), 0, 0⟩])
 (.seq (.ops [⟨(some 3), none, .r (.loadA 1 (.tmp 1)), 0, 0⟩,
  ⟨(some 4), none, .p (.fieldAddr 0 (.tmp 1)), 0, 0⟩,
  ⟨(some 5), none, .r (.load1 (.tmp 4)), 0, 0⟩,
  ⟨(some 6), none, .p (.lenSlice (.tmp 5)), 0, 0⟩,
  ⟨(some 7), none, .p (.bin .sub (.tmp 6) (.const (.int .i64 1))), 0, 0⟩,
  ⟨(some 8), none, .call (.func 13) [(.tmp 3), (.tmp 7)], 0, 0⟩,
  ⟨(some 2), none, .p (.mov (.tmp 8)), 0, 0⟩])
 .ret)),
 [.tmp 2]⟩

/-- credence/vtree.Width -/
def ir16 : IFn := ⟨133,
 (.seq (.ops [⟨(some 2), none, .n (.box (.tmp 0) 26), 0, 0⟩,
  ⟨(some 3), none, .n (.box (.tmp 1) 42), 0, 0⟩,
  ⟨(some 4), none, .p (.mov (.const (.int .i64 0))), 0, 0⟩,
  ⟨(some 5), none, .p (.mov (.const (.int .i64 0))), 0, 0⟩])
 (.seq (.seq (.ops [⟨(some 20), none, .r (.loadA 1 (.tmp 2)), 0, 0⟩,
  ⟨(some 21), none, .call (.func 18) [(.tmp 20)], 0, 0⟩,
  ⟨(some 22), none, .p (.not (.tmp 21)), 0, 0⟩,
  ⟨(some 23), none, .p (.mov (.tmp 22)), 0, 0⟩,
  ⟨(some 24), (some (23, false)), .r (.loadA 1 (.tmp 3)), 0, 0⟩,
  ⟨(some 25), (some (23, false)), .call (.func 24) [(.tmp 24)], 0, 0⟩,
  ⟨(some 26), (some (23, false)), .p (.not (.tmp 25)), 0, 0⟩,
  ⟨(some 27), none, .p (.pick (.tmp 23) (.const (.bool true)) (.tmp 26)), 0, 0⟩])
 (.cond (.tmp 27)
  (.seq (.ops [⟨(some 4), none, .p (.mov (.const (.int .i64 0))), 0, 0⟩,
   ⟨(some 5), none, .p (.mov (.const (.int .i64 1))), 0, 0⟩])
  .ret)
  .skip))
 (.seq (.ops [⟨(some 28), none, .n (.makeMap none), 0, 0⟩,
  ⟨(some 6), none, .p (.mov (.tmp 28)), 0, 0⟩])
 (.seq (.seq (.ops [⟨(some 29), none, .r (.loadA 1 (.tmp 2)), 0, 0⟩,
  ⟨(some 30), none, .call (.func 15) [(.tmp 29)], 0, 0⟩,
  ⟨(some 31), none, .p (.lenSlice (.tmp 30)), 0, 0⟩,
  ⟨(some 32), none, .p (.mov (.const (.int .i64 0))), 0, 0⟩])
 (.block 0
  (.loop
   (.seq (.ops [⟨(some 33), none, .p (.bin .lss (.tmp 32) (.tmp 31)), 0, 0⟩])
   (.seq (.cond (.tmp 33)
    .skip
    (.exit 0))
   (.seq (.block 1
    (.seq (.ops [⟨(some 34), none, .p (.indexAddr 1 (.tmp 30) (.tmp 32)), 0, 0⟩,
     ⟨(some 35), none, .r (.load1 (.tmp 34)), 0, 0⟩,
     ⟨(some 8), none, .p (.mov (.tmp 35)), 0, 0⟩])
    (.ops [⟨(some 36), none, .p (.mov (.tmp 6)), 0, 0⟩,
     ⟨(some 37), none, .p (.mov (.tmp 8)), 0, 0⟩,
     ⟨none, none, .e (.mapUpdate .int (.tmp 36) (.tmp 37) (.const (.bool true))), 0, 0⟩])))
   (.ops [⟨(some 38), none, .p (.bin .add (.tmp 32) (.const (.int .i64 1))), 0, 0⟩,
    ⟨(some 32), none, .p (.mov (.tmp 38)), 0, 0⟩])))))))
 (.seq (.seq (.ops [⟨(some 39), none, .r (.loadA 1 (.tmp 3)), 0, 0⟩,
  ⟨(some 40), none, .call (.func 25) [(.tmp 39)], 0, 0⟩,
  ⟨(some 41), none, .p (.lenSlice (.tmp 40)), 0, 0⟩,
  ⟨(some 42), none, .p (.mov (.const (.int .i64 0))), 0, 0⟩])
 (.block 2
  (.loop
   (.seq (.ops [⟨(some 43), none, .p (.bin .lss (.tmp 42) (.tmp 41)), 0, 0⟩])
   (.seq (.cond (.tmp 43)
    .skip
    (.exit 2))
   (.seq (.block 3
    (.seq (.ops [⟨(some 44), none, .p (.indexAddr 1 (.tmp 40) (.tmp 42)), 0, 0⟩,
     ⟨(some 45), none, .r (.load1 (.tmp 44)), 0, 0⟩,
     ⟨(some 10), none, .p (.mov (.tmp 45)), 0, 0⟩])
    (.seq (.ops [⟨(some 46), none, .p (.mov (.tmp 6)), 0, 0⟩,
     ⟨(some 47), none, .p (.mov (.tmp 10)), 0, 0⟩,
     ⟨(some 48), none, .r (.lookup .int (.bool false) (.tmp 46) (.tmp 47) false), 0, 0⟩,
     ⟨(some 49), none, .p (.not (.tmp 48)), 0, 0⟩])
    (.cond (.tmp 49)
     (.seq (.ops [⟨(some 4), none, .p (.mov (.const (.int .i64 0))), 0, 0⟩,
      ⟨(some 5), none, .p (.mov (.const (.int .i64 1))), 0, 0⟩])
     .ret)
     .skip))))
   (.ops [⟨(some 50), none, .p (.bin .add (.tmp 42) (.const (.int .i64 1))), 0, 0⟩,
    ⟨(some 42), none, .p (.mov (.tmp 50)), 0, 0⟩])))))))
 (.seq (.ops [⟨(some 52), none, .r (.loadA 1 (.tmp 3)), 0, 0⟩,
  ⟨(some 53), none, .call (.func 26) [(.tmp 52)], 0, 0⟩,
  ⟨(some 51), none, .p (.mov (.tmp 53)), 0, 0⟩,
  ⟨(some 54), none, .p (.extract (.tmp 51) 0), 0, 0⟩,
  ⟨(some 55), none, .p (.extract (.tmp 51) 1), 0, 0⟩,
  ⟨(some 11), none, .n (.alloc [(.slice none 0 0)] 42), 0, 0⟩,
  ⟨none, none, .e (.store 1 (.tmp 11) (.tmp 54)), 0, 0⟩,
  ⟨(some 12), none, .p (.mov (.tmp 55)), 0, 0⟩])
 (.seq (.seq (.ops [⟨(some 56), none, .p (.mov (.tmp 12)), 0, 0⟩,
  ⟨(some 57), none, .p (.bin .neq (.tmp 56) (.const (.int .i64 0))), 0, 0⟩])
 (.cond (.tmp 57)
  (.seq (.ops [⟨(some 58), none, .p (.mov (.tmp 12)), 0, 0⟩,
   ⟨(some 4), none, .p (.mov (.const (.int .i64 0))), 0, 0⟩,
   ⟨(some 5), none, .p (.mov (.tmp 58)), 0, 0⟩])
  .ret)
  .skip))
 (.seq (.ops [⟨(some 59), none, .p (.fieldAddr 0 (.tmp 2)), 0, 0⟩,
  ⟨(some 60), none, .r (.load1 (.tmp 59)), 0, 0⟩,
  ⟨(some 61), none, .p (.lenSlice (.tmp 60)), 0, 0⟩,
  ⟨(some 62), none, .n (.makeSlice 1 8 [(.int .i64 0)] 3 (.tmp 61) (.tmp 61)), 0, 0⟩,
  ⟨(some 13), none, .p (.mov (.tmp 62)), 0, 0⟩])
 (.seq (.ops [⟨(some 14), none, .p (.mov (.const (.int .i64 0))), 0, 0⟩])
 (.seq (.seq (.ops [⟨(some 63), none, .r (.loadA 1 (.tmp 11)), 0, 0⟩,
  ⟨(some 64), none, .call (.func 27) [(.tmp 63)], 0, 0⟩,
  ⟨(some 65), none, .p (.lenSlice (.tmp 64)), 0, 0⟩,
  ⟨(some 66), none, .p (.mov (.const (.int .i64 0))), 0, 0⟩])
 (.block 4
  (.loop
   (.seq (.ops [⟨(some 67), none, .p (.bin .lss (.tmp 66) (.tmp 65)), 0, 0⟩])
   (.seq (.cond (.tmp 67)
    .skip
    (.exit 4))
   (.seq (.block 5
    (.seq (.ops [⟨(some 68), none, .p (.indexAddr 1 (.tmp 64) (.tmp 66)), 0, 0⟩,
     ⟨(some 69), none, .r (.load1 (.tmp 68)), 0, 0⟩,
     ⟨(some 16), none, .p (.mov (.tmp 69)), 0, 0⟩])
    (.seq (.ops [⟨(some 70), none, .p (.fieldAddr 0 (.tmp 2)), 0, 0⟩,
     ⟨(some 71), none, .r (.load1 (.tmp 70)), 0, 0⟩,
     ⟨(some 72), none, .p (.lenSlice (.tmp 71)), 0, 0⟩,
     ⟨(some 73), none, .n (.makeSlice 1 1 [(.bool false)] 4 (.tmp 72) (.tmp 72)), 0, 0⟩,
     ⟨(some 17), none, .p (.mov (.tmp 73)), 0, 0⟩])
    (.seq (.ops [⟨(some 74), none, .p (.fieldAddr 0 (.tmp 2)), 0, 0⟩,
     ⟨(some 75), none, .r (.load1 (.tmp 74)), 0, 0⟩,
     ⟨(some 76), none, .p (.lenSlice (.tmp 75)), 0, 0⟩,
     ⟨(some 77), none, .p (.mov (.const (.int .i64 0))), 0, 0⟩])
    (.block 6
     (.loop
      (.seq (.ops [⟨(some 78), none, .p (.bin .lss (.tmp 77) (.tmp 76)), 0, 0⟩])
      (.seq (.cond (.tmp 78)
       .skip
       (.exit 6))
      (.seq (.block 7
       (.seq (.ops [⟨(some 79), none, .p (.mov (.tmp 77)), 0, 0⟩,
        ⟨(some 80), none, .p (.indexAddr 3 (.tmp 75) (.tmp 77)), 0, 0⟩,
        ⟨(some 81), none, .r (.loadA 3 (.tmp 80)), 0, 0⟩,
        ⟨(some 19), none, .n (.alloc [(.int .i64 0), (.int .i64 0), (.int .i64 0)] 34), 0, 0⟩,
        ⟨(some 18), none, .p (.mov (.tmp 79)), 0, 0⟩,
        ⟨none, none, .e (.store 3 (.tmp 19) (.tmp 81)), 0, 0⟩])
       (.seq (.seq (.ops [⟨(some 82), none, .r (.loadA 3 (.tmp 19)), 0, 0⟩,
        ⟨(some 83), none, .call (.func 23) [(.tmp 82)], 0, 0⟩])
       (.cond (.tmp 83)
        (.seq (.ops [⟨(some 84), none, .p (.mov (.tmp 17)), 0, 0⟩,
         ⟨(some 85), none, .p (.mov (.tmp 18)), 0, 0⟩,
         ⟨(some 86), none, .p (.mov (.tmp 16)), 0, 0⟩,
         ⟨(some 87), none, .p (.fieldAddr 0 (.tmp 19)), 0, 0⟩,
         ⟨(some 88), none, .r (.load1 (.tmp 87)), 0, 0⟩,
         ⟨(some 89), none, .call (.func 28) [(.tmp 86), (.tmp 88)], 0, 0⟩,
         ⟨(some 90), none, .p (.indexAddr 1 (.tmp 84) (.tmp 85)), 0, 0⟩,
         ⟨none, none, .e (.store 1 (.tmp 90) (.tmp 89)), 0, 0⟩])
        (.exit 7))
        .skip))
       (.seq (.ops [⟨(some 91), none, .p (.mov (.tmp 17)), 0, 0⟩,
        ⟨(some 92), none, .p (.mov (.tmp 18)), 0, 0⟩,
        ⟨(some 93), none, .p (.mov (.tmp 17)), 0, 0⟩,
        ⟨(some 94), none, .p (.fieldAddr 1 (.tmp 19)), 0, 0⟩,
        ⟨(some 95), none, .r (.load1 (.tmp 94)), 0, 0⟩,
        ⟨(some 96), none, .p (.indexAddr 1 (.tmp 93) (.tmp 95)), 0, 0⟩,
        ⟨(some 97), none, .r (.load1 (.tmp 96)), 0, 0⟩,
        ⟨(some 98), none, .p (.mov (.tmp 97)), 0, 0⟩,
        ⟨(some 99), (some (98, false)), .p (.mov (.tmp 17)), 0, 0⟩,
        ⟨(some 100), (some (98, false)), .p (.fieldAddr 2 (.tmp 19)), 0, 0⟩,
        ⟨(some 101), (some (98, false)), .r (.load1 (.tmp 100)), 0, 0⟩,
        ⟨(some 102), (some (98, false)), .p (.indexAddr 1 (.tmp 99) (.tmp 101)), 0, 0⟩,
        ⟨(some 103), (some (98, false)), .r (.load1 (.tmp 102)), 0, 0⟩,
        ⟨(some 104), none, .p (.pick (.tmp 98) (.const (.bool true)) (.tmp 103)), 0, 0⟩,
        ⟨(some 105), none, .p (.indexAddr 1 (.tmp 91) (.tmp 92)), 0, 0⟩,
        ⟨none, none, .e (.store 1 (.tmp 105) (.tmp 104)), 0, 0⟩])
       (.seq (.ops [⟨(some 106), none, .p (.mov (.tmp 17)), 0, 0⟩,
        ⟨(some 107), none, .p (.fieldAddr 1 (.tmp 19)), 0, 0⟩,
        ⟨(some 108), none, .r (.load1 (.tmp 107)), 0, 0⟩,
        ⟨(some 109), none, .p (.indexAddr 1 (.tmp 106) (.tmp 108)), 0, 0⟩,
        ⟨(some 110), none, .r (.load1 (.tmp 109)), 0, 0⟩,
        ⟨(some 111), none, .p (.mov (.tmp 110)), 0, 0⟩,
        ⟨(some 112), (some (111, true)), .p (.mov (.tmp 17)), 0, 0⟩,
        ⟨(some 113), (some (111, true)), .p (.fieldAddr 2 (.tmp 19)), 0, 0⟩,
        ⟨(some 114), (some (111, true)), .r (.load1 (.tmp 113)), 0, 0⟩,
        ⟨(some 115), (some (111, true)), .p (.indexAddr 1 (.tmp 112) (.tmp 114)), 0, 0⟩,
        ⟨(some 116), (some (111, true)), .r (.load1 (.tmp 115)), 0, 0⟩,
        ⟨(some 117), none, .p (.pick (.tmp 111) (.tmp 116) (.const (.bool false))), 0, 0⟩])
       (.cond (.tmp 117)
        (.seq (.ops [⟨(some 118), none, .p (.mov (.tmp 13)), 0, 0⟩,
         ⟨(some 119), none, .p (.mov (.tmp 18)), 0, 0⟩,
         ⟨(some 120), none, .p (.indexAddr 1 (.tmp 118) (.tmp 119)), 0, 0⟩,
         ⟨(some 121), none, .r (.load1 (.tmp 120)), 0, 0⟩,
         ⟨(some 122), none, .p (.bin .add (.tmp 121) (.const (.int .i64 1))), 0, 0⟩,
         ⟨(some 123), none, .p (.indexAddr 1 (.tmp 118) (.tmp 119)), 0, 0⟩,
         ⟨none, none, .e (.store 1 (.tmp 123) (.tmp 122)), 0, 0⟩])
        (.ops [⟨(some 124), none, .p (.mov (.tmp 14)), 0, 0⟩,
         ⟨(some 125), none, .p (.mov (.tmp 13)), 0, 0⟩,
         ⟨(some 126), none, .p (.mov (.tmp 18)), 0, 0⟩,
         ⟨(some 127), none, .p (.indexAddr 1 (.tmp 125) (.tmp 126)), 0, 0⟩,
         ⟨(some 128), none, .r (.load1 (.tmp 127)), 0, 0⟩,
         ⟨(some 129), none, .p (.maxI [(.tmp 124), (.tmp 128)]), 0, 0⟩,
         ⟨(some 14), none, .p (.mov (.tmp 129)), 0, 0⟩]))
        .skip))))))
      (.ops [⟨(some 130), none, .p (.bin .add (.tmp 77) (.const (.int .i64 1))), 0, 0⟩,
       ⟨(some 77), none, .p (.mov (.tmp 130)), 0, 0⟩]))))))))))
   (.ops [⟨(some 131), none, .p (.bin .add (.tmp 66) (.const (.int .i64 1))), 0, 0⟩,
    ⟨(some 66), none, .p (.mov (.tmp 131)), 0, 0⟩])))))))
 (.seq (.ops [⟨(some 132), none, .p (.mov (.tmp 14)), 0, 0⟩,
  ⟨(some 4), none, .p (.mov (.tmp 132)), 0, 0⟩,
  ⟨(some 5), none, .p (.mov (.const (.int .i64 0))), 0, 0⟩])
 .ret))))))))))),
 [.tmp 4, .tmp 5]⟩

/-- credence/vtree.Search -/
def ir17 : IFn := ⟨68,
 (.seq (.ops [⟨(some 2), none, .n (.box (.tmp 0) 42), 0, 0⟩,
  ⟨(some 4), none, .n (.alloc [(.slice none 0 0)] 26), 0, 0⟩,
  ⟨(some 5), none, .p (.mov (.const (.int .i64 0))), 0, 0⟩])
 (.seq (.seq (.ops [⟨(some 15), none, .r (.loadA 1 (.tmp 2)), 0, 0⟩,
  ⟨(some 16), none, .call (.func 26) [(.tmp 15)], 0, 0⟩,
  ⟨(some 14), none, .p (.mov (.tmp 16)), 0, 0⟩,
  ⟨(some 17), none, .p (.extract (.tmp 14) 0), 0, 0⟩,
  ⟨(some 18), none, .p (.extract (.tmp 14) 1), 0, 0⟩,
  ⟨(some 6), none, .n (.alloc [(.slice none 0 0)] 42), 0, 0⟩,
  ⟨none, none, .e (.store 1 (.tmp 6) (.tmp 17)), 0, 0⟩,
  ⟨(some 7), none, .p (.mov (.tmp 18)), 0, 0⟩])
 (.seq (.ops [⟨(some 19), none, .p (.mov (.tmp 7)), 0, 0⟩,
  ⟨(some 20), none, .p (.bin .neq (.tmp 19) (.const (.int .i64 0))), 0, 0⟩])
 (.cond (.tmp 20)
  (.seq (.ops [⟨(some 21), none, .p (.build [(.slice none 0 0)] []), 0, 0⟩,
   ⟨(some 22), none, .p (.mov (.tmp 7)), 0, 0⟩,
   ⟨none, none, .e (.store 1 (.tmp 4) (.tmp 21)), 0, 0⟩,
   ⟨(some 5), none, .p (.mov (.tmp 22)), 0, 0⟩])
  .ret)
  .skip)))
 (.seq (.ops [⟨(some 23), none, .r (.loadA 1 (.tmp 2)), 0, 0⟩,
  ⟨(some 24), none, .call (.func 25) [(.tmp 23)], 0, 0⟩,
  ⟨(some 8), none, .p (.mov (.tmp 24)), 0, 0⟩])
 (.seq (.ops [⟨(some 26), none, .p (.mov (.tmp 8)), 0, 0⟩,
  ⟨(some 27), none, .call (.func 6) [(.tmp 26)], 0, 0⟩,
  ⟨(some 25), none, .p (.mov (.tmp 27)), 0, 0⟩,
  ⟨(some 28), none, .p (.extract (.tmp 25) 0), 0, 0⟩,
  ⟨(some 29), none, .p (.extract (.tmp 25) 1), 0, 0⟩,
  ⟨(some 9), none, .n (.alloc [(.slice none 0 0)] 26), 0, 0⟩,
  ⟨none, none, .e (.store 1 (.tmp 9) (.tmp 28)), 0, 0⟩,
  ⟨(some 10), none, .p (.mov (.tmp 29)), 0, 0⟩])
 (.seq (.seq (.ops [⟨(some 30), none, .p (.mov (.tmp 10)), 0, 0⟩,
  ⟨(some 31), none, .p (.bin .neq (.tmp 30) (.const (.int .i64 0))), 0, 0⟩])
 (.cond (.tmp 31)
  (.seq (.ops [⟨(some 32), none, .p (.build [(.slice none 0 0)] []), 0, 0⟩,
   ⟨(some 33), none, .p (.mov (.tmp 10)), 0, 0⟩,
   ⟨none, none, .e (.store 1 (.tmp 4) (.tmp 32)), 0, 0⟩,
   ⟨(some 5), none, .p (.mov (.tmp 33)), 0, 0⟩])
  .ret)
  .skip))
 (.seq (.ops [⟨(some 35), none, .p (.mov (.tmp 8)), 0, 0⟩,
  ⟨(some 36), none, .call (.func 7) [(.tmp 35)], 0, 0⟩,
  ⟨(some 34), none, .p (.mov (.tmp 36)), 0, 0⟩,
  ⟨(some 37), none, .p (.extract (.tmp 34) 0), 0, 0⟩,
  ⟨(some 38), none, .p (.extract (.tmp 34) 1), 0, 0⟩,
  ⟨(some 11), none, .n (.alloc [(.slice none 0 0)] 26), 0, 0⟩,
  ⟨none, none, .e (.store 1 (.tmp 11) (.tmp 37)), 0, 0⟩,
  ⟨(some 10), none, .p (.mov (.tmp 38)), 0, 0⟩])
 (.seq (.seq (.ops [⟨(some 39), none, .p (.mov (.tmp 10)), 0, 0⟩,
  ⟨(some 40), none, .p (.bin .neq (.tmp 39) (.const (.int .i64 0))), 0, 0⟩])
 (.cond (.tmp 40)
  (.seq (.ops [⟨(some 41), none, .p (.build [(.slice none 0 0)] []), 0, 0⟩,
   ⟨(some 42), none, .p (.mov (.tmp 10)), 0, 0⟩,
   ⟨none, none, .e (.store 1 (.tmp 4) (.tmp 41)), 0, 0⟩,
   ⟨(some 5), none, .p (.mov (.tmp 42)), 0, 0⟩])
  .ret)
  .skip))
 (.seq (.ops [⟨(some 44), none, .r (.loadA 1 (.tmp 9)), 0, 0⟩,
  ⟨(some 45), none, .r (.loadA 1 (.tmp 2)), 0, 0⟩,
  ⟨(some 46), none, .call (.func 16) [(.tmp 44), (.tmp 45)], 0, 0⟩,
  ⟨(some 43), none, .p (.mov (.tmp 46)), 0, 0⟩,
  ⟨(some 47), none, .p (.extract (.tmp 43) 0), 0, 0⟩,
  ⟨(some 48), none, .p (.extract (.tmp 43) 1), 0, 0⟩,
  ⟨(some 12), none, .p (.mov (.tmp 47)), 0, 0⟩,
  ⟨(some 10), none, .p (.mov (.tmp 48)), 0, 0⟩])
 (.seq (.seq (.ops [⟨(some 49), none, .p (.mov (.tmp 10)), 0, 0⟩,
  ⟨(some 50), none, .p (.bin .neq (.tmp 49) (.const (.int .i64 0))), 0, 0⟩])
 (.cond (.tmp 50)
  (.seq (.ops [⟨(some 51), none, .p (.build [(.slice none 0 0)] []), 0, 0⟩,
   ⟨(some 52), none, .p (.mov (.tmp 10)), 0, 0⟩,
   ⟨none, none, .e (.store 1 (.tmp 4) (.tmp 51)), 0, 0⟩,
   ⟨(some 5), none, .p (.mov (.tmp 52)), 0, 0⟩])
  .ret)
  .skip))
 (.seq (.ops [⟨(some 54), none, .r (.loadA 1 (.tmp 11)), 0, 0⟩,
  ⟨(some 55), none, .r (.loadA 1 (.tmp 2)), 0, 0⟩,
  ⟨(some 56), none, .call (.func 16) [(.tmp 54), (.tmp 55)], 0, 0⟩,
  ⟨(some 53), none, .p (.mov (.tmp 56)), 0, 0⟩,
  ⟨(some 57), none, .p (.extract (.tmp 53) 0), 0, 0⟩,
  ⟨(some 58), none, .p (.extract (.tmp 53) 1), 0, 0⟩,
  ⟨(some 13), none, .p (.mov (.tmp 57)), 0, 0⟩,
  ⟨(some 10), none, .p (.mov (.tmp 58)), 0, 0⟩])
 (.seq (.seq (.ops [⟨(some 59), none, .p (.mov (.tmp 10)), 0, 0⟩,
  ⟨(some 60), none, .p (.bin .neq (.tmp 59) (.const (.int .i64 0))), 0, 0⟩])
 (.cond (.tmp 60)
  (.seq (.ops [⟨(some 61), none, .p (.build [(.slice none 0 0)] []), 0, 0⟩,
   ⟨(some 62), none, .p (.mov (.tmp 10)), 0, 0⟩,
   ⟨none, none, .e (.store 1 (.tmp 4) (.tmp 61)), 0, 0⟩,
   ⟨(some 5), none, .p (.mov (.tmp 62)), 0, 0⟩])
  .ret)
  .skip))
 (.seq (.seq (.ops [⟨(some 63), none, .p (.mov (.tmp 13)), 0, 0⟩,
  ⟨(some 64), none, .p (.mov (.tmp 12)), 0, 0⟩,
  ⟨(some 65), none, .p (.bin .lss (.tmp 63) (.tmp 64)), 0, 0⟩])
 (.cond (.tmp 65)
  (.seq (.ops [⟨(some 66), none, .r (.loadA 1 (.tmp 11)), 0, 0⟩,
   ⟨none, none, .e (.store 1 (.tmp 4) (.tmp 66)), 0, 0⟩,
   ⟨(some 5), none, .p (.mov (.const (.int .i64 0))), 0, 0⟩])
  .ret)
  .skip))
 (.seq (.ops [⟨(some 67), none, .r (.loadA 1 (.tmp 9)), 0, 0⟩,
  ⟨none, none, .e (.store 1 (.tmp 4) (.tmp 67)), 0, 0⟩,
  ⟨(some 5), none, .p (.mov (.const (.int .i64 0))), 0, 0⟩])
 .ret))))))))))))),
 [.cell 4 1, .tmp 5]⟩

/-- credence/vtree.Valid -/
def ir18 : IFn := ⟨97,
 (.seq (.ops [⟨(some 1), none, .n (.box (.tmp 0) 26), 0, 0⟩,
  ⟨(some 2), none, .p (.mov (.const (.bool false))), 0, 0⟩])
 (.seq (.seq (.ops [⟨(some 10), none, .p (.fieldAddr 0 (.tmp 1)), 0, 0⟩,
  ⟨(some 11), none, .r (.load1 (.tmp 10)), 0, 0⟩,
  ⟨(some 12), none, .p (.lenSlice (.tmp 11)), 0, 0⟩,
  ⟨(some 13), none, .p (.bin .gtr (.tmp 12) (.const (.int .i64 65536))), 0, 0⟩])
 (.cond (.tmp 13)
  (.seq (.ops [⟨(some 2), none, .p (.mov (.const (.bool false))), 0, 0⟩])
  .ret)
  .skip))
 (.seq (.ops [⟨(some 14), none, .p (.fieldAddr 0 (.tmp 1)), 0, 0⟩,
  ⟨(some 15), none, .r (.load1 (.tmp 14)), 0, 0⟩,
  ⟨(some 16), none, .p (.lenSlice (.tmp 15)), 0, 0⟩,
  ⟨(some 17), none, .n (.makeSlice 1 1 [(.bool false)] 4 (.tmp 16) (.tmp 16)), 0, 0⟩,
  ⟨(some 3), none, .p (.mov (.tmp 17)), 0, 0⟩])
 (.seq (.ops [⟨(some 18), none, .n (.makeMap none), 0, 0⟩,
  ⟨(some 4), none, .p (.mov (.tmp 18)), 0, 0⟩])
 (.seq (.seq (.ops [⟨(some 19), none, .p (.fieldAddr 0 (.tmp 1)), 0, 0⟩,
  ⟨(some 20), none, .r (.load1 (.tmp 19)), 0, 0⟩,
  ⟨(some 21), none, .p (.lenSlice (.tmp 20)), 0, 0⟩,
  ⟨(some 22), none, .p (.mov (.const (.int .i64 0))), 0, 0⟩])
 (.block 0
  (.loop
   (.seq (.ops [⟨(some 23), none, .p (.bin .lss (.tmp 22) (.tmp 21)), 0, 0⟩])
   (.seq (.cond (.tmp 23)
    .skip
    (.exit 0))
   (.seq (.block 1
    (.seq (.ops [⟨(some 24), none, .p (.mov (.tmp 22)), 0, 0⟩,
     ⟨(some 25), none, .p (.indexAddr 3 (.tmp 20) (.tmp 22)), 0, 0⟩,
     ⟨(some 26), none, .r (.loadA 3 (.tmp 25)), 0, 0⟩,
     ⟨(some 6), none, .n (.alloc [(.int .i64 0), (.int .i64 0), (.int .i64 0)] 34), 0, 0⟩,
     ⟨(some 5), none, .p (.mov (.tmp 24)), 0, 0⟩,
     ⟨none, none, .e (.store 3 (.tmp 6) (.tmp 26)), 0, 0⟩])
    (.seq (.seq (.ops [⟨(some 27), none, .r (.loadA 3 (.tmp 6)), 0, 0⟩,
     ⟨(some 28), none, .call (.func 23) [(.tmp 27)], 0, 0⟩])
    (.cond (.tmp 28)
     (.seq (.seq (.ops [⟨(some 29), none, .p (.fieldAddr 0 (.tmp 6)), 0, 0⟩,
      ⟨(some 30), none, .r (.load1 (.tmp 29)), 0, 0⟩,
      ⟨(some 31), none, .p (.bin .lss (.tmp 30) (.const (.int .i64 0))), 0, 0⟩,
      ⟨(some 32), none, .p (.mov (.tmp 31)), 0, 0⟩,
      ⟨(some 33), (some (32, false)), .p (.fieldAddr 0 (.tmp 6)), 0, 0⟩,
      ⟨(some 34), (some (32, false)), .r (.load1 (.tmp 33)), 0, 0⟩,
      ⟨(some 35), (some (32, false)), .p (.bin .geq (.tmp 34) (.const (.int .i64 4096))), 0, 0⟩,
      ⟨(some 36), none, .p (.pick (.tmp 32) (.const (.bool true)) (.tmp 35)), 0, 0⟩,
      ⟨(some 37), none, .p (.mov (.tmp 36)), 0, 0⟩,
      ⟨(some 38), (some (37, false)), .p (.mov (.tmp 4)), 0, 0⟩,
      ⟨(some 39), (some (37, false)), .p (.fieldAddr 0 (.tmp 6)), 0, 0⟩,
      ⟨(some 40), (some (37, false)), .r (.load1 (.tmp 39)), 0, 0⟩,
      ⟨(some 41), (some (37, false)), .r (.lookup .int (.bool false) (.tmp 38) (.tmp 40) false), 0, 0⟩,
      ⟨(some 42), none, .p (.pick (.tmp 37) (.const (.bool true)) (.tmp 41)), 0, 0⟩])
     (.cond (.tmp 42)
      (.seq (.ops [⟨(some 2), none, .p (.mov (.const (.bool false))), 0, 0⟩])
      .ret)
      .skip))
     (.seq (.ops [⟨(some 43), none, .p (.mov (.tmp 4)), 0, 0⟩,
      ⟨(some 44), none, .p (.fieldAddr 0 (.tmp 6)), 0, 0⟩,
      ⟨(some 45), none, .r (.load1 (.tmp 44)), 0, 0⟩,
      ⟨none, none, .e (.mapUpdate .int (.tmp 43) (.tmp 45) (.const (.bool true))), 0, 0⟩])
     (.exit 1)))
     .skip))
    (.seq (.seq (.ops [⟨(some 46), none, .p (.fieldAddr 0 (.tmp 6)), 0, 0⟩,
     ⟨(some 47), none, .r (.load1 (.tmp 46)), 0, 0⟩,
     ⟨(some 48), none, .p (.bin .neq (.tmp 47) (.const (.int .i64 0))), 0, 0⟩,
     ⟨(some 49), none, .p (.mov (.tmp 48)), 0, 0⟩,
     ⟨(some 50), (some (49, false)), .p (.fieldAddr 1 (.tmp 6)), 0, 0⟩,
     ⟨(some 51), (some (49, false)), .r (.load1 (.tmp 50)), 0, 0⟩,
     ⟨(some 52), (some (49, false)), .p (.fieldAddr 2 (.tmp 6)), 0, 0⟩,
     ⟨(some 53), (some (49, false)), .r (.load1 (.tmp 52)), 0, 0⟩,
     ⟨(some 54), (some (49, false)), .p (.bin .eql (.tmp 51) (.tmp 53)), 0, 0⟩,
     ⟨(some 55), none, .p (.pick (.tmp 49) (.const (.bool true)) (.tmp 54)), 0, 0⟩])
    (.cond (.tmp 55)
     (.seq (.ops [⟨(some 2), none, .p (.mov (.const (.bool false))), 0, 0⟩])
     .ret)
     .skip))
    (.seq (.ops [⟨(some 56), none, .p (.fieldAddr 1 (.tmp 6)), 0, 0⟩,
     ⟨(some 57), none, .r (.load1 (.tmp 56)), 0, 0⟩,
     ⟨(some 58), none, .p (.fieldAddr 2 (.tmp 6)), 0, 0⟩,
     ⟨(some 59), none, .r (.load1 (.tmp 58)), 0, 0⟩,
     ⟨(some 60), none, .n (.buildSlice 2 1 [(.int .i64 0)] 3 [(0, 1, (.tmp 57)), (1, 1, (.tmp 59))]), 0, 0⟩,
     ⟨(some 61), none, .p (.lenSlice (.tmp 60)), 0, 0⟩,
     ⟨(some 62), none, .p (.mov (.const (.int .i64 0))), 0, 0⟩])
    (.block 2
     (.loop
      (.seq (.ops [⟨(some 63), none, .p (.bin .lss (.tmp 62) (.tmp 61)), 0, 0⟩])
      (.seq (.cond (.tmp 63)
       .skip
       (.exit 2))
      (.seq (.block 3
       (.seq (.ops [⟨(some 64), none, .p (.indexAddr 1 (.tmp 60) (.tmp 62)), 0, 0⟩,
        ⟨(some 65), none, .r (.load1 (.tmp 64)), 0, 0⟩,
        ⟨(some 8), none, .p (.mov (.tmp 65)), 0, 0⟩])
       (.seq (.seq (.ops [⟨(some 66), none, .p (.mov (.tmp 8)), 0, 0⟩,
        ⟨(some 67), none, .p (.bin .lss (.tmp 66) (.const (.int .i64 0))), 0, 0⟩,
        ⟨(some 68), none, .p (.mov (.tmp 67)), 0, 0⟩,
        ⟨(some 69), (some (68, false)), .p (.mov (.tmp 8)), 0, 0⟩,
        ⟨(some 70), (some (68, false)), .p (.mov (.tmp 5)), 0, 0⟩,
        ⟨(some 71), (some (68, false)), .p (.bin .geq (.tmp 69) (.tmp 70)), 0, 0⟩,
        ⟨(some 72), none, .p (.pick (.tmp 68) (.const (.bool true)) (.tmp 71)), 0, 0⟩,
        ⟨(some 73), none, .p (.mov (.tmp 72)), 0, 0⟩,
        ⟨(some 74), (some (73, false)), .p (.mov (.tmp 3)), 0, 0⟩,
        ⟨(some 75), (some (73, false)), .p (.mov (.tmp 8)), 0, 0⟩,
        ⟨(some 76), (some (73, false)), .p (.indexAddr 1 (.tmp 74) (.tmp 75)), 0, 0⟩,
        ⟨(some 77), (some (73, false)), .r (.load1 (.tmp 76)), 0, 0⟩,
        ⟨(some 78), none, .p (.pick (.tmp 73) (.const (.bool true)) (.tmp 77)), 0, 0⟩])
       (.cond (.tmp 78)
        (.seq (.ops [⟨(some 2), none, .p (.mov (.const (.bool false))), 0, 0⟩])
        .ret)
        .skip))
       (.ops [⟨(some 79), none, .p (.mov (.tmp 3)), 0, 0⟩,
        ⟨(some 80), none, .p (.mov (.tmp 8)), 0, 0⟩,
        ⟨(some 81), none, .p (.indexAddr 1 (.tmp 79) (.tmp 80)), 0, 0⟩,
        ⟨none, none, .e (.store 1 (.tmp 81) (.const (.bool true))), 0, 0⟩]))))
      (.ops [⟨(some 82), none, .p (.bin .add (.tmp 62) (.const (.int .i64 1))), 0, 0⟩,
       ⟨(some 62), none, .p (.mov (.tmp 82)), 0, 0⟩])))))))))))
   (.ops [⟨(some 83), none, .p (.bin .add (.tmp 22) (.const (.int .i64 1))), 0, 0⟩,
    ⟨(some 22), none, .p (.mov (.tmp 83)), 0, 0⟩])))))))
 (.seq (.seq (.ops [⟨(some 9), none, .p (.mov (.const (.int .i64 0))), 0, 0⟩])
 (.block 4
  (.loop
   (.seq (.seq (.ops [⟨(some 84), none, .p (.mov (.tmp 9)), 0, 0⟩,
    ⟨(some 85), none, .p (.bin .add (.tmp 84) (.const (.int .i64 1))), 0, 0⟩,
    ⟨(some 86), none, .p (.fieldAddr 0 (.tmp 1)), 0, 0⟩,
    ⟨(some 87), none, .r (.load1 (.tmp 86)), 0, 0⟩,
    ⟨(some 88), none, .p (.lenSlice (.tmp 87)), 0, 0⟩,
    ⟨(some 89), none, .p (.bin .lss (.tmp 85) (.tmp 88)), 0, 0⟩])
   (.cond (.tmp 89)
    .skip
    (.exit 4)))
   (.seq (.block 5
    (.seq (.ops [⟨(some 92), none, .p (.mov (.tmp 3)), 0, 0⟩,
     ⟨(some 93), none, .p (.mov (.tmp 9)), 0, 0⟩,
     ⟨(some 94), none, .p (.indexAddr 1 (.tmp 92) (.tmp 93)), 0, 0⟩,
     ⟨(some 95), none, .r (.load1 (.tmp 94)), 0, 0⟩,
     ⟨(some 96), none, .p (.not (.tmp 95)), 0, 0⟩])
    (.cond (.tmp 96)
     (.seq (.ops [⟨(some 2), none, .p (.mov (.const (.bool false))), 0, 0⟩])
     .ret)
     .skip)))
   (.ops [⟨(some 90), none, .p (.mov (.tmp 9)), 0, 0⟩,
    ⟨(some 91), none, .p (.bin .add (.tmp 90) (.const (.int .i64 1))), 0, 0⟩,
    ⟨(some 9), none, .p (.mov (.tmp 91)), 0, 0⟩]))))))
 (.seq (.ops [⟨(some 2), none, .p (.mov (.const (.bool true))), 0, 0⟩])
 .ret))))))),
 [.tmp 2]⟩

/-- credence/vtree.validOrder -/
def ir19 : IFn := ⟨32,
 (.seq (.ops [⟨(some 2), none, .p (.mov (.const (.bool false))), 0, 0⟩])
 (.seq (.ops [⟨(some 6), none, .n (.makeMap none), 0, 0⟩,
  ⟨(some 3), none, .p (.mov (.tmp 6)), 0, 0⟩])
 (.seq (.seq (.ops [⟨(some 7), none, .p (.mov (.tmp 0)), 0, 0⟩,
  ⟨(some 8), none, .p (.lenSlice (.tmp 7)), 0, 0⟩,
  ⟨(some 9), none, .p (.mov (.const (.int .i64 0))), 0, 0⟩])
 (.block 0
  (.loop
   (.seq (.ops [⟨(some 10), none, .p (.bin .lss (.tmp 9) (.tmp 8)), 0, 0⟩])
   (.seq (.cond (.tmp 10)
    .skip
    (.exit 0))
   (.seq (.block 1
    (.seq (.ops [⟨(some 11), none, .p (.indexAddr 1 (.tmp 7) (.tmp 9)), 0, 0⟩,
     ⟨(some 12), none, .r (.load1 (.tmp 11)), 0, 0⟩,
     ⟨(some 5), none, .p (.mov (.tmp 12)), 0, 0⟩])
    (.seq (.seq (.ops [⟨(some 13), none, .p (.mov (.tmp 5)), 0, 0⟩,
     ⟨(some 14), none, .p (.bin .lss (.tmp 13) (.const (.int .i64 0))), 0, 0⟩,
     ⟨(some 15), none, .p (.mov (.tmp 14)), 0, 0⟩,
     ⟨(some 16), (some (15, false)), .p (.mov (.tmp 5)), 0, 0⟩,
     ⟨(some 17), (some (15, false)), .p (.bin .geq (.tmp 16) (.const (.int .i64 4096))), 0, 0⟩,
     ⟨(some 18), none, .p (.pick (.tmp 15) (.const (.bool true)) (.tmp 17)), 0, 0⟩,
     ⟨(some 19), none, .p (.mov (.tmp 18)), 0, 0⟩,
     ⟨(some 20), (some (19, false)), .p (.mov (.tmp 3)), 0, 0⟩,
     ⟨(some 21), (some (19, false)), .p (.mov (.tmp 5)), 0, 0⟩,
     ⟨(some 22), (some (19, false)), .r (.lookup .int (.bool false) (.tmp 20) (.tmp 21) false), 0, 0⟩,
     ⟨(some 23), none, .p (.pick (.tmp 19) (.const (.bool true)) (.tmp 22)), 0, 0⟩])
    (.cond (.tmp 23)
     (.seq (.ops [⟨(some 2), none, .p (.mov (.const (.bool false))), 0, 0⟩])
     .ret)
     .skip))
    (.ops [⟨(some 24), none, .p (.mov (.tmp 3)), 0, 0⟩,
     ⟨(some 25), none, .p (.mov (.tmp 5)), 0, 0⟩,
     ⟨none, none, .e (.mapUpdate .int (.tmp 24) (.tmp 25) (.const (.bool true))), 0, 0⟩]))))
   (.ops [⟨(some 26), none, .p (.bin .add (.tmp 9) (.const (.int .i64 1))), 0, 0⟩,
    ⟨(some 9), none, .p (.mov (.tmp 26)), 0, 0⟩])))))))
 (.seq (.ops [⟨(some 27), none, .p (.mov (.tmp 0)), 0, 0⟩,
  ⟨(some 28), none, .p (.lenSlice (.tmp 27)), 0, 0⟩,
  ⟨(some 29), none, .p (.bin .mul (.const (.int .i64 2)) (.tmp 28)), 0, 0⟩,
  ⟨(some 30), none, .p (.bin .sub (.tmp 29) (.const (.int .i64 1))), 0, 0⟩,
  ⟨(some 31), none, .p (.bin .leq (.tmp 30) (.const (.int .i64 65536))), 0, 0⟩,
  ⟨(some 2), none, .p (.mov (.tmp 31)), 0, 0⟩])
 .ret)))),
 [.tmp 2]⟩

/-- credence/vtree.balanced -/
def ir20 : IFn := ⟨45,
 (.seq (.ops [⟨(some 4), none, .p (.mov (.const (.slice none 0 0))), 0, 0⟩])
 (.seq (.seq (.ops [⟨(some 7), none, .p (.mov (.tmp 1)), 0, 0⟩,
  ⟨(some 8), none, .p (.lenSlice (.tmp 7)), 0, 0⟩])
 (.block 0
  (.seq (.ops [⟨(some 10), none, .p (.bin .eql (.tmp 8) (.const (.int .i64 0))), 0, 0⟩,
   ⟨(some 9), none, .p (.mov (.tmp 10)), 0, 0⟩])
  (.cond (.tmp 9)
   (.seq (.ops [⟨(some 11), none, .p (.mov (.tmp 0)), 0, 0⟩,
    ⟨(some 4), none, .p (.mov (.tmp 11)), 0, 0⟩])
   .ret)
   (.seq (.ops [⟨(some 13), none, .p (.bin .eql (.tmp 8) (.const (.int .i64 1))), 0, 0⟩,
    ⟨(some 12), none, .p (.mov (.tmp 13)), 0, 0⟩])
   (.cond (.tmp 12)
    (.seq (.ops [⟨(some 14), none, .p (.mov (.tmp 0)), 0, 0⟩,
     ⟨(some 15), none, .p (.mov (.tmp 1)), 0, 0⟩,
     ⟨(some 16), none, .p (.indexAddr 1 (.tmp 15) (.const (.int .i64 0))), 0, 0⟩,
     ⟨(some 17), none, .r (.load1 (.tmp 16)), 0, 0⟩,
     ⟨(some 18), none, .p (.build [(.int .i64 0), (.int .i64 0), (.int .i64 0)] [(0, 1, (.tmp 17)), (1, 1, (.const (.int .i64 (-1)))), (2, 1, (.const (.int .i64 (-1))))]), 0, 0⟩,
     ⟨(some 19), none, .n (.buildSlice 1 3 [(.int .i64 0), (.int .i64 0), (.int .i64 0)] 34 [(0, 3, (.tmp 18))]), 0, 0⟩,
     ⟨(some 20), none, .e (.append 3 34 (.tmp 14) (.tmp 19)), 0, 0⟩,
     ⟨(some 4), none, .p (.mov (.tmp 20)), 0, 0⟩])
    .ret)
    .skip))))))
 (.seq (.ops [⟨(some 21), none, .p (.mov (.tmp 1)), 0, 0⟩,
  ⟨(some 22), none, .p (.lenSlice (.tmp 21)), 0, 0⟩,
  ⟨(some 23), none, .p (.bin .quo (.tmp 22) (.const (.int .i64 2))), 0, 0⟩,
  ⟨(some 5), none, .p (.mov (.tmp 23)), 0, 0⟩])
 (.seq (.ops [⟨(some 24), none, .p (.mov (.tmp 0)), 0, 0⟩,
  ⟨(some 25), none, .p (.mov (.tmp 1)), 0, 0⟩,
  ⟨(some 26), none, .p (.mov (.tmp 5)), 0, 0⟩,
  ⟨(some 27), none, .p (.slice 1 (.tmp 25) none (some (.tmp 26)) none), 0, 0⟩,
  ⟨(some 28), none, .call (.func 20) [(.tmp 24), (.tmp 27)], 0, 0⟩,
  ⟨(some 0), none, .p (.mov (.tmp 28)), 0, 0⟩])
 (.seq (.ops [⟨(some 29), none, .p (.mov (.tmp 0)), 0, 0⟩,
  ⟨(some 30), none, .p (.lenSlice (.tmp 29)), 0, 0⟩,
  ⟨(some 31), none, .p (.bin .sub (.tmp 30) (.const (.int .i64 1))), 0, 0⟩,
  ⟨(some 6), none, .p (.mov (.tmp 31)), 0, 0⟩])
 (.seq (.ops [⟨(some 32), none, .p (.mov (.tmp 0)), 0, 0⟩,
  ⟨(some 33), none, .p (.mov (.tmp 1)), 0, 0⟩,
  ⟨(some 34), none, .p (.mov (.tmp 5)), 0, 0⟩,
  ⟨(some 35), none, .p (.slice 1 (.tmp 33) (some (.tmp 34)) none none), 0, 0⟩,
  ⟨(some 36), none, .call (.func 20) [(.tmp 32), (.tmp 35)], 0, 0⟩,
  ⟨(some 0), none, .p (.mov (.tmp 36)), 0, 0⟩])
 (.seq (.ops [⟨(some 37), none, .p (.mov (.tmp 0)), 0, 0⟩,
  ⟨(some 38), none, .p (.mov (.tmp 6)), 0, 0⟩,
  ⟨(some 39), none, .p (.mov (.tmp 0)), 0, 0⟩,
  ⟨(some 40), none, .p (.lenSlice (.tmp 39)), 0, 0⟩,
  ⟨(some 41), none, .p (.bin .sub (.tmp 40) (.const (.int .i64 1))), 0, 0⟩,
  ⟨(some 42), none, .p (.build [(.int .i64 0), (.int .i64 0), (.int .i64 0)] [(1, 1, (.tmp 38)), (2, 1, (.tmp 41))]), 0, 0⟩,
  ⟨(some 43), none, .n (.buildSlice 1 3 [(.int .i64 0), (.int .i64 0), (.int .i64 0)] 34 [(0, 3, (.tmp 42))]), 0, 0⟩,
  ⟨(some 44), none, .e (.append 3 34 (.tmp 37) (.tmp 43)), 0, 0⟩,
  ⟨(some 4), none, .p (.mov (.tmp 44)), 0, 0⟩])
 .ret))))))),
 [.tmp 4]⟩

/-- credence/credenceref26.orderOK -/
def ir21 : IFn := ⟨30,
 (.seq (.ops [⟨(some 2), none, .p (.mov (.const (.bool false))), 0, 0⟩])
 (.seq (.seq (.ops [⟨(some 6), none, .p (.mov (.tmp 0)), 0, 0⟩,
  ⟨(some 7), none, .p (.lenSlice (.tmp 6)), 0, 0⟩,
  ⟨(some 8), none, .p (.bin .gtr (.tmp 7) (.const (.int .i64 32768))), 0, 0⟩])
 (.cond (.tmp 8)
  (.seq (.ops [⟨(some 2), none, .p (.mov (.const (.bool false))), 0, 0⟩])
  .ret)
  .skip))
 (.seq (.ops [⟨(some 9), none, .n (.makeMap none), 0, 0⟩,
  ⟨(some 3), none, .p (.mov (.tmp 9)), 0, 0⟩])
 (.seq (.seq (.ops [⟨(some 10), none, .p (.mov (.tmp 0)), 0, 0⟩,
  ⟨(some 11), none, .p (.lenSlice (.tmp 10)), 0, 0⟩,
  ⟨(some 12), none, .p (.mov (.const (.int .i64 0))), 0, 0⟩])
 (.block 0
  (.loop
   (.seq (.ops [⟨(some 13), none, .p (.bin .lss (.tmp 12) (.tmp 11)), 0, 0⟩])
   (.seq (.cond (.tmp 13)
    .skip
    (.exit 0))
   (.seq (.block 1
    (.seq (.ops [⟨(some 14), none, .p (.indexAddr 1 (.tmp 10) (.tmp 12)), 0, 0⟩,
     ⟨(some 15), none, .r (.load1 (.tmp 14)), 0, 0⟩,
     ⟨(some 5), none, .p (.mov (.tmp 15)), 0, 0⟩])
    (.seq (.seq (.ops [⟨(some 16), none, .p (.mov (.tmp 5)), 0, 0⟩,
     ⟨(some 17), none, .p (.bin .lss (.tmp 16) (.const (.int .i64 0))), 0, 0⟩,
     ⟨(some 18), none, .p (.mov (.tmp 17)), 0, 0⟩,
     ⟨(some 19), (some (18, false)), .p (.mov (.tmp 5)), 0, 0⟩,
     ⟨(some 20), (some (18, false)), .p (.bin .geq (.tmp 19) (.const (.int .i64 4096))), 0, 0⟩,
     ⟨(some 21), none, .p (.pick (.tmp 18) (.const (.bool true)) (.tmp 20)), 0, 0⟩,
     ⟨(some 22), none, .p (.mov (.tmp 21)), 0, 0⟩,
     ⟨(some 23), (some (22, false)), .p (.mov (.tmp 3)), 0, 0⟩,
     ⟨(some 24), (some (22, false)), .p (.mov (.tmp 5)), 0, 0⟩,
     ⟨(some 25), (some (22, false)), .r (.lookup .int (.bool false) (.tmp 23) (.tmp 24) false), 0, 0⟩,
     ⟨(some 26), none, .p (.pick (.tmp 22) (.const (.bool true)) (.tmp 25)), 0, 0⟩])
    (.cond (.tmp 26)
     (.seq (.ops [⟨(some 2), none, .p (.mov (.const (.bool false))), 0, 0⟩])
     .ret)
     .skip))
    (.ops [⟨(some 27), none, .p (.mov (.tmp 3)), 0, 0⟩,
     ⟨(some 28), none, .p (.mov (.tmp 5)), 0, 0⟩,
     ⟨none, none, .e (.mapUpdate .int (.tmp 27) (.tmp 28) (.const (.bool true))), 0, 0⟩]))))
   (.ops [⟨(some 29), none, .p (.bin .add (.tmp 12) (.const (.int .i64 1))), 0, 0⟩,
    ⟨(some 12), none, .p (.mov (.tmp 29)), 0, 0⟩])))))))
 (.seq (.ops [⟨(some 2), none, .p (.mov (.const (.bool true))), 0, 0⟩])
 .ret))))),
 [.tmp 2]⟩

/-- credence/credenceref26.balanced -/
def ir22 : IFn := ⟨41,
 (.seq (.ops [⟨(some 4), none, .p (.mov (.const (.slice none 0 0))), 0, 0⟩])
 (.seq (.seq (.ops [⟨(some 6), none, .p (.mov (.tmp 1)), 0, 0⟩,
  ⟨(some 7), none, .p (.lenSlice (.tmp 6)), 0, 0⟩,
  ⟨(some 8), none, .p (.bin .eql (.tmp 7) (.const (.int .i64 1))), 0, 0⟩])
 (.cond (.tmp 8)
  (.seq (.ops [⟨(some 9), none, .p (.mov (.tmp 0)), 0, 0⟩,
   ⟨(some 10), none, .p (.mov (.tmp 1)), 0, 0⟩,
   ⟨(some 11), none, .p (.indexAddr 1 (.tmp 10) (.const (.int .i64 0))), 0, 0⟩,
   ⟨(some 12), none, .r (.load1 (.tmp 11)), 0, 0⟩,
   ⟨(some 13), none, .p (.build [(.int .i64 0), (.int .i64 0), (.int .i64 0)] [(0, 1, (.tmp 12)), (1, 1, (.const (.int .i64 (-1)))), (2, 1, (.const (.int .i64 (-1))))]), 0, 0⟩,
   ⟨(some 14), none, .n (.buildSlice 1 3 [(.int .i64 0), (.int .i64 0), (.int .i64 0)] 34 [(0, 3, (.tmp 13))]), 0, 0⟩,
   ⟨(some 15), none, .e (.append 3 34 (.tmp 9) (.tmp 14)), 0, 0⟩,
   ⟨(some 4), none, .p (.mov (.tmp 15)), 0, 0⟩])
  .ret)
  .skip))
 (.seq (.ops [⟨(some 16), none, .p (.mov (.tmp 0)), 0, 0⟩,
  ⟨(some 17), none, .p (.mov (.tmp 1)), 0, 0⟩,
  ⟨(some 18), none, .p (.mov (.tmp 1)), 0, 0⟩,
  ⟨(some 19), none, .p (.lenSlice (.tmp 18)), 0, 0⟩,
  ⟨(some 20), none, .p (.bin .quo (.tmp 19) (.const (.int .i64 2))), 0, 0⟩,
  ⟨(some 21), none, .p (.slice 1 (.tmp 17) none (some (.tmp 20)) none), 0, 0⟩,
  ⟨(some 22), none, .call (.func 22) [(.tmp 16), (.tmp 21)], 0, 0⟩,
  ⟨(some 0), none, .p (.mov (.tmp 22)), 0, 0⟩])
 (.seq (.ops [⟨(some 23), none, .p (.mov (.tmp 0)), 0, 0⟩,
  ⟨(some 24), none, .p (.lenSlice (.tmp 23)), 0, 0⟩,
  ⟨(some 25), none, .p (.bin .sub (.tmp 24) (.const (.int .i64 1))), 0, 0⟩,
  ⟨(some 5), none, .p (.mov (.tmp 25)), 0, 0⟩])
 (.seq (.ops [⟨(some 26), none, .p (.mov (.tmp 0)), 0, 0⟩,
  ⟨(some 27), none, .p (.mov (.tmp 1)), 0, 0⟩,
  ⟨(some 28), none, .p (.mov (.tmp 1)), 0, 0⟩,
  ⟨(some 29), none, .p (.lenSlice (.tmp 28)), 0, 0⟩,
  ⟨(some 30), none, .p (.bin .quo (.tmp 29) (.const (.int .i64 2))), 0, 0⟩,
  ⟨(some 31), none, .p (.slice 1 (.tmp 27) (some (.tmp 30)) none none), 0, 0⟩,
  ⟨(some 32), none, .call (.func 22) [(.tmp 26), (.tmp 31)], 0, 0⟩,
  ⟨(some 0), none, .p (.mov (.tmp 32)), 0, 0⟩])
 (.seq (.ops [⟨(some 33), none, .p (.mov (.tmp 0)), 0, 0⟩,
  ⟨(some 34), none, .p (.mov (.tmp 5)), 0, 0⟩,
  ⟨(some 35), none, .p (.mov (.tmp 0)), 0, 0⟩,
  ⟨(some 36), none, .p (.lenSlice (.tmp 35)), 0, 0⟩,
  ⟨(some 37), none, .p (.bin .sub (.tmp 36) (.const (.int .i64 1))), 0, 0⟩,
  ⟨(some 38), none, .p (.build [(.int .i64 0), (.int .i64 0), (.int .i64 0)] [(1, 1, (.tmp 34)), (2, 1, (.tmp 37))]), 0, 0⟩,
  ⟨(some 39), none, .n (.buildSlice 1 3 [(.int .i64 0), (.int .i64 0), (.int .i64 0)] 34 [(0, 3, (.tmp 38))]), 0, 0⟩,
  ⟨(some 40), none, .e (.append 3 34 (.tmp 33) (.tmp 39)), 0, 0⟩,
  ⟨(some 4), none, .p (.mov (.tmp 40)), 0, 0⟩])
 .ret)))))),
 [.tmp 4]⟩

/-- credence/vtree.leaf -/
def ir23 : IFn := ⟨11,
 (.seq (.ops [⟨(some 1), none, .n (.box (.tmp 0) 34), 0, 0⟩,
  ⟨(some 2), none, .p (.mov (.const (.bool false))), 0, 0⟩])
 (.seq (.ops [⟨(some 3), none, .p (.fieldAddr 1 (.tmp 1)), 0, 0⟩,
  ⟨(some 4), none, .r (.load1 (.tmp 3)), 0, 0⟩,
  ⟨(some 5), none, .p (.bin .eql (.tmp 4) (.const (.int .i64 (-1)))), 0, 0⟩,
  ⟨(some 6), none, .p (.mov (.tmp 5)), 0, 0⟩,
  ⟨(some 7), (some (6, true)), .p (.fieldAddr 2 (.tmp 1)), 0, 0⟩,
  ⟨(some 8), (some (6, true)), .r (.load1 (.tmp 7)), 0, 0⟩,
  ⟨(some 9), (some (6, true)), .p (.bin .eql (.tmp 8) (.const (.int .i64 (-1)))), 0, 0⟩,
  ⟨(some 10), none, .p (.pick (.tmp 6) (.tmp 9) (.const (.bool false))), 0, 0⟩,
  ⟨(some 2), none, .p (.mov (.tmp 10)), 0, 0⟩])
 .ret)),
 [.tmp 2]⟩

/-- credence/formula.Valid -/
def ir24 : IFn := ⟨48,
 (.seq (.ops [⟨(some 1), none, .n (.box (.tmp 0) 42), 0, 0⟩,
  ⟨(some 2), none, .p (.mov (.const (.bool false))), 0, 0⟩])
 (.seq (.seq (.ops [⟨(some 8), none, .p (.fieldAddr 0 (.tmp 1)), 0, 0⟩,
  ⟨(some 9), none, .r (.load1 (.tmp 8)), 0, 0⟩,
  ⟨(some 10), none, .p (.lenSlice (.tmp 9)), 0, 0⟩,
  ⟨(some 11), none, .p (.bin .gtr (.tmp 10) (.const (.int .i64 65536))), 0, 0⟩])
 (.cond (.tmp 11)
  (.seq (.ops [⟨(some 2), none, .p (.mov (.const (.bool false))), 0, 0⟩])
  .ret)
  .skip))
 (.seq (.ops [⟨(some 3), none, .p (.mov (.const (.int .i64 0))), 0, 0⟩])
 (.seq (.seq (.ops [⟨(some 12), none, .p (.fieldAddr 0 (.tmp 1)), 0, 0⟩,
  ⟨(some 13), none, .r (.load1 (.tmp 12)), 0, 0⟩,
  ⟨(some 14), none, .p (.lenSlice (.tmp 13)), 0, 0⟩,
  ⟨(some 15), none, .p (.mov (.const (.int .i64 0))), 0, 0⟩])
 (.block 0
  (.loop
   (.seq (.ops [⟨(some 16), none, .p (.bin .lss (.tmp 15) (.tmp 14)), 0, 0⟩])
   (.seq (.cond (.tmp 16)
    .skip
    (.exit 0))
   (.seq (.block 1
    (.seq (.ops [⟨(some 17), none, .p (.mov (.tmp 15)), 0, 0⟩,
     ⟨(some 18), none, .p (.indexAddr 4 (.tmp 13) (.tmp 15)), 0, 0⟩,
     ⟨(some 19), none, .r (.loadA 4 (.tmp 18)), 0, 0⟩,
     ⟨(some 5), none, .n (.alloc [(.int .i64 0), (.int .i64 0), (.int .i64 0), (.slice none 0 0)] 39), 0, 0⟩,
     ⟨(some 4), none, .p (.mov (.tmp 17)), 0, 0⟩,
     ⟨none, none, .e (.store 4 (.tmp 5) (.tmp 19)), 0, 0⟩])
    (.seq (.ops [⟨(some 20), none, .p (.mov (.tmp 3)), 0, 0⟩,
     ⟨(some 21), none, .p (.fieldAddr 3 (.tmp 5)), 0, 0⟩,
     ⟨(some 22), none, .r (.load1 (.tmp 21)), 0, 0⟩,
     ⟨(some 23), none, .p (.lenSlice (.tmp 22)), 0, 0⟩,
     ⟨(some 24), none, .p (.bin .add (.tmp 20) (.tmp 23)), 0, 0⟩,
     ⟨(some 3), none, .p (.mov (.tmp 24)), 0, 0⟩])
    (.seq (.seq (.ops [⟨(some 25), none, .p (.mov (.tmp 3)), 0, 0⟩,
     ⟨(some 26), none, .p (.bin .gtr (.tmp 25) (.const (.int .i64 33554432))), 0, 0⟩,
     ⟨(some 27), none, .p (.mov (.tmp 26)), 0, 0⟩,
     ⟨(some 28), (some (27, false)), .r (.loadA 4 (.tmp 5)), 0, 0⟩,
     ⟨(some 29), (some (27, false)), .call (.func 29) [(.tmp 28)], 0, 0⟩,
     ⟨(some 30), (some (27, false)), .p (.not (.tmp 29)), 0, 0⟩,
     ⟨(some 31), none, .p (.pick (.tmp 27) (.const (.bool true)) (.tmp 30)), 0, 0⟩])
    (.cond (.tmp 31)
     (.seq (.ops [⟨(some 2), none, .p (.mov (.const (.bool false))), 0, 0⟩])
     .ret)
     .skip))
    (.seq (.ops [⟨(some 32), none, .p (.fieldAddr 3 (.tmp 5)), 0, 0⟩,
     ⟨(some 33), none, .r (.load1 (.tmp 32)), 0, 0⟩,
     ⟨(some 34), none, .p (.lenSlice (.tmp 33)), 0, 0⟩,
     ⟨(some 35), none, .p (.mov (.const (.int .i64 0))), 0, 0⟩])
    (.block 2
     (.loop
      (.seq (.ops [⟨(some 36), none, .p (.bin .lss (.tmp 35) (.tmp 34)), 0, 0⟩])
      (.seq (.cond (.tmp 36)
       .skip
       (.exit 2))
      (.seq (.block 3
       (.seq (.ops [⟨(some 37), none, .p (.indexAddr 1 (.tmp 33) (.tmp 35)), 0, 0⟩,
        ⟨(some 38), none, .r (.load1 (.tmp 37)), 0, 0⟩,
        ⟨(some 7), none, .p (.mov (.tmp 38)), 0, 0⟩])
       (.seq (.ops [⟨(some 39), none, .p (.mov (.tmp 7)), 0, 0⟩,
        ⟨(some 40), none, .p (.bin .lss (.tmp 39) (.const (.int .i64 0))), 0, 0⟩,
        ⟨(some 41), none, .p (.mov (.tmp 40)), 0, 0⟩,
        ⟨(some 42), (some (41, false)), .p (.mov (.tmp 7)), 0, 0⟩,
        ⟨(some 43), (some (41, false)), .p (.mov (.tmp 4)), 0, 0⟩,
        ⟨(some 44), (some (41, false)), .p (.bin .geq (.tmp 42) (.tmp 43)), 0, 0⟩,
        ⟨(some 45), none, .p (.pick (.tmp 41) (.const (.bool true)) (.tmp 44)), 0, 0⟩])
       (.cond (.tmp 45)
        (.seq (.ops [⟨(some 2), none, .p (.mov (.const (.bool false))), 0, 0⟩])
        .ret)
        .skip))))
      (.ops [⟨(some 46), none, .p (.bin .add (.tmp 35) (.const (.int .i64 1))), 0, 0⟩,
       ⟨(some 35), none, .p (.mov (.tmp 46)), 0, 0⟩])))))))))))
   (.ops [⟨(some 47), none, .p (.bin .add (.tmp 15) (.const (.int .i64 1))), 0, 0⟩,
    ⟨(some 15), none, .p (.mov (.tmp 47)), 0, 0⟩])))))))
 (.seq (.ops [⟨(some 2), none, .p (.mov (.const (.bool true))), 0, 0⟩])
 .ret))))),
 [.tmp 2]⟩

/-- credence/formula.Support -/
def ir25 : IFn := ⟨82,
 (.seq (.ops [⟨(some 1), none, .n (.box (.tmp 0) 42), 0, 0⟩,
  ⟨(some 2), none, .p (.mov (.const (.slice none 0 0))), 0, 0⟩])
 (.seq (.seq (.ops [⟨(some 12), none, .p (.fieldAddr 0 (.tmp 1)), 0, 0⟩,
  ⟨(some 13), none, .r (.load1 (.tmp 12)), 0, 0⟩,
  ⟨(some 14), none, .p (.lenSlice (.tmp 13)), 0, 0⟩,
  ⟨(some 15), none, .p (.bin .eql (.tmp 14) (.const (.int .i64 0))), 0, 0⟩,
  ⟨(some 16), none, .p (.mov (.tmp 15)), 0, 0⟩,
  ⟨(some 17), (some (16, false)), .r (.loadA 1 (.tmp 1)), 0, 0⟩,
  ⟨(some 18), (some (16, false)), .call (.func 24) [(.tmp 17)], 0, 0⟩,
  ⟨(some 19), (some (16, false)), .p (.not (.tmp 18)), 0, 0⟩,
  ⟨(some 20), none, .p (.pick (.tmp 16) (.const (.bool true)) (.tmp 19)), 0, 0⟩])
 (.cond (.tmp 20)
  (.seq (.ops [⟨(some 2), none, .p (.mov (.const (.slice none 0 0))), 0, 0⟩])
  .ret)
  .skip))
 (.seq (.ops [⟨(some 21), none, .p (.fieldAddr 0 (.tmp 1)), 0, 0⟩,
  ⟨(some 22), none, .r (.load1 (.tmp 21)), 0, 0⟩,
  ⟨(some 23), none, .p (.lenSlice (.tmp 22)), 0, 0⟩,
  ⟨(some 24), none, .n (.makeSlice 1 1 [(.bool false)] 4 (.tmp 23) (.tmp 23)), 0, 0⟩,
  ⟨(some 3), none, .p (.mov (.tmp 24)), 0, 0⟩])
 (.seq (.ops [⟨(some 25), none, .p (.mov (.tmp 3)), 0, 0⟩,
  ⟨(some 26), none, .p (.mov (.tmp 3)), 0, 0⟩,
  ⟨(some 27), none, .p (.lenSlice (.tmp 26)), 0, 0⟩,
  ⟨(some 28), none, .p (.bin .sub (.tmp 27) (.const (.int .i64 1))), 0, 0⟩,
  ⟨(some 29), none, .p (.indexAddr 1 (.tmp 25) (.tmp 28)), 0, 0⟩,
  ⟨none, none, .e (.store 1 (.tmp 29) (.const (.bool true))), 0, 0⟩])
 (.seq (.ops [⟨(some 30), none, .n (.makeSlice 1 1 [(.bool false)] 4 (.const (.int .i64 4096)) (.const (.int .i64 4096))), 0, 0⟩,
  ⟨(some 4), none, .p (.mov (.tmp 30)), 0, 0⟩])
 (.seq (.seq (.ops [⟨(some 31), none, .p (.fieldAddr 0 (.tmp 1)), 0, 0⟩,
  ⟨(some 32), none, .r (.load1 (.tmp 31)), 0, 0⟩,
  ⟨(some 33), none, .p (.lenSlice (.tmp 32)), 0, 0⟩,
  ⟨(some 34), none, .p (.bin .sub (.tmp 33) (.const (.int .i64 1))), 0, 0⟩,
  ⟨(some 5), none, .p (.mov (.tmp 34)), 0, 0⟩])
 (.block 0
  (.loop
   (.seq (.seq (.ops [⟨(some 35), none, .p (.mov (.tmp 5)), 0, 0⟩,
    ⟨(some 36), none, .p (.bin .geq (.tmp 35) (.const (.int .i64 0))), 0, 0⟩])
   (.cond (.tmp 36)
    .skip
    (.exit 0)))
   (.seq (.block 1
    (.seq (.seq (.ops [⟨(some 39), none, .p (.mov (.tmp 3)), 0, 0⟩,
     ⟨(some 40), none, .p (.mov (.tmp 5)), 0, 0⟩,
     ⟨(some 41), none, .p (.indexAddr 1 (.tmp 39) (.tmp 40)), 0, 0⟩,
     ⟨(some 42), none, .r (.load1 (.tmp 41)), 0, 0⟩,
     ⟨(some 43), none, .p (.not (.tmp 42)), 0, 0⟩])
    (.cond (.tmp 43)
     (.exit 1)
     .skip))
    (.seq (.ops [⟨(some 44), none, .p (.fieldAddr 0 (.tmp 1)), 0, 0⟩,
     ⟨(some 45), none, .r (.load1 (.tmp 44)), 0, 0⟩,
     ⟨(some 46), none, .p (.mov (.tmp 5)), 0, 0⟩,
     ⟨(some 47), none, .p (.indexAddr 4 (.tmp 45) (.tmp 46)), 0, 0⟩,
     ⟨(some 48), none, .r (.loadA 4 (.tmp 47)), 0, 0⟩,
     ⟨(some 6), none, .n (.alloc [(.int .i64 0), (.int .i64 0), (.int .i64 0), (.slice none 0 0)] 39), 0, 0⟩,
     ⟨none, none, .e (.store 4 (.tmp 6) (.tmp 48)), 0, 0⟩])
    (.seq (.seq (.ops [⟨(some 49), none, .p (.fieldAddr 0 (.tmp 6)), 0, 0⟩,
     ⟨(some 50), none, .r (.load1 (.tmp 49)), 0, 0⟩,
     ⟨(some 51), none, .p (.bin .eql (.tmp 50) (.const (.int .i64 2))), 0, 0⟩])
    (.cond (.tmp 51)
     (.ops [⟨(some 52), none, .p (.mov (.tmp 4)), 0, 0⟩,
      ⟨(some 53), none, .p (.fieldAddr 1 (.tmp 6)), 0, 0⟩,
      ⟨(some 54), none, .r (.load1 (.tmp 53)), 0, 0⟩,
      ⟨(some 55), none, .p (.indexAddr 1 (.tmp 52) (.tmp 54)), 0, 0⟩,
      ⟨none, none, .e (.store 1 (.tmp 55) (.const (.bool true))), 0, 0⟩])
     .skip))
    (.seq (.ops [⟨(some 56), none, .p (.fieldAddr 3 (.tmp 6)), 0, 0⟩,
     ⟨(some 57), none, .r (.load1 (.tmp 56)), 0, 0⟩,
     ⟨(some 58), none, .p (.lenSlice (.tmp 57)), 0, 0⟩,
     ⟨(some 59), none, .p (.mov (.const (.int .i64 0))), 0, 0⟩])
    (.block 2
     (.loop
      (.seq (.ops [⟨(some 60), none, .p (.bin .lss (.tmp 59) (.tmp 58)), 0, 0⟩])
      (.seq (.cond (.tmp 60)
       .skip
       (.exit 2))
      (.seq (.block 3
       (.seq (.ops [⟨(some 61), none, .p (.indexAddr 1 (.tmp 57) (.tmp 59)), 0, 0⟩,
        ⟨(some 62), none, .r (.load1 (.tmp 61)), 0, 0⟩,
        ⟨(some 8), none, .p (.mov (.tmp 62)), 0, 0⟩])
       (.ops [⟨(some 63), none, .p (.mov (.tmp 3)), 0, 0⟩,
        ⟨(some 64), none, .p (.mov (.tmp 8)), 0, 0⟩,
        ⟨(some 65), none, .p (.indexAddr 1 (.tmp 63) (.tmp 64)), 0, 0⟩,
        ⟨none, none, .e (.store 1 (.tmp 65) (.const (.bool true))), 0, 0⟩])))
      (.ops [⟨(some 66), none, .p (.bin .add (.tmp 59) (.const (.int .i64 1))), 0, 0⟩,
       ⟨(some 59), none, .p (.mov (.tmp 66)), 0, 0⟩])))))))))))
   (.ops [⟨(some 37), none, .p (.mov (.tmp 5)), 0, 0⟩,
    ⟨(some 38), none, .p (.bin .sub (.tmp 37) (.const (.int .i64 1))), 0, 0⟩,
    ⟨(some 5), none, .p (.mov (.tmp 38)), 0, 0⟩]))))))
 (.seq (.ops [⟨(some 9), none, .p (.mov (.const (.slice none 0 0))), 0, 0⟩])
 (.seq (.seq (.ops [⟨(some 67), none, .p (.mov (.tmp 4)), 0, 0⟩,
  ⟨(some 68), none, .p (.lenSlice (.tmp 67)), 0, 0⟩,
  ⟨(some 69), none, .p (.mov (.const (.int .i64 0))), 0, 0⟩])
 (.block 4
  (.loop
   (.seq (.ops [⟨(some 70), none, .p (.bin .lss (.tmp 69) (.tmp 68)), 0, 0⟩])
   (.seq (.cond (.tmp 70)
    .skip
    (.exit 4))
   (.seq (.block 5
    (.seq (.ops [⟨(some 71), none, .p (.mov (.tmp 69)), 0, 0⟩,
     ⟨(some 72), none, .p (.indexAddr 1 (.tmp 67) (.tmp 69)), 0, 0⟩,
     ⟨(some 73), none, .r (.load1 (.tmp 72)), 0, 0⟩,
     ⟨(some 10), none, .p (.mov (.tmp 71)), 0, 0⟩,
     ⟨(some 11), none, .p (.mov (.tmp 73)), 0, 0⟩])
    (.seq (.ops [⟨(some 74), none, .p (.mov (.tmp 11)), 0, 0⟩])
    (.cond (.tmp 74)
     (.ops [⟨(some 75), none, .p (.mov (.tmp 9)), 0, 0⟩,
      ⟨(some 76), none, .p (.mov (.tmp 10)), 0, 0⟩,
      ⟨(some 77), none, .n (.buildSlice 1 1 [(.int .i64 0)] 3 [(0, 1, (.tmp 76))]), 0, 0⟩,
      ⟨(some 78), none, .e (.append 1 3 (.tmp 75) (.tmp 77)), 0, 0⟩,
      ⟨(some 9), none, .p (.mov (.tmp 78)), 0, 0⟩])
     .skip))))
   (.ops [⟨(some 79), none, .p (.bin .add (.tmp 69) (.const (.int .i64 1))), 0, 0⟩,
    ⟨(some 69), none, .p (.mov (.tmp 79)), 0, 0⟩])))))))
 (.seq (.ops [⟨(some 80), none, .p (.mov (.tmp 9)), 0, 0⟩,
  ⟨(some 81), none, .call (.func 30) [(.tmp 80)], 0, 0⟩,
  ⟨(some 2), none, .p (.mov (.tmp 81)), 0, 0⟩])
 .ret))))))))),
 [.tmp 2]⟩

/-- credence/formula.Normalize -/
def ir26 : IFn := ⟨23,
 (.seq (.ops [⟨(some 1), none, .n (.box (.tmp 0) 42), 0, 0⟩,
  ⟨(some 2), none, .n (.alloc [(.slice none 0 0)] 42), 0, 0⟩,
  ⟨(some 3), none, .p (.mov (.const (.int .i64 0))), 0, 0⟩])
 (.seq (.ops [⟨(some 7), none, .call (.func 31) [], 0, 0⟩,
  ⟨(some 4), none, .p (.mov (.tmp 7)), 0, 0⟩])
 (.seq (.ops [⟨(some 9), none, .p (.mov (.tmp 4)), 0, 0⟩,
  ⟨(some 10), none, .r (.loadA 1 (.tmp 1)), 0, 0⟩,
  ⟨(some 11), none, .call (.func 32) [(.tmp 9), (.tmp 10)], 0, 0⟩,
  ⟨(some 8), none, .p (.mov (.tmp 11)), 0, 0⟩,
  ⟨(some 12), none, .p (.extract (.tmp 8) 0), 0, 0⟩,
  ⟨(some 13), none, .p (.extract (.tmp 8) 1), 0, 0⟩,
  ⟨(some 5), none, .p (.mov (.tmp 12)), 0, 0⟩,
  ⟨(some 6), none, .p (.mov (.tmp 13)), 0, 0⟩])
 (.seq (.seq (.ops [⟨(some 14), none, .p (.mov (.tmp 6)), 0, 0⟩,
  ⟨(some 15), none, .p (.bin .neq (.tmp 14) (.const (.int .i64 0))), 0, 0⟩])
 (.cond (.tmp 15)
  (.seq (.ops [⟨(some 16), none, .p (.build [(.slice none 0 0)] []), 0, 0⟩,
   ⟨(some 17), none, .p (.mov (.tmp 6)), 0, 0⟩,
   ⟨none, none, .e (.store 1 (.tmp 2) (.tmp 16)), 0, 0⟩,
   ⟨(some 3), none, .p (.mov (.tmp 17)), 0, 0⟩])
  .ret)
  .skip))
 (.seq (.ops [⟨(some 18), none, .p (.mov (.tmp 4)), 0, 0⟩,
  ⟨(some 19), none, .p (.mov (.tmp 5)), 0, 0⟩,
  ⟨(some 20), none, .call (.func 33) [(.tmp 18), (.tmp 19)], 0, 0⟩,
  ⟨(some 21), none, .p (.extract (.tmp 20) 0), 0, 0⟩,
  ⟨(some 22), none, .p (.extract (.tmp 20) 1), 0, 0⟩,
  ⟨none, none, .e (.store 1 (.tmp 2) (.tmp 21)), 0, 0⟩,
  ⟨(some 3), none, .p (.mov (.tmp 22)), 0, 0⟩])
 .ret))))),
 [.cell 2 1, .tmp 3]⟩

/-- credence/vtree.partSupports -/
def ir27 : IFn := ⟨111,
 (.seq (.ops [⟨(some 1), none, .n (.box (.tmp 0) 42), 0, 0⟩,
  ⟨(some 2), none, .p (.mov (.const (.slice none 0 0))), 0, 0⟩])
 (.seq (.ops [⟨(some 15), none, .p (.fieldAddr 0 (.tmp 1)), 0, 0⟩,
  ⟨(some 16), none, .r (.load1 (.tmp 15)), 0, 0⟩,
  ⟨(some 17), none, .p (.lenSlice (.tmp 16)), 0, 0⟩,
  ⟨(some 18), none, .n (.makeSlice 64 512 [(.int .u64 0), (.int .u64 0), (.int .u64 0), (.int .u64 0), (.int .u64 0), (.int .u64 0), (.int .u64 0), (.int .u64 0), (.int .u64 0), (.int .u64 0), (.int .u64 0), (.int .u64 0), (.int .u64 0), (.int .u64 0), (.int .u64 0), (.int .u64 0), (.int .u64 0), (.int .u64 0), (.int .u64 0), (.int .u64 0), (.int .u64 0), (.int .u64 0), (.int .u64 0), (.int .u64 0), (.int .u64 0), (.int .u64 0), (.int .u64 0), (.int .u64 0), (.int .u64 0), (.int .u64 0), (.int .u64 0), (.int .u64 0), (.int .u64 0), (.int .u64 0), (.int .u64 0), (.int .u64 0), (.int .u64 0), (.int .u64 0), (.int .u64 0), (.int .u64 0), (.int .u64 0), (.int .u64 0), (.int .u64 0), (.int .u64 0), (.int .u64 0), (.int .u64 0), (.int .u64 0), (.int .u64 0), (.int .u64 0), (.int .u64 0), (.int .u64 0), (.int .u64 0), (.int .u64 0), (.int .u64 0), (.int .u64 0), (.int .u64 0), (.int .u64 0), (.int .u64 0), (.int .u64 0), (.int .u64 0), (.int .u64 0), (.int .u64 0), (.int .u64 0), (.int .u64 0)] 67 (.tmp 17) (.tmp 17)), 0, 0⟩,
  ⟨(some 3), none, .p (.mov (.tmp 18)), 0, 0⟩])
 (.seq (.seq (.ops [⟨(some 19), none, .p (.fieldAddr 0 (.tmp 1)), 0, 0⟩,
  ⟨(some 20), none, .r (.load1 (.tmp 19)), 0, 0⟩,
  ⟨(some 21), none, .p (.lenSlice (.tmp 20)), 0, 0⟩,
  ⟨(some 22), none, .p (.mov (.const (.int .i64 0))), 0, 0⟩])
 (.block 0
  (.loop
   (.seq (.ops [⟨(some 23), none, .p (.bin .lss (.tmp 22) (.tmp 21)), 0, 0⟩])
   (.seq (.cond (.tmp 23)
    .skip
    (.exit 0))
   (.seq (.block 1
    (.seq (.ops [⟨(some 24), none, .p (.mov (.tmp 22)), 0, 0⟩,
     ⟨(some 25), none, .p (.indexAddr 4 (.tmp 20) (.tmp 22)), 0, 0⟩,
     ⟨(some 26), none, .r (.loadA 4 (.tmp 25)), 0, 0⟩,
     ⟨(some 5), none, .n (.alloc [(.int .i64 0), (.int .i64 0), (.int .i64 0), (.slice none 0 0)] 39), 0, 0⟩,
     ⟨(some 4), none, .p (.mov (.tmp 24)), 0, 0⟩,
     ⟨none, none, .e (.store 4 (.tmp 5) (.tmp 26)), 0, 0⟩])
    (.seq (.seq (.ops [⟨(some 27), none, .p (.fieldAddr 0 (.tmp 5)), 0, 0⟩,
     ⟨(some 28), none, .r (.load1 (.tmp 27)), 0, 0⟩,
     ⟨(some 29), none, .p (.bin .eql (.tmp 28) (.const (.int .i64 2))), 0, 0⟩])
    (.cond (.tmp 29)
     (.drawn [⟨(some 30), none, .p (.mov (.tmp 3)), 0, 0⟩,
      ⟨(some 31), none, .p (.mov (.tmp 4)), 0, 0⟩,
      ⟨(some 32), none, .p (.fieldAddr 1 (.tmp 5)), 0, 0⟩,
      ⟨(some 33), none, .r (.load1 (.tmp 32)), 0, 0⟩,
      ⟨(some 34), none, .p (.bin .quo (.tmp 33) (.const (.int .i64 64))), 0, 0⟩,
      ⟨(some 35), none, .p (.indexAddr 64 (.tmp 30) (.tmp 31)), 0, 0⟩,
      ⟨(some 36), none, .p (.indexArrAddr 64 1 (.tmp 35) (.tmp 34)), 0, 0⟩,
      ⟨(some 37), none, .r (.load1 (.tmp 36)), 0, 0⟩,
      ⟨(some 38), none, .p (.fieldAddr 1 (.tmp 5)), 0, 0⟩,
      ⟨(some 39), none, .r (.load1 (.tmp 38)), 0, 0⟩,
      ⟨(some 40), none, .p (.bin .rem (.tmp 39) (.const (.int .i64 64))), 0, 0⟩,
      ⟨(some 41), none, .p (.shift .shl (.const (.int .u64 1)) (.tmp 40)), 0, 0⟩,
      ⟨(some 42), none, .p (.bin .or (.tmp 37) (.tmp 41)), 0, 0⟩,
      ⟨(some 43), none, .p (.indexAddr 64 (.tmp 30) (.tmp 31)), 0, 0⟩,
      ⟨(some 44), none, .p (.indexArrAddr 64 1 (.tmp 43) (.tmp 34)), 0, 0⟩,
      ⟨none, none, .e (.store 1 (.tmp 44) (.tmp 42)), 0, 1⟩])
     .skip))
    (.seq (.ops [⟨(some 45), none, .p (.fieldAddr 3 (.tmp 5)), 0, 0⟩,
     ⟨(some 46), none, .r (.load1 (.tmp 45)), 0, 0⟩,
     ⟨(some 47), none, .p (.lenSlice (.tmp 46)), 0, 0⟩,
     ⟨(some 48), none, .p (.mov (.const (.int .i64 0))), 0, 0⟩])
    (.block 2
     (.loop
      (.seq (.ops [⟨(some 49), none, .p (.bin .lss (.tmp 48) (.tmp 47)), 0, 0⟩])
      (.seq (.cond (.tmp 49)
       .skip
       (.exit 2))
      (.seq (.block 3
       (.seq (.ops [⟨(some 50), none, .p (.indexAddr 1 (.tmp 46) (.tmp 48)), 0, 0⟩,
        ⟨(some 51), none, .r (.load1 (.tmp 50)), 0, 0⟩,
        ⟨(some 7), none, .p (.mov (.tmp 51)), 0, 0⟩])
       (.seq (.ops [⟨(some 52), none, .p (.mov (.tmp 3)), 0, 0⟩,
        ⟨(some 53), none, .p (.mov (.tmp 7)), 0, 0⟩,
        ⟨(some 54), none, .p (.indexAddr 64 (.tmp 52) (.tmp 53)), 0, 0⟩,
        ⟨(some 55), none, .r (.loadA 64 (.tmp 54)), 0, 0⟩,
        ⟨(some 56), none, .p (.mov (.const (.int .i64 0))), 0, 0⟩])
       (.block 4
        (.loop
         (.seq (.ops [⟨(some 57), none, .p (.bin .lss (.tmp 56) (.const (.int .i64 64))), 0, 0⟩])
         (.seq (.cond (.tmp 57)
          .skip
          (.exit 4))
         (.seq (.block 5
          (.seq (.ops [⟨(some 58), none, .p (.mov (.tmp 56)), 0, 0⟩,
           ⟨(some 59), none, .p (.indexArr 64 1 false (.tmp 55) (.tmp 56)), 0, 0⟩,
           ⟨(some 8), none, .p (.mov (.tmp 58)), 0, 0⟩,
           ⟨(some 9), none, .p (.mov (.tmp 59)), 0, 0⟩])
          (.drawn [⟨(some 60), none, .p (.mov (.tmp 3)), 0, 0⟩,
           ⟨(some 61), none, .p (.mov (.tmp 4)), 0, 0⟩,
           ⟨(some 62), none, .p (.mov (.tmp 8)), 0, 0⟩,
           ⟨(some 63), none, .p (.indexAddr 64 (.tmp 60) (.tmp 61)), 0, 0⟩,
           ⟨(some 64), none, .p (.indexArrAddr 64 1 (.tmp 63) (.tmp 62)), 0, 0⟩,
           ⟨(some 65), none, .r (.load1 (.tmp 64)), 0, 0⟩,
           ⟨(some 66), none, .p (.mov (.tmp 9)), 0, 0⟩,
           ⟨(some 67), none, .p (.bin .or (.tmp 65) (.tmp 66)), 0, 0⟩,
           ⟨(some 68), none, .p (.indexAddr 64 (.tmp 60) (.tmp 61)), 0, 0⟩,
           ⟨(some 69), none, .p (.indexArrAddr 64 1 (.tmp 68) (.tmp 62)), 0, 0⟩,
           ⟨none, none, .e (.store 1 (.tmp 69) (.tmp 67)), 0, 1⟩])))
         (.ops [⟨(some 70), none, .p (.bin .add (.tmp 56) (.const (.int .i64 1))), 0, 0⟩,
          ⟨(some 56), none, .p (.mov (.tmp 70)), 0, 0⟩])))))))))
      (.ops [⟨(some 71), none, .p (.bin .add (.tmp 48) (.const (.int .i64 1))), 0, 0⟩,
       ⟨(some 48), none, .p (.mov (.tmp 71)), 0, 0⟩]))))))))))
   (.ops [⟨(some 72), none, .p (.bin .add (.tmp 22) (.const (.int .i64 1))), 0, 0⟩,
    ⟨(some 22), none, .p (.mov (.tmp 72)), 0, 0⟩])))))))
 (.seq (.ops [⟨(some 73), none, .p (.fieldAddr 0 (.tmp 1)), 0, 0⟩,
  ⟨(some 74), none, .r (.load1 (.tmp 73)), 0, 0⟩,
  ⟨(some 75), none, .p (.lenSlice (.tmp 74)), 0, 0⟩,
  ⟨(some 76), none, .p (.bin .sub (.tmp 75) (.const (.int .i64 1))), 0, 0⟩,
  ⟨(some 10), none, .p (.mov (.tmp 76)), 0, 0⟩])
 (.seq (.seq (.ops [⟨(some 77), none, .p (.mov (.tmp 10)), 0, 0⟩,
  ⟨(some 78), none, .p (.bin .lss (.tmp 77) (.const (.int .i64 0))), 0, 0⟩])
 (.cond (.tmp 78)
  (.seq (.ops [⟨(some 2), none, .p (.mov (.const (.slice none 0 0))), 0, 0⟩])
  .ret)
  .skip))
 (.seq (.ops [⟨(some 79), none, .p (.fieldAddr 0 (.tmp 1)), 0, 0⟩,
  ⟨(some 80), none, .r (.load1 (.tmp 79)), 0, 0⟩,
  ⟨(some 81), none, .p (.mov (.tmp 10)), 0, 0⟩,
  ⟨(some 82), none, .p (.indexAddr 4 (.tmp 80) (.tmp 81)), 0, 0⟩,
  ⟨(some 83), none, .r (.loadA 4 (.tmp 82)), 0, 0⟩,
  ⟨(some 11), none, .n (.alloc [(.int .i64 0), (.int .i64 0), (.int .i64 0), (.slice none 0 0)] 39), 0, 0⟩,
  ⟨none, none, .e (.store 4 (.tmp 11) (.tmp 83)), 0, 0⟩])
 (.seq (.seq (.ops [⟨(some 84), none, .p (.fieldAddr 0 (.tmp 11)), 0, 0⟩,
  ⟨(some 85), none, .r (.load1 (.tmp 84)), 0, 0⟩,
  ⟨(some 86), none, .p (.bin .neq (.tmp 85) (.const (.int .i64 4))), 0, 0⟩,
  ⟨(some 87), none, .p (.mov (.tmp 86)), 0, 0⟩,
  ⟨(some 88), (some (87, true)), .p (.fieldAddr 0 (.tmp 11)), 0, 0⟩,
  ⟨(some 89), (some (87, true)), .r (.load1 (.tmp 88)), 0, 0⟩,
  ⟨(some 90), (some (87, true)), .p (.bin .neq (.tmp 89) (.const (.int .i64 5))), 0, 0⟩,
  ⟨(some 91), none, .p (.pick (.tmp 87) (.tmp 90) (.const (.bool false))), 0, 0⟩])
 (.cond (.tmp 91)
  (.seq (.ops [⟨(some 92), none, .p (.mov (.tmp 3)), 0, 0⟩,
   ⟨(some 93), none, .p (.mov (.tmp 10)), 0, 0⟩,
   ⟨(some 94), none, .p (.indexAddr 64 (.tmp 92) (.tmp 93)), 0, 0⟩,
   ⟨(some 95), none, .n (.buildSlice 1 1 [(.pointer none)] 55 [(0, 1, (.tmp 94))]), 0, 0⟩,
   ⟨(some 2), none, .p (.mov (.tmp 95)), 0, 0⟩])
  .ret)
  .skip))
 (.seq (.ops [⟨(some 12), none, .p (.mov (.const (.slice none 0 0))), 0, 0⟩])
 (.seq (.seq (.ops [⟨(some 96), none, .p (.fieldAddr 3 (.tmp 11)), 0, 0⟩,
  ⟨(some 97), none, .r (.load1 (.tmp 96)), 0, 0⟩,
  ⟨(some 98), none, .p (.lenSlice (.tmp 97)), 0, 0⟩,
  ⟨(some 99), none, .p (.mov (.const (.int .i64 0))), 0, 0⟩])
 (.block 6
  (.loop
   (.seq (.ops [⟨(some 100), none, .p (.bin .lss (.tmp 99) (.tmp 98)), 0, 0⟩])
   (.seq (.cond (.tmp 100)
    .skip
    (.exit 6))
   (.seq (.block 7
    (.seq (.ops [⟨(some 101), none, .p (.indexAddr 1 (.tmp 97) (.tmp 99)), 0, 0⟩,
     ⟨(some 102), none, .r (.load1 (.tmp 101)), 0, 0⟩,
     ⟨(some 14), none, .p (.mov (.tmp 102)), 0, 0⟩])
    (.ops [⟨(some 103), none, .p (.mov (.tmp 12)), 0, 0⟩,
     ⟨(some 104), none, .p (.mov (.tmp 3)), 0, 0⟩,
     ⟨(some 105), none, .p (.mov (.tmp 14)), 0, 0⟩,
     ⟨(some 106), none, .p (.indexAddr 64 (.tmp 104) (.tmp 105)), 0, 0⟩,
     ⟨(some 107), none, .n (.buildSlice 1 1 [(.pointer none)] 55 [(0, 1, (.tmp 106))]), 0, 0⟩,
     ⟨(some 108), none, .e (.append 1 55 (.tmp 103) (.tmp 107)), 0, 0⟩,
     ⟨(some 12), none, .p (.mov (.tmp 108)), 0, 0⟩])))
   (.ops [⟨(some 109), none, .p (.bin .add (.tmp 99) (.const (.int .i64 1))), 0, 0⟩,
    ⟨(some 99), none, .p (.mov (.tmp 109)), 0, 0⟩])))))))
 (.seq (.ops [⟨(some 110), none, .p (.mov (.tmp 12)), 0, 0⟩,
  ⟨(some 2), none, .p (.mov (.tmp 110)), 0, 0⟩])
 .ret)))))))))),
 [.tmp 2]⟩

/-- (*credence/vtree.blockSet).has -/
def ir28 : IFn := ⟨16,
 (.seq (.ops [⟨(some 4), none, .p (.mov (.const (.bool false))), 0, 0⟩])
 (.seq (.ops [⟨(some 5), none, .p (.mov (.tmp 0)), 0, 0⟩,
  ⟨(some 6), none, .p (.mov (.tmp 1)), 0, 0⟩,
  ⟨(some 7), none, .p (.bin .quo (.tmp 6) (.const (.int .i64 64))), 0, 0⟩,
  ⟨(some 8), none, .p (.nilCheck (.tmp 5)), 0, 0⟩,
  ⟨(some 9), none, .p (.indexArrAddr 64 1 (.tmp 8) (.tmp 7)), 0, 0⟩,
  ⟨(some 10), none, .r (.load1 (.tmp 9)), 0, 0⟩,
  ⟨(some 11), none, .p (.mov (.tmp 1)), 0, 0⟩,
  ⟨(some 12), none, .p (.bin .rem (.tmp 11) (.const (.int .i64 64))), 0, 0⟩,
  ⟨(some 13), none, .p (.shift .shr (.tmp 10) (.tmp 12)), 0, 0⟩,
  ⟨(some 14), none, .p (.bin .and (.tmp 13) (.const (.int .u64 1))), 0, 0⟩,
  ⟨(some 15), none, .p (.bin .eql (.tmp 14) (.const (.int .u64 1))), 0, 0⟩,
  ⟨(some 4), none, .p (.mov (.tmp 15)), 0, 0⟩])
 .ret)),
 [.tmp 4]⟩

/-- credence/formula.validForm -/
def ir29 : IFn := ⟨62,
 (.seq (.ops [⟨(some 1), none, .n (.box (.tmp 0) 39), 0, 0⟩,
  ⟨(some 2), none, .p (.mov (.const (.bool false))), 0, 0⟩])
 (.seq (.seq (.ops [⟨(some 3), none, .p (.fieldAddr 0 (.tmp 1)), 0, 0⟩,
  ⟨(some 4), none, .r (.load1 (.tmp 3)), 0, 0⟩])
 (.block 0
  (.seq (.seq (.ops [⟨(some 6), none, .p (.bin .eql (.tmp 4) (.const (.int .i64 0))), 0, 0⟩,
   ⟨(some 5), none, .p (.mov (.tmp 6)), 0, 0⟩])
  (.cond (.tmp 5)
   .skip
   (.ops [⟨(some 7), none, .p (.bin .eql (.tmp 4) (.const (.int .i64 1))), 0, 0⟩,
    ⟨(some 5), none, .p (.mov (.tmp 7)), 0, 0⟩])))
  (.cond (.tmp 5)
   (.seq (.ops [⟨(some 8), none, .p (.fieldAddr 1 (.tmp 1)), 0, 0⟩,
    ⟨(some 9), none, .r (.load1 (.tmp 8)), 0, 0⟩,
    ⟨(some 10), none, .p (.bin .eql (.tmp 9) (.const (.int .i64 0))), 0, 0⟩,
    ⟨(some 11), none, .p (.mov (.tmp 10)), 0, 0⟩,
    ⟨(some 12), (some (11, true)), .p (.fieldAddr 2 (.tmp 1)), 0, 0⟩,
    ⟨(some 13), (some (11, true)), .r (.load1 (.tmp 12)), 0, 0⟩,
    ⟨(some 14), (some (11, true)), .p (.bin .eql (.tmp 13) (.const (.int .i64 0))), 0, 0⟩,
    ⟨(some 15), none, .p (.pick (.tmp 11) (.tmp 14) (.const (.bool false))), 0, 0⟩,
    ⟨(some 16), none, .p (.mov (.tmp 15)), 0, 0⟩,
    ⟨(some 17), (some (16, true)), .p (.fieldAddr 3 (.tmp 1)), 0, 0⟩,
    ⟨(some 18), (some (16, true)), .r (.load1 (.tmp 17)), 0, 0⟩,
    ⟨(some 19), (some (16, true)), .p (.lenSlice (.tmp 18)), 0, 0⟩,
    ⟨(some 20), (some (16, true)), .p (.bin .eql (.tmp 19) (.const (.int .i64 0))), 0, 0⟩,
    ⟨(some 21), none, .p (.pick (.tmp 16) (.tmp 20) (.const (.bool false))), 0, 0⟩,
    ⟨(some 2), none, .p (.mov (.tmp 21)), 0, 0⟩])
   .ret)
   (.seq (.ops [⟨(some 23), none, .p (.bin .eql (.tmp 4) (.const (.int .i64 2))), 0, 0⟩,
    ⟨(some 22), none, .p (.mov (.tmp 23)), 0, 0⟩])
   (.cond (.tmp 22)
    (.seq (.ops [⟨(some 24), none, .p (.fieldAddr 1 (.tmp 1)), 0, 0⟩,
     ⟨(some 25), none, .r (.load1 (.tmp 24)), 0, 0⟩,
     ⟨(some 26), none, .p (.fieldAddr 2 (.tmp 1)), 0, 0⟩,
     ⟨(some 27), none, .r (.load1 (.tmp 26)), 0, 0⟩,
     ⟨(some 28), none, .call (.func 34) [(.tmp 25), (.tmp 27)], 0, 0⟩,
     ⟨(some 29), none, .p (.mov (.tmp 28)), 0, 0⟩,
     ⟨(some 30), (some (29, true)), .p (.fieldAddr 3 (.tmp 1)), 0, 0⟩,
     ⟨(some 31), (some (29, true)), .r (.load1 (.tmp 30)), 0, 0⟩,
     ⟨(some 32), (some (29, true)), .p (.lenSlice (.tmp 31)), 0, 0⟩,
     ⟨(some 33), (some (29, true)), .p (.bin .eql (.tmp 32) (.const (.int .i64 0))), 0, 0⟩,
     ⟨(some 34), none, .p (.pick (.tmp 29) (.tmp 33) (.const (.bool false))), 0, 0⟩,
     ⟨(some 2), none, .p (.mov (.tmp 34)), 0, 0⟩])
    .ret)
    (.seq (.ops [⟨(some 36), none, .p (.bin .eql (.tmp 4) (.const (.int .i64 3))), 0, 0⟩,
     ⟨(some 35), none, .p (.mov (.tmp 36)), 0, 0⟩])
    (.cond (.tmp 35)
     (.seq (.ops [⟨(some 37), none, .p (.fieldAddr 1 (.tmp 1)), 0, 0⟩,
      ⟨(some 38), none, .r (.load1 (.tmp 37)), 0, 0⟩,
      ⟨(some 39), none, .p (.bin .eql (.tmp 38) (.const (.int .i64 0))), 0, 0⟩,
      ⟨(some 40), none, .p (.mov (.tmp 39)), 0, 0⟩,
      ⟨(some 41), (some (40, true)), .p (.fieldAddr 2 (.tmp 1)), 0, 0⟩,
      ⟨(some 42), (some (40, true)), .r (.load1 (.tmp 41)), 0, 0⟩,
      ⟨(some 43), (some (40, true)), .p (.bin .eql (.tmp 42) (.const (.int .i64 0))), 0, 0⟩,
      ⟨(some 44), none, .p (.pick (.tmp 40) (.tmp 43) (.const (.bool false))), 0, 0⟩,
      ⟨(some 45), none, .p (.mov (.tmp 44)), 0, 0⟩,
      ⟨(some 46), (some (45, true)), .p (.fieldAddr 3 (.tmp 1)), 0, 0⟩,
      ⟨(some 47), (some (45, true)), .r (.load1 (.tmp 46)), 0, 0⟩,
      ⟨(some 48), (some (45, true)), .p (.lenSlice (.tmp 47)), 0, 0⟩,
      ⟨(some 49), (some (45, true)), .p (.bin .eql (.tmp 48) (.const (.int .i64 1))), 0, 0⟩,
      ⟨(some 50), none, .p (.pick (.tmp 45) (.tmp 49) (.const (.bool false))), 0, 0⟩,
      ⟨(some 2), none, .p (.mov (.tmp 50)), 0, 0⟩])
     .ret)
     (.seq (.seq (.ops [⟨(some 52), none, .p (.bin .eql (.tmp 4) (.const (.int .i64 4))), 0, 0⟩,
      ⟨(some 51), none, .p (.mov (.tmp 52)), 0, 0⟩])
     (.cond (.tmp 51)
      .skip
      (.ops [⟨(some 53), none, .p (.bin .eql (.tmp 4) (.const (.int .i64 5))), 0, 0⟩,
       ⟨(some 51), none, .p (.mov (.tmp 53)), 0, 0⟩])))
     (.cond (.tmp 51)
      (.seq (.ops [⟨(some 54), none, .p (.fieldAddr 1 (.tmp 1)), 0, 0⟩,
       ⟨(some 55), none, .r (.load1 (.tmp 54)), 0, 0⟩,
       ⟨(some 56), none, .p (.bin .eql (.tmp 55) (.const (.int .i64 0))), 0, 0⟩,
       ⟨(some 57), none, .p (.mov (.tmp 56)), 0, 0⟩,
       ⟨(some 58), (some (57, true)), .p (.fieldAddr 2 (.tmp 1)), 0, 0⟩,
       ⟨(some 59), (some (57, true)), .r (.load1 (.tmp 58)), 0, 0⟩,
       ⟨(some 60), (some (57, true)), .p (.bin .eql (.tmp 59) (.const (.int .i64 0))), 0, 0⟩,
       ⟨(some 61), none, .p (.pick (.tmp 57) (.tmp 60) (.const (.bool false))), 0, 0⟩,
       ⟨(some 2), none, .p (.mov (.tmp 61)), 0, 0⟩])
      .ret)
      .skip))))))))))
 (.seq (.ops [⟨(some 2), none, .p (.mov (.const (.bool false))), 0, 0⟩])
 .ret))),
 [.tmp 2]⟩

/-- slices.Clip[[]int,int] -/
def ir30 : IFn := ⟨9,
 (.seq (.ops [⟨(some 2), none, .p (.mov (.const (.slice none 0 0))), 0, 0⟩])
 (.seq (.ops [⟨(some 3), none, .p (.mov (.tmp 0)), 0, 0⟩,
  ⟨(some 4), none, .p (.mov (.tmp 0)), 0, 0⟩,
  ⟨(some 5), none, .p (.lenSlice (.tmp 4)), 0, 0⟩,
  ⟨(some 6), none, .p (.mov (.tmp 0)), 0, 0⟩,
  ⟨(some 7), none, .p (.lenSlice (.tmp 6)), 0, 0⟩,
  ⟨(some 8), none, .p (.slice 1 (.tmp 3) none (some (.tmp 5)) (some (.tmp 7))), 0, 0⟩,
  ⟨(some 2), none, .p (.mov (.tmp 8)), 0, 0⟩])
 .ret)),
 [.tmp 2]⟩

/-- credence/formula.NewStore -/
def ir31 : IFn := ⟨7,
 (.seq (.ops [⟨(some 0), none, .p (.mov (.const (.pointer none))), 0, 0⟩])
 (.seq (.ops [⟨(some 1), none, .p (.build [(.int .i64 0), (.int .i32 0), (.int .i16 0), (.int .i8 0), (.int .i8 0)] [(3, 1, (.const (.int .i8 0)))]), 0, 0⟩,
  ⟨(some 2), none, .p (.build [(.int .i64 0), (.int .i32 0), (.int .i16 0), (.int .i8 0), (.int .i8 0)] [(3, 1, (.const (.int .i8 1)))]), 0, 0⟩,
  ⟨(some 3), none, .n (.buildSlice 2 5 [(.int .i64 0), (.int .i32 0), (.int .i16 0), (.int .i8 0), (.int .i8 0)] 72 [(0, 5, (.tmp 1)), (5, 5, (.tmp 2))]), 0, 0⟩,
  ⟨(some 4), none, .n (.makeSlice 1 4 [(.int .i32 0)] 21 (.const (.int .i64 64)) (.const (.int .i64 64))), 0, 0⟩,
  ⟨(some 5), none, .p (.build [(.slice none 0 0), (.slice none 0 0), (.slice none 0 0)] [(0, 1, (.tmp 3)), (2, 1, (.tmp 4))]), 0, 0⟩,
  ⟨(some 6), none, .n (.box (.tmp 5) 76), 0, 0⟩,
  ⟨(some 0), none, .p (.mov (.tmp 6)), 0, 0⟩])
 .ret)),
 [.tmp 0]⟩

/-- (*credence/formula.Store).Import -/
def ir32 : IFn := ⟨37,
 (.seq (.ops [⟨(some 3), none, .n (.box (.tmp 1) 42), 0, 0⟩,
  ⟨(some 4), none, .p (.mov (.const (.int .i64 0))), 0, 0⟩,
  ⟨(some 5), none, .p (.mov (.const (.int .i64 0))), 0, 0⟩])
 (.seq (.seq (.ops [⟨(some 10), none, .r (.loadA 1 (.tmp 3)), 0, 0⟩,
  ⟨(some 11), none, .call (.func 24) [(.tmp 10)], 0, 0⟩,
  ⟨(some 12), none, .p (.not (.tmp 11)), 0, 0⟩])
 (.cond (.tmp 12)
  (.seq (.ops [⟨(some 4), none, .p (.mov (.const (.int .i64 0))), 0, 0⟩,
   ⟨(some 5), none, .p (.mov (.const (.int .i64 1))), 0, 0⟩])
  .ret)
  .skip))
 (.seq (.ops [⟨(some 13), none, .p (.fieldAddr 0 (.tmp 3)), 0, 0⟩,
  ⟨(some 14), none, .r (.load1 (.tmp 13)), 0, 0⟩,
  ⟨(some 15), none, .p (.lenSlice (.tmp 14)), 0, 0⟩,
  ⟨(some 16), none, .n (.makeSlice 1 8 [(.int .i64 0)] 3 (.tmp 15) (.tmp 15)), 0, 0⟩,
  ⟨(some 6), none, .p (.mov (.tmp 16)), 0, 0⟩])
 (.seq (.ops [⟨(some 7), none, .p (.mov (.const (.int .i64 0))), 0, 0⟩])
 (.seq (.seq (.ops [⟨(some 17), none, .p (.fieldAddr 0 (.tmp 3)), 0, 0⟩,
  ⟨(some 18), none, .r (.load1 (.tmp 17)), 0, 0⟩,
  ⟨(some 19), none, .p (.lenSlice (.tmp 18)), 0, 0⟩,
  ⟨(some 20), none, .p (.mov (.const (.int .i64 0))), 0, 0⟩])
 (.block 0
  (.loop
   (.seq (.ops [⟨(some 21), none, .p (.bin .lss (.tmp 20) (.tmp 19)), 0, 0⟩])
   (.seq (.cond (.tmp 21)
    .skip
    (.exit 0))
   (.seq (.block 1
    (.seq (.ops [⟨(some 22), none, .p (.mov (.tmp 20)), 0, 0⟩,
     ⟨(some 23), none, .p (.indexAddr 4 (.tmp 18) (.tmp 20)), 0, 0⟩,
     ⟨(some 24), none, .r (.loadA 4 (.tmp 23)), 0, 0⟩,
     ⟨(some 9), none, .n (.alloc [(.int .i64 0), (.int .i64 0), (.int .i64 0), (.slice none 0 0)] 39), 0, 0⟩,
     ⟨(some 8), none, .p (.mov (.tmp 22)), 0, 0⟩,
     ⟨none, none, .e (.store 4 (.tmp 9) (.tmp 24)), 0, 0⟩])
    (.seq (.ops [⟨(some 25), none, .p (.mov (.tmp 0)), 0, 0⟩,
     ⟨(some 26), none, .r (.loadA 4 (.tmp 9)), 0, 0⟩,
     ⟨(some 27), none, .p (.mov (.tmp 6)), 0, 0⟩,
     ⟨(some 28), none, .call (.func 35) [(.tmp 25), (.tmp 26), (.tmp 27)], 0, 0⟩,
     ⟨(some 7), none, .p (.mov (.tmp 28)), 0, 0⟩])
    (.seq (.seq (.ops [⟨(some 29), none, .p (.mov (.tmp 7)), 0, 0⟩,
     ⟨(some 30), none, .p (.bin .lss (.tmp 29) (.const (.int .i64 0))), 0, 0⟩])
    (.cond (.tmp 30)
     (.seq (.ops [⟨(some 4), none, .p (.mov (.const (.int .i64 0))), 0, 0⟩,
      ⟨(some 5), none, .p (.mov (.const (.int .i64 9))), 0, 0⟩])
     .ret)
     .skip))
    (.ops [⟨(some 31), none, .p (.mov (.tmp 6)), 0, 0⟩,
     ⟨(some 32), none, .p (.mov (.tmp 8)), 0, 0⟩,
     ⟨(some 33), none, .p (.mov (.tmp 7)), 0, 0⟩,
     ⟨(some 34), none, .p (.indexAddr 1 (.tmp 31) (.tmp 32)), 0, 0⟩,
     ⟨none, none, .e (.store 1 (.tmp 34) (.tmp 33)), 0, 0⟩])))))
   (.ops [⟨(some 35), none, .p (.bin .add (.tmp 20) (.const (.int .i64 1))), 0, 0⟩,
    ⟨(some 20), none, .p (.mov (.tmp 35)), 0, 0⟩])))))))
 (.seq (.ops [⟨(some 36), none, .p (.mov (.tmp 7)), 0, 0⟩,
  ⟨(some 4), none, .p (.mov (.tmp 36)), 0, 0⟩,
  ⟨(some 5), none, .p (.mov (.const (.int .i64 0))), 0, 0⟩])
 .ret)))))),
 [.tmp 4, .tmp 5]⟩

/-- (*credence/formula.Store).Export -/
def ir33 : IFn := ⟨78,
 (.seq (.ops [⟨(some 4), none, .n (.alloc [(.slice none 0 0)] 42), 0, 0⟩,
  ⟨(some 5), none, .p (.mov (.const (.int .i64 0))), 0, 0⟩])
 (.seq (.seq (.ops [⟨(some 14), none, .p (.mov (.tmp 0)), 0, 0⟩,
  ⟨(some 15), none, .p (.mov (.tmp 1)), 0, 0⟩,
  ⟨(some 16), none, .call (.func 36) [(.tmp 14), (.tmp 15)], 0, 0⟩,
  ⟨(some 17), none, .p (.not (.tmp 16)), 0, 0⟩])
 (.cond (.tmp 17)
  (.seq (.ops [⟨(some 18), none, .p (.build [(.slice none 0 0)] []), 0, 0⟩,
   ⟨none, none, .e (.store 1 (.tmp 4) (.tmp 18)), 0, 0⟩,
   ⟨(some 5), none, .p (.mov (.const (.int .i64 6))), 0, 0⟩])
  .ret)
  .skip))
 (.seq (.ops [⟨(some 20), none, .p (.mov (.tmp 0)), 0, 0⟩,
  ⟨(some 21), none, .p (.mov (.tmp 1)), 0, 0⟩,
  ⟨(some 22), none, .call (.func 37) [(.tmp 20), (.tmp 21)], 0, 0⟩,
  ⟨(some 19), none, .p (.mov (.tmp 22)), 0, 0⟩,
  ⟨(some 23), none, .p (.extract (.tmp 19) 0), 0, 0⟩,
  ⟨(some 24), none, .p (.extract (.tmp 19) 1), 0, 0⟩,
  ⟨(some 6), none, .p (.mov (.tmp 23)), 0, 0⟩,
  ⟨(some 7), none, .p (.mov (.tmp 24)), 0, 0⟩])
 (.seq (.seq (.ops [⟨(some 25), none, .p (.mov (.tmp 7)), 0, 0⟩,
  ⟨(some 26), none, .p (.not (.tmp 25)), 0, 0⟩])
 (.cond (.tmp 26)
  (.seq (.ops [⟨(some 27), none, .p (.build [(.slice none 0 0)] []), 0, 0⟩,
   ⟨none, none, .e (.store 1 (.tmp 4) (.tmp 27)), 0, 0⟩,
   ⟨(some 5), none, .p (.mov (.const (.int .i64 4))), 0, 0⟩])
  .ret)
  .skip))
 (.seq (.ops [⟨(some 28), none, .p (.mov (.tmp 6)), 0, 0⟩,
  ⟨(some 29), none, .p (.lenSlice (.tmp 28)), 0, 0⟩,
  ⟨(some 30), none, .n (.makeMap (some (.tmp 29))), 0, 0⟩,
  ⟨(some 8), none, .p (.mov (.tmp 30)), 0, 0⟩])
 (.seq (.ops [⟨(some 31), none, .p (.mov (.tmp 6)), 0, 0⟩,
  ⟨(some 32), none, .p (.lenSlice (.tmp 31)), 0, 0⟩,
  ⟨(some 33), none, .n (.makeSlice 4 48 [(.int .i64 0), (.int .i64 0), (.int .i64 0), (.slice none 0 0)] 39 (.tmp 32) (.tmp 32)), 0, 0⟩,
  ⟨(some 9), none, .p (.mov (.tmp 33)), 0, 0⟩])
 (.seq (.seq (.ops [⟨(some 34), none, .p (.mov (.tmp 6)), 0, 0⟩,
  ⟨(some 35), none, .p (.lenSlice (.tmp 34)), 0, 0⟩,
  ⟨(some 36), none, .p (.mov (.const (.int .i64 0))), 0, 0⟩])
 (.block 0
  (.loop
   (.seq (.ops [⟨(some 37), none, .p (.bin .lss (.tmp 36) (.tmp 35)), 0, 0⟩])
   (.seq (.cond (.tmp 37)
    .skip
    (.exit 0))
   (.seq (.block 1
    (.seq (.ops [⟨(some 38), none, .p (.mov (.tmp 36)), 0, 0⟩,
     ⟨(some 39), none, .p (.indexAddr 1 (.tmp 34) (.tmp 36)), 0, 0⟩,
     ⟨(some 40), none, .r (.load1 (.tmp 39)), 0, 0⟩,
     ⟨(some 10), none, .p (.mov (.tmp 38)), 0, 0⟩,
     ⟨(some 11), none, .p (.mov (.tmp 40)), 0, 0⟩])
    (.seq (.ops [⟨(some 41), none, .p (.mov (.tmp 8)), 0, 0⟩,
     ⟨(some 42), none, .p (.mov (.tmp 11)), 0, 0⟩,
     ⟨(some 43), none, .p (.mov (.tmp 10)), 0, 0⟩,
     ⟨none, none, .e (.mapUpdate .int (.tmp 41) (.tmp 42) (.tmp 43)), 0, 0⟩])
    (.seq (.ops [⟨(some 45), none, .p (.mov (.tmp 9)), 0, 0⟩,
     ⟨(some 46), none, .p (.mov (.tmp 10)), 0, 0⟩,
     ⟨(some 47), none, .p (.mov (.tmp 0)), 0, 0⟩,
     ⟨(some 48), none, .p (.mov (.tmp 11)), 0, 0⟩,
     ⟨(some 49), none, .call (.func 38) [(.tmp 47), (.tmp 48)], 0, 0⟩,
     ⟨(some 44), none, .p (.mov (.tmp 49)), 0, 0⟩,
     ⟨(some 50), none, .p (.extract (.tmp 44) 0), 0, 0⟩,
     ⟨(some 51), none, .p (.extract (.tmp 44) 1), 0, 0⟩,
     ⟨(some 52), none, .p (.indexAddr 4 (.tmp 45) (.tmp 46)), 0, 0⟩,
     ⟨none, none, .e (.store 4 (.tmp 52) (.tmp 50)), 0, 0⟩])
    (.seq (.ops [⟨(some 53), none, .p (.mov (.tmp 9)), 0, 0⟩,
     ⟨(some 54), none, .p (.mov (.tmp 10)), 0, 0⟩,
     ⟨(some 55), none, .p (.indexAddr 4 (.tmp 53) (.tmp 54)), 0, 0⟩,
     ⟨(some 56), none, .p (.fieldAddr 3 (.tmp 55)), 0, 0⟩,
     ⟨(some 57), none, .r (.load1 (.tmp 56)), 0, 0⟩,
     ⟨(some 58), none, .p (.lenSlice (.tmp 57)), 0, 0⟩,
     ⟨(some 59), none, .p (.mov (.const (.int .i64 0))), 0, 0⟩])
    (.block 2
     (.loop
      (.seq (.ops [⟨(some 60), none, .p (.bin .lss (.tmp 59) (.tmp 58)), 0, 0⟩])
      (.seq (.cond (.tmp 60)
       .skip
       (.exit 2))
      (.seq (.block 3
       (.seq (.ops [⟨(some 61), none, .p (.mov (.tmp 59)), 0, 0⟩,
        ⟨(some 62), none, .p (.indexAddr 1 (.tmp 57) (.tmp 59)), 0, 0⟩,
        ⟨(some 63), none, .r (.load1 (.tmp 62)), 0, 0⟩,
        ⟨(some 12), none, .p (.mov (.tmp 61)), 0, 0⟩,
        ⟨(some 13), none, .p (.mov (.tmp 63)), 0, 0⟩])
       (.drawn [⟨(some 64), none, .p (.mov (.tmp 9)), 0, 0⟩,
        ⟨(some 65), none, .p (.mov (.tmp 10)), 0, 0⟩,
        ⟨(some 66), none, .p (.indexAddr 4 (.tmp 64) (.tmp 65)), 0, 0⟩,
        ⟨(some 67), none, .p (.fieldAddr 3 (.tmp 66)), 0, 0⟩,
        ⟨(some 68), none, .r (.load1 (.tmp 67)), 0, 0⟩,
        ⟨(some 69), none, .p (.mov (.tmp 12)), 0, 0⟩,
        ⟨(some 70), none, .p (.mov (.tmp 8)), 0, 0⟩,
        ⟨(some 71), none, .p (.mov (.tmp 13)), 0, 0⟩,
        ⟨(some 72), none, .r (.lookup .int (.int .i64 0) (.tmp 70) (.tmp 71) false), 0, 0⟩,
        ⟨(some 73), none, .p (.indexAddr 1 (.tmp 68) (.tmp 69)), 0, 0⟩,
        ⟨none, none, .e (.store 1 (.tmp 73) (.tmp 72)), 0, 1⟩])))
      (.ops [⟨(some 74), none, .p (.bin .add (.tmp 59) (.const (.int .i64 1))), 0, 0⟩,
       ⟨(some 59), none, .p (.mov (.tmp 74)), 0, 0⟩])))))))))))
   (.ops [⟨(some 75), none, .p (.bin .add (.tmp 36) (.const (.int .i64 1))), 0, 0⟩,
    ⟨(some 36), none, .p (.mov (.tmp 75)), 0, 0⟩])))))))
 (.seq (.ops [⟨(some 76), none, .p (.mov (.tmp 9)), 0, 0⟩,
  ⟨(some 77), none, .p (.build [(.slice none 0 0)] [(0, 1, (.tmp 76))]), 0, 0⟩,
  ⟨none, none, .e (.store 1 (.tmp 4) (.tmp 77)), 0, 0⟩,
  ⟨(some 5), none, .p (.mov (.const (.int .i64 0))), 0, 0⟩])
 .ret)))))))),
 [.cell 4 1, .tmp 5]⟩

/-- credence/formula.validPick -/
def ir34 : IFn := ⟨19,
 (.seq (.ops [⟨(some 4), none, .p (.mov (.const (.bool false))), 0, 0⟩])
 (.seq (.ops [⟨(some 5), none, .p (.mov (.tmp 0)), 0, 0⟩,
  ⟨(some 6), none, .p (.bin .geq (.tmp 5) (.const (.int .i64 0))), 0, 0⟩,
  ⟨(some 7), none, .p (.mov (.tmp 6)), 0, 0⟩,
  ⟨(some 8), (some (7, true)), .p (.mov (.tmp 0)), 0, 0⟩,
  ⟨(some 9), (some (7, true)), .p (.bin .lss (.tmp 8) (.const (.int .i64 4096))), 0, 0⟩,
  ⟨(some 10), none, .p (.pick (.tmp 7) (.tmp 9) (.const (.bool false))), 0, 0⟩,
  ⟨(some 11), none, .p (.mov (.tmp 10)), 0, 0⟩,
  ⟨(some 12), (some (11, true)), .p (.mov (.tmp 1)), 0, 0⟩,
  ⟨(some 13), (some (11, true)), .p (.bin .geq (.tmp 12) (.const (.int .i64 (-1)))), 0, 0⟩,
  ⟨(some 14), none, .p (.pick (.tmp 11) (.tmp 13) (.const (.bool false))), 0, 0⟩,
  ⟨(some 15), none, .p (.mov (.tmp 14)), 0, 0⟩,
  ⟨(some 16), (some (15, true)), .p (.mov (.tmp 1)), 0, 0⟩,
  ⟨(some 17), (some (15, true)), .p (.bin .lss (.tmp 16) (.const (.int .i64 16))), 0, 0⟩,
  ⟨(some 18), none, .p (.pick (.tmp 15) (.tmp 17) (.const (.bool false))), 0, 0⟩,
  ⟨(some 4), none, .p (.mov (.tmp 18)), 0, 0⟩])
 .ret)),
 [.tmp 4]⟩

/-- (*credence/formula.Store).importNode -/
def ir35 : IFn := ⟨61,
 (.seq (.ops [⟨(some 4), none, .n (.box (.tmp 1) 39), 0, 0⟩,
  ⟨(some 6), none, .p (.mov (.const (.int .i64 0))), 0, 0⟩])
 (.seq (.seq (.ops [⟨(some 10), none, .p (.fieldAddr 0 (.tmp 4)), 0, 0⟩,
  ⟨(some 11), none, .r (.load1 (.tmp 10)), 0, 0⟩])
 (.block 0
  (.seq (.ops [⟨(some 13), none, .p (.bin .eql (.tmp 11) (.const (.int .i64 1))), 0, 0⟩,
   ⟨(some 12), none, .p (.mov (.tmp 13)), 0, 0⟩])
  (.cond (.tmp 12)
   (.seq (.ops [⟨(some 6), none, .p (.mov (.const (.int .i64 1))), 0, 0⟩])
   .ret)
   (.seq (.ops [⟨(some 15), none, .p (.bin .eql (.tmp 11) (.const (.int .i64 2))), 0, 0⟩,
    ⟨(some 14), none, .p (.mov (.tmp 15)), 0, 0⟩])
   (.cond (.tmp 14)
    (.seq (.ops [⟨(some 16), none, .p (.mov (.tmp 0)), 0, 0⟩,
     ⟨(some 17), none, .p (.fieldAddr 1 (.tmp 4)), 0, 0⟩,
     ⟨(some 18), none, .r (.load1 (.tmp 17)), 0, 0⟩,
     ⟨(some 19), none, .p (.fieldAddr 2 (.tmp 4)), 0, 0⟩,
     ⟨(some 20), none, .r (.load1 (.tmp 19)), 0, 0⟩,
     ⟨(some 21), none, .call (.func 39) [(.tmp 16), (.tmp 18), (.tmp 20)], 0, 0⟩,
     ⟨(some 6), none, .p (.mov (.tmp 21)), 0, 0⟩])
    .ret)
    (.seq (.ops [⟨(some 23), none, .p (.bin .eql (.tmp 11) (.const (.int .i64 3))), 0, 0⟩,
     ⟨(some 22), none, .p (.mov (.tmp 23)), 0, 0⟩])
    (.cond (.tmp 22)
     (.seq (.ops [⟨(some 24), none, .p (.mov (.tmp 0)), 0, 0⟩,
      ⟨(some 25), none, .p (.mov (.tmp 2)), 0, 0⟩,
      ⟨(some 26), none, .p (.fieldAddr 3 (.tmp 4)), 0, 0⟩,
      ⟨(some 27), none, .r (.load1 (.tmp 26)), 0, 0⟩,
      ⟨(some 28), none, .p (.indexAddr 1 (.tmp 27) (.const (.int .i64 0))), 0, 0⟩,
      ⟨(some 29), none, .r (.load1 (.tmp 28)), 0, 0⟩,
      ⟨(some 30), none, .p (.indexAddr 1 (.tmp 25) (.tmp 29)), 0, 0⟩,
      ⟨(some 31), none, .r (.load1 (.tmp 30)), 0, 0⟩,
      ⟨(some 32), none, .call (.func 40) [(.tmp 24), (.tmp 31)], 0, 0⟩,
      ⟨(some 6), none, .p (.mov (.tmp 32)), 0, 0⟩])
     .ret)
     (.seq (.seq (.ops [⟨(some 34), none, .p (.bin .eql (.tmp 11) (.const (.int .i64 4))), 0, 0⟩,
      ⟨(some 33), none, .p (.mov (.tmp 34)), 0, 0⟩])
     (.cond (.tmp 33)
      .skip
      (.ops [⟨(some 35), none, .p (.bin .eql (.tmp 11) (.const (.int .i64 5))), 0, 0⟩,
       ⟨(some 33), none, .p (.mov (.tmp 35)), 0, 0⟩])))
     (.cond (.tmp 33)
      (.seq (.ops [⟨(some 36), none, .p (.fieldAddr 3 (.tmp 4)), 0, 0⟩,
       ⟨(some 37), none, .r (.load1 (.tmp 36)), 0, 0⟩,
       ⟨(some 38), none, .p (.lenSlice (.tmp 37)), 0, 0⟩,
       ⟨(some 39), none, .n (.makeSlice 1 8 [(.int .i64 0)] 3 (.tmp 38) (.tmp 38)), 0, 0⟩,
       ⟨(some 7), none, .p (.mov (.tmp 39)), 0, 0⟩])
      (.seq (.seq (.ops [⟨(some 40), none, .p (.fieldAddr 3 (.tmp 4)), 0, 0⟩,
       ⟨(some 41), none, .r (.load1 (.tmp 40)), 0, 0⟩,
       ⟨(some 42), none, .p (.lenSlice (.tmp 41)), 0, 0⟩,
       ⟨(some 43), none, .p (.mov (.const (.int .i64 0))), 0, 0⟩])
      (.block 1
       (.loop
        (.seq (.ops [⟨(some 44), none, .p (.bin .lss (.tmp 43) (.tmp 42)), 0, 0⟩])
        (.seq (.cond (.tmp 44)
         .skip
         (.exit 1))
        (.seq (.block 2
         (.seq (.ops [⟨(some 45), none, .p (.mov (.tmp 43)), 0, 0⟩,
          ⟨(some 46), none, .p (.indexAddr 1 (.tmp 41) (.tmp 43)), 0, 0⟩,
          ⟨(some 47), none, .r (.load1 (.tmp 46)), 0, 0⟩,
          ⟨(some 8), none, .p (.mov (.tmp 45)), 0, 0⟩,
          ⟨(some 9), none, .p (.mov (.tmp 47)), 0, 0⟩])
         (.ops [⟨(some 48), none, .p (.mov (.tmp 7)), 0, 0⟩,
          ⟨(some 49), none, .p (.mov (.tmp 8)), 0, 0⟩,
          ⟨(some 50), none, .p (.mov (.tmp 2)), 0, 0⟩,
          ⟨(some 51), none, .p (.mov (.tmp 9)), 0, 0⟩,
          ⟨(some 52), none, .p (.indexAddr 1 (.tmp 50) (.tmp 51)), 0, 0⟩,
          ⟨(some 53), none, .r (.load1 (.tmp 52)), 0, 0⟩,
          ⟨(some 54), none, .p (.indexAddr 1 (.tmp 48) (.tmp 49)), 0, 0⟩,
          ⟨none, none, .e (.store 1 (.tmp 54) (.tmp 53)), 0, 0⟩])))
        (.ops [⟨(some 55), none, .p (.bin .add (.tmp 43) (.const (.int .i64 1))), 0, 0⟩,
         ⟨(some 43), none, .p (.mov (.tmp 55)), 0, 0⟩])))))))
      (.seq (.ops [⟨(some 56), none, .p (.mov (.tmp 0)), 0, 0⟩,
       ⟨(some 57), none, .p (.fieldAddr 0 (.tmp 4)), 0, 0⟩,
       ⟨(some 58), none, .r (.load1 (.tmp 57)), 0, 0⟩,
       ⟨(some 59), none, .p (.mov (.tmp 7)), 0, 0⟩,
       ⟨(some 60), none, .call (.func 41) [(.tmp 56), (.tmp 58), (.tmp 59)], 0, 0⟩,
       ⟨(some 6), none, .p (.mov (.tmp 60)), 0, 0⟩])
      .ret)))
      .skip))))))))))
 (.seq (.ops [⟨(some 6), none, .p (.mov (.const (.int .i64 0))), 0, 0⟩])
 .ret))),
 [.tmp 6]⟩

/-- (*credence/formula.Store).has -/
def ir36 : IFn := ⟨16,
 (.seq (.ops [⟨(some 4), none, .p (.mov (.const (.bool false))), 0, 0⟩])
 (.seq (.ops [⟨(some 5), none, .p (.mov (.tmp 1)), 0, 0⟩,
  ⟨(some 6), none, .p (.bin .geq (.tmp 5) (.const (.int .i64 0))), 0, 0⟩,
  ⟨(some 7), none, .p (.mov (.tmp 6)), 0, 0⟩,
  ⟨(some 8), (some (7, true)), .p (.mov (.tmp 1)), 0, 0⟩,
  ⟨(some 9), (some (7, true)), .p (.mov (.tmp 0)), 0, 0⟩,
  ⟨(some 10), (some (7, true)), .p (.nilCheck (.tmp 9)), 0, 0⟩,
  ⟨(some 11), (some (7, true)), .p (.fieldAddr 0 (.tmp 10)), 0, 0⟩,
  ⟨(some 12), (some (7, true)), .r (.load1 (.tmp 11)), 0, 0⟩,
  ⟨(some 13), (some (7, true)), .p (.lenSlice (.tmp 12)), 0, 0⟩,
  ⟨(some 14), (some (7, true)), .p (.bin .lss (.tmp 8) (.tmp 13)), 0, 0⟩,
  ⟨(some 15), none, .p (.pick (.tmp 7) (.tmp 14) (.const (.bool false))), 0, 0⟩,
  ⟨(some 4), none, .p (.mov (.tmp 15)), 0, 0⟩])
 .ret)),
 [.tmp 4]⟩

/-- (*credence/formula.Store).cone -/
def ir37 : IFn := ⟨64,
 (.seq (.ops [⟨(some 4), none, .p (.mov (.const (.slice none 0 0))), 0, 0⟩,
  ⟨(some 5), none, .p (.mov (.const (.bool false))), 0, 0⟩])
 (.seq (.ops [⟨(some 14), none, .n (.makeMap none), 0, 0⟩,
  ⟨(some 15), none, .p (.mov (.tmp 1)), 0, 0⟩,
  ⟨none, none, .e (.mapUpdate .int (.tmp 14) (.tmp 15) (.const (.bool true))), 0, 0⟩,
  ⟨(some 16), none, .p (.mov (.tmp 14)), 0, 0⟩,
  ⟨(some 6), none, .p (.mov (.tmp 16)), 0, 0⟩])
 (.seq (.ops [⟨(some 17), none, .p (.mov (.tmp 1)), 0, 0⟩,
  ⟨(some 18), none, .n (.buildSlice 1 1 [(.int .i64 0)] 3 [(0, 1, (.tmp 17))]), 0, 0⟩,
  ⟨(some 7), none, .p (.mov (.tmp 18)), 0, 0⟩])
 (.seq (.ops [⟨(some 8), none, .p (.mov (.const (.int .i64 0))), 0, 0⟩])
 (.seq (.seq (.ops [⟨(some 9), none, .p (.mov (.const (.int .i64 0))), 0, 0⟩])
 (.block 0
  (.loop
   (.seq (.seq (.ops [⟨(some 19), none, .p (.mov (.tmp 9)), 0, 0⟩,
    ⟨(some 20), none, .p (.mov (.tmp 7)), 0, 0⟩,
    ⟨(some 21), none, .p (.lenSlice (.tmp 20)), 0, 0⟩,
    ⟨(some 22), none, .p (.bin .lss (.tmp 19) (.tmp 21)), 0, 0⟩])
   (.cond (.tmp 22)
    .skip
    (.exit 0)))
   (.seq (.block 1
    (.seq (.ops [⟨(some 25), none, .p (.mov (.tmp 0)), 0, 0⟩,
     ⟨(some 26), none, .p (.mov (.tmp 7)), 0, 0⟩,
     ⟨(some 27), none, .p (.mov (.tmp 9)), 0, 0⟩,
     ⟨(some 28), none, .p (.indexAddr 1 (.tmp 26) (.tmp 27)), 0, 0⟩,
     ⟨(some 29), none, .r (.load1 (.tmp 28)), 0, 0⟩,
     ⟨(some 30), none, .call (.func 42) [(.tmp 25), (.tmp 29)], 0, 0⟩,
     ⟨(some 10), none, .p (.mov (.tmp 30)), 0, 0⟩])
    (.seq (.ops [⟨(some 31), none, .p (.mov (.tmp 8)), 0, 0⟩,
     ⟨(some 32), none, .p (.mov (.tmp 10)), 0, 0⟩,
     ⟨(some 33), none, .p (.lenSlice (.tmp 32)), 0, 0⟩,
     ⟨(some 34), none, .p (.bin .add (.tmp 31) (.tmp 33)), 0, 0⟩,
     ⟨(some 8), none, .p (.mov (.tmp 34)), 0, 0⟩])
    (.seq (.seq (.ops [⟨(some 35), none, .p (.mov (.tmp 10)), 0, 0⟩,
     ⟨(some 36), none, .p (.lenSlice (.tmp 35)), 0, 0⟩,
     ⟨(some 37), none, .p (.mov (.const (.int .i64 0))), 0, 0⟩])
    (.block 2
     (.loop
      (.seq (.ops [⟨(some 38), none, .p (.bin .lss (.tmp 37) (.tmp 36)), 0, 0⟩])
      (.seq (.cond (.tmp 38)
       .skip
       (.exit 2))
      (.seq (.block 3
       (.seq (.ops [⟨(some 39), none, .p (.indexAddr 1 (.tmp 35) (.tmp 37)), 0, 0⟩,
        ⟨(some 40), none, .r (.load1 (.tmp 39)), 0, 0⟩,
        ⟨(some 12), none, .p (.mov (.tmp 40)), 0, 0⟩])
       (.seq (.ops [⟨(some 41), none, .p (.mov (.tmp 12)), 0, 0⟩,
        ⟨(some 42), none, .p (.conv .i64 (.tmp 41)), 0, 0⟩,
        ⟨(some 13), none, .p (.mov (.tmp 42)), 0, 0⟩])
       (.seq (.ops [⟨(some 43), none, .p (.mov (.tmp 6)), 0, 0⟩,
        ⟨(some 44), none, .p (.mov (.tmp 13)), 0, 0⟩,
        ⟨(some 45), none, .r (.lookup .int (.bool false) (.tmp 43) (.tmp 44) false), 0, 0⟩,
        ⟨(some 46), none, .p (.not (.tmp 45)), 0, 0⟩])
       (.cond (.tmp 46)
        (.seq (.ops [⟨(some 47), none, .p (.mov (.tmp 6)), 0, 0⟩,
         ⟨(some 48), none, .p (.mov (.tmp 13)), 0, 0⟩,
         ⟨none, none, .e (.mapUpdate .int (.tmp 47) (.tmp 48) (.const (.bool true))), 0, 0⟩])
        (.ops [⟨(some 49), none, .p (.mov (.tmp 7)), 0, 0⟩,
         ⟨(some 50), none, .p (.mov (.tmp 13)), 0, 0⟩,
         ⟨(some 51), none, .n (.buildSlice 1 1 [(.int .i64 0)] 3 [(0, 1, (.tmp 50))]), 0, 0⟩,
         ⟨(some 52), none, .e (.append 1 3 (.tmp 49) (.tmp 51)), 0, 0⟩,
         ⟨(some 7), none, .p (.mov (.tmp 52)), 0, 0⟩]))
        .skip)))))
      (.ops [⟨(some 53), none, .p (.bin .add (.tmp 37) (.const (.int .i64 1))), 0, 0⟩,
       ⟨(some 37), none, .p (.mov (.tmp 53)), 0, 0⟩])))))))
    (.seq (.ops [⟨(some 54), none, .p (.mov (.tmp 8)), 0, 0⟩,
     ⟨(some 55), none, .p (.bin .gtr (.tmp 54) (.const (.int .i64 33554432))), 0, 0⟩,
     ⟨(some 56), none, .p (.mov (.tmp 55)), 0, 0⟩,
     ⟨(some 57), (some (56, false)), .p (.mov (.tmp 7)), 0, 0⟩,
     ⟨(some 58), (some (56, false)), .p (.lenSlice (.tmp 57)), 0, 0⟩,
     ⟨(some 59), (some (56, false)), .p (.bin .gtr (.tmp 58) (.const (.int .i64 65536))), 0, 0⟩,
     ⟨(some 60), none, .p (.pick (.tmp 56) (.const (.bool true)) (.tmp 59)), 0, 0⟩])
    (.cond (.tmp 60)
     (.seq (.ops [⟨(some 4), none, .p (.mov (.const (.slice none 0 0))), 0, 0⟩,
      ⟨(some 5), none, .p (.mov (.const (.bool false))), 0, 0⟩])
     .ret)
     .skip))))))
   (.ops [⟨(some 23), none, .p (.mov (.tmp 9)), 0, 0⟩,
    ⟨(some 24), none, .p (.bin .add (.tmp 23) (.const (.int .i64 1))), 0, 0⟩,
    ⟨(some 9), none, .p (.mov (.tmp 24)), 0, 0⟩]))))))
 (.seq (.ops [⟨(some 61), none, .p (.mov (.tmp 7)), 0, 0⟩,
  ⟨(some 62), none, .call (.func 43) [(.tmp 61)], 0, 0⟩])
 (.seq (.ops [⟨(some 63), none, .p (.mov (.tmp 7)), 0, 0⟩,
  ⟨(some 4), none, .p (.mov (.tmp 63)), 0, 0⟩,
  ⟨(some 5), none, .p (.mov (.const (.bool true))), 0, 0⟩])
 .ret))))))),
 [.tmp 4, .tmp 5]⟩

/-- (*credence/formula.Store).Node -/
def ir38 : IFn := ⟨56,
 (.seq (.ops [⟨(some 4), none, .n (.alloc [(.int .i64 0), (.int .i64 0), (.int .i64 0), (.slice none 0 0)] 39), 0, 0⟩,
  ⟨(some 5), none, .p (.mov (.const (.bool false))), 0, 0⟩])
 (.seq (.seq (.ops [⟨(some 10), none, .p (.mov (.tmp 0)), 0, 0⟩,
  ⟨(some 11), none, .p (.mov (.tmp 1)), 0, 0⟩,
  ⟨(some 12), none, .call (.func 36) [(.tmp 10), (.tmp 11)], 0, 0⟩,
  ⟨(some 13), none, .p (.not (.tmp 12)), 0, 0⟩])
 (.cond (.tmp 13)
  (.seq (.ops [⟨(some 14), none, .p (.build [(.int .i64 0), (.int .i64 0), (.int .i64 0), (.slice none 0 0)] []), 0, 0⟩,
   ⟨none, none, .e (.store 4 (.tmp 4) (.tmp 14)), 0, 0⟩,
   ⟨(some 5), none, .p (.mov (.const (.bool false))), 0, 0⟩])
  .ret)
  .skip))
 (.seq (.ops [⟨(some 15), none, .p (.mov (.tmp 0)), 0, 0⟩,
  ⟨(some 16), none, .p (.nilCheck (.tmp 15)), 0, 0⟩,
  ⟨(some 17), none, .p (.fieldAddr 0 (.tmp 16)), 0, 0⟩,
  ⟨(some 18), none, .r (.load1 (.tmp 17)), 0, 0⟩,
  ⟨(some 19), none, .p (.mov (.tmp 1)), 0, 0⟩,
  ⟨(some 20), none, .p (.indexAddr 5 (.tmp 18) (.tmp 19)), 0, 0⟩,
  ⟨(some 21), none, .r (.loadA 5 (.tmp 20)), 0, 0⟩,
  ⟨(some 6), none, .n (.alloc [(.int .i64 0), (.int .i32 0), (.int .i16 0), (.int .i8 0), (.int .i8 0)] 72), 0, 0⟩,
  ⟨none, none, .e (.store 5 (.tmp 6) (.tmp 21)), 0, 0⟩])
 (.seq (.ops [⟨(some 22), none, .p (.fieldAddr 3 (.tmp 6)), 0, 0⟩,
  ⟨(some 23), none, .r (.load1 (.tmp 22)), 0, 0⟩,
  ⟨(some 24), none, .p (.conv .i64 (.tmp 23)), 0, 0⟩,
  ⟨(some 25), none, .p (.fieldAddr 2 (.tmp 6)), 0, 0⟩,
  ⟨(some 26), none, .r (.load1 (.tmp 25)), 0, 0⟩,
  ⟨(some 27), none, .p (.conv .i64 (.tmp 26)), 0, 0⟩,
  ⟨(some 28), none, .p (.fieldAddr 4 (.tmp 6)), 0, 0⟩,
  ⟨(some 29), none, .r (.load1 (.tmp 28)), 0, 0⟩,
  ⟨(some 30), none, .p (.conv .i64 (.tmp 29)), 0, 0⟩,
  ⟨(some 31), none, .p (.build [(.int .i64 0), (.int .i64 0), (.int .i64 0), (.slice none 0 0)] [(0, 1, (.tmp 24)), (1, 1, (.tmp 27)), (2, 1, (.tmp 30))]), 0, 0⟩,
  ⟨(some 7), none, .n (.alloc [(.int .i64 0), (.int .i64 0), (.int .i64 0), (.slice none 0 0)] 39), 0, 0⟩,
  ⟨none, none, .e (.store 4 (.tmp 7) (.tmp 31)), 0, 0⟩])
 (.seq (.seq (.ops [⟨(some 32), none, .p (.fieldAddr 1 (.tmp 6)), 0, 0⟩,
  ⟨(some 33), none, .r (.load1 (.tmp 32)), 0, 0⟩,
  ⟨(some 34), none, .p (.bin .gtr (.tmp 33) (.const (.int .i32 0))), 0, 0⟩])
 (.cond (.tmp 34)
  (.seq (.ops [⟨(some 35), none, .p (.fieldAddr 1 (.tmp 6)), 0, 0⟩,
   ⟨(some 36), none, .r (.load1 (.tmp 35)), 0, 0⟩,
   ⟨(some 37), none, .n (.makeSlice 1 8 [(.int .i64 0)] 3 (.tmp 36) (.tmp 36)), 0, 0⟩,
   ⟨(some 38), none, .p (.fieldAddr 3 (.tmp 7)), 0, 0⟩,
   ⟨none, none, .e (.store 1 (.tmp 38) (.tmp 37)), 0, 0⟩])
  (.seq (.ops [⟨(some 39), none, .p (.mov (.tmp 0)), 0, 0⟩,
   ⟨(some 40), none, .p (.mov (.tmp 1)), 0, 0⟩,
   ⟨(some 41), none, .call (.func 42) [(.tmp 39), (.tmp 40)], 0, 0⟩,
   ⟨(some 42), none, .p (.lenSlice (.tmp 41)), 0, 0⟩,
   ⟨(some 43), none, .p (.mov (.const (.int .i64 0))), 0, 0⟩])
  (.block 0
   (.loop
    (.seq (.ops [⟨(some 44), none, .p (.bin .lss (.tmp 43) (.tmp 42)), 0, 0⟩])
    (.seq (.cond (.tmp 44)
     .skip
     (.exit 0))
    (.seq (.block 1
     (.seq (.ops [⟨(some 45), none, .p (.mov (.tmp 43)), 0, 0⟩,
      ⟨(some 46), none, .p (.indexAddr 1 (.tmp 41) (.tmp 43)), 0, 0⟩,
      ⟨(some 47), none, .r (.load1 (.tmp 46)), 0, 0⟩,
      ⟨(some 8), none, .p (.mov (.tmp 45)), 0, 0⟩,
      ⟨(some 9), none, .p (.mov (.tmp 47)), 0, 0⟩])
     (.ops [⟨(some 48), none, .p (.fieldAddr 3 (.tmp 7)), 0, 0⟩,
      ⟨(some 49), none, .r (.load1 (.tmp 48)), 0, 0⟩,
      ⟨(some 50), none, .p (.mov (.tmp 8)), 0, 0⟩,
      ⟨(some 51), none, .p (.mov (.tmp 9)), 0, 0⟩,
      ⟨(some 52), none, .p (.conv .i64 (.tmp 51)), 0, 0⟩,
      ⟨(some 53), none, .p (.indexAddr 1 (.tmp 49) (.tmp 50)), 0, 0⟩,
      ⟨none, none, .e (.store 1 (.tmp 53) (.tmp 52)), 0, 0⟩])))
    (.ops [⟨(some 54), none, .p (.bin .add (.tmp 43) (.const (.int .i64 1))), 0, 0⟩,
     ⟨(some 43), none, .p (.mov (.tmp 54)), 0, 0⟩]))))))))
  .skip))
 (.seq (.ops [⟨(some 55), none, .r (.loadA 4 (.tmp 7)), 0, 0⟩,
  ⟨none, none, .e (.store 4 (.tmp 4) (.tmp 55)), 0, 0⟩,
  ⟨(some 5), none, .p (.mov (.const (.bool true))), 0, 0⟩])
 .ret)))))),
 [.cell 4 4, .tmp 5]⟩

/-- (*credence/formula.Store).Pick -/
def ir39 : IFn := ⟨15,
 (.seq (.ops [⟨(some 6), none, .p (.mov (.const (.int .i64 0))), 0, 0⟩])
 (.seq (.seq (.ops [⟨(some 7), none, .p (.mov (.tmp 1)), 0, 0⟩,
  ⟨(some 8), none, .p (.mov (.tmp 2)), 0, 0⟩,
  ⟨(some 9), none, .call (.func 34) [(.tmp 7), (.tmp 8)], 0, 0⟩,
  ⟨(some 10), none, .p (.not (.tmp 9)), 0, 0⟩])
 (.cond (.tmp 10)
  (.seq (.ops [⟨(some 6), none, .p (.mov (.const (.int .i64 (-1)))), 0, 0⟩])
  .ret)
  .skip))
 (.seq (.ops [⟨(some 11), none, .p (.mov (.tmp 0)), 0, 0⟩,
  ⟨(some 12), none, .p (.mov (.tmp 1)), 0, 0⟩,
  ⟨(some 13), none, .p (.mov (.tmp 2)), 0, 0⟩,
  ⟨(some 14), none, .call (.func 44) [(.tmp 11), (.const (.int .i64 2)), (.tmp 12), (.tmp 13), (.const (.slice none 0 0))], 0, 0⟩,
  ⟨(some 6), none, .p (.mov (.tmp 14)), 0, 0⟩])
 .ret))),
 [.tmp 6]⟩

/-- (*credence/formula.Store).Not -/
def ir40 : IFn := ⟨32,
 (.seq (.ops [⟨(some 4), none, .p (.mov (.const (.int .i64 0))), 0, 0⟩])
 (.seq (.seq (.ops [⟨(some 5), none, .p (.mov (.tmp 0)), 0, 0⟩,
  ⟨(some 6), none, .p (.mov (.tmp 1)), 0, 0⟩,
  ⟨(some 7), none, .call (.func 36) [(.tmp 5), (.tmp 6)], 0, 0⟩,
  ⟨(some 8), none, .p (.not (.tmp 7)), 0, 0⟩])
 (.cond (.tmp 8)
  (.seq (.ops [⟨(some 4), none, .p (.mov (.const (.int .i64 (-1)))), 0, 0⟩])
  .ret)
  .skip))
 (.seq (.seq (.ops [⟨(some 9), none, .p (.mov (.tmp 1)), 0, 0⟩,
  ⟨(some 10), none, .p (.bin .lss (.tmp 9) (.const (.int .i64 2))), 0, 0⟩])
 (.cond (.tmp 10)
  (.seq (.ops [⟨(some 11), none, .p (.mov (.tmp 1)), 0, 0⟩,
   ⟨(some 12), none, .p (.bin .sub (.const (.int .i64 1)) (.tmp 11)), 0, 0⟩,
   ⟨(some 4), none, .p (.mov (.tmp 12)), 0, 0⟩])
  .ret)
  .skip))
 (.seq (.seq (.ops [⟨(some 13), none, .p (.mov (.tmp 0)), 0, 0⟩,
  ⟨(some 14), none, .p (.nilCheck (.tmp 13)), 0, 0⟩,
  ⟨(some 15), none, .p (.fieldAddr 0 (.tmp 14)), 0, 0⟩,
  ⟨(some 16), none, .r (.load1 (.tmp 15)), 0, 0⟩,
  ⟨(some 17), none, .p (.mov (.tmp 1)), 0, 0⟩,
  ⟨(some 18), none, .p (.indexAddr 5 (.tmp 16) (.tmp 17)), 0, 0⟩,
  ⟨(some 19), none, .p (.fieldAddr 3 (.tmp 18)), 0, 0⟩,
  ⟨(some 20), none, .r (.load1 (.tmp 19)), 0, 0⟩,
  ⟨(some 21), none, .p (.bin .eql (.tmp 20) (.const (.int .i8 3))), 0, 0⟩])
 (.cond (.tmp 21)
  (.seq (.ops [⟨(some 22), none, .p (.mov (.tmp 0)), 0, 0⟩,
   ⟨(some 23), none, .p (.mov (.tmp 1)), 0, 0⟩,
   ⟨(some 24), none, .call (.func 42) [(.tmp 22), (.tmp 23)], 0, 0⟩,
   ⟨(some 25), none, .p (.indexAddr 1 (.tmp 24) (.const (.int .i64 0))), 0, 0⟩,
   ⟨(some 26), none, .r (.load1 (.tmp 25)), 0, 0⟩,
   ⟨(some 27), none, .p (.conv .i64 (.tmp 26)), 0, 0⟩,
   ⟨(some 4), none, .p (.mov (.tmp 27)), 0, 0⟩])
  .ret)
  .skip))
 (.seq (.ops [⟨(some 28), none, .p (.mov (.tmp 0)), 0, 0⟩,
  ⟨(some 29), none, .p (.mov (.tmp 1)), 0, 0⟩,
  ⟨(some 30), none, .n (.buildSlice 1 1 [(.int .i64 0)] 3 [(0, 1, (.tmp 29))]), 0, 0⟩,
  ⟨(some 31), none, .call (.func 44) [(.tmp 28), (.const (.int .i64 3)), (.const (.int .i64 0)), (.const (.int .i64 0)), (.tmp 30)], 0, 0⟩,
  ⟨(some 4), none, .p (.mov (.tmp 31)), 0, 0⟩])
 .ret))))),
 [.tmp 4]⟩

/-- (*credence/formula.Store).combine -/
def ir41 : IFn := ⟨66,
 (.seq (.ops [⟨(some 6), none, .p (.mov (.const (.int .i64 0))), 0, 0⟩])
 (.seq (.seq (.ops [⟨(some 12), none, .p (.mov (.tmp 2)), 0, 0⟩,
  ⟨(some 13), none, .p (.lenSlice (.tmp 12)), 0, 0⟩,
  ⟨(some 14), none, .p (.mov (.const (.int .i64 0))), 0, 0⟩])
 (.block 0
  (.loop
   (.seq (.ops [⟨(some 15), none, .p (.bin .lss (.tmp 14) (.tmp 13)), 0, 0⟩])
   (.seq (.cond (.tmp 15)
    .skip
    (.exit 0))
   (.seq (.block 1
    (.seq (.ops [⟨(some 16), none, .p (.indexAddr 1 (.tmp 12) (.tmp 14)), 0, 0⟩,
     ⟨(some 17), none, .r (.load1 (.tmp 16)), 0, 0⟩,
     ⟨(some 8), none, .p (.mov (.tmp 17)), 0, 0⟩])
    (.seq (.ops [⟨(some 18), none, .p (.mov (.tmp 0)), 0, 0⟩,
     ⟨(some 19), none, .p (.mov (.tmp 8)), 0, 0⟩,
     ⟨(some 20), none, .call (.func 36) [(.tmp 18), (.tmp 19)], 0, 0⟩,
     ⟨(some 21), none, .p (.not (.tmp 20)), 0, 0⟩])
    (.cond (.tmp 21)
     (.seq (.ops [⟨(some 6), none, .p (.mov (.const (.int .i64 (-1)))), 0, 0⟩])
     .ret)
     .skip))))
   (.ops [⟨(some 22), none, .p (.bin .add (.tmp 14) (.const (.int .i64 1))), 0, 0⟩,
    ⟨(some 14), none, .p (.mov (.tmp 22)), 0, 0⟩])))))))
 (.seq (.ops [⟨(some 9), none, .p (.mov (.const (.int .i64 1))), 0, 0⟩,
  ⟨(some 10), none, .p (.mov (.const (.int .i64 0))), 0, 0⟩])
 (.seq (.seq (.ops [⟨(some 23), none, .p (.mov (.tmp 1)), 0, 0⟩,
  ⟨(some 24), none, .p (.bin .eql (.tmp 23) (.const (.int .i64 5))), 0, 0⟩])
 (.cond (.tmp 24)
  (.ops [⟨(some 9), none, .p (.mov (.const (.int .i64 0))), 0, 0⟩,
   ⟨(some 10), none, .p (.mov (.const (.int .i64 1))), 0, 0⟩])
  .skip))
 (.seq (.ops [⟨(some 25), none, .p (.mov (.tmp 0)), 0, 0⟩,
  ⟨(some 26), none, .p (.mov (.tmp 1)), 0, 0⟩,
  ⟨(some 27), none, .p (.mov (.tmp 9)), 0, 0⟩,
  ⟨(some 28), none, .p (.mov (.tmp 2)), 0, 0⟩,
  ⟨(some 29), none, .call (.func 45) [(.tmp 25), (.tmp 26), (.tmp 27), (.tmp 28)], 0, 0⟩,
  ⟨(some 11), none, .p (.mov (.tmp 29)), 0, 0⟩])
 (.seq (.seq (.ops [⟨(some 30), none, .p (.mov (.tmp 11)), 0, 0⟩,
  ⟨(some 31), none, .p (.lenSlice (.tmp 30)), 0, 0⟩,
  ⟨(some 32), none, .p (.bin .gtr (.tmp 31) (.const (.int .i64 0))), 0, 0⟩,
  ⟨(some 33), none, .p (.mov (.tmp 32)), 0, 0⟩,
  ⟨(some 34), (some (33, true)), .p (.mov (.tmp 11)), 0, 0⟩,
  ⟨(some 35), (some (33, true)), .p (.indexAddr 1 (.tmp 34) (.const (.int .i64 0))), 0, 0⟩,
  ⟨(some 36), (some (33, true)), .r (.load1 (.tmp 35)), 0, 0⟩,
  ⟨(some 37), (some (33, true)), .p (.mov (.tmp 10)), 0, 0⟩,
  ⟨(some 38), (some (33, true)), .p (.bin .eql (.tmp 36) (.tmp 37)), 0, 0⟩,
  ⟨(some 39), none, .p (.pick (.tmp 33) (.tmp 38) (.const (.bool false))), 0, 0⟩,
  ⟨(some 40), none, .p (.mov (.tmp 39)), 0, 0⟩,
  ⟨(some 41), (some (40, false)), .p (.mov (.tmp 0)), 0, 0⟩,
  ⟨(some 42), (some (40, false)), .p (.mov (.tmp 11)), 0, 0⟩,
  ⟨(some 43), (some (40, false)), .call (.func 46) [(.tmp 41), (.tmp 42)], 0, 0⟩,
  ⟨(some 44), none, .p (.pick (.tmp 40) (.const (.bool true)) (.tmp 43)), 0, 0⟩,
  ⟨(some 45), none, .p (.mov (.tmp 44)), 0, 0⟩,
  ⟨(some 46), (some (45, false)), .p (.mov (.tmp 0)), 0, 0⟩,
  ⟨(some 47), (some (45, false)), .p (.mov (.tmp 1)), 0, 0⟩,
  ⟨(some 48), (some (45, false)), .p (.mov (.tmp 11)), 0, 0⟩,
  ⟨(some 49), (some (45, false)), .call (.func 47) [(.tmp 46), (.tmp 47), (.tmp 48)], 0, 0⟩,
  ⟨(some 50), none, .p (.pick (.tmp 45) (.const (.bool true)) (.tmp 49)), 0, 0⟩])
 (.cond (.tmp 50)
  (.seq (.ops [⟨(some 51), none, .p (.mov (.tmp 10)), 0, 0⟩,
   ⟨(some 6), none, .p (.mov (.tmp 51)), 0, 0⟩])
  .ret)
  .skip))
 (.seq (.seq (.ops [⟨(some 52), none, .p (.mov (.tmp 11)), 0, 0⟩,
  ⟨(some 53), none, .p (.lenSlice (.tmp 52)), 0, 0⟩])
 (.block 2
  (.seq (.ops [⟨(some 55), none, .p (.bin .eql (.tmp 53) (.const (.int .i64 0))), 0, 0⟩,
   ⟨(some 54), none, .p (.mov (.tmp 55)), 0, 0⟩])
  (.cond (.tmp 54)
   (.seq (.ops [⟨(some 56), none, .p (.mov (.tmp 9)), 0, 0⟩,
    ⟨(some 6), none, .p (.mov (.tmp 56)), 0, 0⟩])
   .ret)
   (.seq (.ops [⟨(some 58), none, .p (.bin .eql (.tmp 53) (.const (.int .i64 1))), 0, 0⟩,
    ⟨(some 57), none, .p (.mov (.tmp 58)), 0, 0⟩])
   (.cond (.tmp 57)
    (.seq (.ops [⟨(some 59), none, .p (.mov (.tmp 11)), 0, 0⟩,
     ⟨(some 60), none, .p (.indexAddr 1 (.tmp 59) (.const (.int .i64 0))), 0, 0⟩,
     ⟨(some 61), none, .r (.load1 (.tmp 60)), 0, 0⟩,
     ⟨(some 6), none, .p (.mov (.tmp 61)), 0, 0⟩])
    .ret)
    .skip))))))
 (.seq (.ops [⟨(some 62), none, .p (.mov (.tmp 0)), 0, 0⟩,
  ⟨(some 63), none, .p (.mov (.tmp 1)), 0, 0⟩,
  ⟨(some 64), none, .p (.mov (.tmp 11)), 0, 0⟩,
  ⟨(some 65), none, .call (.func 44) [(.tmp 62), (.tmp 63), (.const (.int .i64 0)), (.const (.int .i64 0)), (.tmp 64)], 0, 0⟩,
  ⟨(some 6), none, .p (.mov (.tmp 65)), 0, 0⟩])
 .ret)))))))),
 [.tmp 6]⟩

/-- (*credence/formula.Store).inputsOf -/
def ir42 : IFn := ⟨26,
 (.seq (.ops [⟨(some 4), none, .p (.mov (.const (.slice none 0 0))), 0, 0⟩])
 (.seq (.ops [⟨(some 6), none, .p (.mov (.tmp 0)), 0, 0⟩,
  ⟨(some 7), none, .p (.nilCheck (.tmp 6)), 0, 0⟩,
  ⟨(some 8), none, .p (.fieldAddr 0 (.tmp 7)), 0, 0⟩,
  ⟨(some 9), none, .r (.load1 (.tmp 8)), 0, 0⟩,
  ⟨(some 10), none, .p (.mov (.tmp 1)), 0, 0⟩,
  ⟨(some 11), none, .p (.indexAddr 5 (.tmp 9) (.tmp 10)), 0, 0⟩,
  ⟨(some 12), none, .r (.loadA 5 (.tmp 11)), 0, 0⟩,
  ⟨(some 5), none, .n (.alloc [(.int .i64 0), (.int .i32 0), (.int .i16 0), (.int .i8 0), (.int .i8 0)] 72), 0, 0⟩,
  ⟨none, none, .e (.store 5 (.tmp 5) (.tmp 12)), 0, 0⟩])
 (.seq (.drawn [⟨(some 13), none, .p (.mov (.tmp 0)), 0, 0⟩,
  ⟨(some 14), none, .p (.nilCheck (.tmp 13)), 0, 0⟩,
  ⟨(some 15), none, .p (.fieldAddr 1 (.tmp 14)), 0, 0⟩,
  ⟨(some 16), none, .r (.load1 (.tmp 15)), 0, 0⟩,
  ⟨(some 17), none, .p (.fieldAddr 0 (.tmp 5)), 0, 0⟩,
  ⟨(some 18), none, .r (.load1 (.tmp 17)), 0, 0⟩,
  ⟨(some 19), none, .p (.fieldAddr 0 (.tmp 5)), 0, 0⟩,
  ⟨(some 20), none, .r (.load1 (.tmp 19)), 0, 0⟩,
  ⟨(some 21), none, .p (.fieldAddr 1 (.tmp 5)), 0, 0⟩,
  ⟨(some 22), none, .r (.load1 (.tmp 21)), 0, 0⟩,
  ⟨(some 23), none, .p (.conv .i64 (.tmp 22)), 0, 0⟩,
  ⟨(some 24), none, .p (.bin .add (.tmp 20) (.tmp 23)), 0, 0⟩,
  ⟨(some 25), none, .p (.slice 1 (.tmp 16) (some (.tmp 18)) (some (.tmp 24)) none), 0, 0⟩,
  ⟨(some 4), none, .p (.mov (.tmp 25)), 0, 0⟩])
 .ret))),
 [.tmp 4]⟩

/-- slices.Sort[[]int,int] -/
def ir43 : IFn := ⟨11,
 (.seq (.ops [⟨(some 3), none, .p (.mov (.tmp 0)), 0, 0⟩,
  ⟨(some 4), none, .p (.lenSlice (.tmp 3)), 0, 0⟩,
  ⟨(some 2), none, .p (.mov (.tmp 4)), 0, 0⟩])
 (.ops [⟨(some 5), none, .p (.mov (.tmp 0)), 0, 0⟩,
  ⟨(some 6), none, .p (.mov (.tmp 2)), 0, 0⟩,
  ⟨(some 7), none, .p (.mov (.tmp 2)), 0, 0⟩,
  ⟨(some 8), none, .p (.conv .u64 (.tmp 7)), 0, 0⟩,
  ⟨(some 9), none, .call (.func 49) [(.tmp 8)], 0, 0⟩,
  ⟨(some 10), none, .call (.func 48) [(.tmp 5), (.const (.int .i64 0)), (.tmp 6), (.tmp 9)], 0, 0⟩])),
 []⟩

/-- (*credence/formula.Store).intern -/
def ir44 : IFn := ⟨143,
 (.seq (.ops [⟨(some 9), none, .n (.box (.tmp 4) 22), 0, 0⟩,
  ⟨(some 10), none, .p (.mov (.const (.int .i64 0))), 0, 0⟩])
 (.seq (.ops [⟨(some 17), none, .p (.mov (.tmp 0)), 0, 0⟩,
  ⟨(some 18), none, .p (.nilCheck (.tmp 17)), 0, 0⟩,
  ⟨(some 19), none, .p (.fieldAddr 2 (.tmp 18)), 0, 0⟩,
  ⟨(some 20), none, .r (.load1 (.tmp 19)), 0, 0⟩,
  ⟨(some 21), none, .p (.lenSlice (.tmp 20)), 0, 0⟩,
  ⟨(some 22), none, .p (.bin .sub (.tmp 21) (.const (.int .i64 1))), 0, 0⟩,
  ⟨(some 23), none, .p (.conv .u64 (.tmp 22)), 0, 0⟩,
  ⟨(some 11), none, .p (.mov (.tmp 23)), 0, 0⟩])
 (.seq (.ops [⟨(some 24), none, .p (.mov (.tmp 1)), 0, 0⟩,
  ⟨(some 25), none, .p (.mov (.tmp 2)), 0, 0⟩,
  ⟨(some 26), none, .p (.mov (.tmp 3)), 0, 0⟩,
  ⟨(some 27), none, .r (.load1 (.tmp 9)), 0, 0⟩,
  ⟨(some 28), none, .p (.lenSlice (.tmp 27)), 0, 0⟩,
  ⟨(some 29), none, .p (.makeFunc (.func 51) [] [(.tmp 9)]), 0, 0⟩,
  ⟨(some 30), none, .call (.func 50) [(.tmp 24), (.tmp 25), (.tmp 26), (.tmp 28), (.tmp 29)], 0, 0⟩,
  ⟨(some 31), none, .p (.mov (.tmp 11)), 0, 0⟩,
  ⟨(some 32), none, .p (.bin .and (.tmp 30) (.tmp 31)), 0, 0⟩,
  ⟨(some 12), none, .p (.mov (.tmp 32)), 0, 0⟩])
 (.seq (.block 0
  (.loop
   (.seq (.seq (.ops [⟨(some 33), none, .p (.mov (.tmp 0)), 0, 0⟩,
    ⟨(some 34), none, .p (.nilCheck (.tmp 33)), 0, 0⟩,
    ⟨(some 35), none, .p (.fieldAddr 2 (.tmp 34)), 0, 0⟩,
    ⟨(some 36), none, .r (.load1 (.tmp 35)), 0, 0⟩,
    ⟨(some 37), none, .p (.mov (.tmp 12)), 0, 0⟩,
    ⟨(some 38), none, .p (.indexAddr 1 (.tmp 36) (.tmp 37)), 0, 0⟩,
    ⟨(some 39), none, .r (.load1 (.tmp 38)), 0, 0⟩,
    ⟨(some 40), none, .p (.bin .neq (.tmp 39) (.const (.int .i32 0))), 0, 0⟩])
   (.cond (.tmp 40)
    .skip
    (.exit 0)))
   (.block 1
    (.seq (.ops [⟨(some 41), none, .p (.mov (.tmp 0)), 0, 0⟩,
     ⟨(some 42), none, .p (.nilCheck (.tmp 41)), 0, 0⟩,
     ⟨(some 43), none, .p (.fieldAddr 2 (.tmp 42)), 0, 0⟩,
     ⟨(some 44), none, .r (.load1 (.tmp 43)), 0, 0⟩,
     ⟨(some 45), none, .p (.mov (.tmp 12)), 0, 0⟩,
     ⟨(some 46), none, .p (.indexAddr 1 (.tmp 44) (.tmp 45)), 0, 0⟩,
     ⟨(some 47), none, .r (.load1 (.tmp 46)), 0, 0⟩,
     ⟨(some 48), none, .p (.conv .i64 (.tmp 47)), 0, 0⟩,
     ⟨(some 49), none, .p (.bin .sub (.tmp 48) (.const (.int .i64 1))), 0, 0⟩,
     ⟨(some 13), none, .p (.mov (.tmp 49)), 0, 0⟩])
    (.seq (.seq (.ops [⟨(some 50), none, .p (.mov (.tmp 0)), 0, 0⟩,
     ⟨(some 51), none, .p (.mov (.tmp 13)), 0, 0⟩,
     ⟨(some 52), none, .p (.mov (.tmp 1)), 0, 0⟩,
     ⟨(some 53), none, .p (.mov (.tmp 2)), 0, 0⟩,
     ⟨(some 54), none, .p (.mov (.tmp 3)), 0, 0⟩,
     ⟨(some 55), none, .r (.load1 (.tmp 9)), 0, 0⟩,
     ⟨(some 56), none, .call (.func 52) [(.tmp 50), (.tmp 51), (.tmp 52), (.tmp 53), (.tmp 54), (.tmp 55)], 0, 0⟩])
    (.cond (.tmp 56)
     (.seq (.ops [⟨(some 57), none, .p (.mov (.tmp 13)), 0, 0⟩,
      ⟨(some 10), none, .p (.mov (.tmp 57)), 0, 0⟩])
     .ret)
     .skip))
    (.ops [⟨(some 58), none, .p (.mov (.tmp 12)), 0, 0⟩,
     ⟨(some 59), none, .p (.bin .add (.tmp 58) (.const (.int .u64 1))), 0, 0⟩,
     ⟨(some 60), none, .p (.mov (.tmp 11)), 0, 0⟩,
     ⟨(some 61), none, .p (.bin .and (.tmp 59) (.tmp 60)), 0, 0⟩,
     ⟨(some 12), none, .p (.mov (.tmp 61)), 0, 0⟩])))))))
 (.seq (.seq (.ops [⟨(some 62), none, .p (.mov (.tmp 0)), 0, 0⟩,
  ⟨(some 63), none, .p (.nilCheck (.tmp 62)), 0, 0⟩,
  ⟨(some 64), none, .p (.fieldAddr 0 (.tmp 63)), 0, 0⟩,
  ⟨(some 65), none, .r (.load1 (.tmp 64)), 0, 0⟩,
  ⟨(some 66), none, .p (.lenSlice (.tmp 65)), 0, 0⟩,
  ⟨(some 67), none, .p (.bin .geq (.tmp 66) (.const (.int .i64 33554432))), 0, 0⟩])
 (.cond (.tmp 67)
  (.seq (.ops [⟨(some 10), none, .p (.mov (.const (.int .i64 (-1)))), 0, 0⟩])
  .ret)
  .skip))
 (.seq (.drawn [⟨(some 68), none, .p (.mov (.tmp 0)), 0, 1⟩,
  ⟨(some 69), none, .p (.mov (.tmp 0)), 0, 0⟩,
  ⟨(some 70), none, .p (.nilCheck (.tmp 69)), 0, 0⟩,
  ⟨(some 71), none, .p (.fieldAddr 0 (.tmp 70)), 0, 0⟩,
  ⟨(some 72), none, .r (.load1 (.tmp 71)), 0, 0⟩,
  ⟨(some 73), none, .p (.mov (.tmp 0)), 0, 0⟩,
  ⟨(some 74), none, .p (.nilCheck (.tmp 73)), 0, 0⟩,
  ⟨(some 75), none, .p (.fieldAddr 1 (.tmp 74)), 0, 0⟩,
  ⟨(some 76), none, .r (.load1 (.tmp 75)), 0, 0⟩,
  ⟨(some 77), none, .p (.lenSlice (.tmp 76)), 0, 0⟩,
  ⟨(some 78), none, .r (.load1 (.tmp 9)), 0, 0⟩,
  ⟨(some 79), none, .p (.lenSlice (.tmp 78)), 0, 0⟩,
  ⟨(some 80), none, .p (.conv .i32 (.tmp 79)), 0, 0⟩,
  ⟨(some 81), none, .p (.mov (.tmp 2)), 0, 0⟩,
  ⟨(some 82), none, .p (.conv .i16 (.tmp 81)), 0, 0⟩,
  ⟨(some 83), none, .p (.mov (.tmp 1)), 0, 0⟩,
  ⟨(some 84), none, .p (.conv .i8 (.tmp 83)), 0, 0⟩,
  ⟨(some 85), none, .p (.mov (.tmp 3)), 0, 0⟩,
  ⟨(some 86), none, .p (.conv .i8 (.tmp 85)), 0, 0⟩,
  ⟨(some 87), none, .p (.build [(.int .i64 0), (.int .i32 0), (.int .i16 0), (.int .i8 0), (.int .i8 0)] [(0, 1, (.tmp 77)), (1, 1, (.tmp 80)), (2, 1, (.tmp 82)), (3, 1, (.tmp 84)), (4, 1, (.tmp 86))]), 0, 0⟩,
  ⟨(some 88), none, .n (.buildSlice 1 5 [(.int .i64 0), (.int .i32 0), (.int .i16 0), (.int .i8 0), (.int .i8 0)] 72 [(0, 5, (.tmp 87))]), 0, 0⟩,
  ⟨(some 89), none, .e (.append 5 72 (.tmp 72) (.tmp 88)), 0, 1⟩,
  ⟨(some 90), none, .p (.nilCheck (.tmp 68)), 1, 1⟩,
  ⟨(some 91), none, .p (.fieldAddr 0 (.tmp 90)), 1, 1⟩,
  ⟨none, none, .e (.store 1 (.tmp 91) (.tmp 89)), 1, 2⟩])
 (.seq (.seq (.ops [⟨(some 92), none, .r (.load1 (.tmp 9)), 0, 0⟩,
  ⟨(some 93), none, .p (.lenSlice (.tmp 92)), 0, 0⟩,
  ⟨(some 94), none, .p (.mov (.const (.int .i64 0))), 0, 0⟩])
 (.block 2
  (.loop
   (.seq (.ops [⟨(some 95), none, .p (.bin .lss (.tmp 94) (.tmp 93)), 0, 0⟩])
   (.seq (.cond (.tmp 95)
    .skip
    (.exit 2))
   (.seq (.block 3
    (.seq (.ops [⟨(some 96), none, .p (.indexAddr 1 (.tmp 92) (.tmp 94)), 0, 0⟩,
     ⟨(some 97), none, .r (.load1 (.tmp 96)), 0, 0⟩,
     ⟨(some 15), none, .p (.mov (.tmp 97)), 0, 0⟩])
    (.ops [⟨(some 98), none, .p (.mov (.tmp 0)), 0, 0⟩,
     ⟨(some 99), none, .p (.mov (.tmp 0)), 0, 0⟩,
     ⟨(some 100), none, .p (.nilCheck (.tmp 99)), 0, 0⟩,
     ⟨(some 101), none, .p (.fieldAddr 1 (.tmp 100)), 0, 0⟩,
     ⟨(some 102), none, .r (.load1 (.tmp 101)), 0, 0⟩,
     ⟨(some 103), none, .p (.mov (.tmp 15)), 0, 0⟩,
     ⟨(some 104), none, .p (.conv .i32 (.tmp 103)), 0, 0⟩,
     ⟨(some 105), none, .n (.buildSlice 1 1 [(.int .i32 0)] 21 [(0, 1, (.tmp 104))]), 0, 0⟩,
     ⟨(some 106), none, .e (.append 1 21 (.tmp 102) (.tmp 105)), 0, 0⟩,
     ⟨(some 107), none, .p (.nilCheck (.tmp 98)), 0, 0⟩,
     ⟨(some 108), none, .p (.fieldAddr 1 (.tmp 107)), 0, 0⟩,
     ⟨none, none, .e (.store 1 (.tmp 108) (.tmp 106)), 0, 0⟩])))
   (.ops [⟨(some 109), none, .p (.bin .add (.tmp 94) (.const (.int .i64 1))), 0, 0⟩,
    ⟨(some 94), none, .p (.mov (.tmp 109)), 0, 0⟩])))))))
 (.seq (.drawn [⟨(some 110), none, .p (.mov (.tmp 0)), 0, 0⟩,
  ⟨(some 111), none, .p (.nilCheck (.tmp 110)), 0, 0⟩,
  ⟨(some 112), none, .p (.fieldAddr 2 (.tmp 111)), 0, 0⟩,
  ⟨(some 113), none, .r (.load1 (.tmp 112)), 0, 0⟩,
  ⟨(some 114), none, .p (.mov (.tmp 12)), 0, 0⟩,
  ⟨(some 115), none, .p (.mov (.tmp 0)), 0, 0⟩,
  ⟨(some 116), none, .p (.nilCheck (.tmp 115)), 0, 0⟩,
  ⟨(some 117), none, .p (.fieldAddr 0 (.tmp 116)), 0, 0⟩,
  ⟨(some 118), none, .r (.load1 (.tmp 117)), 0, 0⟩,
  ⟨(some 119), none, .p (.lenSlice (.tmp 118)), 0, 0⟩,
  ⟨(some 120), none, .p (.conv .i32 (.tmp 119)), 0, 0⟩,
  ⟨(some 121), none, .p (.indexAddr 1 (.tmp 113) (.tmp 114)), 0, 0⟩,
  ⟨none, none, .e (.store 1 (.tmp 121) (.tmp 120)), 0, 1⟩])
 (.seq (.ops [⟨(some 122), none, .p (.mov (.tmp 0)), 0, 0⟩,
  ⟨(some 123), none, .p (.nilCheck (.tmp 122)), 0, 0⟩,
  ⟨(some 124), none, .p (.fieldAddr 0 (.tmp 123)), 0, 0⟩,
  ⟨(some 125), none, .r (.load1 (.tmp 124)), 0, 0⟩,
  ⟨(some 126), none, .p (.lenSlice (.tmp 125)), 0, 0⟩,
  ⟨(some 127), none, .p (.bin .sub (.tmp 126) (.const (.int .i64 1))), 0, 0⟩,
  ⟨(some 16), none, .p (.mov (.tmp 127)), 0, 0⟩])
 (.seq (.seq (.drawn [⟨(some 128), none, .p (.mov (.tmp 0)), 0, 0⟩,
  ⟨(some 129), none, .p (.nilCheck (.tmp 128)), 0, 0⟩,
  ⟨(some 130), none, .p (.fieldAddr 0 (.tmp 129)), 0, 0⟩,
  ⟨(some 131), none, .r (.load1 (.tmp 130)), 0, 0⟩,
  ⟨(some 132), none, .p (.lenSlice (.tmp 131)), 0, 0⟩,
  ⟨(some 133), none, .p (.bin .mul (.const (.int .i64 2)) (.tmp 132)), 0, 0⟩,
  ⟨(some 134), none, .p (.mov (.tmp 0)), 0, 0⟩,
  ⟨(some 135), none, .p (.nilCheck (.tmp 134)), 0, 0⟩,
  ⟨(some 136), none, .p (.fieldAddr 2 (.tmp 135)), 0, 0⟩,
  ⟨(some 137), none, .r (.load1 (.tmp 136)), 0, 0⟩,
  ⟨(some 138), none, .p (.lenSlice (.tmp 137)), 0, 0⟩,
  ⟨(some 139), none, .p (.bin .gtr (.tmp 133) (.tmp 138)), 0, 0⟩])
 (.cond (.tmp 139)
  (.ops [⟨(some 140), none, .p (.mov (.tmp 0)), 0, 0⟩,
   ⟨(some 141), none, .call (.func 53) [(.tmp 140)], 0, 0⟩])
  .skip))
 (.seq (.ops [⟨(some 142), none, .p (.mov (.tmp 16)), 0, 0⟩,
  ⟨(some 10), none, .p (.mov (.tmp 142)), 0, 0⟩])
 .ret))))))))))),
 [.tmp 10]⟩

/-- (*credence/formula.Store).flatten -/
def ir45 : IFn := ⟨72,
 (.seq (.ops [⟨(some 8), none, .p (.mov (.const (.slice none 0 0))), 0, 0⟩])
 (.seq (.ops [⟨(some 16), none, .p (.mov (.tmp 3)), 0, 0⟩,
  ⟨(some 17), none, .call (.func 54) [(.tmp 16)], 0, 0⟩,
  ⟨(some 9), none, .p (.mov (.tmp 17)), 0, 0⟩])
 (.seq (.ops [⟨(some 18), none, .p (.mov (.tmp 9)), 0, 0⟩,
  ⟨(some 19), none, .call (.func 43) [(.tmp 18)], 0, 0⟩])
 (.seq (.ops [⟨(some 20), none, .p (.mov (.tmp 9)), 0, 0⟩,
  ⟨(some 21), none, .call (.func 55) [(.tmp 20)], 0, 0⟩,
  ⟨(some 9), none, .p (.mov (.tmp 21)), 0, 0⟩])
 (.seq (.ops [⟨(some 22), none, .p (.mov (.tmp 9)), 0, 0⟩,
  ⟨(some 23), none, .p (.lenSlice (.tmp 22)), 0, 0⟩,
  ⟨(some 24), none, .n (.makeSlice 1 8 [(.int .i64 0)] 3 (.const (.int .i64 0)) (.tmp 23)), 0, 0⟩,
  ⟨(some 10), none, .p (.mov (.tmp 24)), 0, 0⟩])
 (.seq (.ops [⟨(some 11), none, .p (.mov (.const (.bool false))), 0, 0⟩])
 (.seq (.seq (.ops [⟨(some 25), none, .p (.mov (.tmp 9)), 0, 0⟩,
  ⟨(some 26), none, .p (.lenSlice (.tmp 25)), 0, 0⟩,
  ⟨(some 27), none, .p (.mov (.const (.int .i64 0))), 0, 0⟩])
 (.block 0
  (.loop
   (.seq (.ops [⟨(some 28), none, .p (.bin .lss (.tmp 27) (.tmp 26)), 0, 0⟩])
   (.seq (.cond (.tmp 28)
    .skip
    (.exit 0))
   (.seq (.block 1
    (.seq (.ops [⟨(some 29), none, .p (.indexAddr 1 (.tmp 25) (.tmp 27)), 0, 0⟩,
     ⟨(some 30), none, .r (.load1 (.tmp 29)), 0, 0⟩,
     ⟨(some 13), none, .p (.mov (.tmp 30)), 0, 0⟩])
    (.block 2
     (.seq (.ops [⟨(some 32), none, .p (.mov (.tmp 0)), 0, 0⟩,
      ⟨(some 33), none, .p (.nilCheck (.tmp 32)), 0, 0⟩,
      ⟨(some 34), none, .p (.fieldAddr 0 (.tmp 33)), 0, 0⟩,
      ⟨(some 35), none, .r (.load1 (.tmp 34)), 0, 0⟩,
      ⟨(some 36), none, .p (.mov (.tmp 13)), 0, 0⟩,
      ⟨(some 37), none, .p (.indexAddr 5 (.tmp 35) (.tmp 36)), 0, 0⟩,
      ⟨(some 38), none, .p (.fieldAddr 3 (.tmp 37)), 0, 0⟩,
      ⟨(some 39), none, .r (.load1 (.tmp 38)), 0, 0⟩,
      ⟨(some 40), none, .p (.conv .i64 (.tmp 39)), 0, 0⟩,
      ⟨(some 41), none, .p (.mov (.tmp 1)), 0, 0⟩,
      ⟨(some 42), none, .p (.bin .eql (.tmp 40) (.tmp 41)), 0, 0⟩,
      ⟨(some 31), none, .p (.mov (.tmp 42)), 0, 0⟩])
     (.cond (.tmp 31)
      (.seq (.ops [⟨(some 11), none, .p (.mov (.const (.bool true))), 0, 0⟩])
      (.seq (.ops [⟨(some 43), none, .p (.mov (.tmp 0)), 0, 0⟩,
       ⟨(some 44), none, .p (.mov (.tmp 13)), 0, 0⟩,
       ⟨(some 45), none, .call (.func 42) [(.tmp 43), (.tmp 44)], 0, 0⟩,
       ⟨(some 46), none, .p (.lenSlice (.tmp 45)), 0, 0⟩,
       ⟨(some 47), none, .p (.mov (.const (.int .i64 0))), 0, 0⟩])
      (.block 3
       (.loop
        (.seq (.ops [⟨(some 48), none, .p (.bin .lss (.tmp 47) (.tmp 46)), 0, 0⟩])
        (.seq (.cond (.tmp 48)
         .skip
         (.exit 3))
        (.seq (.block 4
         (.seq (.ops [⟨(some 49), none, .p (.indexAddr 1 (.tmp 45) (.tmp 47)), 0, 0⟩,
          ⟨(some 50), none, .r (.load1 (.tmp 49)), 0, 0⟩,
          ⟨(some 15), none, .p (.mov (.tmp 50)), 0, 0⟩])
         (.ops [⟨(some 51), none, .p (.mov (.tmp 10)), 0, 0⟩,
          ⟨(some 52), none, .p (.mov (.tmp 15)), 0, 0⟩,
          ⟨(some 53), none, .p (.conv .i64 (.tmp 52)), 0, 0⟩,
          ⟨(some 54), none, .n (.buildSlice 1 1 [(.int .i64 0)] 3 [(0, 1, (.tmp 53))]), 0, 0⟩,
          ⟨(some 55), none, .e (.append 1 3 (.tmp 51) (.tmp 54)), 0, 0⟩,
          ⟨(some 10), none, .p (.mov (.tmp 55)), 0, 0⟩])))
        (.ops [⟨(some 56), none, .p (.bin .add (.tmp 47) (.const (.int .i64 1))), 0, 0⟩,
         ⟨(some 47), none, .p (.mov (.tmp 56)), 0, 0⟩]))))))))
      (.seq (.ops [⟨(some 58), none, .p (.mov (.tmp 13)), 0, 0⟩,
       ⟨(some 59), none, .p (.mov (.tmp 2)), 0, 0⟩,
       ⟨(some 60), none, .p (.bin .neq (.tmp 58) (.tmp 59)), 0, 0⟩,
       ⟨(some 57), none, .p (.mov (.tmp 60)), 0, 0⟩])
      (.cond (.tmp 57)
       (.ops [⟨(some 61), none, .p (.mov (.tmp 10)), 0, 0⟩,
        ⟨(some 62), none, .p (.mov (.tmp 13)), 0, 0⟩,
        ⟨(some 63), none, .n (.buildSlice 1 1 [(.int .i64 0)] 3 [(0, 1, (.tmp 62))]), 0, 0⟩,
        ⟨(some 64), none, .e (.append 1 3 (.tmp 61) (.tmp 63)), 0, 0⟩,
        ⟨(some 10), none, .p (.mov (.tmp 64)), 0, 0⟩])
       .skip)))))))
   (.ops [⟨(some 65), none, .p (.bin .add (.tmp 27) (.const (.int .i64 1))), 0, 0⟩,
    ⟨(some 27), none, .p (.mov (.tmp 65)), 0, 0⟩])))))))
 (.seq (.seq (.ops [⟨(some 66), none, .p (.mov (.tmp 11)), 0, 0⟩])
 (.cond (.tmp 66)
  (.seq (.ops [⟨(some 67), none, .p (.mov (.tmp 10)), 0, 0⟩,
   ⟨(some 68), none, .call (.func 43) [(.tmp 67)], 0, 0⟩])
  (.ops [⟨(some 69), none, .p (.mov (.tmp 10)), 0, 0⟩,
   ⟨(some 70), none, .call (.func 55) [(.tmp 69)], 0, 0⟩,
   ⟨(some 10), none, .p (.mov (.tmp 70)), 0, 0⟩]))
  .skip))
 (.seq (.ops [⟨(some 71), none, .p (.mov (.tmp 10)), 0, 0⟩,
  ⟨(some 8), none, .p (.mov (.tmp 71)), 0, 0⟩])
 .ret))))))))),
 [.tmp 8]⟩

/-- (*credence/formula.Store).complementary -/
def ir46 : IFn := ⟨37,
 (.seq (.ops [⟨(some 4), none, .p (.mov (.const (.bool false))), 0, 0⟩])
 (.seq (.seq (.ops [⟨(some 9), none, .p (.mov (.tmp 1)), 0, 0⟩,
  ⟨(some 10), none, .p (.lenSlice (.tmp 9)), 0, 0⟩,
  ⟨(some 11), none, .p (.mov (.const (.int .i64 0))), 0, 0⟩])
 (.block 0
  (.loop
   (.seq (.ops [⟨(some 12), none, .p (.bin .lss (.tmp 11) (.tmp 10)), 0, 0⟩])
   (.seq (.cond (.tmp 12)
    .skip
    (.exit 0))
   (.seq (.block 1
    (.seq (.ops [⟨(some 13), none, .p (.indexAddr 1 (.tmp 9) (.tmp 11)), 0, 0⟩,
     ⟨(some 14), none, .r (.load1 (.tmp 13)), 0, 0⟩,
     ⟨(some 6), none, .p (.mov (.tmp 14)), 0, 0⟩])
    (.seq (.seq (.ops [⟨(some 15), none, .p (.mov (.tmp 0)), 0, 0⟩,
     ⟨(some 16), none, .p (.nilCheck (.tmp 15)), 0, 0⟩,
     ⟨(some 17), none, .p (.fieldAddr 0 (.tmp 16)), 0, 0⟩,
     ⟨(some 18), none, .r (.load1 (.tmp 17)), 0, 0⟩,
     ⟨(some 19), none, .p (.mov (.tmp 6)), 0, 0⟩,
     ⟨(some 20), none, .p (.indexAddr 5 (.tmp 18) (.tmp 19)), 0, 0⟩,
     ⟨(some 21), none, .p (.fieldAddr 3 (.tmp 20)), 0, 0⟩,
     ⟨(some 22), none, .r (.load1 (.tmp 21)), 0, 0⟩,
     ⟨(some 23), none, .p (.bin .neq (.tmp 22) (.const (.int .i8 3))), 0, 0⟩])
    (.cond (.tmp 23)
     (.exit 1)
     .skip))
    (.seq (.ops [⟨(some 25), none, .p (.mov (.tmp 1)), 0, 0⟩,
     ⟨(some 26), none, .p (.mov (.tmp 0)), 0, 0⟩,
     ⟨(some 27), none, .p (.mov (.tmp 6)), 0, 0⟩,
     ⟨(some 28), none, .call (.func 42) [(.tmp 26), (.tmp 27)], 0, 0⟩,
     ⟨(some 29), none, .p (.indexAddr 1 (.tmp 28) (.const (.int .i64 0))), 0, 0⟩,
     ⟨(some 30), none, .r (.load1 (.tmp 29)), 0, 0⟩,
     ⟨(some 31), none, .p (.conv .i64 (.tmp 30)), 0, 0⟩,
     ⟨(some 32), none, .call (.func 56) [(.tmp 25), (.tmp 31)], 0, 0⟩,
     ⟨(some 24), none, .p (.mov (.tmp 32)), 0, 0⟩,
     ⟨(some 33), none, .p (.extract (.tmp 24) 0), 0, 0⟩,
     ⟨(some 34), none, .p (.extract (.tmp 24) 1), 0, 0⟩,
     ⟨(some 7), none, .p (.mov (.tmp 33)), 0, 0⟩,
     ⟨(some 8), none, .p (.mov (.tmp 34)), 0, 0⟩])
    (.seq (.ops [⟨(some 35), none, .p (.mov (.tmp 8)), 0, 0⟩])
    (.cond (.tmp 35)
     (.seq (.ops [⟨(some 4), none, .p (.mov (.const (.bool true))), 0, 0⟩])
     .ret)
     .skip))))))
   (.ops [⟨(some 36), none, .p (.bin .add (.tmp 11) (.const (.int .i64 1))), 0, 0⟩,
    ⟨(some 11), none, .p (.mov (.tmp 36)), 0, 0⟩])))))))
 (.seq (.ops [⟨(some 4), none, .p (.mov (.const (.bool false))), 0, 0⟩])
 .ret))),
 [.tmp 4]⟩

/-- (*credence/formula.Store).exclusive -/
def ir47 : IFn := ⟨73,
 (.seq (.ops [⟨(some 6), none, .p (.mov (.const (.bool false))), 0, 0⟩])
 (.seq (.ops [⟨(some 7), none, .p (.mov (.const (.slice none 0 0))), 0, 0⟩])
 (.seq (.seq (.ops [⟨(some 11), none, .p (.mov (.tmp 2)), 0, 0⟩,
  ⟨(some 12), none, .p (.lenSlice (.tmp 11)), 0, 0⟩,
  ⟨(some 13), none, .p (.mov (.const (.int .i64 0))), 0, 0⟩])
 (.block 0
  (.loop
   (.seq (.ops [⟨(some 14), none, .p (.bin .lss (.tmp 13) (.tmp 12)), 0, 0⟩])
   (.seq (.cond (.tmp 14)
    .skip
    (.exit 0))
   (.seq (.block 1
    (.seq (.ops [⟨(some 15), none, .p (.indexAddr 1 (.tmp 11) (.tmp 13)), 0, 0⟩,
     ⟨(some 16), none, .r (.load1 (.tmp 15)), 0, 0⟩,
     ⟨(some 9), none, .p (.mov (.tmp 16)), 0, 0⟩])
    (.seq (.seq (.ops [⟨(some 17), none, .p (.mov (.tmp 1)), 0, 0⟩,
     ⟨(some 18), none, .p (.bin .eql (.tmp 17) (.const (.int .i64 5))), 0, 0⟩])
    (.cond (.tmp 18)
     (.seq (.seq (.ops [⟨(some 19), none, .p (.mov (.tmp 0)), 0, 0⟩,
      ⟨(some 20), none, .p (.nilCheck (.tmp 19)), 0, 0⟩,
      ⟨(some 21), none, .p (.fieldAddr 0 (.tmp 20)), 0, 0⟩,
      ⟨(some 22), none, .r (.load1 (.tmp 21)), 0, 0⟩,
      ⟨(some 23), none, .p (.mov (.tmp 9)), 0, 0⟩,
      ⟨(some 24), none, .p (.indexAddr 5 (.tmp 22) (.tmp 23)), 0, 0⟩,
      ⟨(some 25), none, .p (.fieldAddr 3 (.tmp 24)), 0, 0⟩,
      ⟨(some 26), none, .r (.load1 (.tmp 25)), 0, 0⟩,
      ⟨(some 27), none, .p (.bin .neq (.tmp 26) (.const (.int .i8 3))), 0, 0⟩])
     (.cond (.tmp 27)
      (.exit 1)
      .skip))
     (.ops [⟨(some 28), none, .p (.mov (.tmp 0)), 0, 0⟩,
      ⟨(some 29), none, .p (.mov (.tmp 9)), 0, 0⟩,
      ⟨(some 30), none, .call (.func 42) [(.tmp 28), (.tmp 29)], 0, 0⟩,
      ⟨(some 31), none, .p (.indexAddr 1 (.tmp 30) (.const (.int .i64 0))), 0, 0⟩,
      ⟨(some 32), none, .r (.load1 (.tmp 31)), 0, 0⟩,
      ⟨(some 33), none, .p (.conv .i64 (.tmp 32)), 0, 0⟩,
      ⟨(some 9), none, .p (.mov (.tmp 33)), 0, 0⟩]))
     .skip))
    (.seq (.ops [⟨(some 34), none, .p (.mov (.tmp 0)), 0, 0⟩,
     ⟨(some 35), none, .p (.nilCheck (.tmp 34)), 0, 0⟩,
     ⟨(some 36), none, .p (.fieldAddr 0 (.tmp 35)), 0, 0⟩,
     ⟨(some 37), none, .r (.load1 (.tmp 36)), 0, 0⟩,
     ⟨(some 38), none, .p (.mov (.tmp 9)), 0, 0⟩,
     ⟨(some 39), none, .p (.indexAddr 5 (.tmp 37) (.tmp 38)), 0, 0⟩,
     ⟨(some 40), none, .p (.fieldAddr 3 (.tmp 39)), 0, 0⟩,
     ⟨(some 41), none, .r (.load1 (.tmp 40)), 0, 0⟩,
     ⟨(some 42), none, .p (.bin .eql (.tmp 41) (.const (.int .i8 2))), 0, 0⟩])
    (.cond (.tmp 42)
     (.ops [⟨(some 43), none, .p (.mov (.tmp 7)), 0, 0⟩,
      ⟨(some 44), none, .p (.mov (.tmp 0)), 0, 0⟩,
      ⟨(some 45), none, .p (.nilCheck (.tmp 44)), 0, 0⟩,
      ⟨(some 46), none, .p (.fieldAddr 0 (.tmp 45)), 0, 0⟩,
      ⟨(some 47), none, .r (.load1 (.tmp 46)), 0, 0⟩,
      ⟨(some 48), none, .p (.mov (.tmp 9)), 0, 0⟩,
      ⟨(some 49), none, .p (.indexAddr 5 (.tmp 47) (.tmp 48)), 0, 0⟩,
      ⟨(some 50), none, .p (.fieldAddr 2 (.tmp 49)), 0, 0⟩,
      ⟨(some 51), none, .r (.load1 (.tmp 50)), 0, 0⟩,
      ⟨(some 52), none, .n (.buildSlice 1 1 [(.int .i16 0)] 70 [(0, 1, (.tmp 51))]), 0, 0⟩,
      ⟨(some 53), none, .e (.append 1 70 (.tmp 43) (.tmp 52)), 0, 0⟩,
      ⟨(some 7), none, .p (.mov (.tmp 53)), 0, 0⟩])
     .skip)))))
   (.ops [⟨(some 54), none, .p (.bin .add (.tmp 13) (.const (.int .i64 1))), 0, 0⟩,
    ⟨(some 13), none, .p (.mov (.tmp 54)), 0, 0⟩])))))))
 (.seq (.ops [⟨(some 55), none, .p (.mov (.tmp 7)), 0, 0⟩,
  ⟨(some 56), none, .call (.func 57) [(.tmp 55)], 0, 0⟩])
 (.seq (.seq (.ops [⟨(some 10), none, .p (.mov (.const (.int .i64 1))), 0, 0⟩])
 (.block 2
  (.loop
   (.seq (.seq (.ops [⟨(some 57), none, .p (.mov (.tmp 10)), 0, 0⟩,
    ⟨(some 58), none, .p (.mov (.tmp 7)), 0, 0⟩,
    ⟨(some 59), none, .p (.lenSlice (.tmp 58)), 0, 0⟩,
    ⟨(some 60), none, .p (.bin .lss (.tmp 57) (.tmp 59)), 0, 0⟩])
   (.cond (.tmp 60)
    .skip
    (.exit 2)))
   (.seq (.block 3
    (.seq (.drawn [⟨(some 63), none, .p (.mov (.tmp 7)), 0, 0⟩,
     ⟨(some 64), none, .p (.mov (.tmp 10)), 0, 0⟩,
     ⟨(some 65), none, .p (.indexAddr 1 (.tmp 63) (.tmp 64)), 0, 0⟩,
     ⟨(some 66), none, .r (.load1 (.tmp 65)), 0, 0⟩,
     ⟨(some 67), none, .p (.mov (.tmp 7)), 0, 0⟩,
     ⟨(some 68), none, .p (.mov (.tmp 10)), 0, 0⟩,
     ⟨(some 69), none, .p (.bin .sub (.tmp 68) (.const (.int .i64 1))), 0, 0⟩,
     ⟨(some 70), none, .p (.indexAddr 1 (.tmp 67) (.tmp 69)), 0, 0⟩,
     ⟨(some 71), none, .r (.load1 (.tmp 70)), 0, 0⟩,
     ⟨(some 72), none, .p (.bin .eql (.tmp 66) (.tmp 71)), 0, 0⟩])
    (.cond (.tmp 72)
     (.seq (.ops [⟨(some 6), none, .p (.mov (.const (.bool true))), 0, 0⟩])
     .ret)
     .skip)))
   (.ops [⟨(some 61), none, .p (.mov (.tmp 10)), 0, 0⟩,
    ⟨(some 62), none, .p (.bin .add (.tmp 61) (.const (.int .i64 1))), 0, 0⟩,
    ⟨(some 10), none, .p (.mov (.tmp 62)), 0, 0⟩]))))))
 (.seq (.ops [⟨(some 6), none, .p (.mov (.const (.bool false))), 0, 0⟩])
 .ret)))))),
 [.tmp 6]⟩

/-- slices.pdqsortOrdered[int] -/
def ir48 : IFn := ⟨134,
 (.seq (.ops [⟨(some 8), none, .p (.mov (.const (.bool true))), 0, 0⟩])
 (.seq (.ops [⟨(some 9), none, .p (.mov (.const (.bool true))), 0, 0⟩])
 (.block 0
  (.loop
   (.block 1
    (.seq (.ops [⟨(some 19), none, .p (.mov (.tmp 2)), 0, 0⟩,
     ⟨(some 20), none, .p (.mov (.tmp 1)), 0, 0⟩,
     ⟨(some 21), none, .p (.bin .sub (.tmp 19) (.tmp 20)), 0, 0⟩,
     ⟨(some 10), none, .p (.mov (.tmp 21)), 0, 0⟩])
    (.seq (.seq (.ops [⟨(some 22), none, .p (.mov (.tmp 10)), 0, 0⟩,
     ⟨(some 23), none, .p (.bin .leq (.tmp 22) (.const (.int .i64 12))), 0, 0⟩])
    (.cond (.tmp 23)
     (.seq (.ops [⟨(some 24), none, .p (.mov (.tmp 0)), 0, 0⟩,
      ⟨(some 25), none, .p (.mov (.tmp 1)), 0, 0⟩,
      ⟨(some 26), none, .p (.mov (.tmp 2)), 0, 0⟩,
      ⟨(some 27), none, .call (.func 58) [(.tmp 24), (.tmp 25), (.tmp 26)], 0, 0⟩])
     .ret)
     .skip))
    (.seq (.seq (.ops [⟨(some 28), none, .p (.mov (.tmp 3)), 0, 0⟩,
     ⟨(some 29), none, .p (.bin .eql (.tmp 28) (.const (.int .i64 0))), 0, 0⟩])
    (.cond (.tmp 29)
     (.seq (.ops [⟨(some 30), none, .p (.mov (.tmp 0)), 0, 0⟩,
      ⟨(some 31), none, .p (.mov (.tmp 1)), 0, 0⟩,
      ⟨(some 32), none, .p (.mov (.tmp 2)), 0, 0⟩,
      ⟨(some 33), none, .call (.func 59) [(.tmp 30), (.tmp 31), (.tmp 32)], 0, 0⟩])
     .ret)
     .skip))
    (.seq (.seq (.ops [⟨(some 34), none, .p (.mov (.tmp 8)), 0, 0⟩,
     ⟨(some 35), none, .p (.not (.tmp 34)), 0, 0⟩])
    (.cond (.tmp 35)
     (.seq (.ops [⟨(some 36), none, .p (.mov (.tmp 0)), 0, 0⟩,
      ⟨(some 37), none, .p (.mov (.tmp 1)), 0, 0⟩,
      ⟨(some 38), none, .p (.mov (.tmp 2)), 0, 0⟩,
      ⟨(some 39), none, .call (.func 60) [(.tmp 36), (.tmp 37), (.tmp 38)], 0, 0⟩])
     (.ops [⟨(some 40), none, .p (.mov (.tmp 3)), 0, 0⟩,
      ⟨(some 41), none, .p (.bin .sub (.tmp 40) (.const (.int .i64 1))), 0, 0⟩,
      ⟨(some 3), none, .p (.mov (.tmp 41)), 0, 0⟩]))
     .skip))
    (.seq (.ops [⟨(some 43), none, .p (.mov (.tmp 0)), 0, 0⟩,
     ⟨(some 44), none, .p (.mov (.tmp 1)), 0, 0⟩,
     ⟨(some 45), none, .p (.mov (.tmp 2)), 0, 0⟩,
     ⟨(some 46), none, .call (.func 61) [(.tmp 43), (.tmp 44), (.tmp 45)], 0, 0⟩,
     ⟨(some 42), none, .p (.mov (.tmp 46)), 0, 0⟩,
     ⟨(some 47), none, .p (.extract (.tmp 42) 0), 0, 0⟩,
     ⟨(some 48), none, .p (.extract (.tmp 42) 1), 0, 0⟩,
     ⟨(some 11), none, .p (.mov (.tmp 47)), 0, 0⟩,
     ⟨(some 12), none, .p (.mov (.tmp 48)), 0, 0⟩])
    (.seq (.seq (.ops [⟨(some 49), none, .p (.mov (.tmp 12)), 0, 0⟩,
     ⟨(some 50), none, .p (.bin .eql (.tmp 49) (.const (.int .i64 2))), 0, 0⟩])
    (.cond (.tmp 50)
     (.seq (.ops [⟨(some 51), none, .p (.mov (.tmp 0)), 0, 0⟩,
      ⟨(some 52), none, .p (.mov (.tmp 1)), 0, 0⟩,
      ⟨(some 53), none, .p (.mov (.tmp 2)), 0, 0⟩,
      ⟨(some 54), none, .call (.func 62) [(.tmp 51), (.tmp 52), (.tmp 53)], 0, 0⟩])
     (.seq (.ops [⟨(some 55), none, .p (.mov (.tmp 2)), 0, 0⟩,
      ⟨(some 56), none, .p (.bin .sub (.tmp 55) (.const (.int .i64 1))), 0, 0⟩,
      ⟨(some 57), none, .p (.mov (.tmp 11)), 0, 0⟩,
      ⟨(some 58), none, .p (.mov (.tmp 1)), 0, 0⟩,
      ⟨(some 59), none, .p (.bin .sub (.tmp 57) (.tmp 58)), 0, 0⟩,
      ⟨(some 60), none, .p (.bin .sub (.tmp 56) (.tmp 59)), 0, 0⟩,
      ⟨(some 11), none, .p (.mov (.tmp 60)), 0, 0⟩])
     (.ops [⟨(some 12), none, .p (.mov (.const (.int .i64 1))), 0, 0⟩])))
     .skip))
    (.seq (.seq (.ops [⟨(some 61), none, .p (.mov (.tmp 8)), 0, 0⟩,
     ⟨(some 62), none, .p (.mov (.tmp 61)), 0, 0⟩,
     ⟨(some 63), (some (62, true)), .p (.mov (.tmp 9)), 0, 0⟩,
     ⟨(some 64), none, .p (.pick (.tmp 62) (.tmp 63) (.const (.bool false))), 0, 0⟩,
     ⟨(some 65), none, .p (.mov (.tmp 64)), 0, 0⟩,
     ⟨(some 66), (some (65, true)), .p (.mov (.tmp 12)), 0, 0⟩,
     ⟨(some 67), (some (65, true)), .p (.bin .eql (.tmp 66) (.const (.int .i64 1))), 0, 0⟩,
     ⟨(some 68), none, .p (.pick (.tmp 65) (.tmp 67) (.const (.bool false))), 0, 0⟩])
    (.cond (.tmp 68)
     (.seq (.ops [⟨(some 69), none, .p (.mov (.tmp 0)), 0, 0⟩,
      ⟨(some 70), none, .p (.mov (.tmp 1)), 0, 0⟩,
      ⟨(some 71), none, .p (.mov (.tmp 2)), 0, 0⟩,
      ⟨(some 72), none, .call (.func 63) [(.tmp 69), (.tmp 70), (.tmp 71)], 0, 0⟩])
     (.cond (.tmp 72)
      .ret
      .skip))
     .skip))
    (.seq (.seq (.drawn [⟨(some 73), none, .p (.mov (.tmp 1)), 0, 0⟩,
     ⟨(some 74), none, .p (.bin .gtr (.tmp 73) (.const (.int .i64 0))), 0, 0⟩,
     ⟨(some 75), none, .p (.mov (.tmp 74)), 0, 0⟩,
     ⟨(some 76), (some (75, true)), .p (.mov (.tmp 0)), 0, 0⟩,
     ⟨(some 77), (some (75, true)), .p (.mov (.tmp 1)), 0, 0⟩,
     ⟨(some 78), (some (75, true)), .p (.bin .sub (.tmp 77) (.const (.int .i64 1))), 0, 0⟩,
     ⟨(some 79), (some (75, true)), .p (.indexAddr 1 (.tmp 76) (.tmp 78)), 0, 0⟩,
     ⟨(some 80), (some (75, true)), .r (.load1 (.tmp 79)), 0, 0⟩,
     ⟨(some 81), (some (75, true)), .p (.mov (.tmp 0)), 0, 0⟩,
     ⟨(some 82), (some (75, true)), .p (.mov (.tmp 11)), 0, 0⟩,
     ⟨(some 83), (some (75, true)), .p (.indexAddr 1 (.tmp 81) (.tmp 82)), 0, 0⟩,
     ⟨(some 84), (some (75, true)), .r (.load1 (.tmp 83)), 0, 0⟩,
     ⟨(some 85), (some (75, true)), .call (.func 64) [(.tmp 80), (.tmp 84)], 0, 1⟩,
     ⟨(some 86), (some (75, true)), .p (.not (.tmp 85)), 1, 1⟩,
     ⟨(some 87), none, .p (.pick (.tmp 75) (.tmp 86) (.const (.bool false))), 1, 1⟩])
    (.cond (.tmp 87)
     (.seq (.ops [⟨(some 88), none, .p (.mov (.tmp 0)), 0, 0⟩,
      ⟨(some 89), none, .p (.mov (.tmp 1)), 0, 0⟩,
      ⟨(some 90), none, .p (.mov (.tmp 2)), 0, 0⟩,
      ⟨(some 91), none, .p (.mov (.tmp 11)), 0, 0⟩,
      ⟨(some 92), none, .call (.func 65) [(.tmp 88), (.tmp 89), (.tmp 90), (.tmp 91)], 0, 0⟩,
      ⟨(some 13), none, .p (.mov (.tmp 92)), 0, 0⟩])
     (.seq (.ops [⟨(some 93), none, .p (.mov (.tmp 13)), 0, 0⟩,
      ⟨(some 1), none, .p (.mov (.tmp 93)), 0, 0⟩])
     (.exit 1)))
     .skip))
    (.seq (.ops [⟨(some 95), none, .p (.mov (.tmp 0)), 0, 0⟩,
     ⟨(some 96), none, .p (.mov (.tmp 1)), 0, 0⟩,
     ⟨(some 97), none, .p (.mov (.tmp 2)), 0, 0⟩,
     ⟨(some 98), none, .p (.mov (.tmp 11)), 0, 0⟩,
     ⟨(some 99), none, .call (.func 66) [(.tmp 95), (.tmp 96), (.tmp 97), (.tmp 98)], 0, 0⟩,
     ⟨(some 94), none, .p (.mov (.tmp 99)), 0, 0⟩,
     ⟨(some 100), none, .p (.extract (.tmp 94) 0), 0, 0⟩,
     ⟨(some 101), none, .p (.extract (.tmp 94) 1), 0, 0⟩,
     ⟨(some 14), none, .p (.mov (.tmp 100)), 0, 0⟩,
     ⟨(some 15), none, .p (.mov (.tmp 101)), 0, 0⟩])
    (.seq (.ops [⟨(some 102), none, .p (.mov (.tmp 15)), 0, 0⟩,
     ⟨(some 9), none, .p (.mov (.tmp 102)), 0, 0⟩])
    (.seq (.ops [⟨(some 103), none, .p (.mov (.tmp 14)), 0, 0⟩,
     ⟨(some 104), none, .p (.mov (.tmp 1)), 0, 0⟩,
     ⟨(some 105), none, .p (.bin .sub (.tmp 103) (.tmp 104)), 0, 0⟩,
     ⟨(some 106), none, .p (.mov (.tmp 2)), 0, 0⟩,
     ⟨(some 107), none, .p (.mov (.tmp 14)), 0, 0⟩,
     ⟨(some 108), none, .p (.bin .sub (.tmp 106) (.tmp 107)), 0, 0⟩,
     ⟨(some 16), none, .p (.mov (.tmp 105)), 0, 0⟩,
     ⟨(some 17), none, .p (.mov (.tmp 108)), 0, 0⟩])
    (.seq (.ops [⟨(some 109), none, .p (.mov (.tmp 10)), 0, 0⟩,
     ⟨(some 110), none, .p (.bin .quo (.tmp 109) (.const (.int .i64 8))), 0, 0⟩,
     ⟨(some 18), none, .p (.mov (.tmp 110)), 0, 0⟩])
    (.seq (.ops [⟨(some 111), none, .p (.mov (.tmp 16)), 0, 0⟩,
     ⟨(some 112), none, .p (.mov (.tmp 17)), 0, 0⟩,
     ⟨(some 113), none, .p (.bin .lss (.tmp 111) (.tmp 112)), 0, 0⟩])
    (.cond (.tmp 113)
     (.seq (.ops [⟨(some 114), none, .p (.mov (.tmp 16)), 0, 0⟩,
      ⟨(some 115), none, .p (.mov (.tmp 18)), 0, 0⟩,
      ⟨(some 116), none, .p (.bin .geq (.tmp 114) (.tmp 115)), 0, 0⟩,
      ⟨(some 8), none, .p (.mov (.tmp 116)), 0, 0⟩])
     (.seq (.ops [⟨(some 117), none, .p (.mov (.tmp 0)), 0, 0⟩,
      ⟨(some 118), none, .p (.mov (.tmp 1)), 0, 0⟩,
      ⟨(some 119), none, .p (.mov (.tmp 14)), 0, 0⟩,
      ⟨(some 120), none, .p (.mov (.tmp 3)), 0, 0⟩,
      ⟨(some 121), none, .call (.func 48) [(.tmp 117), (.tmp 118), (.tmp 119), (.tmp 120)], 0, 0⟩])
     (.ops [⟨(some 122), none, .p (.mov (.tmp 14)), 0, 0⟩,
      ⟨(some 123), none, .p (.bin .add (.tmp 122) (.const (.int .i64 1))), 0, 0⟩,
      ⟨(some 1), none, .p (.mov (.tmp 123)), 0, 0⟩])))
     (.seq (.ops [⟨(some 124), none, .p (.mov (.tmp 17)), 0, 0⟩,
      ⟨(some 125), none, .p (.mov (.tmp 18)), 0, 0⟩,
      ⟨(some 126), none, .p (.bin .geq (.tmp 124) (.tmp 125)), 0, 0⟩,
      ⟨(some 8), none, .p (.mov (.tmp 126)), 0, 0⟩])
     (.seq (.ops [⟨(some 127), none, .p (.mov (.tmp 0)), 0, 0⟩,
      ⟨(some 128), none, .p (.mov (.tmp 14)), 0, 0⟩,
      ⟨(some 129), none, .p (.bin .add (.tmp 128) (.const (.int .i64 1))), 0, 0⟩,
      ⟨(some 130), none, .p (.mov (.tmp 2)), 0, 0⟩,
      ⟨(some 131), none, .p (.mov (.tmp 3)), 0, 0⟩,
      ⟨(some 132), none, .call (.func 48) [(.tmp 127), (.tmp 129), (.tmp 130), (.tmp 131)], 0, 0⟩])
     (.ops [⟨(some 133), none, .p (.mov (.tmp 14)), 0, 0⟩,
      ⟨(some 2), none, .p (.mov (.tmp 133)), 0, 0⟩])))))))))))))))))))))),
 []⟩

/-- math/bits.Len -/
def ir49 : IFn := ⟨8,
 (.seq (.ops [⟨(some 2), none, .p (.mov (.const (.int .i64 0))), 0, 0⟩])
 (.seq (.cond (.const (.bool false))
  (.seq (.ops [⟨(some 3), none, .p (.mov (.tmp 0)), 0, 0⟩,
   ⟨(some 4), none, .p (.conv .u32 (.tmp 3)), 0, 0⟩,
   ⟨(some 5), none, .call (.func 67) [(.tmp 4)], 0, 0⟩,
   ⟨(some 2), none, .p (.mov (.tmp 5)), 0, 0⟩])
  .ret)
  .skip)
 (.seq (.ops [⟨(some 6), none, .p (.mov (.tmp 0)), 0, 0⟩,
  ⟨(some 7), none, .call (.func 68) [(.tmp 6)], 0, 0⟩,
  ⟨(some 2), none, .p (.mov (.tmp 7)), 0, 0⟩])
 .ret))),
 [.tmp 2]⟩

/-- credence/formula.hashNode -/
def ir50 : IFn := ⟨38,
 (.seq (.ops [⟨(some 10), none, .p (.mov (.const (.int .u64 0))), 0, 0⟩])
 (.seq (.ops [⟨(some 13), none, .p (.mov (.tmp 0)), 0, 0⟩,
  ⟨(some 14), none, .p (.conv .u64 (.tmp 13)), 0, 0⟩,
  ⟨(some 15), none, .p (.mov (.tmp 2)), 0, 0⟩,
  ⟨(some 16), none, .p (.bin .add (.tmp 15) (.const (.int .i64 1))), 0, 0⟩,
  ⟨(some 17), none, .p (.conv .u64 (.tmp 16)), 0, 0⟩,
  ⟨(some 18), none, .p (.shift .shl (.tmp 17) (.const (.int .u64 8))), 0, 0⟩,
  ⟨(some 19), none, .p (.bin .or (.tmp 14) (.tmp 18)), 0, 0⟩,
  ⟨(some 20), none, .p (.mov (.tmp 1)), 0, 0⟩,
  ⟨(some 21), none, .p (.conv .u64 (.tmp 20)), 0, 0⟩,
  ⟨(some 22), none, .p (.shift .shl (.tmp 21) (.const (.int .u64 16))), 0, 0⟩,
  ⟨(some 23), none, .p (.bin .or (.tmp 19) (.tmp 22)), 0, 0⟩,
  ⟨(some 24), none, .call (.func 69) [(.tmp 23)], 0, 0⟩,
  ⟨(some 11), none, .p (.mov (.tmp 24)), 0, 0⟩])
 (.seq (.seq (.ops [⟨(some 12), none, .p (.mov (.const (.int .i64 0))), 0, 0⟩])
 (.block 0
  (.loop
   (.seq (.seq (.ops [⟨(some 25), none, .p (.mov (.tmp 12)), 0, 0⟩,
    ⟨(some 26), none, .p (.mov (.tmp 3)), 0, 0⟩,
    ⟨(some 27), none, .p (.bin .lss (.tmp 25) (.tmp 26)), 0, 0⟩])
   (.cond (.tmp 27)
    .skip
    (.exit 0)))
   (.seq (.block 1
    (.ops [⟨(some 30), none, .p (.mov (.tmp 11)), 0, 0⟩,
     ⟨(some 31), none, .p (.mov (.tmp 4)), 0, 0⟩,
     ⟨(some 32), none, .p (.mov (.tmp 12)), 0, 0⟩,
     ⟨(some 33), none, .call (.tmp 31) [(.tmp 32)], 0, 0⟩,
     ⟨(some 34), none, .p (.conv .u64 (.tmp 33)), 0, 0⟩,
     ⟨(some 35), none, .p (.bin .xor (.tmp 30) (.tmp 34)), 0, 0⟩,
     ⟨(some 36), none, .call (.func 69) [(.tmp 35)], 0, 0⟩,
     ⟨(some 11), none, .p (.mov (.tmp 36)), 0, 0⟩]))
   (.ops [⟨(some 28), none, .p (.mov (.tmp 12)), 0, 0⟩,
    ⟨(some 29), none, .p (.bin .add (.tmp 28) (.const (.int .i64 1))), 0, 0⟩,
    ⟨(some 12), none, .p (.mov (.tmp 29)), 0, 0⟩]))))))
 (.seq (.ops [⟨(some 37), none, .p (.mov (.tmp 11)), 0, 0⟩,
  ⟨(some 10), none, .p (.mov (.tmp 37)), 0, 0⟩])
 .ret)))),
 [.tmp 10]⟩

/-- (*credence/formula.Store).intern$1 -/
def ir51 : IFn := ⟨8,
 (.seq (.ops [⟨(some 3), none, .p (.mov (.const (.int .i64 0))), 0, 0⟩])
 (.seq (.ops [⟨(some 4), none, .r (.load1 (.tmp 1)), 0, 0⟩,
  ⟨(some 5), none, .p (.mov (.tmp 0)), 0, 0⟩,
  ⟨(some 6), none, .p (.indexAddr 1 (.tmp 4) (.tmp 5)), 0, 0⟩,
  ⟨(some 7), none, .r (.load1 (.tmp 6)), 0, 0⟩,
  ⟨(some 3), none, .p (.mov (.tmp 7)), 0, 0⟩])
 .ret)),
 [.tmp 3]⟩

/-- (*credence/formula.Store).equal -/
def ir52 : IFn := ⟨67,
 (.seq (.ops [⟨(some 12), none, .p (.mov (.const (.bool false))), 0, 0⟩])
 (.seq (.ops [⟨(some 16), none, .p (.mov (.tmp 0)), 0, 0⟩,
  ⟨(some 17), none, .p (.nilCheck (.tmp 16)), 0, 0⟩,
  ⟨(some 18), none, .p (.fieldAddr 0 (.tmp 17)), 0, 0⟩,
  ⟨(some 19), none, .r (.load1 (.tmp 18)), 0, 0⟩,
  ⟨(some 20), none, .p (.mov (.tmp 1)), 0, 0⟩,
  ⟨(some 21), none, .p (.indexAddr 5 (.tmp 19) (.tmp 20)), 0, 0⟩,
  ⟨(some 22), none, .r (.loadA 5 (.tmp 21)), 0, 0⟩,
  ⟨(some 13), none, .n (.alloc [(.int .i64 0), (.int .i32 0), (.int .i16 0), (.int .i8 0), (.int .i8 0)] 72), 0, 0⟩,
  ⟨none, none, .e (.store 5 (.tmp 13) (.tmp 22)), 0, 0⟩])
 (.seq (.seq (.ops [⟨(some 23), none, .p (.fieldAddr 3 (.tmp 13)), 0, 0⟩,
  ⟨(some 24), none, .r (.load1 (.tmp 23)), 0, 0⟩,
  ⟨(some 25), none, .p (.conv .i64 (.tmp 24)), 0, 0⟩,
  ⟨(some 26), none, .p (.mov (.tmp 2)), 0, 0⟩,
  ⟨(some 27), none, .p (.bin .neq (.tmp 25) (.tmp 26)), 0, 0⟩,
  ⟨(some 28), none, .p (.mov (.tmp 27)), 0, 0⟩,
  ⟨(some 29), (some (28, false)), .p (.fieldAddr 2 (.tmp 13)), 0, 0⟩,
  ⟨(some 30), (some (28, false)), .r (.load1 (.tmp 29)), 0, 0⟩,
  ⟨(some 31), (some (28, false)), .p (.conv .i64 (.tmp 30)), 0, 0⟩,
  ⟨(some 32), (some (28, false)), .p (.mov (.tmp 3)), 0, 0⟩,
  ⟨(some 33), (some (28, false)), .p (.bin .neq (.tmp 31) (.tmp 32)), 0, 0⟩,
  ⟨(some 34), none, .p (.pick (.tmp 28) (.const (.bool true)) (.tmp 33)), 0, 0⟩,
  ⟨(some 35), none, .p (.mov (.tmp 34)), 0, 0⟩,
  ⟨(some 36), (some (35, false)), .p (.fieldAddr 4 (.tmp 13)), 0, 0⟩,
  ⟨(some 37), (some (35, false)), .r (.load1 (.tmp 36)), 0, 0⟩,
  ⟨(some 38), (some (35, false)), .p (.conv .i64 (.tmp 37)), 0, 0⟩,
  ⟨(some 39), (some (35, false)), .p (.mov (.tmp 4)), 0, 0⟩,
  ⟨(some 40), (some (35, false)), .p (.bin .neq (.tmp 38) (.tmp 39)), 0, 0⟩,
  ⟨(some 41), none, .p (.pick (.tmp 35) (.const (.bool true)) (.tmp 40)), 0, 0⟩,
  ⟨(some 42), none, .p (.mov (.tmp 41)), 0, 0⟩,
  ⟨(some 43), (some (42, false)), .p (.fieldAddr 1 (.tmp 13)), 0, 0⟩,
  ⟨(some 44), (some (42, false)), .r (.load1 (.tmp 43)), 0, 0⟩,
  ⟨(some 45), (some (42, false)), .p (.conv .i64 (.tmp 44)), 0, 0⟩,
  ⟨(some 46), (some (42, false)), .p (.mov (.tmp 5)), 0, 0⟩,
  ⟨(some 47), (some (42, false)), .p (.lenSlice (.tmp 46)), 0, 0⟩,
  ⟨(some 48), (some (42, false)), .p (.bin .neq (.tmp 45) (.tmp 47)), 0, 0⟩,
  ⟨(some 49), none, .p (.pick (.tmp 42) (.const (.bool true)) (.tmp 48)), 0, 0⟩])
 (.cond (.tmp 49)
  (.seq (.ops [⟨(some 12), none, .p (.mov (.const (.bool false))), 0, 0⟩])
  .ret)
  .skip))
 (.seq (.seq (.ops [⟨(some 50), none, .p (.mov (.tmp 0)), 0, 0⟩,
  ⟨(some 51), none, .p (.mov (.tmp 1)), 0, 0⟩,
  ⟨(some 52), none, .call (.func 42) [(.tmp 50), (.tmp 51)], 0, 0⟩,
  ⟨(some 53), none, .p (.lenSlice (.tmp 52)), 0, 0⟩,
  ⟨(some 54), none, .p (.mov (.const (.int .i64 0))), 0, 0⟩])
 (.block 0
  (.loop
   (.seq (.ops [⟨(some 55), none, .p (.bin .lss (.tmp 54) (.tmp 53)), 0, 0⟩])
   (.seq (.cond (.tmp 55)
    .skip
    (.exit 0))
   (.seq (.block 1
    (.seq (.ops [⟨(some 56), none, .p (.mov (.tmp 54)), 0, 0⟩,
     ⟨(some 57), none, .p (.indexAddr 1 (.tmp 52) (.tmp 54)), 0, 0⟩,
     ⟨(some 58), none, .r (.load1 (.tmp 57)), 0, 0⟩,
     ⟨(some 14), none, .p (.mov (.tmp 56)), 0, 0⟩,
     ⟨(some 15), none, .p (.mov (.tmp 58)), 0, 0⟩])
    (.seq (.ops [⟨(some 59), none, .p (.mov (.tmp 15)), 0, 0⟩,
     ⟨(some 60), none, .p (.conv .i64 (.tmp 59)), 0, 0⟩,
     ⟨(some 61), none, .p (.mov (.tmp 5)), 0, 0⟩,
     ⟨(some 62), none, .p (.mov (.tmp 14)), 0, 0⟩,
     ⟨(some 63), none, .p (.indexAddr 1 (.tmp 61) (.tmp 62)), 0, 0⟩,
     ⟨(some 64), none, .r (.load1 (.tmp 63)), 0, 0⟩,
     ⟨(some 65), none, .p (.bin .neq (.tmp 60) (.tmp 64)), 0, 0⟩])
    (.cond (.tmp 65)
     (.seq (.ops [⟨(some 12), none, .p (.mov (.const (.bool false))), 0, 0⟩])
     .ret)
     .skip))))
   (.ops [⟨(some 66), none, .p (.bin .add (.tmp 54) (.const (.int .i64 1))), 0, 0⟩,
    ⟨(some 54), none, .p (.mov (.tmp 66)), 0, 0⟩])))))))
 (.seq (.ops [⟨(some 12), none, .p (.mov (.const (.bool true))), 0, 0⟩])
 .ret))))),
 [.tmp 12]⟩

/-- (*credence/formula.Store).grow -/
def ir53 : IFn := ⟨79,
 (.seq (.ops [⟨(some 7), none, .p (.mov (.tmp 0)), 0, 0⟩,
  ⟨(some 8), none, .p (.mov (.tmp 0)), 0, 0⟩,
  ⟨(some 9), none, .p (.nilCheck (.tmp 8)), 0, 0⟩,
  ⟨(some 10), none, .p (.fieldAddr 2 (.tmp 9)), 0, 0⟩,
  ⟨(some 11), none, .r (.load1 (.tmp 10)), 0, 0⟩,
  ⟨(some 12), none, .p (.lenSlice (.tmp 11)), 0, 0⟩,
  ⟨(some 13), none, .p (.bin .mul (.const (.int .i64 2)) (.tmp 12)), 0, 0⟩,
  ⟨(some 14), none, .n (.makeSlice 1 4 [(.int .i32 0)] 21 (.tmp 13) (.tmp 13)), 0, 0⟩,
  ⟨(some 15), none, .p (.nilCheck (.tmp 7)), 0, 0⟩,
  ⟨(some 16), none, .p (.fieldAddr 2 (.tmp 15)), 0, 0⟩,
  ⟨none, none, .e (.store 1 (.tmp 16) (.tmp 14)), 0, 0⟩])
 (.seq (.ops [⟨(some 17), none, .p (.mov (.tmp 0)), 0, 0⟩,
  ⟨(some 18), none, .p (.nilCheck (.tmp 17)), 0, 0⟩,
  ⟨(some 19), none, .p (.fieldAddr 2 (.tmp 18)), 0, 0⟩,
  ⟨(some 20), none, .r (.load1 (.tmp 19)), 0, 0⟩,
  ⟨(some 21), none, .p (.lenSlice (.tmp 20)), 0, 0⟩,
  ⟨(some 22), none, .p (.bin .sub (.tmp 21) (.const (.int .i64 1))), 0, 0⟩,
  ⟨(some 23), none, .p (.conv .u64 (.tmp 22)), 0, 0⟩,
  ⟨(some 2), none, .p (.mov (.tmp 23)), 0, 0⟩])
 (.seq (.ops [⟨(some 3), none, .p (.mov (.const (.int .i64 2))), 0, 0⟩])
 (.block 0
  (.loop
   (.seq (.seq (.ops [⟨(some 24), none, .p (.mov (.tmp 3)), 0, 0⟩,
    ⟨(some 25), none, .p (.mov (.tmp 0)), 0, 0⟩,
    ⟨(some 26), none, .p (.nilCheck (.tmp 25)), 0, 0⟩,
    ⟨(some 27), none, .p (.fieldAddr 0 (.tmp 26)), 0, 0⟩,
    ⟨(some 28), none, .r (.load1 (.tmp 27)), 0, 0⟩,
    ⟨(some 29), none, .p (.lenSlice (.tmp 28)), 0, 0⟩,
    ⟨(some 30), none, .p (.bin .lss (.tmp 24) (.tmp 29)), 0, 0⟩])
   (.cond (.tmp 30)
    .skip
    (.exit 0)))
   (.seq (.block 1
    (.seq (.ops [⟨(some 33), none, .p (.mov (.tmp 0)), 0, 0⟩,
     ⟨(some 34), none, .p (.nilCheck (.tmp 33)), 0, 0⟩,
     ⟨(some 35), none, .p (.fieldAddr 0 (.tmp 34)), 0, 0⟩,
     ⟨(some 36), none, .r (.load1 (.tmp 35)), 0, 0⟩,
     ⟨(some 37), none, .p (.mov (.tmp 3)), 0, 0⟩,
     ⟨(some 38), none, .p (.indexAddr 5 (.tmp 36) (.tmp 37)), 0, 0⟩,
     ⟨(some 39), none, .r (.loadA 5 (.tmp 38)), 0, 0⟩,
     ⟨(some 4), none, .n (.alloc [(.int .i64 0), (.int .i32 0), (.int .i16 0), (.int .i8 0), (.int .i8 0)] 72), 0, 0⟩,
     ⟨none, none, .e (.store 5 (.tmp 4) (.tmp 39)), 0, 0⟩])
    (.seq (.ops [⟨(some 40), none, .p (.mov (.tmp 0)), 0, 0⟩,
     ⟨(some 41), none, .p (.mov (.tmp 3)), 0, 0⟩,
     ⟨(some 42), none, .call (.func 42) [(.tmp 40), (.tmp 41)], 0, 0⟩,
     ⟨(some 5), none, .n (.alloc [(.slice none 0 0)] 74), 0, 0⟩,
     ⟨none, none, .e (.store 1 (.tmp 5) (.tmp 42)), 0, 0⟩])
    (.seq (.ops [⟨(some 43), none, .p (.fieldAddr 3 (.tmp 4)), 0, 0⟩,
     ⟨(some 44), none, .r (.load1 (.tmp 43)), 0, 0⟩,
     ⟨(some 45), none, .p (.conv .i64 (.tmp 44)), 0, 0⟩,
     ⟨(some 46), none, .p (.fieldAddr 2 (.tmp 4)), 0, 0⟩,
     ⟨(some 47), none, .r (.load1 (.tmp 46)), 0, 0⟩,
     ⟨(some 48), none, .p (.conv .i64 (.tmp 47)), 0, 0⟩,
     ⟨(some 49), none, .p (.fieldAddr 4 (.tmp 4)), 0, 0⟩,
     ⟨(some 50), none, .r (.load1 (.tmp 49)), 0, 0⟩,
     ⟨(some 51), none, .p (.conv .i64 (.tmp 50)), 0, 0⟩,
     ⟨(some 52), none, .r (.load1 (.tmp 5)), 0, 0⟩,
     ⟨(some 53), none, .p (.lenSlice (.tmp 52)), 0, 0⟩,
     ⟨(some 54), none, .p (.makeFunc (.func 70) [] [(.tmp 5)]), 0, 0⟩,
     ⟨(some 55), none, .call (.func 50) [(.tmp 45), (.tmp 48), (.tmp 51), (.tmp 53), (.tmp 54)], 0, 0⟩,
     ⟨(some 56), none, .p (.mov (.tmp 2)), 0, 0⟩,
     ⟨(some 57), none, .p (.bin .and (.tmp 55) (.tmp 56)), 0, 0⟩,
     ⟨(some 6), none, .p (.mov (.tmp 57)), 0, 0⟩])
    (.seq (.block 2
     (.loop
      (.seq (.seq (.ops [⟨(some 58), none, .p (.mov (.tmp 0)), 0, 0⟩,
       ⟨(some 59), none, .p (.nilCheck (.tmp 58)), 0, 0⟩,
       ⟨(some 60), none, .p (.fieldAddr 2 (.tmp 59)), 0, 0⟩,
       ⟨(some 61), none, .r (.load1 (.tmp 60)), 0, 0⟩,
       ⟨(some 62), none, .p (.mov (.tmp 6)), 0, 0⟩,
       ⟨(some 63), none, .p (.indexAddr 1 (.tmp 61) (.tmp 62)), 0, 0⟩,
       ⟨(some 64), none, .r (.load1 (.tmp 63)), 0, 0⟩,
       ⟨(some 65), none, .p (.bin .neq (.tmp 64) (.const (.int .i32 0))), 0, 0⟩])
      (.cond (.tmp 65)
       .skip
       (.exit 2)))
      (.block 3
       (.ops [⟨(some 66), none, .p (.mov (.tmp 6)), 0, 0⟩,
        ⟨(some 67), none, .p (.bin .add (.tmp 66) (.const (.int .u64 1))), 0, 0⟩,
        ⟨(some 68), none, .p (.mov (.tmp 2)), 0, 0⟩,
        ⟨(some 69), none, .p (.bin .and (.tmp 67) (.tmp 68)), 0, 0⟩,
        ⟨(some 6), none, .p (.mov (.tmp 69)), 0, 0⟩])))))
    (.ops [⟨(some 70), none, .p (.mov (.tmp 0)), 0, 0⟩,
     ⟨(some 71), none, .p (.nilCheck (.tmp 70)), 0, 0⟩,
     ⟨(some 72), none, .p (.fieldAddr 2 (.tmp 71)), 0, 0⟩,
     ⟨(some 73), none, .r (.load1 (.tmp 72)), 0, 0⟩,
     ⟨(some 74), none, .p (.mov (.tmp 6)), 0, 0⟩,
     ⟨(some 75), none, .p (.mov (.tmp 3)), 0, 0⟩,
     ⟨(some 76), none, .p (.bin .add (.tmp 75) (.const (.int .i64 1))), 0, 0⟩,
     ⟨(some 77), none, .p (.conv .i32 (.tmp 76)), 0, 0⟩,
     ⟨(some 78), none, .p (.indexAddr 1 (.tmp 73) (.tmp 74)), 0, 0⟩,
     ⟨none, none, .e (.store 1 (.tmp 78) (.tmp 77)), 0, 0⟩]))))))
   (.ops [⟨(some 31), none, .p (.mov (.tmp 3)), 0, 0⟩,
    ⟨(some 32), none, .p (.bin .add (.tmp 31) (.const (.int .i64 1))), 0, 0⟩,
    ⟨(some 3), none, .p (.mov (.tmp 32)), 0, 0⟩])))))))),
 []⟩

/-- slices.Clone[[]int,int] -/
def ir54 : IFn := ⟨8,
 (.seq (.ops [⟨(some 2), none, .p (.mov (.const (.slice none 0 0))), 0, 0⟩])
 (.seq (.seq (.ops [⟨(some 3), none, .p (.mov (.tmp 0)), 0, 0⟩,
  ⟨(some 4), none, .p (.eqv .nilSlice false (.tmp 3) (.const (.slice none 0 0))), 0, 0⟩])
 (.cond (.tmp 4)
  (.seq (.ops [⟨(some 2), none, .p (.mov (.const (.slice none 0 0))), 0, 0⟩])
  .ret)
  .skip))
 (.seq (.ops [⟨(some 5), none, .n (.buildSlice 0 1 [(.int .i64 0)] 3 []), 0, 0⟩,
  ⟨(some 6), none, .p (.mov (.tmp 0)), 0, 0⟩,
  ⟨(some 7), none, .e (.append 1 3 (.tmp 5) (.tmp 6)), 0, 0⟩,
  ⟨(some 2), none, .p (.mov (.tmp 7)), 0, 0⟩])
 .ret))),
 [.tmp 2]⟩

/-- slices.Compact[[]int,int] -/
def ir55 : IFn := ⟨61,
 (.seq (.ops [⟨(some 2), none, .p (.mov (.const (.slice none 0 0))), 0, 0⟩])
 (.seq (.seq (.ops [⟨(some 6), none, .p (.mov (.tmp 0)), 0, 0⟩,
  ⟨(some 7), none, .p (.lenSlice (.tmp 6)), 0, 0⟩,
  ⟨(some 8), none, .p (.bin .lss (.tmp 7) (.const (.int .i64 2))), 0, 0⟩])
 (.cond (.tmp 8)
  (.seq (.ops [⟨(some 9), none, .p (.mov (.tmp 0)), 0, 0⟩,
   ⟨(some 2), none, .p (.mov (.tmp 9)), 0, 0⟩])
  .ret)
  .skip))
 (.seq (.seq (.ops [⟨(some 3), none, .p (.mov (.const (.int .i64 1))), 0, 0⟩])
 (.block 0
  (.loop
   (.seq (.seq (.ops [⟨(some 10), none, .p (.mov (.tmp 3)), 0, 0⟩,
    ⟨(some 11), none, .p (.mov (.tmp 0)), 0, 0⟩,
    ⟨(some 12), none, .p (.lenSlice (.tmp 11)), 0, 0⟩,
    ⟨(some 13), none, .p (.bin .lss (.tmp 10) (.tmp 12)), 0, 0⟩])
   (.cond (.tmp 13)
    .skip
    (.exit 0)))
   (.seq (.block 1
    (.seq (.drawn [⟨(some 16), none, .p (.mov (.tmp 0)), 0, 0⟩,
     ⟨(some 17), none, .p (.mov (.tmp 3)), 0, 0⟩,
     ⟨(some 18), none, .p (.indexAddr 1 (.tmp 16) (.tmp 17)), 0, 0⟩,
     ⟨(some 19), none, .r (.load1 (.tmp 18)), 0, 0⟩,
     ⟨(some 20), none, .p (.mov (.tmp 0)), 0, 0⟩,
     ⟨(some 21), none, .p (.mov (.tmp 3)), 0, 0⟩,
     ⟨(some 22), none, .p (.bin .sub (.tmp 21) (.const (.int .i64 1))), 0, 0⟩,
     ⟨(some 23), none, .p (.indexAddr 1 (.tmp 20) (.tmp 22)), 0, 0⟩,
     ⟨(some 24), none, .r (.load1 (.tmp 23)), 0, 0⟩,
     ⟨(some 25), none, .p (.bin .eql (.tmp 19) (.tmp 24)), 0, 0⟩])
    (.cond (.tmp 25)
     (.seq (.ops [⟨(some 26), none, .p (.mov (.tmp 0)), 0, 0⟩,
      ⟨(some 27), none, .p (.mov (.tmp 3)), 0, 0⟩,
      ⟨(some 28), none, .p (.slice 1 (.tmp 26) (some (.tmp 27)) none none), 0, 0⟩,
      ⟨(some 4), none, .p (.mov (.tmp 28)), 0, 0⟩])
     (.seq (.seq (.ops [⟨(some 5), none, .p (.mov (.const (.int .i64 1))), 0, 0⟩])
     (.block 2
      (.loop
       (.seq (.seq (.ops [⟨(some 29), none, .p (.mov (.tmp 5)), 0, 0⟩,
        ⟨(some 30), none, .p (.mov (.tmp 4)), 0, 0⟩,
        ⟨(some 31), none, .p (.lenSlice (.tmp 30)), 0, 0⟩,
        ⟨(some 32), none, .p (.bin .lss (.tmp 29) (.tmp 31)), 0, 0⟩])
       (.cond (.tmp 32)
        .skip
        (.exit 2)))
       (.seq (.block 3
        (.seq (.drawn [⟨(some 35), none, .p (.mov (.tmp 4)), 0, 0⟩,
         ⟨(some 36), none, .p (.mov (.tmp 5)), 0, 0⟩,
         ⟨(some 37), none, .p (.indexAddr 1 (.tmp 35) (.tmp 36)), 0, 0⟩,
         ⟨(some 38), none, .r (.load1 (.tmp 37)), 0, 0⟩,
         ⟨(some 39), none, .p (.mov (.tmp 4)), 0, 0⟩,
         ⟨(some 40), none, .p (.mov (.tmp 5)), 0, 0⟩,
         ⟨(some 41), none, .p (.bin .sub (.tmp 40) (.const (.int .i64 1))), 0, 0⟩,
         ⟨(some 42), none, .p (.indexAddr 1 (.tmp 39) (.tmp 41)), 0, 0⟩,
         ⟨(some 43), none, .r (.load1 (.tmp 42)), 0, 0⟩,
         ⟨(some 44), none, .p (.bin .neq (.tmp 38) (.tmp 43)), 0, 0⟩])
        (.cond (.tmp 44)
         (.seq (.ops [⟨(some 45), none, .p (.mov (.tmp 0)), 0, 0⟩,
          ⟨(some 46), none, .p (.mov (.tmp 3)), 0, 0⟩,
          ⟨(some 47), none, .p (.mov (.tmp 4)), 0, 0⟩,
          ⟨(some 48), none, .p (.mov (.tmp 5)), 0, 0⟩,
          ⟨(some 49), none, .p (.indexAddr 1 (.tmp 47) (.tmp 48)), 0, 0⟩,
          ⟨(some 50), none, .r (.load1 (.tmp 49)), 0, 0⟩,
          ⟨(some 51), none, .p (.indexAddr 1 (.tmp 45) (.tmp 46)), 0, 0⟩,
          ⟨none, none, .e (.store 1 (.tmp 51) (.tmp 50)), 0, 0⟩])
         (.ops [⟨(some 52), none, .p (.mov (.tmp 3)), 0, 0⟩,
          ⟨(some 53), none, .p (.bin .add (.tmp 52) (.const (.int .i64 1))), 0, 0⟩,
          ⟨(some 3), none, .p (.mov (.tmp 53)), 0, 0⟩]))
         .skip)))
       (.ops [⟨(some 33), none, .p (.mov (.tmp 5)), 0, 0⟩,
        ⟨(some 34), none, .p (.bin .add (.tmp 33) (.const (.int .i64 1))), 0, 0⟩,
        ⟨(some 5), none, .p (.mov (.tmp 34)), 0, 0⟩]))))))
     (.seq (.ops [⟨(some 54), none, .p (.mov (.tmp 0)), 0, 0⟩,
      ⟨(some 55), none, .p (.mov (.tmp 3)), 0, 0⟩,
      ⟨(some 56), none, .p (.slice 1 (.tmp 54) (some (.tmp 55)) none none), 0, 0⟩,
      ⟨none, none, .e (.clearSlice [(.int .i64 0)] (.tmp 56)), 0, 0⟩])
     (.seq (.ops [⟨(some 57), none, .p (.mov (.tmp 0)), 0, 0⟩,
      ⟨(some 58), none, .p (.mov (.tmp 3)), 0, 0⟩,
      ⟨(some 59), none, .p (.slice 1 (.tmp 57) none (some (.tmp 58)) none), 0, 0⟩,
      ⟨(some 2), none, .p (.mov (.tmp 59)), 0, 0⟩])
     .ret))))
     .skip)))
   (.ops [⟨(some 14), none, .p (.mov (.tmp 3)), 0, 0⟩,
    ⟨(some 15), none, .p (.bin .add (.tmp 14) (.const (.int .i64 1))), 0, 0⟩,
    ⟨(some 3), none, .p (.mov (.tmp 15)), 0, 0⟩]))))))
 (.seq (.ops [⟨(some 60), none, .p (.mov (.tmp 0)), 0, 0⟩,
  ⟨(some 2), none, .p (.mov (.tmp 60)), 0, 0⟩])
 .ret)))),
 [.tmp 2]⟩

/-- slices.BinarySearch[[]int,int] -/
def ir56 : IFn := ⟨54,
 (.seq (.ops [⟨(some 4), none, .p (.mov (.const (.int .i64 0))), 0, 0⟩,
  ⟨(some 5), none, .p (.mov (.const (.bool false))), 0, 0⟩])
 (.seq (.ops [⟨(some 10), none, .p (.mov (.tmp 0)), 0, 0⟩,
  ⟨(some 11), none, .p (.lenSlice (.tmp 10)), 0, 0⟩,
  ⟨(some 6), none, .p (.mov (.tmp 11)), 0, 0⟩])
 (.seq (.ops [⟨(some 12), none, .p (.mov (.tmp 6)), 0, 0⟩,
  ⟨(some 7), none, .p (.mov (.const (.int .i64 0))), 0, 0⟩,
  ⟨(some 8), none, .p (.mov (.tmp 12)), 0, 0⟩])
 (.seq (.block 0
  (.loop
   (.seq (.seq (.ops [⟨(some 13), none, .p (.mov (.tmp 7)), 0, 0⟩,
    ⟨(some 14), none, .p (.mov (.tmp 8)), 0, 0⟩,
    ⟨(some 15), none, .p (.bin .lss (.tmp 13) (.tmp 14)), 0, 0⟩])
   (.cond (.tmp 15)
    .skip
    (.exit 0)))
   (.block 1
    (.seq (.ops [⟨(some 16), none, .p (.mov (.tmp 7)), 0, 0⟩,
     ⟨(some 17), none, .p (.mov (.tmp 8)), 0, 0⟩,
     ⟨(some 18), none, .p (.bin .add (.tmp 16) (.tmp 17)), 0, 0⟩,
     ⟨(some 19), none, .p (.conv .u64 (.tmp 18)), 0, 0⟩,
     ⟨(some 20), none, .p (.shift .shr (.tmp 19) (.const (.int .u64 1))), 0, 0⟩,
     ⟨(some 21), none, .p (.conv .i64 (.tmp 20)), 0, 0⟩,
     ⟨(some 9), none, .p (.mov (.tmp 21)), 0, 0⟩])
    (.seq (.ops [⟨(some 22), none, .p (.mov (.tmp 0)), 0, 0⟩,
     ⟨(some 23), none, .p (.mov (.tmp 9)), 0, 0⟩,
     ⟨(some 24), none, .p (.indexAddr 1 (.tmp 22) (.tmp 23)), 0, 0⟩,
     ⟨(some 25), none, .r (.load1 (.tmp 24)), 0, 0⟩,
     ⟨(some 26), none, .p (.mov (.tmp 1)), 0, 0⟩,
     ⟨(some 27), none, .call (.func 64) [(.tmp 25), (.tmp 26)], 0, 0⟩])
    (.cond (.tmp 27)
     (.ops [⟨(some 28), none, .p (.mov (.tmp 9)), 0, 0⟩,
      ⟨(some 29), none, .p (.bin .add (.tmp 28) (.const (.int .i64 1))), 0, 0⟩,
      ⟨(some 7), none, .p (.mov (.tmp 29)), 0, 0⟩])
     (.ops [⟨(some 30), none, .p (.mov (.tmp 9)), 0, 0⟩,
      ⟨(some 8), none, .p (.mov (.tmp 30)), 0, 0⟩]))))))))
 (.seq (.ops [⟨(some 31), none, .p (.mov (.tmp 7)), 0, 0⟩,
  ⟨(some 32), none, .p (.mov (.tmp 7)), 0, 0⟩,
  ⟨(some 33), none, .p (.mov (.tmp 6)), 0, 0⟩,
  ⟨(some 34), none, .p (.bin .lss (.tmp 32) (.tmp 33)), 0, 0⟩,
  ⟨(some 35), none, .p (.mov (.tmp 34)), 0, 0⟩,
  ⟨(some 36), (some (35, true)), .p (.mov (.tmp 0)), 0, 0⟩,
  ⟨(some 37), (some (35, true)), .p (.mov (.tmp 7)), 0, 0⟩,
  ⟨(some 38), (some (35, true)), .p (.indexAddr 1 (.tmp 36) (.tmp 37)), 0, 0⟩,
  ⟨(some 39), (some (35, true)), .r (.load1 (.tmp 38)), 0, 0⟩,
  ⟨(some 40), (some (35, true)), .p (.mov (.tmp 1)), 0, 0⟩,
  ⟨(some 41), (some (35, true)), .p (.bin .eql (.tmp 39) (.tmp 40)), 0, 0⟩,
  ⟨(some 42), (some (35, true)), .p (.mov (.tmp 41)), 0, 0⟩,
  ⟨(some 43), (some (42, false)), .p (.mov (.tmp 0)), 0, 0⟩,
  ⟨(some 44), (some (42, false)), .p (.mov (.tmp 7)), 0, 0⟩,
  ⟨(some 45), (some (42, false)), .p (.indexAddr 1 (.tmp 43) (.tmp 44)), 0, 0⟩,
  ⟨(some 46), (some (42, false)), .r (.load1 (.tmp 45)), 0, 0⟩,
  ⟨(some 47), (some (42, false)), .call (.func 71) [(.tmp 46)], 0, 0⟩,
  ⟨(some 48), (some (42, false)), .p (.mov (.tmp 47)), 0, 0⟩,
  ⟨(some 49), (some (48, true)), .p (.mov (.tmp 1)), 0, 0⟩,
  ⟨(some 50), (some (48, true)), .call (.func 71) [(.tmp 49)], 0, 0⟩,
  ⟨(some 51), (some (42, false)), .p (.pick (.tmp 48) (.tmp 50) (.const (.bool false))), 0, 0⟩,
  ⟨(some 52), (some (35, true)), .p (.pick (.tmp 42) (.const (.bool true)) (.tmp 51)), 0, 0⟩,
  ⟨(some 53), none, .p (.pick (.tmp 35) (.tmp 52) (.const (.bool false))), 0, 0⟩,
  ⟨(some 4), none, .p (.mov (.tmp 31)), 0, 0⟩,
  ⟨(some 5), none, .p (.mov (.tmp 53)), 0, 0⟩])
 .ret))))),
 [.tmp 4, .tmp 5]⟩

/-- slices.Sort[[]int16,int16] -/
def ir57 : IFn := ⟨11,
 (.seq (.ops [⟨(some 3), none, .p (.mov (.tmp 0)), 0, 0⟩,
  ⟨(some 4), none, .p (.lenSlice (.tmp 3)), 0, 0⟩,
  ⟨(some 2), none, .p (.mov (.tmp 4)), 0, 0⟩])
 (.ops [⟨(some 5), none, .p (.mov (.tmp 0)), 0, 0⟩,
  ⟨(some 6), none, .p (.mov (.tmp 2)), 0, 0⟩,
  ⟨(some 7), none, .p (.mov (.tmp 2)), 0, 0⟩,
  ⟨(some 8), none, .p (.conv .u64 (.tmp 7)), 0, 0⟩,
  ⟨(some 9), none, .call (.func 49) [(.tmp 8)], 0, 0⟩,
  ⟨(some 10), none, .call (.func 72) [(.tmp 5), (.const (.int .i64 0)), (.tmp 6), (.tmp 9)], 0, 0⟩])),
 []⟩

/-- slices.insertionSortOrdered[int] -/
def ir58 : IFn := ⟨49,
 (.seq (.ops [⟨(some 8), none, .p (.mov (.tmp 1)), 0, 0⟩,
  ⟨(some 9), none, .p (.bin .add (.tmp 8) (.const (.int .i64 1))), 0, 0⟩,
  ⟨(some 6), none, .p (.mov (.tmp 9)), 0, 0⟩])
 (.block 0
  (.loop
   (.seq (.seq (.ops [⟨(some 10), none, .p (.mov (.tmp 6)), 0, 0⟩,
    ⟨(some 11), none, .p (.mov (.tmp 2)), 0, 0⟩,
    ⟨(some 12), none, .p (.bin .lss (.tmp 10) (.tmp 11)), 0, 0⟩])
   (.cond (.tmp 12)
    .skip
    (.exit 0)))
   (.seq (.block 1
    (.seq (.ops [⟨(some 15), none, .p (.mov (.tmp 6)), 0, 0⟩,
     ⟨(some 7), none, .p (.mov (.tmp 15)), 0, 0⟩])
    (.block 2
     (.loop
      (.seq (.seq (.drawn [⟨(some 16), none, .p (.mov (.tmp 7)), 0, 0⟩,
       ⟨(some 17), none, .p (.mov (.tmp 1)), 0, 0⟩,
       ⟨(some 18), none, .p (.bin .gtr (.tmp 16) (.tmp 17)), 0, 0⟩,
       ⟨(some 19), none, .p (.mov (.tmp 18)), 0, 0⟩,
       ⟨(some 20), (some (19, true)), .p (.mov (.tmp 0)), 0, 0⟩,
       ⟨(some 21), (some (19, true)), .p (.mov (.tmp 7)), 0, 0⟩,
       ⟨(some 22), (some (19, true)), .p (.indexAddr 1 (.tmp 20) (.tmp 21)), 0, 0⟩,
       ⟨(some 23), (some (19, true)), .r (.load1 (.tmp 22)), 0, 0⟩,
       ⟨(some 24), (some (19, true)), .p (.mov (.tmp 0)), 0, 0⟩,
       ⟨(some 25), (some (19, true)), .p (.mov (.tmp 7)), 0, 0⟩,
       ⟨(some 26), (some (19, true)), .p (.bin .sub (.tmp 25) (.const (.int .i64 1))), 0, 0⟩,
       ⟨(some 27), (some (19, true)), .p (.indexAddr 1 (.tmp 24) (.tmp 26)), 0, 0⟩,
       ⟨(some 28), (some (19, true)), .r (.load1 (.tmp 27)), 0, 0⟩,
       ⟨(some 29), (some (19, true)), .call (.func 64) [(.tmp 23), (.tmp 28)], 0, 1⟩,
       ⟨(some 30), none, .p (.pick (.tmp 19) (.tmp 29) (.const (.bool false))), 1, 1⟩])
      (.cond (.tmp 30)
       .skip
       (.exit 2)))
      (.seq (.block 3
       (.drawn [⟨(some 33), none, .p (.mov (.tmp 0)), 0, 0⟩,
        ⟨(some 34), none, .p (.mov (.tmp 7)), 0, 0⟩,
        ⟨(some 35), none, .p (.mov (.tmp 0)), 0, 1⟩,
        ⟨(some 36), none, .p (.mov (.tmp 7)), 0, 1⟩,
        ⟨(some 37), none, .p (.bin .sub (.tmp 36) (.const (.int .i64 1))), 0, 1⟩,
        ⟨(some 38), none, .p (.mov (.tmp 0)), 0, 0⟩,
        ⟨(some 39), none, .p (.mov (.tmp 7)), 0, 0⟩,
        ⟨(some 40), none, .p (.bin .sub (.tmp 39) (.const (.int .i64 1))), 0, 0⟩,
        ⟨(some 41), none, .p (.indexAddr 1 (.tmp 38) (.tmp 40)), 0, 0⟩,
        ⟨(some 42), none, .r (.load1 (.tmp 41)), 0, 0⟩,
        ⟨(some 43), none, .p (.mov (.tmp 0)), 0, 0⟩,
        ⟨(some 44), none, .p (.mov (.tmp 7)), 0, 0⟩,
        ⟨(some 45), none, .p (.indexAddr 1 (.tmp 43) (.tmp 44)), 0, 0⟩,
        ⟨(some 46), none, .r (.load1 (.tmp 45)), 0, 0⟩,
        ⟨(some 47), none, .p (.indexAddr 1 (.tmp 33) (.tmp 34)), 0, 0⟩,
        ⟨none, none, .e (.store 1 (.tmp 47) (.tmp 42)), 0, 1⟩,
        ⟨(some 48), none, .p (.indexAddr 1 (.tmp 35) (.tmp 37)), 1, 1⟩,
        ⟨none, none, .e (.store 1 (.tmp 48) (.tmp 46)), 1, 2⟩]))
      (.ops [⟨(some 31), none, .p (.mov (.tmp 7)), 0, 0⟩,
       ⟨(some 32), none, .p (.bin .sub (.tmp 31) (.const (.int .i64 1))), 0, 0⟩,
       ⟨(some 7), none, .p (.mov (.tmp 32)), 0, 0⟩])))))))
   (.ops [⟨(some 13), none, .p (.mov (.tmp 6)), 0, 0⟩,
    ⟨(some 14), none, .p (.bin .add (.tmp 13) (.const (.int .i64 1))), 0, 0⟩,
    ⟨(some 6), none, .p (.mov (.tmp 14)), 0, 0⟩])))))),
 []⟩

/-- slices.heapSortOrdered[int] -/
def ir59 : IFn := ⟨56,
 (.seq (.ops [⟨(some 11), none, .p (.mov (.tmp 1)), 0, 0⟩,
  ⟨(some 6), none, .p (.mov (.tmp 11)), 0, 0⟩])
 (.seq (.ops [⟨(some 7), none, .p (.mov (.const (.int .i64 0))), 0, 0⟩])
 (.seq (.ops [⟨(some 12), none, .p (.mov (.tmp 2)), 0, 0⟩,
  ⟨(some 13), none, .p (.mov (.tmp 1)), 0, 0⟩,
  ⟨(some 14), none, .p (.bin .sub (.tmp 12) (.tmp 13)), 0, 0⟩,
  ⟨(some 8), none, .p (.mov (.tmp 14)), 0, 0⟩])
 (.seq (.seq (.ops [⟨(some 15), none, .p (.mov (.tmp 8)), 0, 0⟩,
  ⟨(some 16), none, .p (.bin .sub (.tmp 15) (.const (.int .i64 1))), 0, 0⟩,
  ⟨(some 17), none, .p (.bin .quo (.tmp 16) (.const (.int .i64 2))), 0, 0⟩,
  ⟨(some 9), none, .p (.mov (.tmp 17)), 0, 0⟩])
 (.block 0
  (.loop
   (.seq (.seq (.ops [⟨(some 18), none, .p (.mov (.tmp 9)), 0, 0⟩,
    ⟨(some 19), none, .p (.bin .geq (.tmp 18) (.const (.int .i64 0))), 0, 0⟩])
   (.cond (.tmp 19)
    .skip
    (.exit 0)))
   (.seq (.block 1
    (.ops [⟨(some 22), none, .p (.mov (.tmp 0)), 0, 0⟩,
     ⟨(some 23), none, .p (.mov (.tmp 9)), 0, 0⟩,
     ⟨(some 24), none, .p (.mov (.tmp 8)), 0, 0⟩,
     ⟨(some 25), none, .p (.mov (.tmp 6)), 0, 0⟩,
     ⟨(some 26), none, .call (.func 73) [(.tmp 22), (.tmp 23), (.tmp 24), (.tmp 25)], 0, 0⟩]))
   (.ops [⟨(some 20), none, .p (.mov (.tmp 9)), 0, 0⟩,
    ⟨(some 21), none, .p (.bin .sub (.tmp 20) (.const (.int .i64 1))), 0, 0⟩,
    ⟨(some 9), none, .p (.mov (.tmp 21)), 0, 0⟩]))))))
 (.seq (.ops [⟨(some 27), none, .p (.mov (.tmp 8)), 0, 0⟩,
  ⟨(some 28), none, .p (.bin .sub (.tmp 27) (.const (.int .i64 1))), 0, 0⟩,
  ⟨(some 10), none, .p (.mov (.tmp 28)), 0, 0⟩])
 (.block 2
  (.loop
   (.seq (.seq (.ops [⟨(some 29), none, .p (.mov (.tmp 10)), 0, 0⟩,
    ⟨(some 30), none, .p (.bin .geq (.tmp 29) (.const (.int .i64 0))), 0, 0⟩])
   (.cond (.tmp 30)
    .skip
    (.exit 2)))
   (.seq (.block 3
    (.seq (.drawn [⟨(some 33), none, .p (.mov (.tmp 0)), 0, 0⟩,
     ⟨(some 34), none, .p (.mov (.tmp 6)), 0, 0⟩,
     ⟨(some 35), none, .p (.mov (.tmp 0)), 0, 1⟩,
     ⟨(some 36), none, .p (.mov (.tmp 6)), 0, 1⟩,
     ⟨(some 37), none, .p (.mov (.tmp 10)), 0, 1⟩,
     ⟨(some 38), none, .p (.bin .add (.tmp 36) (.tmp 37)), 0, 1⟩,
     ⟨(some 39), none, .p (.mov (.tmp 0)), 0, 0⟩,
     ⟨(some 40), none, .p (.mov (.tmp 6)), 0, 0⟩,
     ⟨(some 41), none, .p (.mov (.tmp 10)), 0, 0⟩,
     ⟨(some 42), none, .p (.bin .add (.tmp 40) (.tmp 41)), 0, 0⟩,
     ⟨(some 43), none, .p (.indexAddr 1 (.tmp 39) (.tmp 42)), 0, 0⟩,
     ⟨(some 44), none, .r (.load1 (.tmp 43)), 0, 0⟩,
     ⟨(some 45), none, .p (.mov (.tmp 0)), 0, 0⟩,
     ⟨(some 46), none, .p (.mov (.tmp 6)), 0, 0⟩,
     ⟨(some 47), none, .p (.indexAddr 1 (.tmp 45) (.tmp 46)), 0, 0⟩,
     ⟨(some 48), none, .r (.load1 (.tmp 47)), 0, 0⟩,
     ⟨(some 49), none, .p (.indexAddr 1 (.tmp 33) (.tmp 34)), 0, 0⟩,
     ⟨none, none, .e (.store 1 (.tmp 49) (.tmp 44)), 0, 1⟩,
     ⟨(some 50), none, .p (.indexAddr 1 (.tmp 35) (.tmp 38)), 1, 1⟩,
     ⟨none, none, .e (.store 1 (.tmp 50) (.tmp 48)), 1, 2⟩])
    (.ops [⟨(some 51), none, .p (.mov (.tmp 0)), 0, 0⟩,
     ⟨(some 52), none, .p (.mov (.tmp 7)), 0, 0⟩,
     ⟨(some 53), none, .p (.mov (.tmp 10)), 0, 0⟩,
     ⟨(some 54), none, .p (.mov (.tmp 6)), 0, 0⟩,
     ⟨(some 55), none, .call (.func 73) [(.tmp 51), (.tmp 52), (.tmp 53), (.tmp 54)], 0, 0⟩])))
   (.ops [⟨(some 31), none, .p (.mov (.tmp 10)), 0, 0⟩,
    ⟨(some 32), none, .p (.bin .sub (.tmp 31) (.const (.int .i64 1))), 0, 0⟩,
    ⟨(some 10), none, .p (.mov (.tmp 32)), 0, 0⟩])))))))))),
 []⟩

/-- slices.breakPatternsOrdered[int] -/
def ir60 : IFn := ⟨65,
 (.seq (.ops [⟨(some 11), none, .p (.mov (.tmp 2)), 0, 0⟩,
  ⟨(some 12), none, .p (.mov (.tmp 1)), 0, 0⟩,
  ⟨(some 13), none, .p (.bin .sub (.tmp 11) (.tmp 12)), 0, 0⟩,
  ⟨(some 6), none, .p (.mov (.tmp 13)), 0, 0⟩])
 (.seq (.ops [⟨(some 14), none, .p (.mov (.tmp 6)), 0, 0⟩,
  ⟨(some 15), none, .p (.bin .geq (.tmp 14) (.const (.int .i64 8))), 0, 0⟩])
 (.cond (.tmp 15)
  (.seq (.ops [⟨(some 16), none, .p (.mov (.tmp 6)), 0, 0⟩,
   ⟨(some 17), none, .p (.conv .u64 (.tmp 16)), 0, 0⟩,
   ⟨(some 7), none, .n (.alloc [(.int .u64 0)] 112), 0, 0⟩,
   ⟨none, none, .e (.store 1 (.tmp 7) (.tmp 17)), 0, 0⟩])
  (.seq (.ops [⟨(some 18), none, .p (.mov (.tmp 6)), 0, 0⟩,
   ⟨(some 19), none, .call (.func 74) [(.tmp 18)], 0, 0⟩,
   ⟨(some 8), none, .p (.mov (.tmp 19)), 0, 0⟩])
  (.seq (.ops [⟨(some 20), none, .p (.mov (.tmp 1)), 0, 0⟩,
   ⟨(some 21), none, .p (.mov (.tmp 6)), 0, 0⟩,
   ⟨(some 22), none, .p (.bin .quo (.tmp 21) (.const (.int .i64 4))), 0, 0⟩,
   ⟨(some 23), none, .p (.bin .mul (.tmp 22) (.const (.int .i64 2))), 0, 0⟩,
   ⟨(some 24), none, .p (.bin .add (.tmp 20) (.tmp 23)), 0, 0⟩,
   ⟨(some 25), none, .p (.bin .sub (.tmp 24) (.const (.int .i64 1))), 0, 0⟩,
   ⟨(some 9), none, .p (.mov (.tmp 25)), 0, 0⟩])
  (.block 0
   (.loop
    (.seq (.seq (.ops [⟨(some 26), none, .p (.mov (.tmp 9)), 0, 0⟩,
     ⟨(some 27), none, .p (.mov (.tmp 1)), 0, 0⟩,
     ⟨(some 28), none, .p (.mov (.tmp 6)), 0, 0⟩,
     ⟨(some 29), none, .p (.bin .quo (.tmp 28) (.const (.int .i64 4))), 0, 0⟩,
     ⟨(some 30), none, .p (.bin .mul (.tmp 29) (.const (.int .i64 2))), 0, 0⟩,
     ⟨(some 31), none, .p (.bin .add (.tmp 27) (.tmp 30)), 0, 0⟩,
     ⟨(some 32), none, .p (.bin .add (.tmp 31) (.const (.int .i64 1))), 0, 0⟩,
     ⟨(some 33), none, .p (.bin .leq (.tmp 26) (.tmp 32)), 0, 0⟩])
    (.cond (.tmp 33)
     .skip
     (.exit 0)))
    (.seq (.block 1
     (.seq (.ops [⟨(some 36), none, .call (.func 75) [(.tmp 7)], 0, 0⟩,
      ⟨(some 37), none, .p (.mov (.tmp 8)), 0, 0⟩,
      ⟨(some 38), none, .p (.bin .sub (.tmp 37) (.const (.int .u64 1))), 0, 0⟩,
      ⟨(some 39), none, .p (.bin .and (.tmp 36) (.tmp 38)), 0, 0⟩,
      ⟨(some 40), none, .p (.conv .i64 (.tmp 39)), 0, 0⟩,
      ⟨(some 10), none, .p (.mov (.tmp 40)), 0, 0⟩])
     (.seq (.seq (.ops [⟨(some 41), none, .p (.mov (.tmp 10)), 0, 0⟩,
      ⟨(some 42), none, .p (.mov (.tmp 6)), 0, 0⟩,
      ⟨(some 43), none, .p (.bin .geq (.tmp 41) (.tmp 42)), 0, 0⟩])
     (.cond (.tmp 43)
      (.ops [⟨(some 44), none, .p (.mov (.tmp 10)), 0, 0⟩,
       ⟨(some 45), none, .p (.mov (.tmp 6)), 0, 0⟩,
       ⟨(some 46), none, .p (.bin .sub (.tmp 44) (.tmp 45)), 0, 0⟩,
       ⟨(some 10), none, .p (.mov (.tmp 46)), 0, 0⟩])
      .skip))
     (.drawn [⟨(some 47), none, .p (.mov (.tmp 0)), 0, 0⟩,
      ⟨(some 48), none, .p (.mov (.tmp 9)), 0, 0⟩,
      ⟨(some 49), none, .p (.mov (.tmp 0)), 0, 1⟩,
      ⟨(some 50), none, .p (.mov (.tmp 1)), 0, 1⟩,
      ⟨(some 51), none, .p (.mov (.tmp 10)), 0, 1⟩,
      ⟨(some 52), none, .p (.bin .add (.tmp 50) (.tmp 51)), 0, 1⟩,
      ⟨(some 53), none, .p (.mov (.tmp 0)), 0, 0⟩,
      ⟨(some 54), none, .p (.mov (.tmp 1)), 0, 0⟩,
      ⟨(some 55), none, .p (.mov (.tmp 10)), 0, 0⟩,
      ⟨(some 56), none, .p (.bin .add (.tmp 54) (.tmp 55)), 0, 0⟩,
      ⟨(some 57), none, .p (.indexAddr 1 (.tmp 53) (.tmp 56)), 0, 0⟩,
      ⟨(some 58), none, .r (.load1 (.tmp 57)), 0, 0⟩,
      ⟨(some 59), none, .p (.mov (.tmp 0)), 0, 0⟩,
      ⟨(some 60), none, .p (.mov (.tmp 9)), 0, 0⟩,
      ⟨(some 61), none, .p (.indexAddr 1 (.tmp 59) (.tmp 60)), 0, 0⟩,
      ⟨(some 62), none, .r (.load1 (.tmp 61)), 0, 0⟩,
      ⟨(some 63), none, .p (.indexAddr 1 (.tmp 47) (.tmp 48)), 0, 0⟩,
      ⟨none, none, .e (.store 1 (.tmp 63) (.tmp 58)), 0, 1⟩,
      ⟨(some 64), none, .p (.indexAddr 1 (.tmp 49) (.tmp 52)), 1, 1⟩,
      ⟨none, none, .e (.store 1 (.tmp 64) (.tmp 62)), 1, 2⟩]))))
    (.ops [⟨(some 34), none, .p (.mov (.tmp 9)), 0, 0⟩,
     ⟨(some 35), none, .p (.bin .add (.tmp 34) (.const (.int .i64 1))), 0, 0⟩,
     ⟨(some 9), none, .p (.mov (.tmp 35)), 0, 0⟩]))))))))
  .skip))),
 []⟩

/-- slices.choosePivotOrdered[int] -/
def ir61 : IFn := ⟨57,
 (.seq (.ops [⟨(some 6), none, .p (.mov (.const (.int .i64 0))), 0, 0⟩,
  ⟨(some 7), none, .p (.mov (.const (.int .i64 0))), 0, 0⟩])
 (.seq (.ops [⟨(some 13), none, .p (.mov (.tmp 2)), 0, 0⟩,
  ⟨(some 14), none, .p (.mov (.tmp 1)), 0, 0⟩,
  ⟨(some 15), none, .p (.bin .sub (.tmp 13) (.tmp 14)), 0, 0⟩,
  ⟨(some 8), none, .p (.mov (.tmp 15)), 0, 0⟩])
 (.seq (.ops [⟨(some 9), none, .n (.alloc [(.int .i64 0)] 3), 0, 0⟩])
 (.seq (.ops [⟨(some 16), none, .p (.mov (.tmp 1)), 0, 0⟩,
  ⟨(some 17), none, .p (.mov (.tmp 8)), 0, 0⟩,
  ⟨(some 18), none, .p (.bin .quo (.tmp 17) (.const (.int .i64 4))), 0, 0⟩,
  ⟨(some 19), none, .p (.bin .mul (.tmp 18) (.const (.int .i64 1))), 0, 0⟩,
  ⟨(some 20), none, .p (.bin .add (.tmp 16) (.tmp 19)), 0, 0⟩,
  ⟨(some 10), none, .p (.mov (.tmp 20)), 0, 0⟩])
 (.seq (.ops [⟨(some 21), none, .p (.mov (.tmp 1)), 0, 0⟩,
  ⟨(some 22), none, .p (.mov (.tmp 8)), 0, 0⟩,
  ⟨(some 23), none, .p (.bin .quo (.tmp 22) (.const (.int .i64 4))), 0, 0⟩,
  ⟨(some 24), none, .p (.bin .mul (.tmp 23) (.const (.int .i64 2))), 0, 0⟩,
  ⟨(some 25), none, .p (.bin .add (.tmp 21) (.tmp 24)), 0, 0⟩,
  ⟨(some 11), none, .p (.mov (.tmp 25)), 0, 0⟩])
 (.seq (.ops [⟨(some 26), none, .p (.mov (.tmp 1)), 0, 0⟩,
  ⟨(some 27), none, .p (.mov (.tmp 8)), 0, 0⟩,
  ⟨(some 28), none, .p (.bin .quo (.tmp 27) (.const (.int .i64 4))), 0, 0⟩,
  ⟨(some 29), none, .p (.bin .mul (.tmp 28) (.const (.int .i64 3))), 0, 0⟩,
  ⟨(some 30), none, .p (.bin .add (.tmp 26) (.tmp 29)), 0, 0⟩,
  ⟨(some 12), none, .p (.mov (.tmp 30)), 0, 0⟩])
 (.seq (.seq (.ops [⟨(some 31), none, .p (.mov (.tmp 8)), 0, 0⟩,
  ⟨(some 32), none, .p (.bin .geq (.tmp 31) (.const (.int .i64 8))), 0, 0⟩])
 (.cond (.tmp 32)
  (.seq (.seq (.ops [⟨(some 33), none, .p (.mov (.tmp 8)), 0, 0⟩,
   ⟨(some 34), none, .p (.bin .geq (.tmp 33) (.const (.int .i64 50))), 0, 0⟩])
  (.cond (.tmp 34)
   (.seq (.ops [⟨(some 35), none, .p (.mov (.tmp 0)), 0, 0⟩,
    ⟨(some 36), none, .p (.mov (.tmp 10)), 0, 0⟩,
    ⟨(some 37), none, .call (.func 76) [(.tmp 35), (.tmp 36), (.tmp 9)], 0, 0⟩,
    ⟨(some 10), none, .p (.mov (.tmp 37)), 0, 0⟩])
   (.seq (.ops [⟨(some 38), none, .p (.mov (.tmp 0)), 0, 0⟩,
    ⟨(some 39), none, .p (.mov (.tmp 11)), 0, 0⟩,
    ⟨(some 40), none, .call (.func 76) [(.tmp 38), (.tmp 39), (.tmp 9)], 0, 0⟩,
    ⟨(some 11), none, .p (.mov (.tmp 40)), 0, 0⟩])
   (.ops [⟨(some 41), none, .p (.mov (.tmp 0)), 0, 0⟩,
    ⟨(some 42), none, .p (.mov (.tmp 12)), 0, 0⟩,
    ⟨(some 43), none, .call (.func 76) [(.tmp 41), (.tmp 42), (.tmp 9)], 0, 0⟩,
    ⟨(some 12), none, .p (.mov (.tmp 43)), 0, 0⟩])))
   .skip))
  (.ops [⟨(some 44), none, .p (.mov (.tmp 0)), 0, 0⟩,
   ⟨(some 45), none, .p (.mov (.tmp 10)), 0, 0⟩,
   ⟨(some 46), none, .p (.mov (.tmp 11)), 0, 0⟩,
   ⟨(some 47), none, .p (.mov (.tmp 12)), 0, 0⟩,
   ⟨(some 48), none, .call (.func 77) [(.tmp 44), (.tmp 45), (.tmp 46), (.tmp 47), (.tmp 9)], 0, 0⟩,
   ⟨(some 11), none, .p (.mov (.tmp 48)), 0, 0⟩]))
  .skip))
 (.seq (.ops [⟨(some 49), none, .r (.load1 (.tmp 9)), 0, 0⟩])
 (.block 0
  (.seq (.ops [⟨(some 52), none, .p (.bin .eql (.tmp 49) (.const (.int .i64 0))), 0, 0⟩,
   ⟨(some 51), none, .p (.mov (.tmp 52)), 0, 0⟩])
  (.cond (.tmp 51)
   (.seq (.ops [⟨(some 53), none, .p (.mov (.tmp 11)), 0, 0⟩,
    ⟨(some 6), none, .p (.mov (.tmp 53)), 0, 0⟩,
    ⟨(some 7), none, .p (.mov (.const (.int .i64 1))), 0, 0⟩])
   .ret)
   (.seq (.ops [⟨(some 55), none, .p (.bin .eql (.tmp 49) (.const (.int .i64 12))), 0, 0⟩,
    ⟨(some 54), none, .p (.mov (.tmp 55)), 0, 0⟩])
   (.cond (.tmp 54)
    (.seq (.ops [⟨(some 56), none, .p (.mov (.tmp 11)), 0, 0⟩,
     ⟨(some 6), none, .p (.mov (.tmp 56)), 0, 0⟩,
     ⟨(some 7), none, .p (.mov (.const (.int .i64 2))), 0, 0⟩])
    .ret)
    (.seq (.ops [⟨(some 50), none, .p (.mov (.tmp 11)), 0, 0⟩,
     ⟨(some 6), none, .p (.mov (.tmp 50)), 0, 0⟩,
     ⟨(some 7), none, .p (.mov (.const (.int .i64 0))), 0, 0⟩])
    .ret)))))))))))))),
 [.tmp 6, .tmp 7]⟩

/-- slices.reverseRangeOrdered[int] -/
def ir62 : IFn := ⟨32,
 (.seq (.ops [⟨(some 8), none, .p (.mov (.tmp 1)), 0, 0⟩,
  ⟨(some 6), none, .p (.mov (.tmp 8)), 0, 0⟩])
 (.seq (.ops [⟨(some 9), none, .p (.mov (.tmp 2)), 0, 0⟩,
  ⟨(some 10), none, .p (.bin .sub (.tmp 9) (.const (.int .i64 1))), 0, 0⟩,
  ⟨(some 7), none, .p (.mov (.tmp 10)), 0, 0⟩])
 (.block 0
  (.loop
   (.seq (.seq (.ops [⟨(some 11), none, .p (.mov (.tmp 6)), 0, 0⟩,
    ⟨(some 12), none, .p (.mov (.tmp 7)), 0, 0⟩,
    ⟨(some 13), none, .p (.bin .lss (.tmp 11) (.tmp 12)), 0, 0⟩])
   (.cond (.tmp 13)
    .skip
    (.exit 0)))
   (.block 1
    (.seq (.drawn [⟨(some 14), none, .p (.mov (.tmp 0)), 0, 0⟩,
     ⟨(some 15), none, .p (.mov (.tmp 6)), 0, 0⟩,
     ⟨(some 16), none, .p (.mov (.tmp 0)), 0, 1⟩,
     ⟨(some 17), none, .p (.mov (.tmp 7)), 0, 1⟩,
     ⟨(some 18), none, .p (.mov (.tmp 0)), 0, 0⟩,
     ⟨(some 19), none, .p (.mov (.tmp 7)), 0, 0⟩,
     ⟨(some 20), none, .p (.indexAddr 1 (.tmp 18) (.tmp 19)), 0, 0⟩,
     ⟨(some 21), none, .r (.load1 (.tmp 20)), 0, 0⟩,
     ⟨(some 22), none, .p (.mov (.tmp 0)), 0, 0⟩,
     ⟨(some 23), none, .p (.mov (.tmp 6)), 0, 0⟩,
     ⟨(some 24), none, .p (.indexAddr 1 (.tmp 22) (.tmp 23)), 0, 0⟩,
     ⟨(some 25), none, .r (.load1 (.tmp 24)), 0, 0⟩,
     ⟨(some 26), none, .p (.indexAddr 1 (.tmp 14) (.tmp 15)), 0, 0⟩,
     ⟨none, none, .e (.store 1 (.tmp 26) (.tmp 21)), 0, 1⟩,
     ⟨(some 27), none, .p (.indexAddr 1 (.tmp 16) (.tmp 17)), 1, 1⟩,
     ⟨none, none, .e (.store 1 (.tmp 27) (.tmp 25)), 1, 2⟩])
    (.seq (.ops [⟨(some 28), none, .p (.mov (.tmp 6)), 0, 0⟩,
     ⟨(some 29), none, .p (.bin .add (.tmp 28) (.const (.int .i64 1))), 0, 0⟩,
     ⟨(some 6), none, .p (.mov (.tmp 29)), 0, 0⟩])
    (.ops [⟨(some 30), none, .p (.mov (.tmp 7)), 0, 0⟩,
     ⟨(some 31), none, .p (.bin .sub (.tmp 30) (.const (.int .i64 1))), 0, 0⟩,
     ⟨(some 7), none, .p (.mov (.tmp 31)), 0, 0⟩]))))))))),
 []⟩

/-- slices.partialInsertionSortOrdered[int] -/
def ir63 : IFn := ⟨133,
 (.seq (.ops [⟨(some 6), none, .p (.mov (.const (.bool false))), 0, 0⟩])
 (.seq (.ops [⟨(some 11), none, .p (.mov (.tmp 1)), 0, 0⟩,
  ⟨(some 12), none, .p (.bin .add (.tmp 11) (.const (.int .i64 1))), 0, 0⟩,
  ⟨(some 7), none, .p (.mov (.tmp 12)), 0, 0⟩])
 (.seq (.seq (.ops [⟨(some 8), none, .p (.mov (.const (.int .i64 0))), 0, 0⟩])
 (.block 0
  (.loop
   (.seq (.seq (.ops [⟨(some 13), none, .p (.mov (.tmp 8)), 0, 0⟩,
    ⟨(some 14), none, .p (.bin .lss (.tmp 13) (.const (.int .i64 5))), 0, 0⟩])
   (.cond (.tmp 14)
    .skip
    (.exit 0)))
   (.seq (.block 1
    (.seq (.block 2
     (.loop
      (.seq (.seq (.drawn [⟨(some 17), none, .p (.mov (.tmp 7)), 0, 0⟩,
       ⟨(some 18), none, .p (.mov (.tmp 2)), 0, 0⟩,
       ⟨(some 19), none, .p (.bin .lss (.tmp 17) (.tmp 18)), 0, 0⟩,
       ⟨(some 20), none, .p (.mov (.tmp 19)), 0, 0⟩,
       ⟨(some 21), (some (20, true)), .p (.mov (.tmp 0)), 0, 0⟩,
       ⟨(some 22), (some (20, true)), .p (.mov (.tmp 7)), 0, 0⟩,
       ⟨(some 23), (some (20, true)), .p (.indexAddr 1 (.tmp 21) (.tmp 22)), 0, 0⟩,
       ⟨(some 24), (some (20, true)), .r (.load1 (.tmp 23)), 0, 0⟩,
       ⟨(some 25), (some (20, true)), .p (.mov (.tmp 0)), 0, 0⟩,
       ⟨(some 26), (some (20, true)), .p (.mov (.tmp 7)), 0, 0⟩,
       ⟨(some 27), (some (20, true)), .p (.bin .sub (.tmp 26) (.const (.int .i64 1))), 0, 0⟩,
       ⟨(some 28), (some (20, true)), .p (.indexAddr 1 (.tmp 25) (.tmp 27)), 0, 0⟩,
       ⟨(some 29), (some (20, true)), .r (.load1 (.tmp 28)), 0, 0⟩,
       ⟨(some 30), (some (20, true)), .call (.func 64) [(.tmp 24), (.tmp 29)], 0, 1⟩,
       ⟨(some 31), (some (20, true)), .p (.not (.tmp 30)), 1, 1⟩,
       ⟨(some 32), none, .p (.pick (.tmp 20) (.tmp 31) (.const (.bool false))), 1, 1⟩])
      (.cond (.tmp 32)
       .skip
       (.exit 2)))
      (.block 3
       (.ops [⟨(some 33), none, .p (.mov (.tmp 7)), 0, 0⟩,
        ⟨(some 34), none, .p (.bin .add (.tmp 33) (.const (.int .i64 1))), 0, 0⟩,
        ⟨(some 7), none, .p (.mov (.tmp 34)), 0, 0⟩])))))
    (.seq (.seq (.ops [⟨(some 35), none, .p (.mov (.tmp 7)), 0, 0⟩,
     ⟨(some 36), none, .p (.mov (.tmp 2)), 0, 0⟩,
     ⟨(some 37), none, .p (.bin .eql (.tmp 35) (.tmp 36)), 0, 0⟩])
    (.cond (.tmp 37)
     (.seq (.ops [⟨(some 6), none, .p (.mov (.const (.bool true))), 0, 0⟩])
     .ret)
     .skip))
    (.seq (.seq (.ops [⟨(some 38), none, .p (.mov (.tmp 2)), 0, 0⟩,
     ⟨(some 39), none, .p (.mov (.tmp 1)), 0, 0⟩,
     ⟨(some 40), none, .p (.bin .sub (.tmp 38) (.tmp 39)), 0, 0⟩,
     ⟨(some 41), none, .p (.bin .lss (.tmp 40) (.const (.int .i64 50))), 0, 0⟩])
    (.cond (.tmp 41)
     (.seq (.ops [⟨(some 6), none, .p (.mov (.const (.bool false))), 0, 0⟩])
     .ret)
     .skip))
    (.seq (.drawn [⟨(some 42), none, .p (.mov (.tmp 0)), 0, 0⟩,
     ⟨(some 43), none, .p (.mov (.tmp 7)), 0, 0⟩,
     ⟨(some 44), none, .p (.mov (.tmp 0)), 0, 1⟩,
     ⟨(some 45), none, .p (.mov (.tmp 7)), 0, 1⟩,
     ⟨(some 46), none, .p (.bin .sub (.tmp 45) (.const (.int .i64 1))), 0, 1⟩,
     ⟨(some 47), none, .p (.mov (.tmp 0)), 0, 0⟩,
     ⟨(some 48), none, .p (.mov (.tmp 7)), 0, 0⟩,
     ⟨(some 49), none, .p (.bin .sub (.tmp 48) (.const (.int .i64 1))), 0, 0⟩,
     ⟨(some 50), none, .p (.indexAddr 1 (.tmp 47) (.tmp 49)), 0, 0⟩,
     ⟨(some 51), none, .r (.load1 (.tmp 50)), 0, 0⟩,
     ⟨(some 52), none, .p (.mov (.tmp 0)), 0, 0⟩,
     ⟨(some 53), none, .p (.mov (.tmp 7)), 0, 0⟩,
     ⟨(some 54), none, .p (.indexAddr 1 (.tmp 52) (.tmp 53)), 0, 0⟩,
     ⟨(some 55), none, .r (.load1 (.tmp 54)), 0, 0⟩,
     ⟨(some 56), none, .p (.indexAddr 1 (.tmp 42) (.tmp 43)), 0, 0⟩,
     ⟨none, none, .e (.store 1 (.tmp 56) (.tmp 51)), 0, 1⟩,
     ⟨(some 57), none, .p (.indexAddr 1 (.tmp 44) (.tmp 46)), 1, 1⟩,
     ⟨none, none, .e (.store 1 (.tmp 57) (.tmp 55)), 1, 2⟩])
    (.seq (.seq (.ops [⟨(some 58), none, .p (.mov (.tmp 7)), 0, 0⟩,
     ⟨(some 59), none, .p (.mov (.tmp 1)), 0, 0⟩,
     ⟨(some 60), none, .p (.bin .sub (.tmp 58) (.tmp 59)), 0, 0⟩,
     ⟨(some 61), none, .p (.bin .geq (.tmp 60) (.const (.int .i64 2))), 0, 0⟩])
    (.cond (.tmp 61)
     (.seq (.ops [⟨(some 62), none, .p (.mov (.tmp 7)), 0, 0⟩,
      ⟨(some 63), none, .p (.bin .sub (.tmp 62) (.const (.int .i64 1))), 0, 0⟩,
      ⟨(some 9), none, .p (.mov (.tmp 63)), 0, 0⟩])
     (.block 4
      (.loop
       (.seq (.seq (.ops [⟨(some 64), none, .p (.mov (.tmp 9)), 0, 0⟩,
        ⟨(some 65), none, .p (.bin .geq (.tmp 64) (.const (.int .i64 1))), 0, 0⟩])
       (.cond (.tmp 65)
        .skip
        (.exit 4)))
       (.seq (.block 5
        (.seq (.seq (.drawn [⟨(some 68), none, .p (.mov (.tmp 0)), 0, 0⟩,
         ⟨(some 69), none, .p (.mov (.tmp 9)), 0, 0⟩,
         ⟨(some 70), none, .p (.indexAddr 1 (.tmp 68) (.tmp 69)), 0, 0⟩,
         ⟨(some 71), none, .r (.load1 (.tmp 70)), 0, 0⟩,
         ⟨(some 72), none, .p (.mov (.tmp 0)), 0, 0⟩,
         ⟨(some 73), none, .p (.mov (.tmp 9)), 0, 0⟩,
         ⟨(some 74), none, .p (.bin .sub (.tmp 73) (.const (.int .i64 1))), 0, 0⟩,
         ⟨(some 75), none, .p (.indexAddr 1 (.tmp 72) (.tmp 74)), 0, 0⟩,
         ⟨(some 76), none, .r (.load1 (.tmp 75)), 0, 0⟩,
         ⟨(some 77), none, .call (.func 64) [(.tmp 71), (.tmp 76)], 0, 1⟩,
         ⟨(some 78), none, .p (.not (.tmp 77)), 1, 1⟩])
        (.cond (.tmp 78)
         (.exit 4)
         .skip))
        (.drawn [⟨(some 79), none, .p (.mov (.tmp 0)), 0, 0⟩,
         ⟨(some 80), none, .p (.mov (.tmp 9)), 0, 0⟩,
         ⟨(some 81), none, .p (.mov (.tmp 0)), 0, 1⟩,
         ⟨(some 82), none, .p (.mov (.tmp 9)), 0, 1⟩,
         ⟨(some 83), none, .p (.bin .sub (.tmp 82) (.const (.int .i64 1))), 0, 1⟩,
         ⟨(some 84), none, .p (.mov (.tmp 0)), 0, 0⟩,
         ⟨(some 85), none, .p (.mov (.tmp 9)), 0, 0⟩,
         ⟨(some 86), none, .p (.bin .sub (.tmp 85) (.const (.int .i64 1))), 0, 0⟩,
         ⟨(some 87), none, .p (.indexAddr 1 (.tmp 84) (.tmp 86)), 0, 0⟩,
         ⟨(some 88), none, .r (.load1 (.tmp 87)), 0, 0⟩,
         ⟨(some 89), none, .p (.mov (.tmp 0)), 0, 0⟩,
         ⟨(some 90), none, .p (.mov (.tmp 9)), 0, 0⟩,
         ⟨(some 91), none, .p (.indexAddr 1 (.tmp 89) (.tmp 90)), 0, 0⟩,
         ⟨(some 92), none, .r (.load1 (.tmp 91)), 0, 0⟩,
         ⟨(some 93), none, .p (.indexAddr 1 (.tmp 79) (.tmp 80)), 0, 0⟩,
         ⟨none, none, .e (.store 1 (.tmp 93) (.tmp 88)), 0, 1⟩,
         ⟨(some 94), none, .p (.indexAddr 1 (.tmp 81) (.tmp 83)), 1, 1⟩,
         ⟨none, none, .e (.store 1 (.tmp 94) (.tmp 92)), 1, 2⟩])))
       (.ops [⟨(some 66), none, .p (.mov (.tmp 9)), 0, 0⟩,
        ⟨(some 67), none, .p (.bin .sub (.tmp 66) (.const (.int .i64 1))), 0, 0⟩,
        ⟨(some 9), none, .p (.mov (.tmp 67)), 0, 0⟩]))))))
     .skip))
    (.seq (.ops [⟨(some 95), none, .p (.mov (.tmp 2)), 0, 0⟩,
     ⟨(some 96), none, .p (.mov (.tmp 7)), 0, 0⟩,
     ⟨(some 97), none, .p (.bin .sub (.tmp 95) (.tmp 96)), 0, 0⟩,
     ⟨(some 98), none, .p (.bin .geq (.tmp 97) (.const (.int .i64 2))), 0, 0⟩])
    (.cond (.tmp 98)
     (.seq (.ops [⟨(some 99), none, .p (.mov (.tmp 7)), 0, 0⟩,
      ⟨(some 100), none, .p (.bin .add (.tmp 99) (.const (.int .i64 1))), 0, 0⟩,
      ⟨(some 10), none, .p (.mov (.tmp 100)), 0, 0⟩])
     (.block 6
      (.loop
       (.seq (.seq (.ops [⟨(some 101), none, .p (.mov (.tmp 10)), 0, 0⟩,
        ⟨(some 102), none, .p (.mov (.tmp 2)), 0, 0⟩,
        ⟨(some 103), none, .p (.bin .lss (.tmp 101) (.tmp 102)), 0, 0⟩])
       (.cond (.tmp 103)
        .skip
        (.exit 6)))
       (.seq (.block 7
        (.seq (.seq (.drawn [⟨(some 106), none, .p (.mov (.tmp 0)), 0, 0⟩,
         ⟨(some 107), none, .p (.mov (.tmp 10)), 0, 0⟩,
         ⟨(some 108), none, .p (.indexAddr 1 (.tmp 106) (.tmp 107)), 0, 0⟩,
         ⟨(some 109), none, .r (.load1 (.tmp 108)), 0, 0⟩,
         ⟨(some 110), none, .p (.mov (.tmp 0)), 0, 0⟩,
         ⟨(some 111), none, .p (.mov (.tmp 10)), 0, 0⟩,
         ⟨(some 112), none, .p (.bin .sub (.tmp 111) (.const (.int .i64 1))), 0, 0⟩,
         ⟨(some 113), none, .p (.indexAddr 1 (.tmp 110) (.tmp 112)), 0, 0⟩,
         ⟨(some 114), none, .r (.load1 (.tmp 113)), 0, 0⟩,
         ⟨(some 115), none, .call (.func 64) [(.tmp 109), (.tmp 114)], 0, 1⟩,
         ⟨(some 116), none, .p (.not (.tmp 115)), 1, 1⟩])
        (.cond (.tmp 116)
         (.exit 6)
         .skip))
        (.drawn [⟨(some 117), none, .p (.mov (.tmp 0)), 0, 0⟩,
         ⟨(some 118), none, .p (.mov (.tmp 10)), 0, 0⟩,
         ⟨(some 119), none, .p (.mov (.tmp 0)), 0, 1⟩,
         ⟨(some 120), none, .p (.mov (.tmp 10)), 0, 1⟩,
         ⟨(some 121), none, .p (.bin .sub (.tmp 120) (.const (.int .i64 1))), 0, 1⟩,
         ⟨(some 122), none, .p (.mov (.tmp 0)), 0, 0⟩,
         ⟨(some 123), none, .p (.mov (.tmp 10)), 0, 0⟩,
         ⟨(some 124), none, .p (.bin .sub (.tmp 123) (.const (.int .i64 1))), 0, 0⟩,
         ⟨(some 125), none, .p (.indexAddr 1 (.tmp 122) (.tmp 124)), 0, 0⟩,
         ⟨(some 126), none, .r (.load1 (.tmp 125)), 0, 0⟩,
         ⟨(some 127), none, .p (.mov (.tmp 0)), 0, 0⟩,
         ⟨(some 128), none, .p (.mov (.tmp 10)), 0, 0⟩,
         ⟨(some 129), none, .p (.indexAddr 1 (.tmp 127) (.tmp 128)), 0, 0⟩,
         ⟨(some 130), none, .r (.load1 (.tmp 129)), 0, 0⟩,
         ⟨(some 131), none, .p (.indexAddr 1 (.tmp 117) (.tmp 118)), 0, 0⟩,
         ⟨none, none, .e (.store 1 (.tmp 131) (.tmp 126)), 0, 1⟩,
         ⟨(some 132), none, .p (.indexAddr 1 (.tmp 119) (.tmp 121)), 1, 1⟩,
         ⟨none, none, .e (.store 1 (.tmp 132) (.tmp 130)), 1, 2⟩])))
       (.ops [⟨(some 104), none, .p (.mov (.tmp 10)), 0, 0⟩,
        ⟨(some 105), none, .p (.bin .add (.tmp 104) (.const (.int .i64 1))), 0, 0⟩,
        ⟨(some 10), none, .p (.mov (.tmp 105)), 0, 0⟩]))))))
     .skip))))))))
   (.ops [⟨(some 15), none, .p (.mov (.tmp 8)), 0, 0⟩,
    ⟨(some 16), none, .p (.bin .add (.tmp 15) (.const (.int .i64 1))), 0, 0⟩,
    ⟨(some 8), none, .p (.mov (.tmp 16)), 0, 0⟩]))))))
 (.seq (.ops [⟨(some 6), none, .p (.mov (.const (.bool false))), 0, 0⟩])
 .ret)))),
 [.tmp 6]⟩

/-- cmp.Less[int] -/
def ir64 : IFn := ⟨17,
 (.seq (.ops [⟨(some 4), none, .p (.mov (.const (.bool false))), 0, 0⟩])
 (.seq (.ops [⟨(some 5), none, .p (.mov (.tmp 0)), 0, 0⟩,
  ⟨(some 6), none, .call (.func 78) [(.tmp 5)], 0, 0⟩,
  ⟨(some 7), none, .p (.mov (.tmp 6)), 0, 0⟩,
  ⟨(some 8), (some (7, true)), .p (.mov (.tmp 1)), 0, 0⟩,
  ⟨(some 9), (some (7, true)), .call (.func 78) [(.tmp 8)], 0, 0⟩,
  ⟨(some 10), (some (7, true)), .p (.not (.tmp 9)), 0, 0⟩,
  ⟨(some 11), none, .p (.pick (.tmp 7) (.tmp 10) (.const (.bool false))), 0, 0⟩,
  ⟨(some 12), none, .p (.mov (.tmp 11)), 0, 0⟩,
  ⟨(some 13), (some (12, false)), .p (.mov (.tmp 0)), 0, 0⟩,
  ⟨(some 14), (some (12, false)), .p (.mov (.tmp 1)), 0, 0⟩,
  ⟨(some 15), (some (12, false)), .p (.bin .lss (.tmp 13) (.tmp 14)), 0, 0⟩,
  ⟨(some 16), none, .p (.pick (.tmp 12) (.const (.bool true)) (.tmp 15)), 0, 0⟩,
  ⟨(some 4), none, .p (.mov (.tmp 16)), 0, 0⟩])
 .ret)),
 [.tmp 4]⟩

/-- slices.partitionEqualOrdered[int] -/
def ir65 : IFn := ⟨84,
 (.seq (.ops [⟨(some 8), none, .p (.mov (.const (.int .i64 0))), 0, 0⟩])
 (.seq (.drawn [⟨(some 11), none, .p (.mov (.tmp 0)), 0, 0⟩,
  ⟨(some 12), none, .p (.mov (.tmp 1)), 0, 0⟩,
  ⟨(some 13), none, .p (.mov (.tmp 0)), 0, 1⟩,
  ⟨(some 14), none, .p (.mov (.tmp 3)), 0, 1⟩,
  ⟨(some 15), none, .p (.mov (.tmp 0)), 0, 0⟩,
  ⟨(some 16), none, .p (.mov (.tmp 3)), 0, 0⟩,
  ⟨(some 17), none, .p (.indexAddr 1 (.tmp 15) (.tmp 16)), 0, 0⟩,
  ⟨(some 18), none, .r (.load1 (.tmp 17)), 0, 0⟩,
  ⟨(some 19), none, .p (.mov (.tmp 0)), 0, 0⟩,
  ⟨(some 20), none, .p (.mov (.tmp 1)), 0, 0⟩,
  ⟨(some 21), none, .p (.indexAddr 1 (.tmp 19) (.tmp 20)), 0, 0⟩,
  ⟨(some 22), none, .r (.load1 (.tmp 21)), 0, 0⟩,
  ⟨(some 23), none, .p (.indexAddr 1 (.tmp 11) (.tmp 12)), 0, 0⟩,
  ⟨none, none, .e (.store 1 (.tmp 23) (.tmp 18)), 0, 1⟩,
  ⟨(some 24), none, .p (.indexAddr 1 (.tmp 13) (.tmp 14)), 1, 1⟩,
  ⟨none, none, .e (.store 1 (.tmp 24) (.tmp 22)), 1, 2⟩])
 (.seq (.ops [⟨(some 25), none, .p (.mov (.tmp 1)), 0, 0⟩,
  ⟨(some 26), none, .p (.bin .add (.tmp 25) (.const (.int .i64 1))), 0, 0⟩,
  ⟨(some 27), none, .p (.mov (.tmp 2)), 0, 0⟩,
  ⟨(some 28), none, .p (.bin .sub (.tmp 27) (.const (.int .i64 1))), 0, 0⟩,
  ⟨(some 9), none, .p (.mov (.tmp 26)), 0, 0⟩,
  ⟨(some 10), none, .p (.mov (.tmp 28)), 0, 0⟩])
 (.seq (.block 0
  (.loop
   (.block 1
    (.seq (.block 2
     (.loop
      (.seq (.seq (.drawn [⟨(some 29), none, .p (.mov (.tmp 9)), 0, 0⟩,
       ⟨(some 30), none, .p (.mov (.tmp 10)), 0, 0⟩,
       ⟨(some 31), none, .p (.bin .leq (.tmp 29) (.tmp 30)), 0, 0⟩,
       ⟨(some 32), none, .p (.mov (.tmp 31)), 0, 0⟩,
       ⟨(some 33), (some (32, true)), .p (.mov (.tmp 0)), 0, 0⟩,
       ⟨(some 34), (some (32, true)), .p (.mov (.tmp 1)), 0, 0⟩,
       ⟨(some 35), (some (32, true)), .p (.indexAddr 1 (.tmp 33) (.tmp 34)), 0, 0⟩,
       ⟨(some 36), (some (32, true)), .r (.load1 (.tmp 35)), 0, 0⟩,
       ⟨(some 37), (some (32, true)), .p (.mov (.tmp 0)), 0, 0⟩,
       ⟨(some 38), (some (32, true)), .p (.mov (.tmp 9)), 0, 0⟩,
       ⟨(some 39), (some (32, true)), .p (.indexAddr 1 (.tmp 37) (.tmp 38)), 0, 0⟩,
       ⟨(some 40), (some (32, true)), .r (.load1 (.tmp 39)), 0, 0⟩,
       ⟨(some 41), (some (32, true)), .call (.func 64) [(.tmp 36), (.tmp 40)], 0, 1⟩,
       ⟨(some 42), (some (32, true)), .p (.not (.tmp 41)), 1, 1⟩,
       ⟨(some 43), none, .p (.pick (.tmp 32) (.tmp 42) (.const (.bool false))), 1, 1⟩])
      (.cond (.tmp 43)
       .skip
       (.exit 2)))
      (.block 3
       (.ops [⟨(some 44), none, .p (.mov (.tmp 9)), 0, 0⟩,
        ⟨(some 45), none, .p (.bin .add (.tmp 44) (.const (.int .i64 1))), 0, 0⟩,
        ⟨(some 9), none, .p (.mov (.tmp 45)), 0, 0⟩])))))
    (.seq (.block 4
     (.loop
      (.seq (.seq (.drawn [⟨(some 46), none, .p (.mov (.tmp 9)), 0, 0⟩,
       ⟨(some 47), none, .p (.mov (.tmp 10)), 0, 0⟩,
       ⟨(some 48), none, .p (.bin .leq (.tmp 46) (.tmp 47)), 0, 0⟩,
       ⟨(some 49), none, .p (.mov (.tmp 48)), 0, 0⟩,
       ⟨(some 50), (some (49, true)), .p (.mov (.tmp 0)), 0, 0⟩,
       ⟨(some 51), (some (49, true)), .p (.mov (.tmp 1)), 0, 0⟩,
       ⟨(some 52), (some (49, true)), .p (.indexAddr 1 (.tmp 50) (.tmp 51)), 0, 0⟩,
       ⟨(some 53), (some (49, true)), .r (.load1 (.tmp 52)), 0, 0⟩,
       ⟨(some 54), (some (49, true)), .p (.mov (.tmp 0)), 0, 0⟩,
       ⟨(some 55), (some (49, true)), .p (.mov (.tmp 10)), 0, 0⟩,
       ⟨(some 56), (some (49, true)), .p (.indexAddr 1 (.tmp 54) (.tmp 55)), 0, 0⟩,
       ⟨(some 57), (some (49, true)), .r (.load1 (.tmp 56)), 0, 0⟩,
       ⟨(some 58), (some (49, true)), .call (.func 64) [(.tmp 53), (.tmp 57)], 0, 1⟩,
       ⟨(some 59), none, .p (.pick (.tmp 49) (.tmp 58) (.const (.bool false))), 1, 1⟩])
      (.cond (.tmp 59)
       .skip
       (.exit 4)))
      (.block 5
       (.ops [⟨(some 60), none, .p (.mov (.tmp 10)), 0, 0⟩,
        ⟨(some 61), none, .p (.bin .sub (.tmp 60) (.const (.int .i64 1))), 0, 0⟩,
        ⟨(some 10), none, .p (.mov (.tmp 61)), 0, 0⟩])))))
    (.seq (.seq (.ops [⟨(some 62), none, .p (.mov (.tmp 9)), 0, 0⟩,
     ⟨(some 63), none, .p (.mov (.tmp 10)), 0, 0⟩,
     ⟨(some 64), none, .p (.bin .gtr (.tmp 62) (.tmp 63)), 0, 0⟩])
    (.cond (.tmp 64)
     (.exit 0)
     .skip))
    (.seq (.drawn [⟨(some 65), none, .p (.mov (.tmp 0)), 0, 0⟩,
     ⟨(some 66), none, .p (.mov (.tmp 9)), 0, 0⟩,
     ⟨(some 67), none, .p (.mov (.tmp 0)), 0, 1⟩,
     ⟨(some 68), none, .p (.mov (.tmp 10)), 0, 1⟩,
     ⟨(some 69), none, .p (.mov (.tmp 0)), 0, 0⟩,
     ⟨(some 70), none, .p (.mov (.tmp 10)), 0, 0⟩,
     ⟨(some 71), none, .p (.indexAddr 1 (.tmp 69) (.tmp 70)), 0, 0⟩,
     ⟨(some 72), none, .r (.load1 (.tmp 71)), 0, 0⟩,
     ⟨(some 73), none, .p (.mov (.tmp 0)), 0, 0⟩,
     ⟨(some 74), none, .p (.mov (.tmp 9)), 0, 0⟩,
     ⟨(some 75), none, .p (.indexAddr 1 (.tmp 73) (.tmp 74)), 0, 0⟩,
     ⟨(some 76), none, .r (.load1 (.tmp 75)), 0, 0⟩,
     ⟨(some 77), none, .p (.indexAddr 1 (.tmp 65) (.tmp 66)), 0, 0⟩,
     ⟨none, none, .e (.store 1 (.tmp 77) (.tmp 72)), 0, 1⟩,
     ⟨(some 78), none, .p (.indexAddr 1 (.tmp 67) (.tmp 68)), 1, 1⟩,
     ⟨none, none, .e (.store 1 (.tmp 78) (.tmp 76)), 1, 2⟩])
    (.seq (.ops [⟨(some 79), none, .p (.mov (.tmp 9)), 0, 0⟩,
     ⟨(some 80), none, .p (.bin .add (.tmp 79) (.const (.int .i64 1))), 0, 0⟩,
     ⟨(some 9), none, .p (.mov (.tmp 80)), 0, 0⟩])
    (.ops [⟨(some 81), none, .p (.mov (.tmp 10)), 0, 0⟩,
     ⟨(some 82), none, .p (.bin .sub (.tmp 81) (.const (.int .i64 1))), 0, 0⟩,
     ⟨(some 10), none, .p (.mov (.tmp 82)), 0, 0⟩])))))))))
 (.seq (.ops [⟨(some 83), none, .p (.mov (.tmp 9)), 0, 0⟩,
  ⟨(some 8), none, .p (.mov (.tmp 83)), 0, 0⟩])
 .ret))))),
 [.tmp 8]⟩

/-- slices.partitionOrdered[int] -/
def ir66 : IFn := ⟨168,
 (.seq (.ops [⟨(some 8), none, .p (.mov (.const (.int .i64 0))), 0, 0⟩,
  ⟨(some 9), none, .p (.mov (.const (.bool false))), 0, 0⟩])
 (.seq (.drawn [⟨(some 12), none, .p (.mov (.tmp 0)), 0, 0⟩,
  ⟨(some 13), none, .p (.mov (.tmp 1)), 0, 0⟩,
  ⟨(some 14), none, .p (.mov (.tmp 0)), 0, 1⟩,
  ⟨(some 15), none, .p (.mov (.tmp 3)), 0, 1⟩,
  ⟨(some 16), none, .p (.mov (.tmp 0)), 0, 0⟩,
  ⟨(some 17), none, .p (.mov (.tmp 3)), 0, 0⟩,
  ⟨(some 18), none, .p (.indexAddr 1 (.tmp 16) (.tmp 17)), 0, 0⟩,
  ⟨(some 19), none, .r (.load1 (.tmp 18)), 0, 0⟩,
  ⟨(some 20), none, .p (.mov (.tmp 0)), 0, 0⟩,
  ⟨(some 21), none, .p (.mov (.tmp 1)), 0, 0⟩,
  ⟨(some 22), none, .p (.indexAddr 1 (.tmp 20) (.tmp 21)), 0, 0⟩,
  ⟨(some 23), none, .r (.load1 (.tmp 22)), 0, 0⟩,
  ⟨(some 24), none, .p (.indexAddr 1 (.tmp 12) (.tmp 13)), 0, 0⟩,
  ⟨none, none, .e (.store 1 (.tmp 24) (.tmp 19)), 0, 1⟩,
  ⟨(some 25), none, .p (.indexAddr 1 (.tmp 14) (.tmp 15)), 1, 1⟩,
  ⟨none, none, .e (.store 1 (.tmp 25) (.tmp 23)), 1, 2⟩])
 (.seq (.ops [⟨(some 26), none, .p (.mov (.tmp 1)), 0, 0⟩,
  ⟨(some 27), none, .p (.bin .add (.tmp 26) (.const (.int .i64 1))), 0, 0⟩,
  ⟨(some 28), none, .p (.mov (.tmp 2)), 0, 0⟩,
  ⟨(some 29), none, .p (.bin .sub (.tmp 28) (.const (.int .i64 1))), 0, 0⟩,
  ⟨(some 10), none, .p (.mov (.tmp 27)), 0, 0⟩,
  ⟨(some 11), none, .p (.mov (.tmp 29)), 0, 0⟩])
 (.seq (.block 0
  (.loop
   (.seq (.seq (.drawn [⟨(some 30), none, .p (.mov (.tmp 10)), 0, 0⟩,
    ⟨(some 31), none, .p (.mov (.tmp 11)), 0, 0⟩,
    ⟨(some 32), none, .p (.bin .leq (.tmp 30) (.tmp 31)), 0, 0⟩,
    ⟨(some 33), none, .p (.mov (.tmp 32)), 0, 0⟩,
    ⟨(some 34), (some (33, true)), .p (.mov (.tmp 0)), 0, 0⟩,
    ⟨(some 35), (some (33, true)), .p (.mov (.tmp 10)), 0, 0⟩,
    ⟨(some 36), (some (33, true)), .p (.indexAddr 1 (.tmp 34) (.tmp 35)), 0, 0⟩,
    ⟨(some 37), (some (33, true)), .r (.load1 (.tmp 36)), 0, 0⟩,
    ⟨(some 38), (some (33, true)), .p (.mov (.tmp 0)), 0, 0⟩,
    ⟨(some 39), (some (33, true)), .p (.mov (.tmp 1)), 0, 0⟩,
    ⟨(some 40), (some (33, true)), .p (.indexAddr 1 (.tmp 38) (.tmp 39)), 0, 0⟩,
    ⟨(some 41), (some (33, true)), .r (.load1 (.tmp 40)), 0, 0⟩,
    ⟨(some 42), (some (33, true)), .call (.func 64) [(.tmp 37), (.tmp 41)], 0, 1⟩,
    ⟨(some 43), none, .p (.pick (.tmp 33) (.tmp 42) (.const (.bool false))), 1, 1⟩])
   (.cond (.tmp 43)
    .skip
    (.exit 0)))
   (.block 1
    (.ops [⟨(some 44), none, .p (.mov (.tmp 10)), 0, 0⟩,
     ⟨(some 45), none, .p (.bin .add (.tmp 44) (.const (.int .i64 1))), 0, 0⟩,
     ⟨(some 10), none, .p (.mov (.tmp 45)), 0, 0⟩])))))
 (.seq (.block 2
  (.loop
   (.seq (.seq (.drawn [⟨(some 46), none, .p (.mov (.tmp 10)), 0, 0⟩,
    ⟨(some 47), none, .p (.mov (.tmp 11)), 0, 0⟩,
    ⟨(some 48), none, .p (.bin .leq (.tmp 46) (.tmp 47)), 0, 0⟩,
    ⟨(some 49), none, .p (.mov (.tmp 48)), 0, 0⟩,
    ⟨(some 50), (some (49, true)), .p (.mov (.tmp 0)), 0, 0⟩,
    ⟨(some 51), (some (49, true)), .p (.mov (.tmp 11)), 0, 0⟩,
    ⟨(some 52), (some (49, true)), .p (.indexAddr 1 (.tmp 50) (.tmp 51)), 0, 0⟩,
    ⟨(some 53), (some (49, true)), .r (.load1 (.tmp 52)), 0, 0⟩,
    ⟨(some 54), (some (49, true)), .p (.mov (.tmp 0)), 0, 0⟩,
    ⟨(some 55), (some (49, true)), .p (.mov (.tmp 1)), 0, 0⟩,
    ⟨(some 56), (some (49, true)), .p (.indexAddr 1 (.tmp 54) (.tmp 55)), 0, 0⟩,
    ⟨(some 57), (some (49, true)), .r (.load1 (.tmp 56)), 0, 0⟩,
    ⟨(some 58), (some (49, true)), .call (.func 64) [(.tmp 53), (.tmp 57)], 0, 1⟩,
    ⟨(some 59), (some (49, true)), .p (.not (.tmp 58)), 1, 1⟩,
    ⟨(some 60), none, .p (.pick (.tmp 49) (.tmp 59) (.const (.bool false))), 1, 1⟩])
   (.cond (.tmp 60)
    .skip
    (.exit 2)))
   (.block 3
    (.ops [⟨(some 61), none, .p (.mov (.tmp 11)), 0, 0⟩,
     ⟨(some 62), none, .p (.bin .sub (.tmp 61) (.const (.int .i64 1))), 0, 0⟩,
     ⟨(some 11), none, .p (.mov (.tmp 62)), 0, 0⟩])))))
 (.seq (.seq (.ops [⟨(some 63), none, .p (.mov (.tmp 10)), 0, 0⟩,
  ⟨(some 64), none, .p (.mov (.tmp 11)), 0, 0⟩,
  ⟨(some 65), none, .p (.bin .gtr (.tmp 63) (.tmp 64)), 0, 0⟩])
 (.cond (.tmp 65)
  (.seq (.drawn [⟨(some 66), none, .p (.mov (.tmp 0)), 0, 0⟩,
   ⟨(some 67), none, .p (.mov (.tmp 11)), 0, 0⟩,
   ⟨(some 68), none, .p (.mov (.tmp 0)), 0, 1⟩,
   ⟨(some 69), none, .p (.mov (.tmp 1)), 0, 1⟩,
   ⟨(some 70), none, .p (.mov (.tmp 0)), 0, 0⟩,
   ⟨(some 71), none, .p (.mov (.tmp 1)), 0, 0⟩,
   ⟨(some 72), none, .p (.indexAddr 1 (.tmp 70) (.tmp 71)), 0, 0⟩,
   ⟨(some 73), none, .r (.load1 (.tmp 72)), 0, 0⟩,
   ⟨(some 74), none, .p (.mov (.tmp 0)), 0, 0⟩,
   ⟨(some 75), none, .p (.mov (.tmp 11)), 0, 0⟩,
   ⟨(some 76), none, .p (.indexAddr 1 (.tmp 74) (.tmp 75)), 0, 0⟩,
   ⟨(some 77), none, .r (.load1 (.tmp 76)), 0, 0⟩,
   ⟨(some 78), none, .p (.indexAddr 1 (.tmp 66) (.tmp 67)), 0, 0⟩,
   ⟨none, none, .e (.store 1 (.tmp 78) (.tmp 73)), 0, 1⟩,
   ⟨(some 79), none, .p (.indexAddr 1 (.tmp 68) (.tmp 69)), 1, 1⟩,
   ⟨none, none, .e (.store 1 (.tmp 79) (.tmp 77)), 1, 2⟩])
  (.seq (.ops [⟨(some 80), none, .p (.mov (.tmp 11)), 0, 0⟩,
   ⟨(some 8), none, .p (.mov (.tmp 80)), 0, 0⟩,
   ⟨(some 9), none, .p (.mov (.const (.bool true))), 0, 0⟩])
  .ret))
  .skip))
 (.seq (.drawn [⟨(some 81), none, .p (.mov (.tmp 0)), 0, 0⟩,
  ⟨(some 82), none, .p (.mov (.tmp 10)), 0, 0⟩,
  ⟨(some 83), none, .p (.mov (.tmp 0)), 0, 1⟩,
  ⟨(some 84), none, .p (.mov (.tmp 11)), 0, 1⟩,
  ⟨(some 85), none, .p (.mov (.tmp 0)), 0, 0⟩,
  ⟨(some 86), none, .p (.mov (.tmp 11)), 0, 0⟩,
  ⟨(some 87), none, .p (.indexAddr 1 (.tmp 85) (.tmp 86)), 0, 0⟩,
  ⟨(some 88), none, .r (.load1 (.tmp 87)), 0, 0⟩,
  ⟨(some 89), none, .p (.mov (.tmp 0)), 0, 0⟩,
  ⟨(some 90), none, .p (.mov (.tmp 10)), 0, 0⟩,
  ⟨(some 91), none, .p (.indexAddr 1 (.tmp 89) (.tmp 90)), 0, 0⟩,
  ⟨(some 92), none, .r (.load1 (.tmp 91)), 0, 0⟩,
  ⟨(some 93), none, .p (.indexAddr 1 (.tmp 81) (.tmp 82)), 0, 0⟩,
  ⟨none, none, .e (.store 1 (.tmp 93) (.tmp 88)), 0, 1⟩,
  ⟨(some 94), none, .p (.indexAddr 1 (.tmp 83) (.tmp 84)), 1, 1⟩,
  ⟨none, none, .e (.store 1 (.tmp 94) (.tmp 92)), 1, 2⟩])
 (.seq (.ops [⟨(some 95), none, .p (.mov (.tmp 10)), 0, 0⟩,
  ⟨(some 96), none, .p (.bin .add (.tmp 95) (.const (.int .i64 1))), 0, 0⟩,
  ⟨(some 10), none, .p (.mov (.tmp 96)), 0, 0⟩])
 (.seq (.ops [⟨(some 97), none, .p (.mov (.tmp 11)), 0, 0⟩,
  ⟨(some 98), none, .p (.bin .sub (.tmp 97) (.const (.int .i64 1))), 0, 0⟩,
  ⟨(some 11), none, .p (.mov (.tmp 98)), 0, 0⟩])
 (.seq (.block 4
  (.loop
   (.block 5
    (.seq (.block 6
     (.loop
      (.seq (.seq (.drawn [⟨(some 99), none, .p (.mov (.tmp 10)), 0, 0⟩,
       ⟨(some 100), none, .p (.mov (.tmp 11)), 0, 0⟩,
       ⟨(some 101), none, .p (.bin .leq (.tmp 99) (.tmp 100)), 0, 0⟩,
       ⟨(some 102), none, .p (.mov (.tmp 101)), 0, 0⟩,
       ⟨(some 103), (some (102, true)), .p (.mov (.tmp 0)), 0, 0⟩,
       ⟨(some 104), (some (102, true)), .p (.mov (.tmp 10)), 0, 0⟩,
       ⟨(some 105), (some (102, true)), .p (.indexAddr 1 (.tmp 103) (.tmp 104)), 0, 0⟩,
       ⟨(some 106), (some (102, true)), .r (.load1 (.tmp 105)), 0, 0⟩,
       ⟨(some 107), (some (102, true)), .p (.mov (.tmp 0)), 0, 0⟩,
       ⟨(some 108), (some (102, true)), .p (.mov (.tmp 1)), 0, 0⟩,
       ⟨(some 109), (some (102, true)), .p (.indexAddr 1 (.tmp 107) (.tmp 108)), 0, 0⟩,
       ⟨(some 110), (some (102, true)), .r (.load1 (.tmp 109)), 0, 0⟩,
       ⟨(some 111), (some (102, true)), .call (.func 64) [(.tmp 106), (.tmp 110)], 0, 1⟩,
       ⟨(some 112), none, .p (.pick (.tmp 102) (.tmp 111) (.const (.bool false))), 1, 1⟩])
      (.cond (.tmp 112)
       .skip
       (.exit 6)))
      (.block 7
       (.ops [⟨(some 113), none, .p (.mov (.tmp 10)), 0, 0⟩,
        ⟨(some 114), none, .p (.bin .add (.tmp 113) (.const (.int .i64 1))), 0, 0⟩,
        ⟨(some 10), none, .p (.mov (.tmp 114)), 0, 0⟩])))))
    (.seq (.block 8
     (.loop
      (.seq (.seq (.drawn [⟨(some 115), none, .p (.mov (.tmp 10)), 0, 0⟩,
       ⟨(some 116), none, .p (.mov (.tmp 11)), 0, 0⟩,
       ⟨(some 117), none, .p (.bin .leq (.tmp 115) (.tmp 116)), 0, 0⟩,
       ⟨(some 118), none, .p (.mov (.tmp 117)), 0, 0⟩,
       ⟨(some 119), (some (118, true)), .p (.mov (.tmp 0)), 0, 0⟩,
       ⟨(some 120), (some (118, true)), .p (.mov (.tmp 11)), 0, 0⟩,
       ⟨(some 121), (some (118, true)), .p (.indexAddr 1 (.tmp 119) (.tmp 120)), 0, 0⟩,
       ⟨(some 122), (some (118, true)), .r (.load1 (.tmp 121)), 0, 0⟩,
       ⟨(some 123), (some (118, true)), .p (.mov (.tmp 0)), 0, 0⟩,
       ⟨(some 124), (some (118, true)), .p (.mov (.tmp 1)), 0, 0⟩,
       ⟨(some 125), (some (118, true)), .p (.indexAddr 1 (.tmp 123) (.tmp 124)), 0, 0⟩,
       ⟨(some 126), (some (118, true)), .r (.load1 (.tmp 125)), 0, 0⟩,
       ⟨(some 127), (some (118, true)), .call (.func 64) [(.tmp 122), (.tmp 126)], 0, 1⟩,
       ⟨(some 128), (some (118, true)), .p (.not (.tmp 127)), 1, 1⟩,
       ⟨(some 129), none, .p (.pick (.tmp 118) (.tmp 128) (.const (.bool false))), 1, 1⟩])
      (.cond (.tmp 129)
       .skip
       (.exit 8)))
      (.block 9
       (.ops [⟨(some 130), none, .p (.mov (.tmp 11)), 0, 0⟩,
        ⟨(some 131), none, .p (.bin .sub (.tmp 130) (.const (.int .i64 1))), 0, 0⟩,
        ⟨(some 11), none, .p (.mov (.tmp 131)), 0, 0⟩])))))
    (.seq (.seq (.ops [⟨(some 132), none, .p (.mov (.tmp 10)), 0, 0⟩,
     ⟨(some 133), none, .p (.mov (.tmp 11)), 0, 0⟩,
     ⟨(some 134), none, .p (.bin .gtr (.tmp 132) (.tmp 133)), 0, 0⟩])
    (.cond (.tmp 134)
     (.exit 4)
     .skip))
    (.seq (.drawn [⟨(some 135), none, .p (.mov (.tmp 0)), 0, 0⟩,
     ⟨(some 136), none, .p (.mov (.tmp 10)), 0, 0⟩,
     ⟨(some 137), none, .p (.mov (.tmp 0)), 0, 1⟩,
     ⟨(some 138), none, .p (.mov (.tmp 11)), 0, 1⟩,
     ⟨(some 139), none, .p (.mov (.tmp 0)), 0, 0⟩,
     ⟨(some 140), none, .p (.mov (.tmp 11)), 0, 0⟩,
     ⟨(some 141), none, .p (.indexAddr 1 (.tmp 139) (.tmp 140)), 0, 0⟩,
     ⟨(some 142), none, .r (.load1 (.tmp 141)), 0, 0⟩,
     ⟨(some 143), none, .p (.mov (.tmp 0)), 0, 0⟩,
     ⟨(some 144), none, .p (.mov (.tmp 10)), 0, 0⟩,
     ⟨(some 145), none, .p (.indexAddr 1 (.tmp 143) (.tmp 144)), 0, 0⟩,
     ⟨(some 146), none, .r (.load1 (.tmp 145)), 0, 0⟩,
     ⟨(some 147), none, .p (.indexAddr 1 (.tmp 135) (.tmp 136)), 0, 0⟩,
     ⟨none, none, .e (.store 1 (.tmp 147) (.tmp 142)), 0, 1⟩,
     ⟨(some 148), none, .p (.indexAddr 1 (.tmp 137) (.tmp 138)), 1, 1⟩,
     ⟨none, none, .e (.store 1 (.tmp 148) (.tmp 146)), 1, 2⟩])
    (.seq (.ops [⟨(some 149), none, .p (.mov (.tmp 10)), 0, 0⟩,
     ⟨(some 150), none, .p (.bin .add (.tmp 149) (.const (.int .i64 1))), 0, 0⟩,
     ⟨(some 10), none, .p (.mov (.tmp 150)), 0, 0⟩])
    (.ops [⟨(some 151), none, .p (.mov (.tmp 11)), 0, 0⟩,
     ⟨(some 152), none, .p (.bin .sub (.tmp 151) (.const (.int .i64 1))), 0, 0⟩,
     ⟨(some 11), none, .p (.mov (.tmp 152)), 0, 0⟩])))))))))
 (.seq (.drawn [⟨(some 153), none, .p (.mov (.tmp 0)), 0, 0⟩,
  ⟨(some 154), none, .p (.mov (.tmp 11)), 0, 0⟩,
  ⟨(some 155), none, .p (.mov (.tmp 0)), 0, 1⟩,
  ⟨(some 156), none, .p (.mov (.tmp 1)), 0, 1⟩,
  ⟨(some 157), none, .p (.mov (.tmp 0)), 0, 0⟩,
  ⟨(some 158), none, .p (.mov (.tmp 1)), 0, 0⟩,
  ⟨(some 159), none, .p (.indexAddr 1 (.tmp 157) (.tmp 158)), 0, 0⟩,
  ⟨(some 160), none, .r (.load1 (.tmp 159)), 0, 0⟩,
  ⟨(some 161), none, .p (.mov (.tmp 0)), 0, 0⟩,
  ⟨(some 162), none, .p (.mov (.tmp 11)), 0, 0⟩,
  ⟨(some 163), none, .p (.indexAddr 1 (.tmp 161) (.tmp 162)), 0, 0⟩,
  ⟨(some 164), none, .r (.load1 (.tmp 163)), 0, 0⟩,
  ⟨(some 165), none, .p (.indexAddr 1 (.tmp 153) (.tmp 154)), 0, 0⟩,
  ⟨none, none, .e (.store 1 (.tmp 165) (.tmp 160)), 0, 1⟩,
  ⟨(some 166), none, .p (.indexAddr 1 (.tmp 155) (.tmp 156)), 1, 1⟩,
  ⟨none, none, .e (.store 1 (.tmp 166) (.tmp 164)), 1, 2⟩])
 (.seq (.ops [⟨(some 167), none, .p (.mov (.tmp 11)), 0, 0⟩,
  ⟨(some 8), none, .p (.mov (.tmp 167)), 0, 0⟩,
  ⟨(some 9), none, .p (.mov (.const (.bool false))), 0, 0⟩])
 .ret)))))))))))),
 [.tmp 8, .tmp 9]⟩

/-- math/bits.Len32 -/
def ir67 : IFn := ⟨19,
 (.seq (.ops [⟨(some 2), none, .p (.mov (.const (.int .i64 0))), 0, 0⟩])
 (.seq (.seq (.ops [⟨(some 3), none, .p (.mov (.tmp 0)), 0, 0⟩,
  ⟨(some 4), none, .p (.bin .geq (.tmp 3) (.const (.int .u32 65536))), 0, 0⟩])
 (.cond (.tmp 4)
  (.seq (.ops [⟨(some 5), none, .p (.mov (.tmp 0)), 0, 0⟩,
   ⟨(some 6), none, .p (.shift .shr (.tmp 5) (.const (.int .u64 16))), 0, 0⟩,
   ⟨(some 0), none, .p (.mov (.tmp 6)), 0, 0⟩])
  (.ops [⟨(some 2), none, .p (.mov (.const (.int .i64 16))), 0, 0⟩]))
  .skip))
 (.seq (.seq (.ops [⟨(some 7), none, .p (.mov (.tmp 0)), 0, 0⟩,
  ⟨(some 8), none, .p (.bin .geq (.tmp 7) (.const (.int .u32 256))), 0, 0⟩])
 (.cond (.tmp 8)
  (.seq (.ops [⟨(some 9), none, .p (.mov (.tmp 0)), 0, 0⟩,
   ⟨(some 10), none, .p (.shift .shr (.tmp 9) (.const (.int .u64 8))), 0, 0⟩,
   ⟨(some 0), none, .p (.mov (.tmp 10)), 0, 0⟩])
  (.ops [⟨(some 11), none, .p (.mov (.tmp 2)), 0, 0⟩,
   ⟨(some 12), none, .p (.bin .add (.tmp 11) (.const (.int .i64 8))), 0, 0⟩,
   ⟨(some 2), none, .p (.mov (.tmp 12)), 0, 0⟩]))
  .skip))
 (.seq (.ops [⟨(some 13), none, .p (.mov (.tmp 2)), 0, 0⟩,
  ⟨(some 14), none, .p (.mov (.tmp 0)), 0, 0⟩,
  ⟨(some 15), none, .p (.conv .u8 (.tmp 14)), 0, 0⟩,
  ⟨(some 16), none, .p (.indexStr (.const (.string ⟨#[0, 1, 2, 2, 3, 3, 3, 3, 4, 4, 4, 4, 4, 4, 4, 4, 5, 5, 5, 5, 5, 5, 5, 5, 5, 5, 5, 5, 5, 5, 5, 5, 6, 6, 6, 6, 6, 6, 6, 6, 6, 6, 6, 6, 6, 6, 6, 6, 6, 6, 6, 6, 6, 6, 6, 6, 6, 6, 6, 6, 6, 6, 6, 6, 7, 7, 7, 7, 7, 7, 7, 7, 7, 7, 7, 7, 7, 7, 7, 7, 7, 7, 7, 7, 7, 7, 7, 7, 7, 7, 7, 7, 7, 7, 7, 7, 7, 7, 7, 7, 7, 7, 7, 7, 7, 7, 7, 7, 7, 7, 7, 7, 7, 7, 7, 7, 7, 7, 7, 7, 7, 7, 7, 7, 7, 7, 7, 7, 8, 8, 8, 8, 8, 8, 8, 8, 8, 8, 8, 8, 8, 8, 8, 8, 8, 8, 8, 8, 8, 8, 8, 8, 8, 8, 8, 8, 8, 8, 8, 8, 8, 8, 8, 8, 8, 8, 8, 8, 8, 8, 8, 8, 8, 8, 8, 8, 8, 8, 8, 8, 8, 8, 8, 8, 8, 8, 8, 8, 8, 8, 8, 8, 8, 8, 8, 8, 8, 8, 8, 8, 8, 8, 8, 8, 8, 8, 8, 8, 8, 8, 8, 8, 8, 8, 8, 8, 8, 8, 8, 8, 8, 8, 8, 8, 8, 8, 8, 8, 8, 8, 8, 8, 8, 8, 8, 8, 8, 8, 8, 8, 8, 8, 8, 8, 8, 8, 8, 8, 8, 8, 8, 8, 8, 8, 8, 8]⟩)) (.tmp 15)), 0, 0⟩,
  ⟨(some 17), none, .p (.conv .i64 (.tmp 16)), 0, 0⟩,
  ⟨(some 18), none, .p (.bin .add (.tmp 13) (.tmp 17)), 0, 0⟩,
  ⟨(some 2), none, .p (.mov (.tmp 18)), 0, 0⟩])
 .ret)))),
 [.tmp 2]⟩

/-- math/bits.Len64 -/
def ir68 : IFn := ⟨25,
 (.seq (.ops [⟨(some 2), none, .p (.mov (.const (.int .i64 0))), 0, 0⟩])
 (.seq (.seq (.ops [⟨(some 3), none, .p (.mov (.tmp 0)), 0, 0⟩,
  ⟨(some 4), none, .p (.bin .geq (.tmp 3) (.const (.int .u64 4294967296))), 0, 0⟩])
 (.cond (.tmp 4)
  (.seq (.ops [⟨(some 5), none, .p (.mov (.tmp 0)), 0, 0⟩,
   ⟨(some 6), none, .p (.shift .shr (.tmp 5) (.const (.int .u64 32))), 0, 0⟩,
   ⟨(some 0), none, .p (.mov (.tmp 6)), 0, 0⟩])
  (.ops [⟨(some 2), none, .p (.mov (.const (.int .i64 32))), 0, 0⟩]))
  .skip))
 (.seq (.seq (.ops [⟨(some 7), none, .p (.mov (.tmp 0)), 0, 0⟩,
  ⟨(some 8), none, .p (.bin .geq (.tmp 7) (.const (.int .u64 65536))), 0, 0⟩])
 (.cond (.tmp 8)
  (.seq (.ops [⟨(some 9), none, .p (.mov (.tmp 0)), 0, 0⟩,
   ⟨(some 10), none, .p (.shift .shr (.tmp 9) (.const (.int .u64 16))), 0, 0⟩,
   ⟨(some 0), none, .p (.mov (.tmp 10)), 0, 0⟩])
  (.ops [⟨(some 11), none, .p (.mov (.tmp 2)), 0, 0⟩,
   ⟨(some 12), none, .p (.bin .add (.tmp 11) (.const (.int .i64 16))), 0, 0⟩,
   ⟨(some 2), none, .p (.mov (.tmp 12)), 0, 0⟩]))
  .skip))
 (.seq (.seq (.ops [⟨(some 13), none, .p (.mov (.tmp 0)), 0, 0⟩,
  ⟨(some 14), none, .p (.bin .geq (.tmp 13) (.const (.int .u64 256))), 0, 0⟩])
 (.cond (.tmp 14)
  (.seq (.ops [⟨(some 15), none, .p (.mov (.tmp 0)), 0, 0⟩,
   ⟨(some 16), none, .p (.shift .shr (.tmp 15) (.const (.int .u64 8))), 0, 0⟩,
   ⟨(some 0), none, .p (.mov (.tmp 16)), 0, 0⟩])
  (.ops [⟨(some 17), none, .p (.mov (.tmp 2)), 0, 0⟩,
   ⟨(some 18), none, .p (.bin .add (.tmp 17) (.const (.int .i64 8))), 0, 0⟩,
   ⟨(some 2), none, .p (.mov (.tmp 18)), 0, 0⟩]))
  .skip))
 (.seq (.ops [⟨(some 19), none, .p (.mov (.tmp 2)), 0, 0⟩,
  ⟨(some 20), none, .p (.mov (.tmp 0)), 0, 0⟩,
  ⟨(some 21), none, .p (.conv .u8 (.tmp 20)), 0, 0⟩,
  ⟨(some 22), none, .p (.indexStr (.const (.string ⟨#[0, 1, 2, 2, 3, 3, 3, 3, 4, 4, 4, 4, 4, 4, 4, 4, 5, 5, 5, 5, 5, 5, 5, 5, 5, 5, 5, 5, 5, 5, 5, 5, 6, 6, 6, 6, 6, 6, 6, 6, 6, 6, 6, 6, 6, 6, 6, 6, 6, 6, 6, 6, 6, 6, 6, 6, 6, 6, 6, 6, 6, 6, 6, 6, 7, 7, 7, 7, 7, 7, 7, 7, 7, 7, 7, 7, 7, 7, 7, 7, 7, 7, 7, 7, 7, 7, 7, 7, 7, 7, 7, 7, 7, 7, 7, 7, 7, 7, 7, 7, 7, 7, 7, 7, 7, 7, 7, 7, 7, 7, 7, 7, 7, 7, 7, 7, 7, 7, 7, 7, 7, 7, 7, 7, 7, 7, 7, 7, 8, 8, 8, 8, 8, 8, 8, 8, 8, 8, 8, 8, 8, 8, 8, 8, 8, 8, 8, 8, 8, 8, 8, 8, 8, 8, 8, 8, 8, 8, 8, 8, 8, 8, 8, 8, 8, 8, 8, 8, 8, 8, 8, 8, 8, 8, 8, 8, 8, 8, 8, 8, 8, 8, 8, 8, 8, 8, 8, 8, 8, 8, 8, 8, 8, 8, 8, 8, 8, 8, 8, 8, 8, 8, 8, 8, 8, 8, 8, 8, 8, 8, 8, 8, 8, 8, 8, 8, 8, 8, 8, 8, 8, 8, 8, 8, 8, 8, 8, 8, 8, 8, 8, 8, 8, 8, 8, 8, 8, 8, 8, 8, 8, 8, 8, 8, 8, 8, 8, 8, 8, 8, 8, 8, 8, 8, 8, 8]⟩)) (.tmp 21)), 0, 0⟩,
  ⟨(some 23), none, .p (.conv .i64 (.tmp 22)), 0, 0⟩,
  ⟨(some 24), none, .p (.bin .add (.tmp 19) (.tmp 23)), 0, 0⟩,
  ⟨(some 2), none, .p (.mov (.tmp 24)), 0, 0⟩])
 .ret))))),
 [.tmp 2]⟩

/-- credence/formula.mix -/
def ir69 : IFn := ⟨19,
 (.seq (.ops [⟨(some 2), none, .p (.mov (.const (.int .u64 0))), 0, 0⟩])
 (.seq (.ops [⟨(some 3), none, .p (.mov (.tmp 0)), 0, 0⟩,
  ⟨(some 4), none, .p (.bin .add (.tmp 3) (.const (.int .u64 11400714819323198485))), 0, 0⟩,
  ⟨(some 0), none, .p (.mov (.tmp 4)), 0, 0⟩])
 (.seq (.ops [⟨(some 5), none, .p (.mov (.tmp 0)), 0, 0⟩,
  ⟨(some 6), none, .p (.mov (.tmp 0)), 0, 0⟩,
  ⟨(some 7), none, .p (.shift .shr (.tmp 6) (.const (.int .u64 30))), 0, 0⟩,
  ⟨(some 8), none, .p (.bin .xor (.tmp 5) (.tmp 7)), 0, 0⟩,
  ⟨(some 9), none, .p (.bin .mul (.tmp 8) (.const (.int .u64 13787848793156543929))), 0, 0⟩,
  ⟨(some 0), none, .p (.mov (.tmp 9)), 0, 0⟩])
 (.seq (.ops [⟨(some 10), none, .p (.mov (.tmp 0)), 0, 0⟩,
  ⟨(some 11), none, .p (.mov (.tmp 0)), 0, 0⟩,
  ⟨(some 12), none, .p (.shift .shr (.tmp 11) (.const (.int .u64 27))), 0, 0⟩,
  ⟨(some 13), none, .p (.bin .xor (.tmp 10) (.tmp 12)), 0, 0⟩,
  ⟨(some 14), none, .p (.bin .mul (.tmp 13) (.const (.int .u64 10723151780598845931))), 0, 0⟩,
  ⟨(some 0), none, .p (.mov (.tmp 14)), 0, 0⟩])
 (.seq (.ops [⟨(some 15), none, .p (.mov (.tmp 0)), 0, 0⟩,
  ⟨(some 16), none, .p (.mov (.tmp 0)), 0, 0⟩,
  ⟨(some 17), none, .p (.shift .shr (.tmp 16) (.const (.int .u64 31))), 0, 0⟩,
  ⟨(some 18), none, .p (.bin .xor (.tmp 15) (.tmp 17)), 0, 0⟩,
  ⟨(some 2), none, .p (.mov (.tmp 18)), 0, 0⟩])
 .ret))))),
 [.tmp 2]⟩

/-- (*credence/formula.Store).grow$1 -/
def ir70 : IFn := ⟨9,
 (.seq (.ops [⟨(some 3), none, .p (.mov (.const (.int .i64 0))), 0, 0⟩])
 (.seq (.ops [⟨(some 4), none, .r (.load1 (.tmp 1)), 0, 0⟩,
  ⟨(some 5), none, .p (.mov (.tmp 0)), 0, 0⟩,
  ⟨(some 6), none, .p (.indexAddr 1 (.tmp 4) (.tmp 5)), 0, 0⟩,
  ⟨(some 7), none, .r (.load1 (.tmp 6)), 0, 0⟩,
  ⟨(some 8), none, .p (.conv .i64 (.tmp 7)), 0, 0⟩,
  ⟨(some 3), none, .p (.mov (.tmp 8)), 0, 0⟩])
 .ret)),
 [.tmp 3]⟩

/-- slices.isNaN[int] -/
def ir71 : IFn := ⟨6,
 (.seq (.ops [⟨(some 2), none, .p (.mov (.const (.bool false))), 0, 0⟩])
 (.seq (.ops [⟨(some 3), none, .p (.mov (.tmp 0)), 0, 0⟩,
  ⟨(some 4), none, .p (.mov (.tmp 0)), 0, 0⟩,
  ⟨(some 5), none, .p (.bin .neq (.tmp 3) (.tmp 4)), 0, 0⟩,
  ⟨(some 2), none, .p (.mov (.tmp 5)), 0, 0⟩])
 .ret)),
 [.tmp 2]⟩

/-- slices.pdqsortOrdered[int16] -/
def ir72 : IFn := ⟨134,
 (.seq (.ops [⟨(some 8), none, .p (.mov (.const (.bool true))), 0, 0⟩])
 (.seq (.ops [⟨(some 9), none, .p (.mov (.const (.bool true))), 0, 0⟩])
 (.block 0
  (.loop
   (.block 1
    (.seq (.ops [⟨(some 19), none, .p (.mov (.tmp 2)), 0, 0⟩,
     ⟨(some 20), none, .p (.mov (.tmp 1)), 0, 0⟩,
     ⟨(some 21), none, .p (.bin .sub (.tmp 19) (.tmp 20)), 0, 0⟩,
     ⟨(some 10), none, .p (.mov (.tmp 21)), 0, 0⟩])
    (.seq (.seq (.ops [⟨(some 22), none, .p (.mov (.tmp 10)), 0, 0⟩,
     ⟨(some 23), none, .p (.bin .leq (.tmp 22) (.const (.int .i64 12))), 0, 0⟩])
    (.cond (.tmp 23)
     (.seq (.ops [⟨(some 24), none, .p (.mov (.tmp 0)), 0, 0⟩,
      ⟨(some 25), none, .p (.mov (.tmp 1)), 0, 0⟩,
      ⟨(some 26), none, .p (.mov (.tmp 2)), 0, 0⟩,
      ⟨(some 27), none, .call (.func 79) [(.tmp 24), (.tmp 25), (.tmp 26)], 0, 0⟩])
     .ret)
     .skip))
    (.seq (.seq (.ops [⟨(some 28), none, .p (.mov (.tmp 3)), 0, 0⟩,
     ⟨(some 29), none, .p (.bin .eql (.tmp 28) (.const (.int .i64 0))), 0, 0⟩])
    (.cond (.tmp 29)
     (.seq (.ops [⟨(some 30), none, .p (.mov (.tmp 0)), 0, 0⟩,
      ⟨(some 31), none, .p (.mov (.tmp 1)), 0, 0⟩,
      ⟨(some 32), none, .p (.mov (.tmp 2)), 0, 0⟩,
      ⟨(some 33), none, .call (.func 80) [(.tmp 30), (.tmp 31), (.tmp 32)], 0, 0⟩])
     .ret)
     .skip))
    (.seq (.seq (.ops [⟨(some 34), none, .p (.mov (.tmp 8)), 0, 0⟩,
     ⟨(some 35), none, .p (.not (.tmp 34)), 0, 0⟩])
    (.cond (.tmp 35)
     (.seq (.ops [⟨(some 36), none, .p (.mov (.tmp 0)), 0, 0⟩,
      ⟨(some 37), none, .p (.mov (.tmp 1)), 0, 0⟩,
      ⟨(some 38), none, .p (.mov (.tmp 2)), 0, 0⟩,
      ⟨(some 39), none, .call (.func 81) [(.tmp 36), (.tmp 37), (.tmp 38)], 0, 0⟩])
     (.ops [⟨(some 40), none, .p (.mov (.tmp 3)), 0, 0⟩,
      ⟨(some 41), none, .p (.bin .sub (.tmp 40) (.const (.int .i64 1))), 0, 0⟩,
      ⟨(some 3), none, .p (.mov (.tmp 41)), 0, 0⟩]))
     .skip))
    (.seq (.ops [⟨(some 43), none, .p (.mov (.tmp 0)), 0, 0⟩,
     ⟨(some 44), none, .p (.mov (.tmp 1)), 0, 0⟩,
     ⟨(some 45), none, .p (.mov (.tmp 2)), 0, 0⟩,
     ⟨(some 46), none, .call (.func 82) [(.tmp 43), (.tmp 44), (.tmp 45)], 0, 0⟩,
     ⟨(some 42), none, .p (.mov (.tmp 46)), 0, 0⟩,
     ⟨(some 47), none, .p (.extract (.tmp 42) 0), 0, 0⟩,
     ⟨(some 48), none, .p (.extract (.tmp 42) 1), 0, 0⟩,
     ⟨(some 11), none, .p (.mov (.tmp 47)), 0, 0⟩,
     ⟨(some 12), none, .p (.mov (.tmp 48)), 0, 0⟩])
    (.seq (.seq (.ops [⟨(some 49), none, .p (.mov (.tmp 12)), 0, 0⟩,
     ⟨(some 50), none, .p (.bin .eql (.tmp 49) (.const (.int .i64 2))), 0, 0⟩])
    (.cond (.tmp 50)
     (.seq (.ops [⟨(some 51), none, .p (.mov (.tmp 0)), 0, 0⟩,
      ⟨(some 52), none, .p (.mov (.tmp 1)), 0, 0⟩,
      ⟨(some 53), none, .p (.mov (.tmp 2)), 0, 0⟩,
      ⟨(some 54), none, .call (.func 83) [(.tmp 51), (.tmp 52), (.tmp 53)], 0, 0⟩])
     (.seq (.ops [⟨(some 55), none, .p (.mov (.tmp 2)), 0, 0⟩,
      ⟨(some 56), none, .p (.bin .sub (.tmp 55) (.const (.int .i64 1))), 0, 0⟩,
      ⟨(some 57), none, .p (.mov (.tmp 11)), 0, 0⟩,
      ⟨(some 58), none, .p (.mov (.tmp 1)), 0, 0⟩,
      ⟨(some 59), none, .p (.bin .sub (.tmp 57) (.tmp 58)), 0, 0⟩,
      ⟨(some 60), none, .p (.bin .sub (.tmp 56) (.tmp 59)), 0, 0⟩,
      ⟨(some 11), none, .p (.mov (.tmp 60)), 0, 0⟩])
     (.ops [⟨(some 12), none, .p (.mov (.const (.int .i64 1))), 0, 0⟩])))
     .skip))
    (.seq (.seq (.ops [⟨(some 61), none, .p (.mov (.tmp 8)), 0, 0⟩,
     ⟨(some 62), none, .p (.mov (.tmp 61)), 0, 0⟩,
     ⟨(some 63), (some (62, true)), .p (.mov (.tmp 9)), 0, 0⟩,
     ⟨(some 64), none, .p (.pick (.tmp 62) (.tmp 63) (.const (.bool false))), 0, 0⟩,
     ⟨(some 65), none, .p (.mov (.tmp 64)), 0, 0⟩,
     ⟨(some 66), (some (65, true)), .p (.mov (.tmp 12)), 0, 0⟩,
     ⟨(some 67), (some (65, true)), .p (.bin .eql (.tmp 66) (.const (.int .i64 1))), 0, 0⟩,
     ⟨(some 68), none, .p (.pick (.tmp 65) (.tmp 67) (.const (.bool false))), 0, 0⟩])
    (.cond (.tmp 68)
     (.seq (.ops [⟨(some 69), none, .p (.mov (.tmp 0)), 0, 0⟩,
      ⟨(some 70), none, .p (.mov (.tmp 1)), 0, 0⟩,
      ⟨(some 71), none, .p (.mov (.tmp 2)), 0, 0⟩,
      ⟨(some 72), none, .call (.func 84) [(.tmp 69), (.tmp 70), (.tmp 71)], 0, 0⟩])
     (.cond (.tmp 72)
      .ret
      .skip))
     .skip))
    (.seq (.seq (.drawn [⟨(some 73), none, .p (.mov (.tmp 1)), 0, 0⟩,
     ⟨(some 74), none, .p (.bin .gtr (.tmp 73) (.const (.int .i64 0))), 0, 0⟩,
     ⟨(some 75), none, .p (.mov (.tmp 74)), 0, 0⟩,
     ⟨(some 76), (some (75, true)), .p (.mov (.tmp 0)), 0, 0⟩,
     ⟨(some 77), (some (75, true)), .p (.mov (.tmp 1)), 0, 0⟩,
     ⟨(some 78), (some (75, true)), .p (.bin .sub (.tmp 77) (.const (.int .i64 1))), 0, 0⟩,
     ⟨(some 79), (some (75, true)), .p (.indexAddr 1 (.tmp 76) (.tmp 78)), 0, 0⟩,
     ⟨(some 80), (some (75, true)), .r (.load1 (.tmp 79)), 0, 0⟩,
     ⟨(some 81), (some (75, true)), .p (.mov (.tmp 0)), 0, 0⟩,
     ⟨(some 82), (some (75, true)), .p (.mov (.tmp 11)), 0, 0⟩,
     ⟨(some 83), (some (75, true)), .p (.indexAddr 1 (.tmp 81) (.tmp 82)), 0, 0⟩,
     ⟨(some 84), (some (75, true)), .r (.load1 (.tmp 83)), 0, 0⟩,
     ⟨(some 85), (some (75, true)), .call (.func 85) [(.tmp 80), (.tmp 84)], 0, 1⟩,
     ⟨(some 86), (some (75, true)), .p (.not (.tmp 85)), 1, 1⟩,
     ⟨(some 87), none, .p (.pick (.tmp 75) (.tmp 86) (.const (.bool false))), 1, 1⟩])
    (.cond (.tmp 87)
     (.seq (.ops [⟨(some 88), none, .p (.mov (.tmp 0)), 0, 0⟩,
      ⟨(some 89), none, .p (.mov (.tmp 1)), 0, 0⟩,
      ⟨(some 90), none, .p (.mov (.tmp 2)), 0, 0⟩,
      ⟨(some 91), none, .p (.mov (.tmp 11)), 0, 0⟩,
      ⟨(some 92), none, .call (.func 86) [(.tmp 88), (.tmp 89), (.tmp 90), (.tmp 91)], 0, 0⟩,
      ⟨(some 13), none, .p (.mov (.tmp 92)), 0, 0⟩])
     (.seq (.ops [⟨(some 93), none, .p (.mov (.tmp 13)), 0, 0⟩,
      ⟨(some 1), none, .p (.mov (.tmp 93)), 0, 0⟩])
     (.exit 1)))
     .skip))
    (.seq (.ops [⟨(some 95), none, .p (.mov (.tmp 0)), 0, 0⟩,
     ⟨(some 96), none, .p (.mov (.tmp 1)), 0, 0⟩,
     ⟨(some 97), none, .p (.mov (.tmp 2)), 0, 0⟩,
     ⟨(some 98), none, .p (.mov (.tmp 11)), 0, 0⟩,
     ⟨(some 99), none, .call (.func 87) [(.tmp 95), (.tmp 96), (.tmp 97), (.tmp 98)], 0, 0⟩,
     ⟨(some 94), none, .p (.mov (.tmp 99)), 0, 0⟩,
     ⟨(some 100), none, .p (.extract (.tmp 94) 0), 0, 0⟩,
     ⟨(some 101), none, .p (.extract (.tmp 94) 1), 0, 0⟩,
     ⟨(some 14), none, .p (.mov (.tmp 100)), 0, 0⟩,
     ⟨(some 15), none, .p (.mov (.tmp 101)), 0, 0⟩])
    (.seq (.ops [⟨(some 102), none, .p (.mov (.tmp 15)), 0, 0⟩,
     ⟨(some 9), none, .p (.mov (.tmp 102)), 0, 0⟩])
    (.seq (.ops [⟨(some 103), none, .p (.mov (.tmp 14)), 0, 0⟩,
     ⟨(some 104), none, .p (.mov (.tmp 1)), 0, 0⟩,
     ⟨(some 105), none, .p (.bin .sub (.tmp 103) (.tmp 104)), 0, 0⟩,
     ⟨(some 106), none, .p (.mov (.tmp 2)), 0, 0⟩,
     ⟨(some 107), none, .p (.mov (.tmp 14)), 0, 0⟩,
     ⟨(some 108), none, .p (.bin .sub (.tmp 106) (.tmp 107)), 0, 0⟩,
     ⟨(some 16), none, .p (.mov (.tmp 105)), 0, 0⟩,
     ⟨(some 17), none, .p (.mov (.tmp 108)), 0, 0⟩])
    (.seq (.ops [⟨(some 109), none, .p (.mov (.tmp 10)), 0, 0⟩,
     ⟨(some 110), none, .p (.bin .quo (.tmp 109) (.const (.int .i64 8))), 0, 0⟩,
     ⟨(some 18), none, .p (.mov (.tmp 110)), 0, 0⟩])
    (.seq (.ops [⟨(some 111), none, .p (.mov (.tmp 16)), 0, 0⟩,
     ⟨(some 112), none, .p (.mov (.tmp 17)), 0, 0⟩,
     ⟨(some 113), none, .p (.bin .lss (.tmp 111) (.tmp 112)), 0, 0⟩])
    (.cond (.tmp 113)
     (.seq (.ops [⟨(some 114), none, .p (.mov (.tmp 16)), 0, 0⟩,
      ⟨(some 115), none, .p (.mov (.tmp 18)), 0, 0⟩,
      ⟨(some 116), none, .p (.bin .geq (.tmp 114) (.tmp 115)), 0, 0⟩,
      ⟨(some 8), none, .p (.mov (.tmp 116)), 0, 0⟩])
     (.seq (.ops [⟨(some 117), none, .p (.mov (.tmp 0)), 0, 0⟩,
      ⟨(some 118), none, .p (.mov (.tmp 1)), 0, 0⟩,
      ⟨(some 119), none, .p (.mov (.tmp 14)), 0, 0⟩,
      ⟨(some 120), none, .p (.mov (.tmp 3)), 0, 0⟩,
      ⟨(some 121), none, .call (.func 72) [(.tmp 117), (.tmp 118), (.tmp 119), (.tmp 120)], 0, 0⟩])
     (.ops [⟨(some 122), none, .p (.mov (.tmp 14)), 0, 0⟩,
      ⟨(some 123), none, .p (.bin .add (.tmp 122) (.const (.int .i64 1))), 0, 0⟩,
      ⟨(some 1), none, .p (.mov (.tmp 123)), 0, 0⟩])))
     (.seq (.ops [⟨(some 124), none, .p (.mov (.tmp 17)), 0, 0⟩,
      ⟨(some 125), none, .p (.mov (.tmp 18)), 0, 0⟩,
      ⟨(some 126), none, .p (.bin .geq (.tmp 124) (.tmp 125)), 0, 0⟩,
      ⟨(some 8), none, .p (.mov (.tmp 126)), 0, 0⟩])
     (.seq (.ops [⟨(some 127), none, .p (.mov (.tmp 0)), 0, 0⟩,
      ⟨(some 128), none, .p (.mov (.tmp 14)), 0, 0⟩,
      ⟨(some 129), none, .p (.bin .add (.tmp 128) (.const (.int .i64 1))), 0, 0⟩,
      ⟨(some 130), none, .p (.mov (.tmp 2)), 0, 0⟩,
      ⟨(some 131), none, .p (.mov (.tmp 3)), 0, 0⟩,
      ⟨(some 132), none, .call (.func 72) [(.tmp 127), (.tmp 129), (.tmp 130), (.tmp 131)], 0, 0⟩])
     (.ops [⟨(some 133), none, .p (.mov (.tmp 14)), 0, 0⟩,
      ⟨(some 2), none, .p (.mov (.tmp 133)), 0, 0⟩])))))))))))))))))))))),
 []⟩

/-- slices.siftDownOrdered[int] -/
def ir73 : IFn := ⟨76,
 (.seq (.ops [⟨(some 10), none, .p (.mov (.tmp 1)), 0, 0⟩,
  ⟨(some 8), none, .p (.mov (.tmp 10)), 0, 0⟩])
 (.block 0
  (.loop
   (.block 1
    (.seq (.ops [⟨(some 11), none, .p (.mov (.tmp 8)), 0, 0⟩,
     ⟨(some 12), none, .p (.bin .mul (.const (.int .i64 2)) (.tmp 11)), 0, 0⟩,
     ⟨(some 13), none, .p (.bin .add (.tmp 12) (.const (.int .i64 1))), 0, 0⟩,
     ⟨(some 9), none, .p (.mov (.tmp 13)), 0, 0⟩])
    (.seq (.seq (.ops [⟨(some 14), none, .p (.mov (.tmp 9)), 0, 0⟩,
     ⟨(some 15), none, .p (.mov (.tmp 2)), 0, 0⟩,
     ⟨(some 16), none, .p (.bin .geq (.tmp 14) (.tmp 15)), 0, 0⟩])
    (.cond (.tmp 16)
     (.exit 0)
     .skip))
    (.seq (.seq (.drawn [⟨(some 17), none, .p (.mov (.tmp 9)), 0, 0⟩,
     ⟨(some 18), none, .p (.bin .add (.tmp 17) (.const (.int .i64 1))), 0, 0⟩,
     ⟨(some 19), none, .p (.mov (.tmp 2)), 0, 0⟩,
     ⟨(some 20), none, .p (.bin .lss (.tmp 18) (.tmp 19)), 0, 0⟩,
     ⟨(some 21), none, .p (.mov (.tmp 20)), 0, 0⟩,
     ⟨(some 22), (some (21, true)), .p (.mov (.tmp 0)), 0, 0⟩,
     ⟨(some 23), (some (21, true)), .p (.mov (.tmp 3)), 0, 0⟩,
     ⟨(some 24), (some (21, true)), .p (.mov (.tmp 9)), 0, 0⟩,
     ⟨(some 25), (some (21, true)), .p (.bin .add (.tmp 23) (.tmp 24)), 0, 0⟩,
     ⟨(some 26), (some (21, true)), .p (.indexAddr 1 (.tmp 22) (.tmp 25)), 0, 0⟩,
     ⟨(some 27), (some (21, true)), .r (.load1 (.tmp 26)), 0, 0⟩,
     ⟨(some 28), (some (21, true)), .p (.mov (.tmp 0)), 0, 0⟩,
     ⟨(some 29), (some (21, true)), .p (.mov (.tmp 3)), 0, 0⟩,
     ⟨(some 30), (some (21, true)), .p (.mov (.tmp 9)), 0, 0⟩,
     ⟨(some 31), (some (21, true)), .p (.bin .add (.tmp 29) (.tmp 30)), 0, 0⟩,
     ⟨(some 32), (some (21, true)), .p (.bin .add (.tmp 31) (.const (.int .i64 1))), 0, 0⟩,
     ⟨(some 33), (some (21, true)), .p (.indexAddr 1 (.tmp 28) (.tmp 32)), 0, 0⟩,
     ⟨(some 34), (some (21, true)), .r (.load1 (.tmp 33)), 0, 0⟩,
     ⟨(some 35), (some (21, true)), .call (.func 64) [(.tmp 27), (.tmp 34)], 0, 1⟩,
     ⟨(some 36), none, .p (.pick (.tmp 21) (.tmp 35) (.const (.bool false))), 1, 1⟩])
    (.cond (.tmp 36)
     (.ops [⟨(some 37), none, .p (.mov (.tmp 9)), 0, 0⟩,
      ⟨(some 38), none, .p (.bin .add (.tmp 37) (.const (.int .i64 1))), 0, 0⟩,
      ⟨(some 9), none, .p (.mov (.tmp 38)), 0, 0⟩])
     .skip))
    (.seq (.seq (.drawn [⟨(some 39), none, .p (.mov (.tmp 0)), 0, 0⟩,
     ⟨(some 40), none, .p (.mov (.tmp 3)), 0, 0⟩,
     ⟨(some 41), none, .p (.mov (.tmp 8)), 0, 0⟩,
     ⟨(some 42), none, .p (.bin .add (.tmp 40) (.tmp 41)), 0, 0⟩,
     ⟨(some 43), none, .p (.indexAddr 1 (.tmp 39) (.tmp 42)), 0, 0⟩,
     ⟨(some 44), none, .r (.load1 (.tmp 43)), 0, 0⟩,
     ⟨(some 45), none, .p (.mov (.tmp 0)), 0, 0⟩,
     ⟨(some 46), none, .p (.mov (.tmp 3)), 0, 0⟩,
     ⟨(some 47), none, .p (.mov (.tmp 9)), 0, 0⟩,
     ⟨(some 48), none, .p (.bin .add (.tmp 46) (.tmp 47)), 0, 0⟩,
     ⟨(some 49), none, .p (.indexAddr 1 (.tmp 45) (.tmp 48)), 0, 0⟩,
     ⟨(some 50), none, .r (.load1 (.tmp 49)), 0, 0⟩,
     ⟨(some 51), none, .call (.func 64) [(.tmp 44), (.tmp 50)], 0, 1⟩,
     ⟨(some 52), none, .p (.not (.tmp 51)), 1, 1⟩])
    (.cond (.tmp 52)
     .ret
     .skip))
    (.seq (.drawn [⟨(some 53), none, .p (.mov (.tmp 0)), 0, 0⟩,
     ⟨(some 54), none, .p (.mov (.tmp 3)), 0, 0⟩,
     ⟨(some 55), none, .p (.mov (.tmp 8)), 0, 0⟩,
     ⟨(some 56), none, .p (.bin .add (.tmp 54) (.tmp 55)), 0, 0⟩,
     ⟨(some 57), none, .p (.mov (.tmp 0)), 0, 1⟩,
     ⟨(some 58), none, .p (.mov (.tmp 3)), 0, 1⟩,
     ⟨(some 59), none, .p (.mov (.tmp 9)), 0, 1⟩,
     ⟨(some 60), none, .p (.bin .add (.tmp 58) (.tmp 59)), 0, 1⟩,
     ⟨(some 61), none, .p (.mov (.tmp 0)), 0, 0⟩,
     ⟨(some 62), none, .p (.mov (.tmp 3)), 0, 0⟩,
     ⟨(some 63), none, .p (.mov (.tmp 9)), 0, 0⟩,
     ⟨(some 64), none, .p (.bin .add (.tmp 62) (.tmp 63)), 0, 0⟩,
     ⟨(some 65), none, .p (.indexAddr 1 (.tmp 61) (.tmp 64)), 0, 0⟩,
     ⟨(some 66), none, .r (.load1 (.tmp 65)), 0, 0⟩,
     ⟨(some 67), none, .p (.mov (.tmp 0)), 0, 0⟩,
     ⟨(some 68), none, .p (.mov (.tmp 3)), 0, 0⟩,
     ⟨(some 69), none, .p (.mov (.tmp 8)), 0, 0⟩,
     ⟨(some 70), none, .p (.bin .add (.tmp 68) (.tmp 69)), 0, 0⟩,
     ⟨(some 71), none, .p (.indexAddr 1 (.tmp 67) (.tmp 70)), 0, 0⟩,
     ⟨(some 72), none, .r (.load1 (.tmp 71)), 0, 0⟩,
     ⟨(some 73), none, .p (.indexAddr 1 (.tmp 53) (.tmp 56)), 0, 0⟩,
     ⟨none, none, .e (.store 1 (.tmp 73) (.tmp 66)), 0, 1⟩,
     ⟨(some 74), none, .p (.indexAddr 1 (.tmp 57) (.tmp 60)), 1, 1⟩,
     ⟨none, none, .e (.store 1 (.tmp 74) (.tmp 72)), 1, 2⟩])
    (.ops [⟨(some 75), none, .p (.mov (.tmp 9)), 0, 0⟩,
     ⟨(some 8), none, .p (.mov (.tmp 75)), 0, 0⟩])))))))))),
 []⟩

/-- slices.nextPowerOfTwo -/
def ir74 : IFn := ⟨7,
 (.seq (.ops [⟨(some 2), none, .p (.mov (.const (.int .u64 0))), 0, 0⟩])
 (.seq (.ops [⟨(some 3), none, .p (.mov (.tmp 0)), 0, 0⟩,
  ⟨(some 4), none, .p (.conv .u64 (.tmp 3)), 0, 0⟩,
  ⟨(some 5), none, .call (.func 49) [(.tmp 4)], 0, 0⟩,
  ⟨(some 6), none, .p (.shift .shl (.const (.int .u64 1)) (.tmp 5)), 0, 0⟩,
  ⟨(some 2), none, .p (.mov (.tmp 6)), 0, 0⟩])
 .ret)),
 [.tmp 2]⟩

/-- (*slices.xorshift).Next -/
def ir75 : IFn := ⟨33,
 (.seq (.ops [⟨(some 2), none, .p (.mov (.const (.int .u64 0))), 0, 0⟩])
 (.seq (.drawn [⟨(some 3), none, .p (.mov (.tmp 0)), 0, 0⟩,
  ⟨(some 4), none, .p (.nilCheck (.tmp 3)), 0, 0⟩,
  ⟨(some 5), none, .r (.load1 (.tmp 4)), 0, 0⟩,
  ⟨(some 6), none, .p (.mov (.tmp 0)), 0, 0⟩,
  ⟨(some 7), none, .p (.nilCheck (.tmp 6)), 0, 0⟩,
  ⟨(some 8), none, .r (.load1 (.tmp 7)), 0, 0⟩,
  ⟨(some 9), none, .p (.shift .shl (.tmp 8) (.const (.int .u64 13))), 0, 0⟩,
  ⟨(some 10), none, .p (.bin .xor (.tmp 5) (.tmp 9)), 0, 0⟩,
  ⟨(some 11), none, .p (.nilCheck (.tmp 3)), 0, 0⟩,
  ⟨none, none, .e (.store 1 (.tmp 11) (.tmp 10)), 0, 1⟩])
 (.seq (.drawn [⟨(some 12), none, .p (.mov (.tmp 0)), 0, 0⟩,
  ⟨(some 13), none, .p (.nilCheck (.tmp 12)), 0, 0⟩,
  ⟨(some 14), none, .r (.load1 (.tmp 13)), 0, 0⟩,
  ⟨(some 15), none, .p (.mov (.tmp 0)), 0, 0⟩,
  ⟨(some 16), none, .p (.nilCheck (.tmp 15)), 0, 0⟩,
  ⟨(some 17), none, .r (.load1 (.tmp 16)), 0, 0⟩,
  ⟨(some 18), none, .p (.shift .shr (.tmp 17) (.const (.int .u64 7))), 0, 0⟩,
  ⟨(some 19), none, .p (.bin .xor (.tmp 14) (.tmp 18)), 0, 0⟩,
  ⟨(some 20), none, .p (.nilCheck (.tmp 12)), 0, 0⟩,
  ⟨none, none, .e (.store 1 (.tmp 20) (.tmp 19)), 0, 1⟩])
 (.seq (.drawn [⟨(some 21), none, .p (.mov (.tmp 0)), 0, 0⟩,
  ⟨(some 22), none, .p (.nilCheck (.tmp 21)), 0, 0⟩,
  ⟨(some 23), none, .r (.load1 (.tmp 22)), 0, 0⟩,
  ⟨(some 24), none, .p (.mov (.tmp 0)), 0, 0⟩,
  ⟨(some 25), none, .p (.nilCheck (.tmp 24)), 0, 0⟩,
  ⟨(some 26), none, .r (.load1 (.tmp 25)), 0, 0⟩,
  ⟨(some 27), none, .p (.shift .shl (.tmp 26) (.const (.int .u64 17))), 0, 0⟩,
  ⟨(some 28), none, .p (.bin .xor (.tmp 23) (.tmp 27)), 0, 0⟩,
  ⟨(some 29), none, .p (.nilCheck (.tmp 21)), 0, 0⟩,
  ⟨none, none, .e (.store 1 (.tmp 29) (.tmp 28)), 0, 1⟩])
 (.seq (.ops [⟨(some 30), none, .p (.mov (.tmp 0)), 0, 0⟩,
  ⟨(some 31), none, .p (.nilCheck (.tmp 30)), 0, 0⟩,
  ⟨(some 32), none, .r (.load1 (.tmp 31)), 0, 0⟩,
  ⟨(some 2), none, .p (.mov (.tmp 32)), 0, 0⟩])
 .ret))))),
 [.tmp 2]⟩

/-- slices.medianAdjacentOrdered[int] -/
def ir76 : IFn := ⟨15,
 (.seq (.ops [⟨(some 6), none, .p (.mov (.const (.int .i64 0))), 0, 0⟩])
 (.seq (.ops [⟨(some 7), none, .p (.mov (.tmp 0)), 0, 0⟩,
  ⟨(some 8), none, .p (.mov (.tmp 1)), 0, 0⟩,
  ⟨(some 9), none, .p (.bin .sub (.tmp 8) (.const (.int .i64 1))), 0, 0⟩,
  ⟨(some 10), none, .p (.mov (.tmp 1)), 0, 0⟩,
  ⟨(some 11), none, .p (.mov (.tmp 1)), 0, 0⟩,
  ⟨(some 12), none, .p (.bin .add (.tmp 11) (.const (.int .i64 1))), 0, 0⟩,
  ⟨(some 13), none, .p (.mov (.tmp 2)), 0, 0⟩,
  ⟨(some 14), none, .call (.func 77) [(.tmp 7), (.tmp 9), (.tmp 10), (.tmp 12), (.tmp 13)], 0, 0⟩,
  ⟨(some 6), none, .p (.mov (.tmp 14)), 0, 0⟩])
 .ret)),
 [.tmp 6]⟩


end Go.Proofs.AM.I28
