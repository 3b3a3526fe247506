/- For every vtree that the reference finds valid, the blocks below an inner node are those below its left child followed by those below its right child; no condition. -/
import Derived.Test.YticedbngmmcbjaaKd2
import Derived.Test.YticedbngmmcbjaaProg
import Derived.KernelRfl
set_option linter.all false
namespace Go.Proofs.AM.I28
open Go Go.Proofs.AM
set_option maxRecDepth 100000
/-- slices.medianOrdered[int] -/
def ir77 : IFn := ⟨36,
 (.seq (.ops [⟨(some 10), none, .p (.mov (.const (.int .i64 0))), 0, 0⟩])
 (.seq (.ops [⟨(some 12), none, .p (.mov (.tmp 0)), 0, 0⟩,
  ⟨(some 13), none, .p (.mov (.tmp 1)), 0, 0⟩,
  ⟨(some 14), none, .p (.mov (.tmp 2)), 0, 0⟩,
  ⟨(some 15), none, .p (.mov (.tmp 4)), 0, 0⟩,
  ⟨(some 16), none, .call (.func 88) [(.tmp 12), (.tmp 13), (.tmp 14), (.tmp 15)], 0, 0⟩,
  ⟨(some 11), none, .p (.mov (.tmp 16)), 0, 0⟩,
  ⟨(some 17), none, .p (.extract (.tmp 11) 0), 0, 0⟩,
  ⟨(some 18), none, .p (.extract (.tmp 11) 1), 0, 0⟩,
  ⟨(some 1), none, .p (.mov (.tmp 17)), 0, 0⟩,
  ⟨(some 2), none, .p (.mov (.tmp 18)), 0, 0⟩])
 (.seq (.ops [⟨(some 20), none, .p (.mov (.tmp 0)), 0, 0⟩,
  ⟨(some 21), none, .p (.mov (.tmp 2)), 0, 0⟩,
  ⟨(some 22), none, .p (.mov (.tmp 3)), 0, 0⟩,
  ⟨(some 23), none, .p (.mov (.tmp 4)), 0, 0⟩,
  ⟨(some 24), none, .call (.func 88) [(.tmp 20), (.tmp 21), (.tmp 22), (.tmp 23)], 0, 0⟩,
  ⟨(some 19), none, .p (.mov (.tmp 24)), 0, 0⟩,
  ⟨(some 25), none, .p (.extract (.tmp 19) 0), 0, 0⟩,
  ⟨(some 26), none, .p (.extract (.tmp 19) 1), 0, 0⟩,
  ⟨(some 2), none, .p (.mov (.tmp 25)), 0, 0⟩,
  ⟨(some 3), none, .p (.mov (.tmp 26)), 0, 0⟩])
 (.seq (.ops [⟨(some 28), none, .p (.mov (.tmp 0)), 0, 0⟩,
  ⟨(some 29), none, .p (.mov (.tmp 1)), 0, 0⟩,
  ⟨(some 30), none, .p (.mov (.tmp 2)), 0, 0⟩,
  ⟨(some 31), none, .p (.mov (.tmp 4)), 0, 0⟩,
  ⟨(some 32), none, .call (.func 88) [(.tmp 28), (.tmp 29), (.tmp 30), (.tmp 31)], 0, 0⟩,
  ⟨(some 27), none, .p (.mov (.tmp 32)), 0, 0⟩,
  ⟨(some 33), none, .p (.extract (.tmp 27) 0), 0, 0⟩,
  ⟨(some 34), none, .p (.extract (.tmp 27) 1), 0, 0⟩,
  ⟨(some 1), none, .p (.mov (.tmp 33)), 0, 0⟩,
  ⟨(some 2), none, .p (.mov (.tmp 34)), 0, 0⟩])
 (.seq (.ops [⟨(some 35), none, .p (.mov (.tmp 2)), 0, 0⟩,
  ⟨(some 10), none, .p (.mov (.tmp 35)), 0, 0⟩])
 .ret))))),
 [.tmp 10]⟩

/-- cmp.isNaN[int] -/
def ir78 : IFn := ⟨6,
 (.seq (.ops [⟨(some 2), none, .p (.mov (.const (.bool false))), 0, 0⟩])
 (.seq (.ops [⟨(some 3), none, .p (.mov (.tmp 0)), 0, 0⟩,
  ⟨(some 4), none, .p (.mov (.tmp 0)), 0, 0⟩,
  ⟨(some 5), none, .p (.bin .neq (.tmp 3) (.tmp 4)), 0, 0⟩,
  ⟨(some 2), none, .p (.mov (.tmp 5)), 0, 0⟩])
 .ret)),
 [.tmp 2]⟩

/-- slices.insertionSortOrdered[int16] -/
def ir79 : IFn := ⟨49,
 (.seq (.ops [⟨(some 8), none, .p (.mov (.tmp 1)), 0, 0⟩,
  ⟨(some 9), none, .p (.bin .add (.tmp 8) (.const (.int .i64 1))), 0, 0⟩,
  ⟨(some 6), none, .p (.mov (.tmp 9)), 0, 0⟩])
 (.block 0
  (.loop
   (.seq (.seq (.ops [⟨(some 10), none, .p (.mov (.tmp 6)), 0, 0⟩,
    ⟨(some 11), none, .p (.mov (.tmp 2)), 0, 0⟩,
    ⟨(some 12), none, .p (.bin .lss (.tmp 10) (.tmp 11)), 0, 0⟩])
   (.cond (.tmp 12)
    .skip
    (.exit 0)))
   (.seq (.block 1
    (.seq (.ops [⟨(some 15), none, .p (.mov (.tmp 6)), 0, 0⟩,
     ⟨(some 7), none, .p (.mov (.tmp 15)), 0, 0⟩])
    (.block 2
     (.loop
      (.seq (.seq (.drawn [⟨(some 16), none, .p (.mov (.tmp 7)), 0, 0⟩,
       ⟨(some 17), none, .p (.mov (.tmp 1)), 0, 0⟩,
       ⟨(some 18), none, .p (.bin .gtr (.tmp 16) (.tmp 17)), 0, 0⟩,
       ⟨(some 19), none, .p (.mov (.tmp 18)), 0, 0⟩,
       ⟨(some 20), (some (19, true)), .p (.mov (.tmp 0)), 0, 0⟩,
       ⟨(some 21), (some (19, true)), .p (.mov (.tmp 7)), 0, 0⟩,
       ⟨(some 22), (some (19, true)), .p (.indexAddr 1 (.tmp 20) (.tmp 21)), 0, 0⟩,
       ⟨(some 23), (some (19, true)), .r (.load1 (.tmp 22)), 0, 0⟩,
       ⟨(some 24), (some (19, true)), .p (.mov (.tmp 0)), 0, 0⟩,
       ⟨(some 25), (some (19, true)), .p (.mov (.tmp 7)), 0, 0⟩,
       ⟨(some 26), (some (19, true)), .p (.bin .sub (.tmp 25) (.const (.int .i64 1))), 0, 0⟩,
       ⟨(some 27), (some (19, true)), .p (.indexAddr 1 (.tmp 24) (.tmp 26)), 0, 0⟩,
       ⟨(some 28), (some (19, true)), .r (.load1 (.tmp 27)), 0, 0⟩,
       ⟨(some 29), (some (19, true)), .call (.func 85) [(.tmp 23), (.tmp 28)], 0, 1⟩,
       ⟨(some 30), none, .p (.pick (.tmp 19) (.tmp 29) (.const (.bool false))), 1, 1⟩])
      (.cond (.tmp 30)
       .skip
       (.exit 2)))
      (.seq (.block 3
       (.drawn [⟨(some 33), none, .p (.mov (.tmp 0)), 0, 0⟩,
        ⟨(some 34), none, .p (.mov (.tmp 7)), 0, 0⟩,
        ⟨(some 35), none, .p (.mov (.tmp 0)), 0, 1⟩,
        ⟨(some 36), none, .p (.mov (.tmp 7)), 0, 1⟩,
        ⟨(some 37), none, .p (.bin .sub (.tmp 36) (.const (.int .i64 1))), 0, 1⟩,
        ⟨(some 38), none, .p (.mov (.tmp 0)), 0, 0⟩,
        ⟨(some 39), none, .p (.mov (.tmp 7)), 0, 0⟩,
        ⟨(some 40), none, .p (.bin .sub (.tmp 39) (.const (.int .i64 1))), 0, 0⟩,
        ⟨(some 41), none, .p (.indexAddr 1 (.tmp 38) (.tmp 40)), 0, 0⟩,
        ⟨(some 42), none, .r (.load1 (.tmp 41)), 0, 0⟩,
        ⟨(some 43), none, .p (.mov (.tmp 0)), 0, 0⟩,
        ⟨(some 44), none, .p (.mov (.tmp 7)), 0, 0⟩,
        ⟨(some 45), none, .p (.indexAddr 1 (.tmp 43) (.tmp 44)), 0, 0⟩,
        ⟨(some 46), none, .r (.load1 (.tmp 45)), 0, 0⟩,
        ⟨(some 47), none, .p (.indexAddr 1 (.tmp 33) (.tmp 34)), 0, 0⟩,
        ⟨none, none, .e (.store 1 (.tmp 47) (.tmp 42)), 0, 1⟩,
        ⟨(some 48), none, .p (.indexAddr 1 (.tmp 35) (.tmp 37)), 1, 1⟩,
        ⟨none, none, .e (.store 1 (.tmp 48) (.tmp 46)), 1, 2⟩]))
      (.ops [⟨(some 31), none, .p (.mov (.tmp 7)), 0, 0⟩,
       ⟨(some 32), none, .p (.bin .sub (.tmp 31) (.const (.int .i64 1))), 0, 0⟩,
       ⟨(some 7), none, .p (.mov (.tmp 32)), 0, 0⟩])))))))
   (.ops [⟨(some 13), none, .p (.mov (.tmp 6)), 0, 0⟩,
    ⟨(some 14), none, .p (.bin .add (.tmp 13) (.const (.int .i64 1))), 0, 0⟩,
    ⟨(some 6), none, .p (.mov (.tmp 14)), 0, 0⟩])))))),
 []⟩

/-- slices.heapSortOrdered[int16] -/
def ir80 : IFn := ⟨56,
 (.seq (.ops [⟨(some 11), none, .p (.mov (.tmp 1)), 0, 0⟩,
  ⟨(some 6), none, .p (.mov (.tmp 11)), 0, 0⟩])
 (.seq (.ops [⟨(some 7), none, .p (.mov (.const (.int .i64 0))), 0, 0⟩])
 (.seq (.ops [⟨(some 12), none, .p (.mov (.tmp 2)), 0, 0⟩,
  ⟨(some 13), none, .p (.mov (.tmp 1)), 0, 0⟩,
  ⟨(some 14), none, .p (.bin .sub (.tmp 12) (.tmp 13)), 0, 0⟩,
  ⟨(some 8), none, .p (.mov (.tmp 14)), 0, 0⟩])
 (.seq (.seq (.ops [⟨(some 15), none, .p (.mov (.tmp 8)), 0, 0⟩,
  ⟨(some 16), none, .p (.bin .sub (.tmp 15) (.const (.int .i64 1))), 0, 0⟩,
  ⟨(some 17), none, .p (.bin .quo (.tmp 16) (.const (.int .i64 2))), 0, 0⟩,
  ⟨(some 9), none, .p (.mov (.tmp 17)), 0, 0⟩])
 (.block 0
  (.loop
   (.seq (.seq (.ops [⟨(some 18), none, .p (.mov (.tmp 9)), 0, 0⟩,
    ⟨(some 19), none, .p (.bin .geq (.tmp 18) (.const (.int .i64 0))), 0, 0⟩])
   (.cond (.tmp 19)
    .skip
    (.exit 0)))
   (.seq (.block 1
    (.ops [⟨(some 22), none, .p (.mov (.tmp 0)), 0, 0⟩,
     ⟨(some 23), none, .p (.mov (.tmp 9)), 0, 0⟩,
     ⟨(some 24), none, .p (.mov (.tmp 8)), 0, 0⟩,
     ⟨(some 25), none, .p (.mov (.tmp 6)), 0, 0⟩,
     ⟨(some 26), none, .call (.func 89) [(.tmp 22), (.tmp 23), (.tmp 24), (.tmp 25)], 0, 0⟩]))
   (.ops [⟨(some 20), none, .p (.mov (.tmp 9)), 0, 0⟩,
    ⟨(some 21), none, .p (.bin .sub (.tmp 20) (.const (.int .i64 1))), 0, 0⟩,
    ⟨(some 9), none, .p (.mov (.tmp 21)), 0, 0⟩]))))))
 (.seq (.ops [⟨(some 27), none, .p (.mov (.tmp 8)), 0, 0⟩,
  ⟨(some 28), none, .p (.bin .sub (.tmp 27) (.const (.int .i64 1))), 0, 0⟩,
  ⟨(some 10), none, .p (.mov (.tmp 28)), 0, 0⟩])
 (.block 2
  (.loop
   (.seq (.seq (.ops [⟨(some 29), none, .p (.mov (.tmp 10)), 0, 0⟩,
    ⟨(some 30), none, .p (.bin .geq (.tmp 29) (.const (.int .i64 0))), 0, 0⟩])
   (.cond (.tmp 30)
    .skip
    (.exit 2)))
   (.seq (.block 3
    (.seq (.drawn [⟨(some 33), none, .p (.mov (.tmp 0)), 0, 0⟩,
     ⟨(some 34), none, .p (.mov (.tmp 6)), 0, 0⟩,
     ⟨(some 35), none, .p (.mov (.tmp 0)), 0, 1⟩,
     ⟨(some 36), none, .p (.mov (.tmp 6)), 0, 1⟩,
     ⟨(some 37), none, .p (.mov (.tmp 10)), 0, 1⟩,
     ⟨(some 38), none, .p (.bin .add (.tmp 36) (.tmp 37)), 0, 1⟩,
     ⟨(some 39), none, .p (.mov (.tmp 0)), 0, 0⟩,
     ⟨(some 40), none, .p (.mov (.tmp 6)), 0, 0⟩,
     ⟨(some 41), none, .p (.mov (.tmp 10)), 0, 0⟩,
     ⟨(some 42), none, .p (.bin .add (.tmp 40) (.tmp 41)), 0, 0⟩,
     ⟨(some 43), none, .p (.indexAddr 1 (.tmp 39) (.tmp 42)), 0, 0⟩,
     ⟨(some 44), none, .r (.load1 (.tmp 43)), 0, 0⟩,
     ⟨(some 45), none, .p (.mov (.tmp 0)), 0, 0⟩,
     ⟨(some 46), none, .p (.mov (.tmp 6)), 0, 0⟩,
     ⟨(some 47), none, .p (.indexAddr 1 (.tmp 45) (.tmp 46)), 0, 0⟩,
     ⟨(some 48), none, .r (.load1 (.tmp 47)), 0, 0⟩,
     ⟨(some 49), none, .p (.indexAddr 1 (.tmp 33) (.tmp 34)), 0, 0⟩,
     ⟨none, none, .e (.store 1 (.tmp 49) (.tmp 44)), 0, 1⟩,
     ⟨(some 50), none, .p (.indexAddr 1 (.tmp 35) (.tmp 38)), 1, 1⟩,
     ⟨none, none, .e (.store 1 (.tmp 50) (.tmp 48)), 1, 2⟩])
    (.ops [⟨(some 51), none, .p (.mov (.tmp 0)), 0, 0⟩,
     ⟨(some 52), none, .p (.mov (.tmp 7)), 0, 0⟩,
     ⟨(some 53), none, .p (.mov (.tmp 10)), 0, 0⟩,
     ⟨(some 54), none, .p (.mov (.tmp 6)), 0, 0⟩,
     ⟨(some 55), none, .call (.func 89) [(.tmp 51), (.tmp 52), (.tmp 53), (.tmp 54)], 0, 0⟩])))
   (.ops [⟨(some 31), none, .p (.mov (.tmp 10)), 0, 0⟩,
    ⟨(some 32), none, .p (.bin .sub (.tmp 31) (.const (.int .i64 1))), 0, 0⟩,
    ⟨(some 10), none, .p (.mov (.tmp 32)), 0, 0⟩])))))))))),
 []⟩

/-- slices.breakPatternsOrdered[int16] -/
def ir81 : IFn := ⟨65,
 (.seq (.ops [⟨(some 11), none, .p (.mov (.tmp 2)), 0, 0⟩,
  ⟨(some 12), none, .p (.mov (.tmp 1)), 0, 0⟩,
  ⟨(some 13), none, .p (.bin .sub (.tmp 11) (.tmp 12)), 0, 0⟩,
  ⟨(some 6), none, .p (.mov (.tmp 13)), 0, 0⟩])
 (.seq (.ops [⟨(some 14), none, .p (.mov (.tmp 6)), 0, 0⟩,
  ⟨(some 15), none, .p (.bin .geq (.tmp 14) (.const (.int .i64 8))), 0, 0⟩])
 (.cond (.tmp 15)
  (.seq (.ops [⟨(some 16), none, .p (.mov (.tmp 6)), 0, 0⟩,
   ⟨(some 17), none, .p (.conv .u64 (.tmp 16)), 0, 0⟩,
   ⟨(some 7), none, .n (.alloc [(.int .u64 0)] 112), 0, 0⟩,
   ⟨none, none, .e (.store 1 (.tmp 7) (.tmp 17)), 0, 0⟩])
  (.seq (.ops [⟨(some 18), none, .p (.mov (.tmp 6)), 0, 0⟩,
   ⟨(some 19), none, .call (.func 74) [(.tmp 18)], 0, 0⟩,
   ⟨(some 8), none, .p (.mov (.tmp 19)), 0, 0⟩])
  (.seq (.ops [⟨(some 20), none, .p (.mov (.tmp 1)), 0, 0⟩,
   ⟨(some 21), none, .p (.mov (.tmp 6)), 0, 0⟩,
   ⟨(some 22), none, .p (.bin .quo (.tmp 21) (.const (.int .i64 4))), 0, 0⟩,
   ⟨(some 23), none, .p (.bin .mul (.tmp 22) (.const (.int .i64 2))), 0, 0⟩,
   ⟨(some 24), none, .p (.bin .add (.tmp 20) (.tmp 23)), 0, 0⟩,
   ⟨(some 25), none, .p (.bin .sub (.tmp 24) (.const (.int .i64 1))), 0, 0⟩,
   ⟨(some 9), none, .p (.mov (.tmp 25)), 0, 0⟩])
  (.block 0
   (.loop
    (.seq (.seq (.ops [⟨(some 26), none, .p (.mov (.tmp 9)), 0, 0⟩,
     ⟨(some 27), none, .p (.mov (.tmp 1)), 0, 0⟩,
     ⟨(some 28), none, .p (.mov (.tmp 6)), 0, 0⟩,
     ⟨(some 29), none, .p (.bin .quo (.tmp 28) (.const (.int .i64 4))), 0, 0⟩,
     ⟨(some 30), none, .p (.bin .mul (.tmp 29) (.const (.int .i64 2))), 0, 0⟩,
     ⟨(some 31), none, .p (.bin .add (.tmp 27) (.tmp 30)), 0, 0⟩,
     ⟨(some 32), none, .p (.bin .add (.tmp 31) (.const (.int .i64 1))), 0, 0⟩,
     ⟨(some 33), none, .p (.bin .leq (.tmp 26) (.tmp 32)), 0, 0⟩])
    (.cond (.tmp 33)
     .skip
     (.exit 0)))
    (.seq (.block 1
     (.seq (.ops [⟨(some 36), none, .call (.func 75) [(.tmp 7)], 0, 0⟩,
      ⟨(some 37), none, .p (.mov (.tmp 8)), 0, 0⟩,
      ⟨(some 38), none, .p (.bin .sub (.tmp 37) (.const (.int .u64 1))), 0, 0⟩,
      ⟨(some 39), none, .p (.bin .and (.tmp 36) (.tmp 38)), 0, 0⟩,
      ⟨(some 40), none, .p (.conv .i64 (.tmp 39)), 0, 0⟩,
      ⟨(some 10), none, .p (.mov (.tmp 40)), 0, 0⟩])
     (.seq (.seq (.ops [⟨(some 41), none, .p (.mov (.tmp 10)), 0, 0⟩,
      ⟨(some 42), none, .p (.mov (.tmp 6)), 0, 0⟩,
      ⟨(some 43), none, .p (.bin .geq (.tmp 41) (.tmp 42)), 0, 0⟩])
     (.cond (.tmp 43)
      (.ops [⟨(some 44), none, .p (.mov (.tmp 10)), 0, 0⟩,
       ⟨(some 45), none, .p (.mov (.tmp 6)), 0, 0⟩,
       ⟨(some 46), none, .p (.bin .sub (.tmp 44) (.tmp 45)), 0, 0⟩,
       ⟨(some 10), none, .p (.mov (.tmp 46)), 0, 0⟩])
      .skip))
     (.drawn [⟨(some 47), none, .p (.mov (.tmp 0)), 0, 0⟩,
      ⟨(some 48), none, .p (.mov (.tmp 9)), 0, 0⟩,
      ⟨(some 49), none, .p (.mov (.tmp 0)), 0, 1⟩,
      ⟨(some 50), none, .p (.mov (.tmp 1)), 0, 1⟩,
      ⟨(some 51), none, .p (.mov (.tmp 10)), 0, 1⟩,
      ⟨(some 52), none, .p (.bin .add (.tmp 50) (.tmp 51)), 0, 1⟩,
      ⟨(some 53), none, .p (.mov (.tmp 0)), 0, 0⟩,
      ⟨(some 54), none, .p (.mov (.tmp 1)), 0, 0⟩,
      ⟨(some 55), none, .p (.mov (.tmp 10)), 0, 0⟩,
      ⟨(some 56), none, .p (.bin .add (.tmp 54) (.tmp 55)), 0, 0⟩,
      ⟨(some 57), none, .p (.indexAddr 1 (.tmp 53) (.tmp 56)), 0, 0⟩,
      ⟨(some 58), none, .r (.load1 (.tmp 57)), 0, 0⟩,
      ⟨(some 59), none, .p (.mov (.tmp 0)), 0, 0⟩,
      ⟨(some 60), none, .p (.mov (.tmp 9)), 0, 0⟩,
      ⟨(some 61), none, .p (.indexAddr 1 (.tmp 59) (.tmp 60)), 0, 0⟩,
      ⟨(some 62), none, .r (.load1 (.tmp 61)), 0, 0⟩,
      ⟨(some 63), none, .p (.indexAddr 1 (.tmp 47) (.tmp 48)), 0, 0⟩,
      ⟨none, none, .e (.store 1 (.tmp 63) (.tmp 58)), 0, 1⟩,
      ⟨(some 64), none, .p (.indexAddr 1 (.tmp 49) (.tmp 52)), 1, 1⟩,
      ⟨none, none, .e (.store 1 (.tmp 64) (.tmp 62)), 1, 2⟩]))))
    (.ops [⟨(some 34), none, .p (.mov (.tmp 9)), 0, 0⟩,
     ⟨(some 35), none, .p (.bin .add (.tmp 34) (.const (.int .i64 1))), 0, 0⟩,
     ⟨(some 9), none, .p (.mov (.tmp 35)), 0, 0⟩]))))))))
  .skip))),
 []⟩

/-- slices.choosePivotOrdered[int16] -/
def ir82 : IFn := ⟨57,
 (.seq (.ops [⟨(some 6), none, .p (.mov (.const (.int .i64 0))), 0, 0⟩,
  ⟨(some 7), none, .p (.mov (.const (.int .i64 0))), 0, 0⟩])
 (.seq (.ops [⟨(some 13), none, .p (.mov (.tmp 2)), 0, 0⟩,
  ⟨(some 14), none, .p (.mov (.tmp 1)), 0, 0⟩,
  ⟨(some 15), none, .p (.bin .sub (.tmp 13) (.tmp 14)), 0, 0⟩,
  ⟨(some 8), none, .p (.mov (.tmp 15)), 0, 0⟩])
 (.seq (.ops [⟨(some 9), none, .n (.alloc [(.int .i64 0)] 3), 0, 0⟩])
 (.seq (.ops [⟨(some 16), none, .p (.mov (.tmp 1)), 0, 0⟩,
  ⟨(some 17), none, .p (.mov (.tmp 8)), 0, 0⟩,
  ⟨(some 18), none, .p (.bin .quo (.tmp 17) (.const (.int .i64 4))), 0, 0⟩,
  ⟨(some 19), none, .p (.bin .mul (.tmp 18) (.const (.int .i64 1))), 0, 0⟩,
  ⟨(some 20), none, .p (.bin .add (.tmp 16) (.tmp 19)), 0, 0⟩,
  ⟨(some 10), none, .p (.mov (.tmp 20)), 0, 0⟩])
 (.seq (.ops [⟨(some 21), none, .p (.mov (.tmp 1)), 0, 0⟩,
  ⟨(some 22), none, .p (.mov (.tmp 8)), 0, 0⟩,
  ⟨(some 23), none, .p (.bin .quo (.tmp 22) (.const (.int .i64 4))), 0, 0⟩,
  ⟨(some 24), none, .p (.bin .mul (.tmp 23) (.const (.int .i64 2))), 0, 0⟩,
  ⟨(some 25), none, .p (.bin .add (.tmp 21) (.tmp 24)), 0, 0⟩,
  ⟨(some 11), none, .p (.mov (.tmp 25)), 0, 0⟩])
 (.seq (.ops [⟨(some 26), none, .p (.mov (.tmp 1)), 0, 0⟩,
  ⟨(some 27), none, .p (.mov (.tmp 8)), 0, 0⟩,
  ⟨(some 28), none, .p (.bin .quo (.tmp 27) (.const (.int .i64 4))), 0, 0⟩,
  ⟨(some 29), none, .p (.bin .mul (.tmp 28) (.const (.int .i64 3))), 0, 0⟩,
  ⟨(some 30), none, .p (.bin .add (.tmp 26) (.tmp 29)), 0, 0⟩,
  ⟨(some 12), none, .p (.mov (.tmp 30)), 0, 0⟩])
 (.seq (.seq (.ops [⟨(some 31), none, .p (.mov (.tmp 8)), 0, 0⟩,
  ⟨(some 32), none, .p (.bin .geq (.tmp 31) (.const (.int .i64 8))), 0, 0⟩])
 (.cond (.tmp 32)
  (.seq (.seq (.ops [⟨(some 33), none, .p (.mov (.tmp 8)), 0, 0⟩,
   ⟨(some 34), none, .p (.bin .geq (.tmp 33) (.const (.int .i64 50))), 0, 0⟩])
  (.cond (.tmp 34)
   (.seq (.ops [⟨(some 35), none, .p (.mov (.tmp 0)), 0, 0⟩,
    ⟨(some 36), none, .p (.mov (.tmp 10)), 0, 0⟩,
    ⟨(some 37), none, .call (.func 90) [(.tmp 35), (.tmp 36), (.tmp 9)], 0, 0⟩,
    ⟨(some 10), none, .p (.mov (.tmp 37)), 0, 0⟩])
   (.seq (.ops [⟨(some 38), none, .p (.mov (.tmp 0)), 0, 0⟩,
    ⟨(some 39), none, .p (.mov (.tmp 11)), 0, 0⟩,
    ⟨(some 40), none, .call (.func 90) [(.tmp 38), (.tmp 39), (.tmp 9)], 0, 0⟩,
    ⟨(some 11), none, .p (.mov (.tmp 40)), 0, 0⟩])
   (.ops [⟨(some 41), none, .p (.mov (.tmp 0)), 0, 0⟩,
    ⟨(some 42), none, .p (.mov (.tmp 12)), 0, 0⟩,
    ⟨(some 43), none, .call (.func 90) [(.tmp 41), (.tmp 42), (.tmp 9)], 0, 0⟩,
    ⟨(some 12), none, .p (.mov (.tmp 43)), 0, 0⟩])))
   .skip))
  (.ops [⟨(some 44), none, .p (.mov (.tmp 0)), 0, 0⟩,
   ⟨(some 45), none, .p (.mov (.tmp 10)), 0, 0⟩,
   ⟨(some 46), none, .p (.mov (.tmp 11)), 0, 0⟩,
   ⟨(some 47), none, .p (.mov (.tmp 12)), 0, 0⟩,
   ⟨(some 48), none, .call (.func 91) [(.tmp 44), (.tmp 45), (.tmp 46), (.tmp 47), (.tmp 9)], 0, 0⟩,
   ⟨(some 11), none, .p (.mov (.tmp 48)), 0, 0⟩]))
  .skip))
 (.seq (.ops [⟨(some 49), none, .r (.load1 (.tmp 9)), 0, 0⟩])
 (.block 0
  (.seq (.ops [⟨(some 52), none, .p (.bin .eql (.tmp 49) (.const (.int .i64 0))), 0, 0⟩,
   ⟨(some 51), none, .p (.mov (.tmp 52)), 0, 0⟩])
  (.cond (.tmp 51)
   (.seq (.ops [⟨(some 53), none, .p (.mov (.tmp 11)), 0, 0⟩,
    ⟨(some 6), none, .p (.mov (.tmp 53)), 0, 0⟩,
    ⟨(some 7), none, .p (.mov (.const (.int .i64 1))), 0, 0⟩])
   .ret)
   (.seq (.ops [⟨(some 55), none, .p (.bin .eql (.tmp 49) (.const (.int .i64 12))), 0, 0⟩,
    ⟨(some 54), none, .p (.mov (.tmp 55)), 0, 0⟩])
   (.cond (.tmp 54)
    (.seq (.ops [⟨(some 56), none, .p (.mov (.tmp 11)), 0, 0⟩,
     ⟨(some 6), none, .p (.mov (.tmp 56)), 0, 0⟩,
     ⟨(some 7), none, .p (.mov (.const (.int .i64 2))), 0, 0⟩])
    .ret)
    (.seq (.ops [⟨(some 50), none, .p (.mov (.tmp 11)), 0, 0⟩,
     ⟨(some 6), none, .p (.mov (.tmp 50)), 0, 0⟩,
     ⟨(some 7), none, .p (.mov (.const (.int .i64 0))), 0, 0⟩])
    .ret)))))))))))))),
 [.tmp 6, .tmp 7]⟩

/-- slices.reverseRangeOrdered[int16] -/
def ir83 : IFn := ⟨32,
 (.seq (.ops [⟨(some 8), none, .p (.mov (.tmp 1)), 0, 0⟩,
  ⟨(some 6), none, .p (.mov (.tmp 8)), 0, 0⟩])
 (.seq (.ops [⟨(some 9), none, .p (.mov (.tmp 2)), 0, 0⟩,
  ⟨(some 10), none, .p (.bin .sub (.tmp 9) (.const (.int .i64 1))), 0, 0⟩,
  ⟨(some 7), none, .p (.mov (.tmp 10)), 0, 0⟩])
 (.block 0
  (.loop
   (.seq (.seq (.ops [⟨(some 11), none, .p (.mov (.tmp 6)), 0, 0⟩,
    ⟨(some 12), none, .p (.mov (.tmp 7)), 0, 0⟩,
    ⟨(some 13), none, .p (.bin .lss (.tmp 11) (.tmp 12)), 0, 0⟩])
   (.cond (.tmp 13)
    .skip
    (.exit 0)))
   (.block 1
    (.seq (.drawn [⟨(some 14), none, .p (.mov (.tmp 0)), 0, 0⟩,
     ⟨(some 15), none, .p (.mov (.tmp 6)), 0, 0⟩,
     ⟨(some 16), none, .p (.mov (.tmp 0)), 0, 1⟩,
     ⟨(some 17), none, .p (.mov (.tmp 7)), 0, 1⟩,
     ⟨(some 18), none, .p (.mov (.tmp 0)), 0, 0⟩,
     ⟨(some 19), none, .p (.mov (.tmp 7)), 0, 0⟩,
     ⟨(some 20), none, .p (.indexAddr 1 (.tmp 18) (.tmp 19)), 0, 0⟩,
     ⟨(some 21), none, .r (.load1 (.tmp 20)), 0, 0⟩,
     ⟨(some 22), none, .p (.mov (.tmp 0)), 0, 0⟩,
     ⟨(some 23), none, .p (.mov (.tmp 6)), 0, 0⟩,
     ⟨(some 24), none, .p (.indexAddr 1 (.tmp 22) (.tmp 23)), 0, 0⟩,
     ⟨(some 25), none, .r (.load1 (.tmp 24)), 0, 0⟩,
     ⟨(some 26), none, .p (.indexAddr 1 (.tmp 14) (.tmp 15)), 0, 0⟩,
     ⟨none, none, .e (.store 1 (.tmp 26) (.tmp 21)), 0, 1⟩,
     ⟨(some 27), none, .p (.indexAddr 1 (.tmp 16) (.tmp 17)), 1, 1⟩,
     ⟨none, none, .e (.store 1 (.tmp 27) (.tmp 25)), 1, 2⟩])
    (.seq (.ops [⟨(some 28), none, .p (.mov (.tmp 6)), 0, 0⟩,
     ⟨(some 29), none, .p (.bin .add (.tmp 28) (.const (.int .i64 1))), 0, 0⟩,
     ⟨(some 6), none, .p (.mov (.tmp 29)), 0, 0⟩])
    (.ops [⟨(some 30), none, .p (.mov (.tmp 7)), 0, 0⟩,
     ⟨(some 31), none, .p (.bin .sub (.tmp 30) (.const (.int .i64 1))), 0, 0⟩,
     ⟨(some 7), none, .p (.mov (.tmp 31)), 0, 0⟩]))))))))),
 []⟩

/-- slices.partialInsertionSortOrdered[int16] -/
def ir84 : IFn := ⟨133,
 (.seq (.ops [⟨(some 6), none, .p (.mov (.const (.bool false))), 0, 0⟩])
 (.seq (.ops [⟨(some 11), none, .p (.mov (.tmp 1)), 0, 0⟩,
  ⟨(some 12), none, .p (.bin .add (.tmp 11) (.const (.int .i64 1))), 0, 0⟩,
  ⟨(some 7), none, .p (.mov (.tmp 12)), 0, 0⟩])
 (.seq (.seq (.ops [⟨(some 8), none, .p (.mov (.const (.int .i64 0))), 0, 0⟩])
 (.block 0
  (.loop
   (.seq (.seq (.ops [⟨(some 13), none, .p (.mov (.tmp 8)), 0, 0⟩,
    ⟨(some 14), none, .p (.bin .lss (.tmp 13) (.const (.int .i64 5))), 0, 0⟩])
   (.cond (.tmp 14)
    .skip
    (.exit 0)))
   (.seq (.block 1
    (.seq (.block 2
     (.loop
      (.seq (.seq (.drawn [⟨(some 17), none, .p (.mov (.tmp 7)), 0, 0⟩,
       ⟨(some 18), none, .p (.mov (.tmp 2)), 0, 0⟩,
       ⟨(some 19), none, .p (.bin .lss (.tmp 17) (.tmp 18)), 0, 0⟩,
       ⟨(some 20), none, .p (.mov (.tmp 19)), 0, 0⟩,
       ⟨(some 21), (some (20, true)), .p (.mov (.tmp 0)), 0, 0⟩,
       ⟨(some 22), (some (20, true)), .p (.mov (.tmp 7)), 0, 0⟩,
       ⟨(some 23), (some (20, true)), .p (.indexAddr 1 (.tmp 21) (.tmp 22)), 0, 0⟩,
       ⟨(some 24), (some (20, true)), .r (.load1 (.tmp 23)), 0, 0⟩,
       ⟨(some 25), (some (20, true)), .p (.mov (.tmp 0)), 0, 0⟩,
       ⟨(some 26), (some (20, true)), .p (.mov (.tmp 7)), 0, 0⟩,
       ⟨(some 27), (some (20, true)), .p (.bin .sub (.tmp 26) (.const (.int .i64 1))), 0, 0⟩,
       ⟨(some 28), (some (20, true)), .p (.indexAddr 1 (.tmp 25) (.tmp 27)), 0, 0⟩,
       ⟨(some 29), (some (20, true)), .r (.load1 (.tmp 28)), 0, 0⟩,
       ⟨(some 30), (some (20, true)), .call (.func 85) [(.tmp 24), (.tmp 29)], 0, 1⟩,
       ⟨(some 31), (some (20, true)), .p (.not (.tmp 30)), 1, 1⟩,
       ⟨(some 32), none, .p (.pick (.tmp 20) (.tmp 31) (.const (.bool false))), 1, 1⟩])
      (.cond (.tmp 32)
       .skip
       (.exit 2)))
      (.block 3
       (.ops [⟨(some 33), none, .p (.mov (.tmp 7)), 0, 0⟩,
        ⟨(some 34), none, .p (.bin .add (.tmp 33) (.const (.int .i64 1))), 0, 0⟩,
        ⟨(some 7), none, .p (.mov (.tmp 34)), 0, 0⟩])))))
    (.seq (.seq (.ops [⟨(some 35), none, .p (.mov (.tmp 7)), 0, 0⟩,
     ⟨(some 36), none, .p (.mov (.tmp 2)), 0, 0⟩,
     ⟨(some 37), none, .p (.bin .eql (.tmp 35) (.tmp 36)), 0, 0⟩])
    (.cond (.tmp 37)
     (.seq (.ops [⟨(some 6), none, .p (.mov (.const (.bool true))), 0, 0⟩])
     .ret)
     .skip))
    (.seq (.seq (.ops [⟨(some 38), none, .p (.mov (.tmp 2)), 0, 0⟩,
     ⟨(some 39), none, .p (.mov (.tmp 1)), 0, 0⟩,
     ⟨(some 40), none, .p (.bin .sub (.tmp 38) (.tmp 39)), 0, 0⟩,
     ⟨(some 41), none, .p (.bin .lss (.tmp 40) (.const (.int .i64 50))), 0, 0⟩])
    (.cond (.tmp 41)
     (.seq (.ops [⟨(some 6), none, .p (.mov (.const (.bool false))), 0, 0⟩])
     .ret)
     .skip))
    (.seq (.drawn [⟨(some 42), none, .p (.mov (.tmp 0)), 0, 0⟩,
     ⟨(some 43), none, .p (.mov (.tmp 7)), 0, 0⟩,
     ⟨(some 44), none, .p (.mov (.tmp 0)), 0, 1⟩,
     ⟨(some 45), none, .p (.mov (.tmp 7)), 0, 1⟩,
     ⟨(some 46), none, .p (.bin .sub (.tmp 45) (.const (.int .i64 1))), 0, 1⟩,
     ⟨(some 47), none, .p (.mov (.tmp 0)), 0, 0⟩,
     ⟨(some 48), none, .p (.mov (.tmp 7)), 0, 0⟩,
     ⟨(some 49), none, .p (.bin .sub (.tmp 48) (.const (.int .i64 1))), 0, 0⟩,
     ⟨(some 50), none, .p (.indexAddr 1 (.tmp 47) (.tmp 49)), 0, 0⟩,
     ⟨(some 51), none, .r (.load1 (.tmp 50)), 0, 0⟩,
     ⟨(some 52), none, .p (.mov (.tmp 0)), 0, 0⟩,
     ⟨(some 53), none, .p (.mov (.tmp 7)), 0, 0⟩,
     ⟨(some 54), none, .p (.indexAddr 1 (.tmp 52) (.tmp 53)), 0, 0⟩,
     ⟨(some 55), none, .r (.load1 (.tmp 54)), 0, 0⟩,
     ⟨(some 56), none, .p (.indexAddr 1 (.tmp 42) (.tmp 43)), 0, 0⟩,
     ⟨none, none, .e (.store 1 (.tmp 56) (.tmp 51)), 0, 1⟩,
     ⟨(some 57), none, .p (.indexAddr 1 (.tmp 44) (.tmp 46)), 1, 1⟩,
     ⟨none, none, .e (.store 1 (.tmp 57) (.tmp 55)), 1, 2⟩])
    (.seq (.seq (.ops [⟨(some 58), none, .p (.mov (.tmp 7)), 0, 0⟩,
     ⟨(some 59), none, .p (.mov (.tmp 1)), 0, 0⟩,
     ⟨(some 60), none, .p (.bin .sub (.tmp 58) (.tmp 59)), 0, 0⟩,
     ⟨(some 61), none, .p (.bin .geq (.tmp 60) (.const (.int .i64 2))), 0, 0⟩])
    (.cond (.tmp 61)
     (.seq (.ops [⟨(some 62), none, .p (.mov (.tmp 7)), 0, 0⟩,
      ⟨(some 63), none, .p (.bin .sub (.tmp 62) (.const (.int .i64 1))), 0, 0⟩,
      ⟨(some 9), none, .p (.mov (.tmp 63)), 0, 0⟩])
     (.block 4
      (.loop
       (.seq (.seq (.ops [⟨(some 64), none, .p (.mov (.tmp 9)), 0, 0⟩,
        ⟨(some 65), none, .p (.bin .geq (.tmp 64) (.const (.int .i64 1))), 0, 0⟩])
       (.cond (.tmp 65)
        .skip
        (.exit 4)))
       (.seq (.block 5
        (.seq (.seq (.drawn [⟨(some 68), none, .p (.mov (.tmp 0)), 0, 0⟩,
         ⟨(some 69), none, .p (.mov (.tmp 9)), 0, 0⟩,
         ⟨(some 70), none, .p (.indexAddr 1 (.tmp 68) (.tmp 69)), 0, 0⟩,
         ⟨(some 71), none, .r (.load1 (.tmp 70)), 0, 0⟩,
         ⟨(some 72), none, .p (.mov (.tmp 0)), 0, 0⟩,
         ⟨(some 73), none, .p (.mov (.tmp 9)), 0, 0⟩,
         ⟨(some 74), none, .p (.bin .sub (.tmp 73) (.const (.int .i64 1))), 0, 0⟩,
         ⟨(some 75), none, .p (.indexAddr 1 (.tmp 72) (.tmp 74)), 0, 0⟩,
         ⟨(some 76), none, .r (.load1 (.tmp 75)), 0, 0⟩,
         ⟨(some 77), none, .call (.func 85) [(.tmp 71), (.tmp 76)], 0, 1⟩,
         ⟨(some 78), none, .p (.not (.tmp 77)), 1, 1⟩])
        (.cond (.tmp 78)
         (.exit 4)
         .skip))
        (.drawn [⟨(some 79), none, .p (.mov (.tmp 0)), 0, 0⟩,
         ⟨(some 80), none, .p (.mov (.tmp 9)), 0, 0⟩,
         ⟨(some 81), none, .p (.mov (.tmp 0)), 0, 1⟩,
         ⟨(some 82), none, .p (.mov (.tmp 9)), 0, 1⟩,
         ⟨(some 83), none, .p (.bin .sub (.tmp 82) (.const (.int .i64 1))), 0, 1⟩,
         ⟨(some 84), none, .p (.mov (.tmp 0)), 0, 0⟩,
         ⟨(some 85), none, .p (.mov (.tmp 9)), 0, 0⟩,
         ⟨(some 86), none, .p (.bin .sub (.tmp 85) (.const (.int .i64 1))), 0, 0⟩,
         ⟨(some 87), none, .p (.indexAddr 1 (.tmp 84) (.tmp 86)), 0, 0⟩,
         ⟨(some 88), none, .r (.load1 (.tmp 87)), 0, 0⟩,
         ⟨(some 89), none, .p (.mov (.tmp 0)), 0, 0⟩,
         ⟨(some 90), none, .p (.mov (.tmp 9)), 0, 0⟩,
         ⟨(some 91), none, .p (.indexAddr 1 (.tmp 89) (.tmp 90)), 0, 0⟩,
         ⟨(some 92), none, .r (.load1 (.tmp 91)), 0, 0⟩,
         ⟨(some 93), none, .p (.indexAddr 1 (.tmp 79) (.tmp 80)), 0, 0⟩,
         ⟨none, none, .e (.store 1 (.tmp 93) (.tmp 88)), 0, 1⟩,
         ⟨(some 94), none, .p (.indexAddr 1 (.tmp 81) (.tmp 83)), 1, 1⟩,
         ⟨none, none, .e (.store 1 (.tmp 94) (.tmp 92)), 1, 2⟩])))
       (.ops [⟨(some 66), none, .p (.mov (.tmp 9)), 0, 0⟩,
        ⟨(some 67), none, .p (.bin .sub (.tmp 66) (.const (.int .i64 1))), 0, 0⟩,
        ⟨(some 9), none, .p (.mov (.tmp 67)), 0, 0⟩]))))))
     .skip))
    (.seq (.ops [⟨(some 95), none, .p (.mov (.tmp 2)), 0, 0⟩,
     ⟨(some 96), none, .p (.mov (.tmp 7)), 0, 0⟩,
     ⟨(some 97), none, .p (.bin .sub (.tmp 95) (.tmp 96)), 0, 0⟩,
     ⟨(some 98), none, .p (.bin .geq (.tmp 97) (.const (.int .i64 2))), 0, 0⟩])
    (.cond (.tmp 98)
     (.seq (.ops [⟨(some 99), none, .p (.mov (.tmp 7)), 0, 0⟩,
      ⟨(some 100), none, .p (.bin .add (.tmp 99) (.const (.int .i64 1))), 0, 0⟩,
      ⟨(some 10), none, .p (.mov (.tmp 100)), 0, 0⟩])
     (.block 6
      (.loop
       (.seq (.seq (.ops [⟨(some 101), none, .p (.mov (.tmp 10)), 0, 0⟩,
        ⟨(some 102), none, .p (.mov (.tmp 2)), 0, 0⟩,
        ⟨(some 103), none, .p (.bin .lss (.tmp 101) (.tmp 102)), 0, 0⟩])
       (.cond (.tmp 103)
        .skip
        (.exit 6)))
       (.seq (.block 7
        (.seq (.seq (.drawn [⟨(some 106), none, .p (.mov (.tmp 0)), 0, 0⟩,
         ⟨(some 107), none, .p (.mov (.tmp 10)), 0, 0⟩,
         ⟨(some 108), none, .p (.indexAddr 1 (.tmp 106) (.tmp 107)), 0, 0⟩,
         ⟨(some 109), none, .r (.load1 (.tmp 108)), 0, 0⟩,
         ⟨(some 110), none, .p (.mov (.tmp 0)), 0, 0⟩,
         ⟨(some 111), none, .p (.mov (.tmp 10)), 0, 0⟩,
         ⟨(some 112), none, .p (.bin .sub (.tmp 111) (.const (.int .i64 1))), 0, 0⟩,
         ⟨(some 113), none, .p (.indexAddr 1 (.tmp 110) (.tmp 112)), 0, 0⟩,
         ⟨(some 114), none, .r (.load1 (.tmp 113)), 0, 0⟩,
         ⟨(some 115), none, .call (.func 85) [(.tmp 109), (.tmp 114)], 0, 1⟩,
         ⟨(some 116), none, .p (.not (.tmp 115)), 1, 1⟩])
        (.cond (.tmp 116)
         (.exit 6)
         .skip))
        (.drawn [⟨(some 117), none, .p (.mov (.tmp 0)), 0, 0⟩,
         ⟨(some 118), none, .p (.mov (.tmp 10)), 0, 0⟩,
         ⟨(some 119), none, .p (.mov (.tmp 0)), 0, 1⟩,
         ⟨(some 120), none, .p (.mov (.tmp 10)), 0, 1⟩,
         ⟨(some 121), none, .p (.bin .sub (.tmp 120) (.const (.int .i64 1))), 0, 1⟩,
         ⟨(some 122), none, .p (.mov (.tmp 0)), 0, 0⟩,
         ⟨(some 123), none, .p (.mov (.tmp 10)), 0, 0⟩,
         ⟨(some 124), none, .p (.bin .sub (.tmp 123) (.const (.int .i64 1))), 0, 0⟩,
         ⟨(some 125), none, .p (.indexAddr 1 (.tmp 122) (.tmp 124)), 0, 0⟩,
         ⟨(some 126), none, .r (.load1 (.tmp 125)), 0, 0⟩,
         ⟨(some 127), none, .p (.mov (.tmp 0)), 0, 0⟩,
         ⟨(some 128), none, .p (.mov (.tmp 10)), 0, 0⟩,
         ⟨(some 129), none, .p (.indexAddr 1 (.tmp 127) (.tmp 128)), 0, 0⟩,
         ⟨(some 130), none, .r (.load1 (.tmp 129)), 0, 0⟩,
         ⟨(some 131), none, .p (.indexAddr 1 (.tmp 117) (.tmp 118)), 0, 0⟩,
         ⟨none, none, .e (.store 1 (.tmp 131) (.tmp 126)), 0, 1⟩,
         ⟨(some 132), none, .p (.indexAddr 1 (.tmp 119) (.tmp 121)), 1, 1⟩,
         ⟨none, none, .e (.store 1 (.tmp 132) (.tmp 130)), 1, 2⟩])))
       (.ops [⟨(some 104), none, .p (.mov (.tmp 10)), 0, 0⟩,
        ⟨(some 105), none, .p (.bin .add (.tmp 104) (.const (.int .i64 1))), 0, 0⟩,
        ⟨(some 10), none, .p (.mov (.tmp 105)), 0, 0⟩]))))))
     .skip))))))))
   (.ops [⟨(some 15), none, .p (.mov (.tmp 8)), 0, 0⟩,
    ⟨(some 16), none, .p (.bin .add (.tmp 15) (.const (.int .i64 1))), 0, 0⟩,
    ⟨(some 8), none, .p (.mov (.tmp 16)), 0, 0⟩]))))))
 (.seq (.ops [⟨(some 6), none, .p (.mov (.const (.bool false))), 0, 0⟩])
 .ret)))),
 [.tmp 6]⟩

/-- cmp.Less[int16] -/
def ir85 : IFn := ⟨17,
 (.seq (.ops [⟨(some 4), none, .p (.mov (.const (.bool false))), 0, 0⟩])
 (.seq (.ops [⟨(some 5), none, .p (.mov (.tmp 0)), 0, 0⟩,
  ⟨(some 6), none, .call (.func 92) [(.tmp 5)], 0, 0⟩,
  ⟨(some 7), none, .p (.mov (.tmp 6)), 0, 0⟩,
  ⟨(some 8), (some (7, true)), .p (.mov (.tmp 1)), 0, 0⟩,
  ⟨(some 9), (some (7, true)), .call (.func 92) [(.tmp 8)], 0, 0⟩,
  ⟨(some 10), (some (7, true)), .p (.not (.tmp 9)), 0, 0⟩,
  ⟨(some 11), none, .p (.pick (.tmp 7) (.tmp 10) (.const (.bool false))), 0, 0⟩,
  ⟨(some 12), none, .p (.mov (.tmp 11)), 0, 0⟩,
  ⟨(some 13), (some (12, false)), .p (.mov (.tmp 0)), 0, 0⟩,
  ⟨(some 14), (some (12, false)), .p (.mov (.tmp 1)), 0, 0⟩,
  ⟨(some 15), (some (12, false)), .p (.bin .lss (.tmp 13) (.tmp 14)), 0, 0⟩,
  ⟨(some 16), none, .p (.pick (.tmp 12) (.const (.bool true)) (.tmp 15)), 0, 0⟩,
  ⟨(some 4), none, .p (.mov (.tmp 16)), 0, 0⟩])
 .ret)),
 [.tmp 4]⟩

/-- slices.partitionEqualOrdered[int16] -/
def ir86 : IFn := ⟨84,
 (.seq (.ops [⟨(some 8), none, .p (.mov (.const (.int .i64 0))), 0, 0⟩])
 (.seq (.drawn [⟨(some 11), none, .p (.mov (.tmp 0)), 0, 0⟩,
  ⟨(some 12), none, .p (.mov (.tmp 1)), 0, 0⟩,
  ⟨(some 13), none, .p (.mov (.tmp 0)), 0, 1⟩,
  ⟨(some 14), none, .p (.mov (.tmp 3)), 0, 1⟩,
  ⟨(some 15), none, .p (.mov (.tmp 0)), 0, 0⟩,
  ⟨(some 16), none, .p (.mov (.tmp 3)), 0, 0⟩,
  ⟨(some 17), none, .p (.indexAddr 1 (.tmp 15) (.tmp 16)), 0, 0⟩,
  ⟨(some 18), none, .r (.load1 (.tmp 17)), 0, 0⟩,
  ⟨(some 19), none, .p (.mov (.tmp 0)), 0, 0⟩,
  ⟨(some 20), none, .p (.mov (.tmp 1)), 0, 0⟩,
  ⟨(some 21), none, .p (.indexAddr 1 (.tmp 19) (.tmp 20)), 0, 0⟩,
  ⟨(some 22), none, .r (.load1 (.tmp 21)), 0, 0⟩,
  ⟨(some 23), none, .p (.indexAddr 1 (.tmp 11) (.tmp 12)), 0, 0⟩,
  ⟨none, none, .e (.store 1 (.tmp 23) (.tmp 18)), 0, 1⟩,
  ⟨(some 24), none, .p (.indexAddr 1 (.tmp 13) (.tmp 14)), 1, 1⟩,
  ⟨none, none, .e (.store 1 (.tmp 24) (.tmp 22)), 1, 2⟩])
 (.seq (.ops [⟨(some 25), none, .p (.mov (.tmp 1)), 0, 0⟩,
  ⟨(some 26), none, .p (.bin .add (.tmp 25) (.const (.int .i64 1))), 0, 0⟩,
  ⟨(some 27), none, .p (.mov (.tmp 2)), 0, 0⟩,
  ⟨(some 28), none, .p (.bin .sub (.tmp 27) (.const (.int .i64 1))), 0, 0⟩,
  ⟨(some 9), none, .p (.mov (.tmp 26)), 0, 0⟩,
  ⟨(some 10), none, .p (.mov (.tmp 28)), 0, 0⟩])
 (.seq (.block 0
  (.loop
   (.block 1
    (.seq (.block 2
     (.loop
      (.seq (.seq (.drawn [⟨(some 29), none, .p (.mov (.tmp 9)), 0, 0⟩,
       ⟨(some 30), none, .p (.mov (.tmp 10)), 0, 0⟩,
       ⟨(some 31), none, .p (.bin .leq (.tmp 29) (.tmp 30)), 0, 0⟩,
       ⟨(some 32), none, .p (.mov (.tmp 31)), 0, 0⟩,
       ⟨(some 33), (some (32, true)), .p (.mov (.tmp 0)), 0, 0⟩,
       ⟨(some 34), (some (32, true)), .p (.mov (.tmp 1)), 0, 0⟩,
       ⟨(some 35), (some (32, true)), .p (.indexAddr 1 (.tmp 33) (.tmp 34)), 0, 0⟩,
       ⟨(some 36), (some (32, true)), .r (.load1 (.tmp 35)), 0, 0⟩,
       ⟨(some 37), (some (32, true)), .p (.mov (.tmp 0)), 0, 0⟩,
       ⟨(some 38), (some (32, true)), .p (.mov (.tmp 9)), 0, 0⟩,
       ⟨(some 39), (some (32, true)), .p (.indexAddr 1 (.tmp 37) (.tmp 38)), 0, 0⟩,
       ⟨(some 40), (some (32, true)), .r (.load1 (.tmp 39)), 0, 0⟩,
       ⟨(some 41), (some (32, true)), .call (.func 85) [(.tmp 36), (.tmp 40)], 0, 1⟩,
       ⟨(some 42), (some (32, true)), .p (.not (.tmp 41)), 1, 1⟩,
       ⟨(some 43), none, .p (.pick (.tmp 32) (.tmp 42) (.const (.bool false))), 1, 1⟩])
      (.cond (.tmp 43)
       .skip
       (.exit 2)))
      (.block 3
       (.ops [⟨(some 44), none, .p (.mov (.tmp 9)), 0, 0⟩,
        ⟨(some 45), none, .p (.bin .add (.tmp 44) (.const (.int .i64 1))), 0, 0⟩,
        ⟨(some 9), none, .p (.mov (.tmp 45)), 0, 0⟩])))))
    (.seq (.block 4
     (.loop
      (.seq (.seq (.drawn [⟨(some 46), none, .p (.mov (.tmp 9)), 0, 0⟩,
       ⟨(some 47), none, .p (.mov (.tmp 10)), 0, 0⟩,
       ⟨(some 48), none, .p (.bin .leq (.tmp 46) (.tmp 47)), 0, 0⟩,
       ⟨(some 49), none, .p (.mov (.tmp 48)), 0, 0⟩,
       ⟨(some 50), (some (49, true)), .p (.mov (.tmp 0)), 0, 0⟩,
       ⟨(some 51), (some (49, true)), .p (.mov (.tmp 1)), 0, 0⟩,
       ⟨(some 52), (some (49, true)), .p (.indexAddr 1 (.tmp 50) (.tmp 51)), 0, 0⟩,
       ⟨(some 53), (some (49, true)), .r (.load1 (.tmp 52)), 0, 0⟩,
       ⟨(some 54), (some (49, true)), .p (.mov (.tmp 0)), 0, 0⟩,
       ⟨(some 55), (some (49, true)), .p (.mov (.tmp 10)), 0, 0⟩,
       ⟨(some 56), (some (49, true)), .p (.indexAddr 1 (.tmp 54) (.tmp 55)), 0, 0⟩,
       ⟨(some 57), (some (49, true)), .r (.load1 (.tmp 56)), 0, 0⟩,
       ⟨(some 58), (some (49, true)), .call (.func 85) [(.tmp 53), (.tmp 57)], 0, 1⟩,
       ⟨(some 59), none, .p (.pick (.tmp 49) (.tmp 58) (.const (.bool false))), 1, 1⟩])
      (.cond (.tmp 59)
       .skip
       (.exit 4)))
      (.block 5
       (.ops [⟨(some 60), none, .p (.mov (.tmp 10)), 0, 0⟩,
        ⟨(some 61), none, .p (.bin .sub (.tmp 60) (.const (.int .i64 1))), 0, 0⟩,
        ⟨(some 10), none, .p (.mov (.tmp 61)), 0, 0⟩])))))
    (.seq (.seq (.ops [⟨(some 62), none, .p (.mov (.tmp 9)), 0, 0⟩,
     ⟨(some 63), none, .p (.mov (.tmp 10)), 0, 0⟩,
     ⟨(some 64), none, .p (.bin .gtr (.tmp 62) (.tmp 63)), 0, 0⟩])
    (.cond (.tmp 64)
     (.exit 0)
     .skip))
    (.seq (.drawn [⟨(some 65), none, .p (.mov (.tmp 0)), 0, 0⟩,
     ⟨(some 66), none, .p (.mov (.tmp 9)), 0, 0⟩,
     ⟨(some 67), none, .p (.mov (.tmp 0)), 0, 1⟩,
     ⟨(some 68), none, .p (.mov (.tmp 10)), 0, 1⟩,
     ⟨(some 69), none, .p (.mov (.tmp 0)), 0, 0⟩,
     ⟨(some 70), none, .p (.mov (.tmp 10)), 0, 0⟩,
     ⟨(some 71), none, .p (.indexAddr 1 (.tmp 69) (.tmp 70)), 0, 0⟩,
     ⟨(some 72), none, .r (.load1 (.tmp 71)), 0, 0⟩,
     ⟨(some 73), none, .p (.mov (.tmp 0)), 0, 0⟩,
     ⟨(some 74), none, .p (.mov (.tmp 9)), 0, 0⟩,
     ⟨(some 75), none, .p (.indexAddr 1 (.tmp 73) (.tmp 74)), 0, 0⟩,
     ⟨(some 76), none, .r (.load1 (.tmp 75)), 0, 0⟩,
     ⟨(some 77), none, .p (.indexAddr 1 (.tmp 65) (.tmp 66)), 0, 0⟩,
     ⟨none, none, .e (.store 1 (.tmp 77) (.tmp 72)), 0, 1⟩,
     ⟨(some 78), none, .p (.indexAddr 1 (.tmp 67) (.tmp 68)), 1, 1⟩,
     ⟨none, none, .e (.store 1 (.tmp 78) (.tmp 76)), 1, 2⟩])
    (.seq (.ops [⟨(some 79), none, .p (.mov (.tmp 9)), 0, 0⟩,
     ⟨(some 80), none, .p (.bin .add (.tmp 79) (.const (.int .i64 1))), 0, 0⟩,
     ⟨(some 9), none, .p (.mov (.tmp 80)), 0, 0⟩])
    (.ops [⟨(some 81), none, .p (.mov (.tmp 10)), 0, 0⟩,
     ⟨(some 82), none, .p (.bin .sub (.tmp 81) (.const (.int .i64 1))), 0, 0⟩,
     ⟨(some 10), none, .p (.mov (.tmp 82)), 0, 0⟩])))))))))
 (.seq (.ops [⟨(some 83), none, .p (.mov (.tmp 9)), 0, 0⟩,
  ⟨(some 8), none, .p (.mov (.tmp 83)), 0, 0⟩])
 .ret))))),
 [.tmp 8]⟩

/-- slices.partitionOrdered[int16] -/
def ir87 : IFn := ⟨168,
 (.seq (.ops [⟨(some 8), none, .p (.mov (.const (.int .i64 0))), 0, 0⟩,
  ⟨(some 9), none, .p (.mov (.const (.bool false))), 0, 0⟩])
 (.seq (.drawn [⟨(some 12), none, .p (.mov (.tmp 0)), 0, 0⟩,
  ⟨(some 13), none, .p (.mov (.tmp 1)), 0, 0⟩,
  ⟨(some 14), none, .p (.mov (.tmp 0)), 0, 1⟩,
  ⟨(some 15), none, .p (.mov (.tmp 3)), 0, 1⟩,
  ⟨(some 16), none, .p (.mov (.tmp 0)), 0, 0⟩,
  ⟨(some 17), none, .p (.mov (.tmp 3)), 0, 0⟩,
  ⟨(some 18), none, .p (.indexAddr 1 (.tmp 16) (.tmp 17)), 0, 0⟩,
  ⟨(some 19), none, .r (.load1 (.tmp 18)), 0, 0⟩,
  ⟨(some 20), none, .p (.mov (.tmp 0)), 0, 0⟩,
  ⟨(some 21), none, .p (.mov (.tmp 1)), 0, 0⟩,
  ⟨(some 22), none, .p (.indexAddr 1 (.tmp 20) (.tmp 21)), 0, 0⟩,
  ⟨(some 23), none, .r (.load1 (.tmp 22)), 0, 0⟩,
  ⟨(some 24), none, .p (.indexAddr 1 (.tmp 12) (.tmp 13)), 0, 0⟩,
  ⟨none, none, .e (.store 1 (.tmp 24) (.tmp 19)), 0, 1⟩,
  ⟨(some 25), none, .p (.indexAddr 1 (.tmp 14) (.tmp 15)), 1, 1⟩,
  ⟨none, none, .e (.store 1 (.tmp 25) (.tmp 23)), 1, 2⟩])
 (.seq (.ops [⟨(some 26), none, .p (.mov (.tmp 1)), 0, 0⟩,
  ⟨(some 27), none, .p (.bin .add (.tmp 26) (.const (.int .i64 1))), 0, 0⟩,
  ⟨(some 28), none, .p (.mov (.tmp 2)), 0, 0⟩,
  ⟨(some 29), none, .p (.bin .sub (.tmp 28) (.const (.int .i64 1))), 0, 0⟩,
  ⟨(some 10), none, .p (.mov (.tmp 27)), 0, 0⟩,
  ⟨(some 11), none, .p (.mov (.tmp 29)), 0, 0⟩])
 (.seq (.block 0
  (.loop
   (.seq (.seq (.drawn [⟨(some 30), none, .p (.mov (.tmp 10)), 0, 0⟩,
    ⟨(some 31), none, .p (.mov (.tmp 11)), 0, 0⟩,
    ⟨(some 32), none, .p (.bin .leq (.tmp 30) (.tmp 31)), 0, 0⟩,
    ⟨(some 33), none, .p (.mov (.tmp 32)), 0, 0⟩,
    ⟨(some 34), (some (33, true)), .p (.mov (.tmp 0)), 0, 0⟩,
    ⟨(some 35), (some (33, true)), .p (.mov (.tmp 10)), 0, 0⟩,
    ⟨(some 36), (some (33, true)), .p (.indexAddr 1 (.tmp 34) (.tmp 35)), 0, 0⟩,
    ⟨(some 37), (some (33, true)), .r (.load1 (.tmp 36)), 0, 0⟩,
    ⟨(some 38), (some (33, true)), .p (.mov (.tmp 0)), 0, 0⟩,
    ⟨(some 39), (some (33, true)), .p (.mov (.tmp 1)), 0, 0⟩,
    ⟨(some 40), (some (33, true)), .p (.indexAddr 1 (.tmp 38) (.tmp 39)), 0, 0⟩,
    ⟨(some 41), (some (33, true)), .r (.load1 (.tmp 40)), 0, 0⟩,
    ⟨(some 42), (some (33, true)), .call (.func 85) [(.tmp 37), (.tmp 41)], 0, 1⟩,
    ⟨(some 43), none, .p (.pick (.tmp 33) (.tmp 42) (.const (.bool false))), 1, 1⟩])
   (.cond (.tmp 43)
    .skip
    (.exit 0)))
   (.block 1
    (.ops [⟨(some 44), none, .p (.mov (.tmp 10)), 0, 0⟩,
     ⟨(some 45), none, .p (.bin .add (.tmp 44) (.const (.int .i64 1))), 0, 0⟩,
     ⟨(some 10), none, .p (.mov (.tmp 45)), 0, 0⟩])))))
 (.seq (.block 2
  (.loop
   (.seq (.seq (.drawn [⟨(some 46), none, .p (.mov (.tmp 10)), 0, 0⟩,
    ⟨(some 47), none, .p (.mov (.tmp 11)), 0, 0⟩,
    ⟨(some 48), none, .p (.bin .leq (.tmp 46) (.tmp 47)), 0, 0⟩,
    ⟨(some 49), none, .p (.mov (.tmp 48)), 0, 0⟩,
    ⟨(some 50), (some (49, true)), .p (.mov (.tmp 0)), 0, 0⟩,
    ⟨(some 51), (some (49, true)), .p (.mov (.tmp 11)), 0, 0⟩,
    ⟨(some 52), (some (49, true)), .p (.indexAddr 1 (.tmp 50) (.tmp 51)), 0, 0⟩,
    ⟨(some 53), (some (49, true)), .r (.load1 (.tmp 52)), 0, 0⟩,
    ⟨(some 54), (some (49, true)), .p (.mov (.tmp 0)), 0, 0⟩,
    ⟨(some 55), (some (49, true)), .p (.mov (.tmp 1)), 0, 0⟩,
    ⟨(some 56), (some (49, true)), .p (.indexAddr 1 (.tmp 54) (.tmp 55)), 0, 0⟩,
    ⟨(some 57), (some (49, true)), .r (.load1 (.tmp 56)), 0, 0⟩,
    ⟨(some 58), (some (49, true)), .call (.func 85) [(.tmp 53), (.tmp 57)], 0, 1⟩,
    ⟨(some 59), (some (49, true)), .p (.not (.tmp 58)), 1, 1⟩,
    ⟨(some 60), none, .p (.pick (.tmp 49) (.tmp 59) (.const (.bool false))), 1, 1⟩])
   (.cond (.tmp 60)
    .skip
    (.exit 2)))
   (.block 3
    (.ops [⟨(some 61), none, .p (.mov (.tmp 11)), 0, 0⟩,
     ⟨(some 62), none, .p (.bin .sub (.tmp 61) (.const (.int .i64 1))), 0, 0⟩,
     ⟨(some 11), none, .p (.mov (.tmp 62)), 0, 0⟩])))))
 (.seq (.seq (.ops [⟨(some 63), none, .p (.mov (.tmp 10)), 0, 0⟩,
  ⟨(some 64), none, .p (.mov (.tmp 11)), 0, 0⟩,
  ⟨(some 65), none, .p (.bin .gtr (.tmp 63) (.tmp 64)), 0, 0⟩])
 (.cond (.tmp 65)
  (.seq (.drawn [⟨(some 66), none, .p (.mov (.tmp 0)), 0, 0⟩,
   ⟨(some 67), none, .p (.mov (.tmp 11)), 0, 0⟩,
   ⟨(some 68), none, .p (.mov (.tmp 0)), 0, 1⟩,
   ⟨(some 69), none, .p (.mov (.tmp 1)), 0, 1⟩,
   ⟨(some 70), none, .p (.mov (.tmp 0)), 0, 0⟩,
   ⟨(some 71), none, .p (.mov (.tmp 1)), 0, 0⟩,
   ⟨(some 72), none, .p (.indexAddr 1 (.tmp 70) (.tmp 71)), 0, 0⟩,
   ⟨(some 73), none, .r (.load1 (.tmp 72)), 0, 0⟩,
   ⟨(some 74), none, .p (.mov (.tmp 0)), 0, 0⟩,
   ⟨(some 75), none, .p (.mov (.tmp 11)), 0, 0⟩,
   ⟨(some 76), none, .p (.indexAddr 1 (.tmp 74) (.tmp 75)), 0, 0⟩,
   ⟨(some 77), none, .r (.load1 (.tmp 76)), 0, 0⟩,
   ⟨(some 78), none, .p (.indexAddr 1 (.tmp 66) (.tmp 67)), 0, 0⟩,
   ⟨none, none, .e (.store 1 (.tmp 78) (.tmp 73)), 0, 1⟩,
   ⟨(some 79), none, .p (.indexAddr 1 (.tmp 68) (.tmp 69)), 1, 1⟩,
   ⟨none, none, .e (.store 1 (.tmp 79) (.tmp 77)), 1, 2⟩])
  (.seq (.ops [⟨(some 80), none, .p (.mov (.tmp 11)), 0, 0⟩,
   ⟨(some 8), none, .p (.mov (.tmp 80)), 0, 0⟩,
   ⟨(some 9), none, .p (.mov (.const (.bool true))), 0, 0⟩])
  .ret))
  .skip))
 (.seq (.drawn [⟨(some 81), none, .p (.mov (.tmp 0)), 0, 0⟩,
  ⟨(some 82), none, .p (.mov (.tmp 10)), 0, 0⟩,
  ⟨(some 83), none, .p (.mov (.tmp 0)), 0, 1⟩,
  ⟨(some 84), none, .p (.mov (.tmp 11)), 0, 1⟩,
  ⟨(some 85), none, .p (.mov (.tmp 0)), 0, 0⟩,
  ⟨(some 86), none, .p (.mov (.tmp 11)), 0, 0⟩,
  ⟨(some 87), none, .p (.indexAddr 1 (.tmp 85) (.tmp 86)), 0, 0⟩,
  ⟨(some 88), none, .r (.load1 (.tmp 87)), 0, 0⟩,
  ⟨(some 89), none, .p (.mov (.tmp 0)), 0, 0⟩,
  ⟨(some 90), none, .p (.mov (.tmp 10)), 0, 0⟩,
  ⟨(some 91), none, .p (.indexAddr 1 (.tmp 89) (.tmp 90)), 0, 0⟩,
  ⟨(some 92), none, .r (.load1 (.tmp 91)), 0, 0⟩,
  ⟨(some 93), none, .p (.indexAddr 1 (.tmp 81) (.tmp 82)), 0, 0⟩,
  ⟨none, none, .e (.store 1 (.tmp 93) (.tmp 88)), 0, 1⟩,
  ⟨(some 94), none, .p (.indexAddr 1 (.tmp 83) (.tmp 84)), 1, 1⟩,
  ⟨none, none, .e (.store 1 (.tmp 94) (.tmp 92)), 1, 2⟩])
 (.seq (.ops [⟨(some 95), none, .p (.mov (.tmp 10)), 0, 0⟩,
  ⟨(some 96), none, .p (.bin .add (.tmp 95) (.const (.int .i64 1))), 0, 0⟩,
  ⟨(some 10), none, .p (.mov (.tmp 96)), 0, 0⟩])
 (.seq (.ops [⟨(some 97), none, .p (.mov (.tmp 11)), 0, 0⟩,
  ⟨(some 98), none, .p (.bin .sub (.tmp 97) (.const (.int .i64 1))), 0, 0⟩,
  ⟨(some 11), none, .p (.mov (.tmp 98)), 0, 0⟩])
 (.seq (.block 4
  (.loop
   (.block 5
    (.seq (.block 6
     (.loop
      (.seq (.seq (.drawn [⟨(some 99), none, .p (.mov (.tmp 10)), 0, 0⟩,
       ⟨(some 100), none, .p (.mov (.tmp 11)), 0, 0⟩,
       ⟨(some 101), none, .p (.bin .leq (.tmp 99) (.tmp 100)), 0, 0⟩,
       ⟨(some 102), none, .p (.mov (.tmp 101)), 0, 0⟩,
       ⟨(some 103), (some (102, true)), .p (.mov (.tmp 0)), 0, 0⟩,
       ⟨(some 104), (some (102, true)), .p (.mov (.tmp 10)), 0, 0⟩,
       ⟨(some 105), (some (102, true)), .p (.indexAddr 1 (.tmp 103) (.tmp 104)), 0, 0⟩,
       ⟨(some 106), (some (102, true)), .r (.load1 (.tmp 105)), 0, 0⟩,
       ⟨(some 107), (some (102, true)), .p (.mov (.tmp 0)), 0, 0⟩,
       ⟨(some 108), (some (102, true)), .p (.mov (.tmp 1)), 0, 0⟩,
       ⟨(some 109), (some (102, true)), .p (.indexAddr 1 (.tmp 107) (.tmp 108)), 0, 0⟩,
       ⟨(some 110), (some (102, true)), .r (.load1 (.tmp 109)), 0, 0⟩,
       ⟨(some 111), (some (102, true)), .call (.func 85) [(.tmp 106), (.tmp 110)], 0, 1⟩,
       ⟨(some 112), none, .p (.pick (.tmp 102) (.tmp 111) (.const (.bool false))), 1, 1⟩])
      (.cond (.tmp 112)
       .skip
       (.exit 6)))
      (.block 7
       (.ops [⟨(some 113), none, .p (.mov (.tmp 10)), 0, 0⟩,
        ⟨(some 114), none, .p (.bin .add (.tmp 113) (.const (.int .i64 1))), 0, 0⟩,
        ⟨(some 10), none, .p (.mov (.tmp 114)), 0, 0⟩])))))
    (.seq (.block 8
     (.loop
      (.seq (.seq (.drawn [⟨(some 115), none, .p (.mov (.tmp 10)), 0, 0⟩,
       ⟨(some 116), none, .p (.mov (.tmp 11)), 0, 0⟩,
       ⟨(some 117), none, .p (.bin .leq (.tmp 115) (.tmp 116)), 0, 0⟩,
       ⟨(some 118), none, .p (.mov (.tmp 117)), 0, 0⟩,
       ⟨(some 119), (some (118, true)), .p (.mov (.tmp 0)), 0, 0⟩,
       ⟨(some 120), (some (118, true)), .p (.mov (.tmp 11)), 0, 0⟩,
       ⟨(some 121), (some (118, true)), .p (.indexAddr 1 (.tmp 119) (.tmp 120)), 0, 0⟩,
       ⟨(some 122), (some (118, true)), .r (.load1 (.tmp 121)), 0, 0⟩,
       ⟨(some 123), (some (118, true)), .p (.mov (.tmp 0)), 0, 0⟩,
       ⟨(some 124), (some (118, true)), .p (.mov (.tmp 1)), 0, 0⟩,
       ⟨(some 125), (some (118, true)), .p (.indexAddr 1 (.tmp 123) (.tmp 124)), 0, 0⟩,
       ⟨(some 126), (some (118, true)), .r (.load1 (.tmp 125)), 0, 0⟩,
       ⟨(some 127), (some (118, true)), .call (.func 85) [(.tmp 122), (.tmp 126)], 0, 1⟩,
       ⟨(some 128), (some (118, true)), .p (.not (.tmp 127)), 1, 1⟩,
       ⟨(some 129), none, .p (.pick (.tmp 118) (.tmp 128) (.const (.bool false))), 1, 1⟩])
      (.cond (.tmp 129)
       .skip
       (.exit 8)))
      (.block 9
       (.ops [⟨(some 130), none, .p (.mov (.tmp 11)), 0, 0⟩,
        ⟨(some 131), none, .p (.bin .sub (.tmp 130) (.const (.int .i64 1))), 0, 0⟩,
        ⟨(some 11), none, .p (.mov (.tmp 131)), 0, 0⟩])))))
    (.seq (.seq (.ops [⟨(some 132), none, .p (.mov (.tmp 10)), 0, 0⟩,
     ⟨(some 133), none, .p (.mov (.tmp 11)), 0, 0⟩,
     ⟨(some 134), none, .p (.bin .gtr (.tmp 132) (.tmp 133)), 0, 0⟩])
    (.cond (.tmp 134)
     (.exit 4)
     .skip))
    (.seq (.drawn [⟨(some 135), none, .p (.mov (.tmp 0)), 0, 0⟩,
     ⟨(some 136), none, .p (.mov (.tmp 10)), 0, 0⟩,
     ⟨(some 137), none, .p (.mov (.tmp 0)), 0, 1⟩,
     ⟨(some 138), none, .p (.mov (.tmp 11)), 0, 1⟩,
     ⟨(some 139), none, .p (.mov (.tmp 0)), 0, 0⟩,
     ⟨(some 140), none, .p (.mov (.tmp 11)), 0, 0⟩,
     ⟨(some 141), none, .p (.indexAddr 1 (.tmp 139) (.tmp 140)), 0, 0⟩,
     ⟨(some 142), none, .r (.load1 (.tmp 141)), 0, 0⟩,
     ⟨(some 143), none, .p (.mov (.tmp 0)), 0, 0⟩,
     ⟨(some 144), none, .p (.mov (.tmp 10)), 0, 0⟩,
     ⟨(some 145), none, .p (.indexAddr 1 (.tmp 143) (.tmp 144)), 0, 0⟩,
     ⟨(some 146), none, .r (.load1 (.tmp 145)), 0, 0⟩,
     ⟨(some 147), none, .p (.indexAddr 1 (.tmp 135) (.tmp 136)), 0, 0⟩,
     ⟨none, none, .e (.store 1 (.tmp 147) (.tmp 142)), 0, 1⟩,
     ⟨(some 148), none, .p (.indexAddr 1 (.tmp 137) (.tmp 138)), 1, 1⟩,
     ⟨none, none, .e (.store 1 (.tmp 148) (.tmp 146)), 1, 2⟩])
    (.seq (.ops [⟨(some 149), none, .p (.mov (.tmp 10)), 0, 0⟩,
     ⟨(some 150), none, .p (.bin .add (.tmp 149) (.const (.int .i64 1))), 0, 0⟩,
     ⟨(some 10), none, .p (.mov (.tmp 150)), 0, 0⟩])
    (.ops [⟨(some 151), none, .p (.mov (.tmp 11)), 0, 0⟩,
     ⟨(some 152), none, .p (.bin .sub (.tmp 151) (.const (.int .i64 1))), 0, 0⟩,
     ⟨(some 11), none, .p (.mov (.tmp 152)), 0, 0⟩])))))))))
 (.seq (.drawn [⟨(some 153), none, .p (.mov (.tmp 0)), 0, 0⟩,
  ⟨(some 154), none, .p (.mov (.tmp 11)), 0, 0⟩,
  ⟨(some 155), none, .p (.mov (.tmp 0)), 0, 1⟩,
  ⟨(some 156), none, .p (.mov (.tmp 1)), 0, 1⟩,
  ⟨(some 157), none, .p (.mov (.tmp 0)), 0, 0⟩,
  ⟨(some 158), none, .p (.mov (.tmp 1)), 0, 0⟩,
  ⟨(some 159), none, .p (.indexAddr 1 (.tmp 157) (.tmp 158)), 0, 0⟩,
  ⟨(some 160), none, .r (.load1 (.tmp 159)), 0, 0⟩,
  ⟨(some 161), none, .p (.mov (.tmp 0)), 0, 0⟩,
  ⟨(some 162), none, .p (.mov (.tmp 11)), 0, 0⟩,
  ⟨(some 163), none, .p (.indexAddr 1 (.tmp 161) (.tmp 162)), 0, 0⟩,
  ⟨(some 164), none, .r (.load1 (.tmp 163)), 0, 0⟩,
  ⟨(some 165), none, .p (.indexAddr 1 (.tmp 153) (.tmp 154)), 0, 0⟩,
  ⟨none, none, .e (.store 1 (.tmp 165) (.tmp 160)), 0, 1⟩,
  ⟨(some 166), none, .p (.indexAddr 1 (.tmp 155) (.tmp 156)), 1, 1⟩,
  ⟨none, none, .e (.store 1 (.tmp 166) (.tmp 164)), 1, 2⟩])
 (.seq (.ops [⟨(some 167), none, .p (.mov (.tmp 11)), 0, 0⟩,
  ⟨(some 8), none, .p (.mov (.tmp 167)), 0, 0⟩,
  ⟨(some 9), none, .p (.mov (.const (.bool false))), 0, 0⟩])
 .ret)))))))))))),
 [.tmp 8, .tmp 9]⟩

/-- slices.order2Ordered[int] -/
def ir88 : IFn := ⟨28,
 (.seq (.ops [⟨(some 8), none, .p (.mov (.const (.int .i64 0))), 0, 0⟩,
  ⟨(some 9), none, .p (.mov (.const (.int .i64 0))), 0, 0⟩])
 (.seq (.seq (.drawn [⟨(some 10), none, .p (.mov (.tmp 0)), 0, 0⟩,
  ⟨(some 11), none, .p (.mov (.tmp 2)), 0, 0⟩,
  ⟨(some 12), none, .p (.indexAddr 1 (.tmp 10) (.tmp 11)), 0, 0⟩,
  ⟨(some 13), none, .r (.load1 (.tmp 12)), 0, 0⟩,
  ⟨(some 14), none, .p (.mov (.tmp 0)), 0, 0⟩,
  ⟨(some 15), none, .p (.mov (.tmp 1)), 0, 0⟩,
  ⟨(some 16), none, .p (.indexAddr 1 (.tmp 14) (.tmp 15)), 0, 0⟩,
  ⟨(some 17), none, .r (.load1 (.tmp 16)), 0, 0⟩,
  ⟨(some 18), none, .call (.func 64) [(.tmp 13), (.tmp 17)], 0, 1⟩])
 (.cond (.tmp 18)
  (.seq (.ops [⟨(some 19), none, .p (.mov (.tmp 3)), 0, 0⟩,
   ⟨(some 20), none, .p (.nilCheck (.tmp 19)), 0, 0⟩,
   ⟨(some 21), none, .r (.load1 (.tmp 20)), 0, 0⟩,
   ⟨(some 22), none, .p (.bin .add (.tmp 21) (.const (.int .i64 1))), 0, 0⟩,
   ⟨(some 23), none, .p (.nilCheck (.tmp 19)), 0, 0⟩,
   ⟨none, none, .e (.store 1 (.tmp 23) (.tmp 22)), 0, 0⟩])
  (.seq (.ops [⟨(some 24), none, .p (.mov (.tmp 2)), 0, 0⟩,
   ⟨(some 25), none, .p (.mov (.tmp 1)), 0, 0⟩,
   ⟨(some 8), none, .p (.mov (.tmp 24)), 0, 0⟩,
   ⟨(some 9), none, .p (.mov (.tmp 25)), 0, 0⟩])
  .ret))
  .skip))
 (.seq (.ops [⟨(some 26), none, .p (.mov (.tmp 1)), 0, 0⟩,
  ⟨(some 27), none, .p (.mov (.tmp 2)), 0, 0⟩,
  ⟨(some 8), none, .p (.mov (.tmp 26)), 0, 0⟩,
  ⟨(some 9), none, .p (.mov (.tmp 27)), 0, 0⟩])
 .ret))),
 [.tmp 8, .tmp 9]⟩

/-- slices.siftDownOrdered[int16] -/
def ir89 : IFn := ⟨76,
 (.seq (.ops [⟨(some 10), none, .p (.mov (.tmp 1)), 0, 0⟩,
  ⟨(some 8), none, .p (.mov (.tmp 10)), 0, 0⟩])
 (.block 0
  (.loop
   (.block 1
    (.seq (.ops [⟨(some 11), none, .p (.mov (.tmp 8)), 0, 0⟩,
     ⟨(some 12), none, .p (.bin .mul (.const (.int .i64 2)) (.tmp 11)), 0, 0⟩,
     ⟨(some 13), none, .p (.bin .add (.tmp 12) (.const (.int .i64 1))), 0, 0⟩,
     ⟨(some 9), none, .p (.mov (.tmp 13)), 0, 0⟩])
    (.seq (.seq (.ops [⟨(some 14), none, .p (.mov (.tmp 9)), 0, 0⟩,
     ⟨(some 15), none, .p (.mov (.tmp 2)), 0, 0⟩,
     ⟨(some 16), none, .p (.bin .geq (.tmp 14) (.tmp 15)), 0, 0⟩])
    (.cond (.tmp 16)
     (.exit 0)
     .skip))
    (.seq (.seq (.drawn [⟨(some 17), none, .p (.mov (.tmp 9)), 0, 0⟩,
     ⟨(some 18), none, .p (.bin .add (.tmp 17) (.const (.int .i64 1))), 0, 0⟩,
     ⟨(some 19), none, .p (.mov (.tmp 2)), 0, 0⟩,
     ⟨(some 20), none, .p (.bin .lss (.tmp 18) (.tmp 19)), 0, 0⟩,
     ⟨(some 21), none, .p (.mov (.tmp 20)), 0, 0⟩,
     ⟨(some 22), (some (21, true)), .p (.mov (.tmp 0)), 0, 0⟩,
     ⟨(some 23), (some (21, true)), .p (.mov (.tmp 3)), 0, 0⟩,
     ⟨(some 24), (some (21, true)), .p (.mov (.tmp 9)), 0, 0⟩,
     ⟨(some 25), (some (21, true)), .p (.bin .add (.tmp 23) (.tmp 24)), 0, 0⟩,
     ⟨(some 26), (some (21, true)), .p (.indexAddr 1 (.tmp 22) (.tmp 25)), 0, 0⟩,
     ⟨(some 27), (some (21, true)), .r (.load1 (.tmp 26)), 0, 0⟩,
     ⟨(some 28), (some (21, true)), .p (.mov (.tmp 0)), 0, 0⟩,
     ⟨(some 29), (some (21, true)), .p (.mov (.tmp 3)), 0, 0⟩,
     ⟨(some 30), (some (21, true)), .p (.mov (.tmp 9)), 0, 0⟩,
     ⟨(some 31), (some (21, true)), .p (.bin .add (.tmp 29) (.tmp 30)), 0, 0⟩,
     ⟨(some 32), (some (21, true)), .p (.bin .add (.tmp 31) (.const (.int .i64 1))), 0, 0⟩,
     ⟨(some 33), (some (21, true)), .p (.indexAddr 1 (.tmp 28) (.tmp 32)), 0, 0⟩,
     ⟨(some 34), (some (21, true)), .r (.load1 (.tmp 33)), 0, 0⟩,
     ⟨(some 35), (some (21, true)), .call (.func 85) [(.tmp 27), (.tmp 34)], 0, 1⟩,
     ⟨(some 36), none, .p (.pick (.tmp 21) (.tmp 35) (.const (.bool false))), 1, 1⟩])
    (.cond (.tmp 36)
     (.ops [⟨(some 37), none, .p (.mov (.tmp 9)), 0, 0⟩,
      ⟨(some 38), none, .p (.bin .add (.tmp 37) (.const (.int .i64 1))), 0, 0⟩,
      ⟨(some 9), none, .p (.mov (.tmp 38)), 0, 0⟩])
     .skip))
    (.seq (.seq (.drawn [⟨(some 39), none, .p (.mov (.tmp 0)), 0, 0⟩,
     ⟨(some 40), none, .p (.mov (.tmp 3)), 0, 0⟩,
     ⟨(some 41), none, .p (.mov (.tmp 8)), 0, 0⟩,
     ⟨(some 42), none, .p (.bin .add (.tmp 40) (.tmp 41)), 0, 0⟩,
     ⟨(some 43), none, .p (.indexAddr 1 (.tmp 39) (.tmp 42)), 0, 0⟩,
     ⟨(some 44), none, .r (.load1 (.tmp 43)), 0, 0⟩,
     ⟨(some 45), none, .p (.mov (.tmp 0)), 0, 0⟩,
     ⟨(some 46), none, .p (.mov (.tmp 3)), 0, 0⟩,
     ⟨(some 47), none, .p (.mov (.tmp 9)), 0, 0⟩,
     ⟨(some 48), none, .p (.bin .add (.tmp 46) (.tmp 47)), 0, 0⟩,
     ⟨(some 49), none, .p (.indexAddr 1 (.tmp 45) (.tmp 48)), 0, 0⟩,
     ⟨(some 50), none, .r (.load1 (.tmp 49)), 0, 0⟩,
     ⟨(some 51), none, .call (.func 85) [(.tmp 44), (.tmp 50)], 0, 1⟩,
     ⟨(some 52), none, .p (.not (.tmp 51)), 1, 1⟩])
    (.cond (.tmp 52)
     .ret
     .skip))
    (.seq (.drawn [⟨(some 53), none, .p (.mov (.tmp 0)), 0, 0⟩,
     ⟨(some 54), none, .p (.mov (.tmp 3)), 0, 0⟩,
     ⟨(some 55), none, .p (.mov (.tmp 8)), 0, 0⟩,
     ⟨(some 56), none, .p (.bin .add (.tmp 54) (.tmp 55)), 0, 0⟩,
     ⟨(some 57), none, .p (.mov (.tmp 0)), 0, 1⟩,
     ⟨(some 58), none, .p (.mov (.tmp 3)), 0, 1⟩,
     ⟨(some 59), none, .p (.mov (.tmp 9)), 0, 1⟩,
     ⟨(some 60), none, .p (.bin .add (.tmp 58) (.tmp 59)), 0, 1⟩,
     ⟨(some 61), none, .p (.mov (.tmp 0)), 0, 0⟩,
     ⟨(some 62), none, .p (.mov (.tmp 3)), 0, 0⟩,
     ⟨(some 63), none, .p (.mov (.tmp 9)), 0, 0⟩,
     ⟨(some 64), none, .p (.bin .add (.tmp 62) (.tmp 63)), 0, 0⟩,
     ⟨(some 65), none, .p (.indexAddr 1 (.tmp 61) (.tmp 64)), 0, 0⟩,
     ⟨(some 66), none, .r (.load1 (.tmp 65)), 0, 0⟩,
     ⟨(some 67), none, .p (.mov (.tmp 0)), 0, 0⟩,
     ⟨(some 68), none, .p (.mov (.tmp 3)), 0, 0⟩,
     ⟨(some 69), none, .p (.mov (.tmp 8)), 0, 0⟩,
     ⟨(some 70), none, .p (.bin .add (.tmp 68) (.tmp 69)), 0, 0⟩,
     ⟨(some 71), none, .p (.indexAddr 1 (.tmp 67) (.tmp 70)), 0, 0⟩,
     ⟨(some 72), none, .r (.load1 (.tmp 71)), 0, 0⟩,
     ⟨(some 73), none, .p (.indexAddr 1 (.tmp 53) (.tmp 56)), 0, 0⟩,
     ⟨none, none, .e (.store 1 (.tmp 73) (.tmp 66)), 0, 1⟩,
     ⟨(some 74), none, .p (.indexAddr 1 (.tmp 57) (.tmp 60)), 1, 1⟩,
     ⟨none, none, .e (.store 1 (.tmp 74) (.tmp 72)), 1, 2⟩])
    (.ops [⟨(some 75), none, .p (.mov (.tmp 9)), 0, 0⟩,
     ⟨(some 8), none, .p (.mov (.tmp 75)), 0, 0⟩])))))))))),
 []⟩

/-- slices.medianAdjacentOrdered[int16] -/
def ir90 : IFn := ⟨15,
 (.seq (.ops [⟨(some 6), none, .p (.mov (.const (.int .i64 0))), 0, 0⟩])
 (.seq (.ops [⟨(some 7), none, .p (.mov (.tmp 0)), 0, 0⟩,
  ⟨(some 8), none, .p (.mov (.tmp 1)), 0, 0⟩,
  ⟨(some 9), none, .p (.bin .sub (.tmp 8) (.const (.int .i64 1))), 0, 0⟩,
  ⟨(some 10), none, .p (.mov (.tmp 1)), 0, 0⟩,
  ⟨(some 11), none, .p (.mov (.tmp 1)), 0, 0⟩,
  ⟨(some 12), none, .p (.bin .add (.tmp 11) (.const (.int .i64 1))), 0, 0⟩,
  ⟨(some 13), none, .p (.mov (.tmp 2)), 0, 0⟩,
  ⟨(some 14), none, .call (.func 91) [(.tmp 7), (.tmp 9), (.tmp 10), (.tmp 12), (.tmp 13)], 0, 0⟩,
  ⟨(some 6), none, .p (.mov (.tmp 14)), 0, 0⟩])
 .ret)),
 [.tmp 6]⟩

/-- slices.medianOrdered[int16] -/
def ir91 : IFn := ⟨36,
 (.seq (.ops [⟨(some 10), none, .p (.mov (.const (.int .i64 0))), 0, 0⟩])
 (.seq (.ops [⟨(some 12), none, .p (.mov (.tmp 0)), 0, 0⟩,
  ⟨(some 13), none, .p (.mov (.tmp 1)), 0, 0⟩,
  ⟨(some 14), none, .p (.mov (.tmp 2)), 0, 0⟩,
  ⟨(some 15), none, .p (.mov (.tmp 4)), 0, 0⟩,
  ⟨(some 16), none, .call (.func 93) [(.tmp 12), (.tmp 13), (.tmp 14), (.tmp 15)], 0, 0⟩,
  ⟨(some 11), none, .p (.mov (.tmp 16)), 0, 0⟩,
  ⟨(some 17), none, .p (.extract (.tmp 11) 0), 0, 0⟩,
  ⟨(some 18), none, .p (.extract (.tmp 11) 1), 0, 0⟩,
  ⟨(some 1), none, .p (.mov (.tmp 17)), 0, 0⟩,
  ⟨(some 2), none, .p (.mov (.tmp 18)), 0, 0⟩])
 (.seq (.ops [⟨(some 20), none, .p (.mov (.tmp 0)), 0, 0⟩,
  ⟨(some 21), none, .p (.mov (.tmp 2)), 0, 0⟩,
  ⟨(some 22), none, .p (.mov (.tmp 3)), 0, 0⟩,
  ⟨(some 23), none, .p (.mov (.tmp 4)), 0, 0⟩,
  ⟨(some 24), none, .call (.func 93) [(.tmp 20), (.tmp 21), (.tmp 22), (.tmp 23)], 0, 0⟩,
  ⟨(some 19), none, .p (.mov (.tmp 24)), 0, 0⟩,
  ⟨(some 25), none, .p (.extract (.tmp 19) 0), 0, 0⟩,
  ⟨(some 26), none, .p (.extract (.tmp 19) 1), 0, 0⟩,
  ⟨(some 2), none, .p (.mov (.tmp 25)), 0, 0⟩,
  ⟨(some 3), none, .p (.mov (.tmp 26)), 0, 0⟩])
 (.seq (.ops [⟨(some 28), none, .p (.mov (.tmp 0)), 0, 0⟩,
  ⟨(some 29), none, .p (.mov (.tmp 1)), 0, 0⟩,
  ⟨(some 30), none, .p (.mov (.tmp 2)), 0, 0⟩,
  ⟨(some 31), none, .p (.mov (.tmp 4)), 0, 0⟩,
  ⟨(some 32), none, .call (.func 93) [(.tmp 28), (.tmp 29), (.tmp 30), (.tmp 31)], 0, 0⟩,
  ⟨(some 27), none, .p (.mov (.tmp 32)), 0, 0⟩,
  ⟨(some 33), none, .p (.extract (.tmp 27) 0), 0, 0⟩,
  ⟨(some 34), none, .p (.extract (.tmp 27) 1), 0, 0⟩,
  ⟨(some 1), none, .p (.mov (.tmp 33)), 0, 0⟩,
  ⟨(some 2), none, .p (.mov (.tmp 34)), 0, 0⟩])
 (.seq (.ops [⟨(some 35), none, .p (.mov (.tmp 2)), 0, 0⟩,
  ⟨(some 10), none, .p (.mov (.tmp 35)), 0, 0⟩])
 .ret))))),
 [.tmp 10]⟩

/-- cmp.isNaN[int16] -/
def ir92 : IFn := ⟨6,
 (.seq (.ops [⟨(some 2), none, .p (.mov (.const (.bool false))), 0, 0⟩])
 (.seq (.ops [⟨(some 3), none, .p (.mov (.tmp 0)), 0, 0⟩,
  ⟨(some 4), none, .p (.mov (.tmp 0)), 0, 0⟩,
  ⟨(some 5), none, .p (.bin .neq (.tmp 3) (.tmp 4)), 0, 0⟩,
  ⟨(some 2), none, .p (.mov (.tmp 5)), 0, 0⟩])
 .ret)),
 [.tmp 2]⟩

/-- slices.order2Ordered[int16] -/
def ir93 : IFn := ⟨28,
 (.seq (.ops [⟨(some 8), none, .p (.mov (.const (.int .i64 0))), 0, 0⟩,
  ⟨(some 9), none, .p (.mov (.const (.int .i64 0))), 0, 0⟩])
 (.seq (.seq (.drawn [⟨(some 10), none, .p (.mov (.tmp 0)), 0, 0⟩,
  ⟨(some 11), none, .p (.mov (.tmp 2)), 0, 0⟩,
  ⟨(some 12), none, .p (.indexAddr 1 (.tmp 10) (.tmp 11)), 0, 0⟩,
  ⟨(some 13), none, .r (.load1 (.tmp 12)), 0, 0⟩,
  ⟨(some 14), none, .p (.mov (.tmp 0)), 0, 0⟩,
  ⟨(some 15), none, .p (.mov (.tmp 1)), 0, 0⟩,
  ⟨(some 16), none, .p (.indexAddr 1 (.tmp 14) (.tmp 15)), 0, 0⟩,
  ⟨(some 17), none, .r (.load1 (.tmp 16)), 0, 0⟩,
  ⟨(some 18), none, .call (.func 85) [(.tmp 13), (.tmp 17)], 0, 1⟩])
 (.cond (.tmp 18)
  (.seq (.ops [⟨(some 19), none, .p (.mov (.tmp 3)), 0, 0⟩,
   ⟨(some 20), none, .p (.nilCheck (.tmp 19)), 0, 0⟩,
   ⟨(some 21), none, .r (.load1 (.tmp 20)), 0, 0⟩,
   ⟨(some 22), none, .p (.bin .add (.tmp 21) (.const (.int .i64 1))), 0, 0⟩,
   ⟨(some 23), none, .p (.nilCheck (.tmp 19)), 0, 0⟩,
   ⟨none, none, .e (.store 1 (.tmp 23) (.tmp 22)), 0, 0⟩])
  (.seq (.ops [⟨(some 24), none, .p (.mov (.tmp 2)), 0, 0⟩,
   ⟨(some 25), none, .p (.mov (.tmp 1)), 0, 0⟩,
   ⟨(some 8), none, .p (.mov (.tmp 24)), 0, 0⟩,
   ⟨(some 9), none, .p (.mov (.tmp 25)), 0, 0⟩])
  .ret))
  .skip))
 (.seq (.ops [⟨(some 26), none, .p (.mov (.tmp 1)), 0, 0⟩,
  ⟨(some 27), none, .p (.mov (.tmp 2)), 0, 0⟩,
  ⟨(some 8), none, .p (.mov (.tmp 26)), 0, 0⟩,
  ⟨(some 9), none, .p (.mov (.tmp 27)), 0, 0⟩])
 .ret))),
 [.tmp 8, .tmp 9]⟩

def tbl : T Ent := (.node (.node (.node (.node (.node (.node (.node .nil (some (.code ir63)) .nil) (some (.code ir31)) .nil) (some (.code ir15)) (.node (.node .nil (some (.code ir79)) .nil) (some (.code ir47)) .nil)) (some (.code ir7)) (.node (.node (.node .nil (some (.code ir71)) .nil) (some (.code ir39)) .nil) (some (.code ir23)) (.node (.node .nil (some (.code ir87)) .nil) (some (.code ir55)) .nil))) (some (.code ir3)) (.node (.node (.node (.node .nil (some (.code ir67)) .nil) (some (.code ir35)) .nil) (some (.code ir19)) (.node (.node .nil (some (.code ir83)) .nil) (some (.code ir51)) .nil)) (some (.code ir11)) (.node (.node (.node .nil (some (.code ir75)) .nil) (some (.code ir43)) .nil) (some (.code ir27)) (.node (.node .nil (some (.code ir91)) .nil) (some (.code ir59)) .nil)))) none (.node (.node (.node (.node (.node .nil (some (.code ir65)) .nil) (some (.code ir33)) .nil) (some (.code ir17)) (.node (.node .nil (some (.code ir81)) .nil) (some (.code ir49)) .nil)) (some (.code ir9)) (.node (.node (.node .nil (some (.code ir73)) .nil) (some (.code ir41)) .nil) (some (.code ir25)) (.node (.node .nil (some (.code ir89)) .nil) (some (.code ir57)) .nil))) (some (.code ir5)) (.node (.node (.node (.node .nil (some (.code ir69)) .nil) (some (.code ir37)) .nil) (some (.code ir21)) (.node (.node .nil (some (.code ir85)) .nil) (some (.code ir53)) .nil)) (some (.code ir13)) (.node (.node (.node .nil (some (.code ir77)) .nil) (some (.code ir45)) .nil) (some (.code ir29)) (.node (.node .nil (some (.code ir93)) .nil) (some (.code ir61)) .nil))))) none (.node (.node (.node (.node (.node (.node .nil (some (.code ir64)) .nil) (some (.code ir32)) .nil) (some (.code ir16)) (.node (.node .nil (some (.code ir80)) .nil) (some (.code ir48)) .nil)) (some (.code ir8)) (.node (.node (.node .nil (some (.code ir72)) .nil) (some (.code ir40)) .nil) (some (.code ir24)) (.node (.node .nil (some (.code ir88)) .nil) (some (.code ir56)) .nil))) (some (.code ir4)) (.node (.node (.node (.node .nil (some (.code ir68)) .nil) (some (.code ir36)) .nil) (some (.code ir20)) (.node (.node .nil (some (.code ir84)) .nil) (some (.code ir52)) .nil)) (some (.code ir12)) (.node (.node (.node .nil (some (.code ir76)) .nil) (some (.code ir44)) .nil) (some (.code ir28)) (.node (.node .nil (some (.code ir92)) .nil) (some (.code ir60)) .nil)))) none (.node (.node (.node (.node (.node .nil (some (.code ir66)) .nil) (some (.code ir34)) .nil) (some (.code ir18)) (.node (.node .nil (some (.code ir82)) .nil) (some (.code ir50)) .nil)) (some (.code ir10)) (.node (.node (.node .nil (some (.code ir74)) .nil) (some (.code ir42)) .nil) (some (.code ir26)) (.node (.node .nil (some (.code ir90)) .nil) (some (.code ir58)) .nil))) (some (.code ir6)) (.node (.node (.node (.node .nil (some (.code ir70)) .nil) (some (.code ir38)) .nil) (some (.code ir22)) (.node (.node .nil (some (.code ir86)) .nil) (some (.code ir54)) .nil)) (some (.code ir14)) (.node (.node (.node .nil (some (.code ir78)) .nil) (some (.code ir46)) .nil) (some (.code ir30)) (.node .nil (some (.code ir62)) .nil))))))
end Go.Proofs.AM.I28

namespace Go.Proofs.AM.I28
open Go Go.Proofs.AM Go.Proofs
set_option maxRecDepth 100000
theorem mix : Try.prog.follows .mixedOrders = true := by kernel_rfl
theorem h3 : prepFn Try.prog 3 = some ir3 := by kernel_rfl
theorem h4 : prepFn Try.prog 4 = some ir4 := by kernel_rfl
theorem h5 : prepFn Try.prog 5 = some ir5 := by kernel_rfl
theorem h6 : prepFn Try.prog 6 = some ir6 := by kernel_rfl
theorem h7 : prepFn Try.prog 7 = some ir7 := by kernel_rfl
theorem h8 : prepFn Try.prog 8 = some ir8 := by kernel_rfl
theorem h9 : prepFn Try.prog 9 = some ir9 := by kernel_rfl
theorem h10 : prepFn Try.prog 10 = some ir10 := by kernel_rfl
theorem h11 : prepFn Try.prog 11 = some ir11 := by kernel_rfl
theorem h12 : prepFn Try.prog 12 = some ir12 := by kernel_rfl
theorem h13 : prepFn Try.prog 13 = some ir13 := by kernel_rfl
theorem h14 : prepFn Try.prog 14 = some ir14 := by kernel_rfl
theorem h15 : prepFn Try.prog 15 = some ir15 := by kernel_rfl
theorem h16 : prepFn Try.prog 16 = some ir16 := by kernel_rfl
theorem h17 : prepFn Try.prog 17 = some ir17 := by kernel_rfl
theorem h18 : prepFn Try.prog 18 = some ir18 := by kernel_rfl
theorem h19 : prepFn Try.prog 19 = some ir19 := by kernel_rfl
theorem h20 : prepFn Try.prog 20 = some ir20 := by kernel_rfl
theorem h21 : prepFn Try.prog 21 = some ir21 := by kernel_rfl
theorem h22 : prepFn Try.prog 22 = some ir22 := by kernel_rfl
theorem h23 : prepFn Try.prog 23 = some ir23 := by kernel_rfl
theorem h24 : prepFn Try.prog 24 = some ir24 := by kernel_rfl
theorem h25 : prepFn Try.prog 25 = some ir25 := by kernel_rfl
theorem h26 : prepFn Try.prog 26 = some ir26 := by kernel_rfl
theorem h27 : prepFn Try.prog 27 = some ir27 := by kernel_rfl
theorem h28 : prepFn Try.prog 28 = some ir28 := by kernel_rfl
theorem h29 : prepFn Try.prog 29 = some ir29 := by kernel_rfl
theorem h30 : prepFn Try.prog 30 = some ir30 := by kernel_rfl
theorem h31 : prepFn Try.prog 31 = some ir31 := by kernel_rfl
theorem h32 : prepFn Try.prog 32 = some ir32 := by kernel_rfl
theorem h33 : prepFn Try.prog 33 = some ir33 := by kernel_rfl
theorem h34 : prepFn Try.prog 34 = some ir34 := by kernel_rfl
theorem h35 : prepFn Try.prog 35 = some ir35 := by kernel_rfl
theorem h36 : prepFn Try.prog 36 = some ir36 := by kernel_rfl
theorem h37 : prepFn Try.prog 37 = some ir37 := by kernel_rfl
theorem h38 : prepFn Try.prog 38 = some ir38 := by kernel_rfl
theorem h39 : prepFn Try.prog 39 = some ir39 := by kernel_rfl
theorem h40 : prepFn Try.prog 40 = some ir40 := by kernel_rfl
theorem h41 : prepFn Try.prog 41 = some ir41 := by kernel_rfl
theorem h42 : prepFn Try.prog 42 = some ir42 := by kernel_rfl
theorem h43 : prepFn Try.prog 43 = some ir43 := by kernel_rfl
theorem h44 : prepFn Try.prog 44 = some ir44 := by kernel_rfl
theorem h45 : prepFn Try.prog 45 = some ir45 := by kernel_rfl
theorem h46 : prepFn Try.prog 46 = some ir46 := by kernel_rfl
theorem h47 : prepFn Try.prog 47 = some ir47 := by kernel_rfl
theorem h48 : prepFn Try.prog 48 = some ir48 := by kernel_rfl
theorem h49 : prepFn Try.prog 49 = some ir49 := by kernel_rfl
theorem h50 : prepFn Try.prog 50 = some ir50 := by kernel_rfl
theorem h51 : prepFn Try.prog 51 = some ir51 := by kernel_rfl
theorem h52 : prepFn Try.prog 52 = some ir52 := by kernel_rfl
theorem h53 : prepFn Try.prog 53 = some ir53 := by kernel_rfl
theorem h54 : prepFn Try.prog 54 = some ir54 := by kernel_rfl
theorem h55 : prepFn Try.prog 55 = some ir55 := by kernel_rfl
theorem h56 : prepFn Try.prog 56 = some ir56 := by kernel_rfl
theorem h57 : prepFn Try.prog 57 = some ir57 := by kernel_rfl
theorem h58 : prepFn Try.prog 58 = some ir58 := by kernel_rfl
theorem h59 : prepFn Try.prog 59 = some ir59 := by kernel_rfl
theorem h60 : prepFn Try.prog 60 = some ir60 := by kernel_rfl
theorem h61 : prepFn Try.prog 61 = some ir61 := by kernel_rfl
theorem h62 : prepFn Try.prog 62 = some ir62 := by kernel_rfl
theorem h63 : prepFn Try.prog 63 = some ir63 := by kernel_rfl
theorem h64 : prepFn Try.prog 64 = some ir64 := by kernel_rfl
theorem h65 : prepFn Try.prog 65 = some ir65 := by kernel_rfl
theorem h66 : prepFn Try.prog 66 = some ir66 := by kernel_rfl
theorem h67 : prepFn Try.prog 67 = some ir67 := by kernel_rfl
theorem h68 : prepFn Try.prog 68 = some ir68 := by kernel_rfl
theorem h69 : prepFn Try.prog 69 = some ir69 := by kernel_rfl
theorem h70 : prepFn Try.prog 70 = some ir70 := by kernel_rfl
theorem h71 : prepFn Try.prog 71 = some ir71 := by kernel_rfl
theorem h72 : prepFn Try.prog 72 = some ir72 := by kernel_rfl
theorem h73 : prepFn Try.prog 73 = some ir73 := by kernel_rfl
theorem h74 : prepFn Try.prog 74 = some ir74 := by kernel_rfl
theorem h75 : prepFn Try.prog 75 = some ir75 := by kernel_rfl
theorem h76 : prepFn Try.prog 76 = some ir76 := by kernel_rfl
theorem h77 : prepFn Try.prog 77 = some ir77 := by kernel_rfl
theorem h78 : prepFn Try.prog 78 = some ir78 := by kernel_rfl
theorem h79 : prepFn Try.prog 79 = some ir79 := by kernel_rfl
theorem h80 : prepFn Try.prog 80 = some ir80 := by kernel_rfl
theorem h81 : prepFn Try.prog 81 = some ir81 := by kernel_rfl
theorem h82 : prepFn Try.prog 82 = some ir82 := by kernel_rfl
theorem h83 : prepFn Try.prog 83 = some ir83 := by kernel_rfl
theorem h84 : prepFn Try.prog 84 = some ir84 := by kernel_rfl
theorem h85 : prepFn Try.prog 85 = some ir85 := by kernel_rfl
theorem h86 : prepFn Try.prog 86 = some ir86 := by kernel_rfl
theorem h87 : prepFn Try.prog 87 = some ir87 := by kernel_rfl
theorem h88 : prepFn Try.prog 88 = some ir88 := by kernel_rfl
theorem h89 : prepFn Try.prog 89 = some ir89 := by kernel_rfl
theorem h90 : prepFn Try.prog 90 = some ir90 := by kernel_rfl
theorem h91 : prepFn Try.prog 91 = some ir91 := by kernel_rfl
theorem h92 : prepFn Try.prog 92 = some ir92 := by kernel_rfl
theorem h93 : prepFn Try.prog 93 = some ir93 := by kernel_rfl
theorem tblAll : T.All (IsCode Try.prog) tbl (fun n => n) := by
  unfold tbl
  exact ⟨trivial, ⟨trivial, ⟨⟨ir3, rfl, h3⟩, ⟨⟨ir7, rfl, h7⟩, ⟨⟨ir15, rfl, h15⟩, ⟨⟨ir31, rfl, h31⟩, ⟨⟨ir63, rfl, h63⟩, trivial, trivial⟩, trivial⟩, ⟨⟨ir47, rfl, h47⟩, ⟨⟨ir79, rfl, h79⟩, trivial, trivial⟩, trivial⟩⟩, ⟨⟨ir23, rfl, h23⟩, ⟨⟨ir39, rfl, h39⟩, ⟨⟨ir71, rfl, h71⟩, trivial, trivial⟩, trivial⟩, ⟨⟨ir55, rfl, h55⟩, ⟨⟨ir87, rfl, h87⟩, trivial, trivial⟩, trivial⟩⟩⟩, ⟨⟨ir11, rfl, h11⟩, ⟨⟨ir19, rfl, h19⟩, ⟨⟨ir35, rfl, h35⟩, ⟨⟨ir67, rfl, h67⟩, trivial, trivial⟩, trivial⟩, ⟨⟨ir51, rfl, h51⟩, ⟨⟨ir83, rfl, h83⟩, trivial, trivial⟩, trivial⟩⟩, ⟨⟨ir27, rfl, h27⟩, ⟨⟨ir43, rfl, h43⟩, ⟨⟨ir75, rfl, h75⟩, trivial, trivial⟩, trivial⟩, ⟨⟨ir59, rfl, h59⟩, ⟨⟨ir91, rfl, h91⟩, trivial, trivial⟩, trivial⟩⟩⟩⟩, ⟨⟨ir5, rfl, h5⟩, ⟨⟨ir9, rfl, h9⟩, ⟨⟨ir17, rfl, h17⟩, ⟨⟨ir33, rfl, h33⟩, ⟨⟨ir65, rfl, h65⟩, trivial, trivial⟩, trivial⟩, ⟨⟨ir49, rfl, h49⟩, ⟨⟨ir81, rfl, h81⟩, trivial, trivial⟩, trivial⟩⟩, ⟨⟨ir25, rfl, h25⟩, ⟨⟨ir41, rfl, h41⟩, ⟨⟨ir73, rfl, h73⟩, trivial, trivial⟩, trivial⟩, ⟨⟨ir57, rfl, h57⟩, ⟨⟨ir89, rfl, h89⟩, trivial, trivial⟩, trivial⟩⟩⟩, ⟨⟨ir13, rfl, h13⟩, ⟨⟨ir21, rfl, h21⟩, ⟨⟨ir37, rfl, h37⟩, ⟨⟨ir69, rfl, h69⟩, trivial, trivial⟩, trivial⟩, ⟨⟨ir53, rfl, h53⟩, ⟨⟨ir85, rfl, h85⟩, trivial, trivial⟩, trivial⟩⟩, ⟨⟨ir29, rfl, h29⟩, ⟨⟨ir45, rfl, h45⟩, ⟨⟨ir77, rfl, h77⟩, trivial, trivial⟩, trivial⟩, ⟨⟨ir61, rfl, h61⟩, ⟨⟨ir93, rfl, h93⟩, trivial, trivial⟩, trivial⟩⟩⟩⟩⟩, ⟨trivial, ⟨⟨ir4, rfl, h4⟩, ⟨⟨ir8, rfl, h8⟩, ⟨⟨ir16, rfl, h16⟩, ⟨⟨ir32, rfl, h32⟩, ⟨⟨ir64, rfl, h64⟩, trivial, trivial⟩, trivial⟩, ⟨⟨ir48, rfl, h48⟩, ⟨⟨ir80, rfl, h80⟩, trivial, trivial⟩, trivial⟩⟩, ⟨⟨ir24, rfl, h24⟩, ⟨⟨ir40, rfl, h40⟩, ⟨⟨ir72, rfl, h72⟩, trivial, trivial⟩, trivial⟩, ⟨⟨ir56, rfl, h56⟩, ⟨⟨ir88, rfl, h88⟩, trivial, trivial⟩, trivial⟩⟩⟩, ⟨⟨ir12, rfl, h12⟩, ⟨⟨ir20, rfl, h20⟩, ⟨⟨ir36, rfl, h36⟩, ⟨⟨ir68, rfl, h68⟩, trivial, trivial⟩, trivial⟩, ⟨⟨ir52, rfl, h52⟩, ⟨⟨ir84, rfl, h84⟩, trivial, trivial⟩, trivial⟩⟩, ⟨⟨ir28, rfl, h28⟩, ⟨⟨ir44, rfl, h44⟩, ⟨⟨ir76, rfl, h76⟩, trivial, trivial⟩, trivial⟩, ⟨⟨ir60, rfl, h60⟩, ⟨⟨ir92, rfl, h92⟩, trivial, trivial⟩, trivial⟩⟩⟩⟩, ⟨⟨ir6, rfl, h6⟩, ⟨⟨ir10, rfl, h10⟩, ⟨⟨ir18, rfl, h18⟩, ⟨⟨ir34, rfl, h34⟩, ⟨⟨ir66, rfl, h66⟩, trivial, trivial⟩, trivial⟩, ⟨⟨ir50, rfl, h50⟩, ⟨⟨ir82, rfl, h82⟩, trivial, trivial⟩, trivial⟩⟩, ⟨⟨ir26, rfl, h26⟩, ⟨⟨ir42, rfl, h42⟩, ⟨⟨ir74, rfl, h74⟩, trivial, trivial⟩, trivial⟩, ⟨⟨ir58, rfl, h58⟩, ⟨⟨ir90, rfl, h90⟩, trivial, trivial⟩, trivial⟩⟩⟩, ⟨⟨ir14, rfl, h14⟩, ⟨⟨ir22, rfl, h22⟩, ⟨⟨ir38, rfl, h38⟩, ⟨⟨ir70, rfl, h70⟩, trivial, trivial⟩, trivial⟩, ⟨⟨ir54, rfl, h54⟩, ⟨⟨ir86, rfl, h86⟩, trivial, trivial⟩, trivial⟩⟩, ⟨⟨ir30, rfl, h30⟩, ⟨⟨ir46, rfl, h46⟩, ⟨⟨ir78, rfl, h78⟩, trivial, trivial⟩, trivial⟩, ⟨⟨ir62, rfl, h62⟩, trivial, trivial⟩⟩⟩⟩⟩⟩
end Go.Proofs.AM.I28
