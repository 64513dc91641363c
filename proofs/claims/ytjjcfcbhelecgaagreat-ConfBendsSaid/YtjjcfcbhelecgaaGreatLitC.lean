/- The literal codes of functions, as the interpreter takes them (written by program: mkq.py). Conditions: none. -/
import Derived.Test.YtjjcfcbhelecgaaGreatAbsDef
set_option linter.unusedVariables false
set_option maxRecDepth 100000
namespace Go.Abs
/-- thrum/thrumlaw18.ConfBends -/
def c5 : Func1 := ⟨1,
.seq (.reg [⟨(some 1), .box 16 (.tmp 0), none⟩,
⟨(some 2), .mov (.const (.bool false)), none⟩])
(.seq (.reg [⟨(some 5), .call 25 [] .auto, none⟩,
⟨(some 3), .mov (.tmp 5), none⟩])
(.seq (.seq (.reg [⟨(some 6), .mov (.tmp 3), none⟩,
⟨(some 7), .un .not (.tmp 6), none⟩])
(.cond (.tmp 7)
(.seq (.reg [⟨(some 2), .mov (.const (.bool false)), none⟩])
(.ret))
(.skip)))
(.seq (.seq (.reg [⟨(some 8), .load true 16 (.tmp 1), none⟩,
⟨(some 9), .call 26 [(.tmp 8)] .auto, none⟩,
⟨(some 10), .un .not (.tmp 9), none⟩,
⟨(some 11), .mov (.tmp 10), none⟩,
⟨(some 12), .load true 16 (.tmp 1), (some (11, false))⟩,
⟨(some 13), .call 27 [(.tmp 12)] .auto, (some (11, false))⟩,
⟨(some 14), .bin .neq (.tmp 13) (.const (.int .i64 0)), (some (11, false))⟩,
⟨(some 15), .pick (.tmp 11) (.const (.bool true)) (.tmp 14), none⟩])
(.cond (.tmp 15)
(.seq (.reg [⟨(some 16), .mov (.tmp 3), none⟩,
⟨(some 2), .mov (.tmp 16), none⟩])
(.ret))
(.skip)))
(.seq (.reg [⟨(some 17), .load true 16 (.tmp 1), none⟩,
⟨(some 4), .box 16 (.const (.agg [(.int .i64 0), (.int .i64 0), (.int .i64 0), (.int .i64 0), (.int .i64 0), (.int .i64 0), (.int .i64 0), (.int .i64 0), (.int .i64 0), (.int .i64 0), (.int .i64 0), (.int .i64 0), (.int .i64 0), (.int .i64 0), (.int .u64 0), (.lst [] true)])), none⟩,
⟨none, .store 16 (.tmp 4) (.tmp 17), none⟩])
(.seq (.reg [⟨(some 18), .fieldAddr 0 (.tmp 4), none⟩,
⟨none, .store 1 (.tmp 18) (.const (.int .i64 0)), none⟩])
(.seq (.seq (.reg [⟨(some 19), .load true 16 (.tmp 4), none⟩,
⟨(some 20), .call 27 [(.tmp 19)] .auto, none⟩,
⟨(some 21), .bin .eql (.tmp 20) (.const (.int .i64 0)), none⟩])
(.cond (.tmp 21)
(.seq (.reg [⟨(some 2), .mov (.const (.bool false)), none⟩])
(.ret))
(.skip)))
(.seq (.reg [⟨(some 22), .load true 16 (.tmp 1), none⟩,
⟨none, .store 16 (.tmp 4) (.tmp 22), none⟩])
(.seq (.reg [⟨(some 23), .fieldAddr 15 (.tmp 4), none⟩,
⟨none, .store 1 (.tmp 23) (.const (.lst [] true)), none⟩])
(.seq (.seq (.reg [⟨(some 24), .load true 16 (.tmp 4), none⟩,
⟨(some 25), .call 27 [(.tmp 24)] .auto, none⟩,
⟨(some 26), .bin .eql (.tmp 25) (.const (.int .i64 0)), none⟩])
(.cond (.tmp 26)
(.seq (.reg [⟨(some 2), .mov (.const (.bool false)), none⟩])
(.ret))
(.skip)))
(.seq (.reg [⟨(some 27), .load true 16 (.tmp 1), none⟩,
⟨none, .store 16 (.tmp 4) (.tmp 27), none⟩])
(.seq (.reg [⟨(some 28), .fieldAddr 15 (.tmp 1), none⟩,
⟨(some 29), .load false 1 (.tmp 28), none⟩,
⟨(some 30), .len (.tmp 29), none⟩,
⟨(some 31), .bin .add (.tmp 30) (.const (.int .i64 1)), none⟩,
⟨(some 32), .fieldAddr 13 (.tmp 4), none⟩,
⟨none, .store 1 (.tmp 32) (.tmp 31), none⟩])
(.seq (.seq (.reg [⟨(some 33), .load true 16 (.tmp 4), none⟩,
⟨(some 34), .call 27 [(.tmp 33)] .auto, none⟩,
⟨(some 35), .bin .eql (.tmp 34) (.const (.int .i64 0)), none⟩])
(.cond (.tmp 35)
(.seq (.reg [⟨(some 2), .mov (.const (.bool false)), none⟩])
(.ret))
(.skip)))
(.seq (.reg [⟨(some 36), .load true 16 (.tmp 1), none⟩,
⟨none, .store 16 (.tmp 4) (.tmp 36), none⟩])
(.seq (.reg [⟨(some 37), .fieldAddr 15 (.tmp 1), none⟩,
⟨(some 38), .load false 1 (.tmp 37), none⟩,
⟨(some 39), .append 2 32 (.const (.lst [] true)) (.tmp 38), none⟩,
⟨(some 40), .build [(.lst [] true), (.int .i64 0)] [], none⟩,
⟨(some 41), .buildSlice 2 [[(.lst [] true), (.int .i64 0)]] [(0, (.tmp 40))], none⟩,
⟨(some 42), .append 2 32 (.tmp 39) (.tmp 41), none⟩,
⟨(some 43), .fieldAddr 15 (.tmp 4), none⟩,
⟨none, .store 1 (.tmp 43) (.tmp 42), none⟩])
(.seq (.seq (.reg [⟨(some 44), .load true 16 (.tmp 4), none⟩,
⟨(some 45), .call 27 [(.tmp 44)] .auto, none⟩,
⟨(some 46), .bin .eql (.tmp 45) (.const (.int .i64 0)), none⟩])
(.cond (.tmp 46)
(.seq (.reg [⟨(some 2), .mov (.const (.bool false)), none⟩])
(.ret))
(.skip)))
(.seq (.reg [⟨(some 47), .load true 16 (.tmp 1), none⟩,
⟨none, .store 16 (.tmp 4) (.tmp 47), none⟩])
(.seq (.reg [⟨(some 48), .fieldAddr 1 (.tmp 1), none⟩,
⟨(some 49), .fieldAddr 4 (.tmp 48), none⟩,
⟨(some 50), .load false 1 (.tmp 49), none⟩,
⟨(some 51), .bin .shl (.const (.int .i64 1)) (.tmp 50), none⟩,
⟨(some 52), .bin .add (.tmp 51) (.const (.int .i64 1)), none⟩,
⟨(some 53), .fieldAddr 10 (.tmp 4), none⟩,
⟨none, .store 1 (.tmp 53) (.tmp 52), none⟩])
(.seq (.seq (.reg [⟨(some 54), .load true 16 (.tmp 4), none⟩,
⟨(some 55), .call 27 [(.tmp 54)] .auto, none⟩,
⟨(some 56), .bin .eql (.tmp 55) (.const (.int .i64 0)), none⟩])
(.cond (.tmp 56)
(.seq (.reg [⟨(some 2), .mov (.const (.bool false)), none⟩])
(.ret))
(.skip)))
(.seq (.reg [⟨(some 57), .load true 16 (.tmp 1), none⟩,
⟨none, .store 16 (.tmp 4) (.tmp 57), none⟩])
(.seq (.reg [⟨(some 58), .fieldAddr 0 (.tmp 4), none⟩,
⟨none, .store 1 (.tmp 58) (.const (.int .i64 64)), none⟩])
(.seq (.reg [⟨(some 59), .mov (.tmp 3), none⟩,
⟨(some 60), .mov (.tmp 59), none⟩,
⟨(some 61), .load true 16 (.tmp 4), (some (60, true))⟩,
⟨(some 62), .call 27 [(.tmp 61)] .auto, (some (60, true))⟩,
⟨(some 63), .bin .eql (.tmp 62) (.const (.int .i64 0)), (some (60, true))⟩,
⟨(some 64), .pick (.tmp 60) (.tmp 63) (.const (.bool false)), none⟩,
⟨(some 2), .mov (.tmp 64), none⟩])
(.ret)))))))))))))))))))))),
[.tmp 2]⟩
/-- thrum/thrumlaw18.live -/
def c25 : Func1 := ⟨0,
.seq (.reg [⟨(some 0), .mov (.const (.bool false)), none⟩])
(.seq (.reg [⟨(some 6), .build [(.int .i64 0), (.int .i64 0), (.int .i64 0), (.int .i64 0), (.int .i64 0)] [(1, 1, (.const (.int .i64 1)))], none⟩,
⟨(some 7), .buildSlice 1 [[(.int .i64 0)]] [(0, (.const (.int .i64 1)))], none⟩,
⟨(some 8), .build [(.lst [] true), (.int .i64 0)] [(0, 1, (.tmp 7))], none⟩,
⟨(some 9), .buildSlice 2 [[(.lst [] true), (.int .i64 0)]] [(0, (.tmp 8))], none⟩,
⟨(some 10), .build [(.int .i64 0), (.int .i64 0), (.int .i64 0), (.int .i64 0), (.int .i64 0), (.int .i64 0), (.int .i64 0), (.int .i64 0), (.int .i64 0), (.int .i64 0), (.int .i64 0), (.int .i64 0), (.int .i64 0), (.int .i64 0), (.int .u64 0), (.lst [] true)] [(0, 1, (.const (.int .i64 1))), (1, 5, (.tmp 6)), (13, 1, (.const (.int .i64 1))), (15, 1, (.tmp 9))], none⟩,
⟨(some 1), .box 16 (.const (.agg [(.int .i64 0), (.int .i64 0), (.int .i64 0), (.int .i64 0), (.int .i64 0), (.int .i64 0), (.int .i64 0), (.int .i64 0), (.int .i64 0), (.int .i64 0), (.int .i64 0), (.int .i64 0), (.int .i64 0), (.int .i64 0), (.int .u64 0), (.lst [] true)])), none⟩,
⟨none, .store 16 (.tmp 1) (.tmp 10), none⟩])
(.seq (.seq (.reg [⟨(some 11), .buildSlice 1 [[(.int .i64 0)], [(.int .i64 0)], [(.int .i64 0)], [(.int .i64 0)], [(.int .i64 0)], [(.int .i64 0)]] [(0, (.const (.int .i64 10))), (1, (.const (.int .i64 8))), (2, (.const (.int .i64 6))), (3, (.const (.int .i64 4))), (4, (.const (.int .i64 2))), (5, (.const (.int .i64 2)))], none⟩,
⟨(some 12), .len (.tmp 11), none⟩,
⟨(some 13), .mov (.const (.int .i64 0)), none⟩])
(.block 0
(.loop [1, 11, 12, 13]
(.seq (.reg [⟨(some 14), .bin .lss (.tmp 13) (.tmp 12), none⟩])
(.seq (.cond (.tmp 14)
(.skip)
(.exit 0))
(.seq (.block 1
(.seq (.reg [⟨(some 15), .mov (.tmp 13), none⟩,
⟨(some 16), .indexAddr 1 (.tmp 11) (.tmp 13), none⟩,
⟨(some 17), .load false 1 (.tmp 16), none⟩,
⟨(some 2), .mov (.tmp 15), none⟩,
⟨(some 3), .mov (.tmp 17), none⟩])
(.seq (.reg [⟨(some 19), .mov (.tmp 2), none⟩,
⟨(some 20), .call 34 [(.const (.int .i64 10)), (.const (.int .i64 2)), (.const (.int .i64 4)), (.tmp 19)] .auto, none⟩,
⟨(some 18), .mov (.tmp 20), none⟩,
⟨(some 21), .extract (.tmp 18) 0, none⟩,
⟨(some 22), .extract (.tmp 18) 1, none⟩,
⟨(some 4), .mov (.tmp 21), none⟩,
⟨(some 5), .mov (.tmp 22), none⟩])
(.seq (.reg [⟨(some 23), .mov (.tmp 4), none⟩,
⟨(some 24), .mov (.tmp 3), none⟩,
⟨(some 25), .bin .neq (.tmp 23) (.tmp 24), none⟩,
⟨(some 26), .mov (.tmp 25), none⟩,
⟨(some 27), .mov (.tmp 5), (some (26, false))⟩,
⟨(some 28), .bin .neq (.tmp 27) (.const (.int .i64 0)), (some (26, false))⟩,
⟨(some 29), .pick (.tmp 26) (.const (.bool true)) (.tmp 28), none⟩])
(.cond (.tmp 29)
(.seq (.reg [⟨(some 0), .mov (.const (.bool false)), none⟩])
(.ret))
(.skip))))))
(.reg [⟨(some 30), .bin .add (.tmp 13) (.const (.int .i64 1)), none⟩,
⟨(some 13), .mov (.tmp 30), none⟩])))))))
(.seq (.reg [⟨(some 31), .load true 16 (.tmp 1), none⟩,
⟨(some 32), .call 27 [(.tmp 31)] .auto, none⟩,
⟨(some 33), .bin .eql (.tmp 32) (.const (.int .i64 0)), none⟩,
⟨(some 34), .mov (.tmp 33), none⟩,
⟨(some 35), .build [(.int .i64 0), (.int .i64 0), (.int .i64 0), (.int .i64 0), (.int .i64 0), (.int .i64 0), (.int .i64 0), (.int .i64 0), (.int .i64 0), (.int .i64 0), (.int .i64 0), (.int .i64 0), (.int .i64 0), (.int .i64 0), (.int .u64 0), (.lst [] true)] [], (some (34, true))⟩,
⟨(some 36), .call 27 [(.tmp 35)] .auto, (some (34, true))⟩,
⟨(some 37), .bin .eql (.tmp 36) (.const (.int .i64 1)), (some (34, true))⟩,
⟨(some 38), .pick (.tmp 34) (.tmp 37) (.const (.bool false)), none⟩,
⟨(some 0), .mov (.tmp 38), none⟩])
(.ret)))),
[.tmp 0]⟩
/-- thrum/thrumref18.Few -/
def c26 : Func1 := ⟨1,
.seq (.reg [⟨(some 1), .box 16 (.tmp 0), none⟩,
⟨(some 2), .mov (.const (.bool false)), none⟩])
(.seq (.seq (.reg [⟨(some 5), .fieldAddr 15 (.tmp 1), none⟩,
⟨(some 6), .load false 1 (.tmp 5), none⟩,
⟨(some 7), .len (.tmp 6), none⟩,
⟨(some 8), .mov (.const (.int .i64 0)), none⟩])
(.block 0
(.loop [1, 6, 7, 8]
(.seq (.reg [⟨(some 9), .bin .lss (.tmp 8) (.tmp 7), none⟩])
(.seq (.cond (.tmp 9)
(.skip)
(.exit 0))
(.seq (.block 1
(.seq (.reg [⟨(some 10), .indexAddr 2 (.tmp 6) (.tmp 8), none⟩,
⟨(some 11), .load true 2 (.tmp 10), none⟩,
⟨(some 4), .box 2 (.const (.agg [(.lst [] true), (.int .i64 0)])), none⟩,
⟨none, .store 2 (.tmp 4) (.tmp 11), none⟩])
(.seq (.reg [⟨(some 12), .fieldAddr 0 (.tmp 4), none⟩,
⟨(some 13), .load false 1 (.tmp 12), none⟩,
⟨(some 14), .len (.tmp 13), none⟩,
⟨(some 15), .bin .gtr (.tmp 14) (.const (.int .i64 100)), none⟩])
(.cond (.tmp 15)
(.seq (.reg [⟨(some 2), .mov (.const (.bool false)), none⟩])
(.ret))
(.skip)))))
(.reg [⟨(some 16), .bin .add (.tmp 8) (.const (.int .i64 1)), none⟩,
⟨(some 8), .mov (.tmp 16), none⟩])))))))
(.seq (.reg [⟨(some 17), .fieldAddr 15 (.tmp 1), none⟩,
⟨(some 18), .load false 1 (.tmp 17), none⟩,
⟨(some 19), .len (.tmp 18), none⟩,
⟨(some 20), .bin .leq (.tmp 19) (.const (.int .i64 300)), none⟩,
⟨(some 2), .mov (.tmp 20), none⟩])
(.ret))),
[.tmp 2]⟩
/-- thrum/conf.Check -/
def c27 : Func1 := ⟨1,
.seq (.reg [⟨(some 1), .box 16 (.tmp 0), none⟩,
⟨(some 2), .mov (.const (.int .i64 0)), none⟩])
(.seq (.reg [⟨(some 8), .fieldAddr 1 (.tmp 1), none⟩,
⟨(some 9), .load true 5 (.tmp 8), none⟩,
⟨(some 10), .call 28 [(.tmp 9)] .auto, none⟩,
⟨(some 7), .mov (.tmp 10), none⟩,
⟨(some 11), .extract (.tmp 7) 0, none⟩,
⟨(some 12), .extract (.tmp 7) 1, none⟩,
⟨(some 3), .mov (.tmp 11), none⟩,
⟨(some 4), .mov (.tmp 12), none⟩])
(.seq (.seq (.reg [⟨(some 13), .mov (.tmp 4), none⟩,
⟨(some 14), .bin .neq (.tmp 13) (.const (.int .i64 0)), none⟩,
⟨(some 15), .mov (.tmp 14), none⟩,
⟨(some 16), .fieldAddr 6 (.tmp 1), (some (15, false))⟩,
⟨(some 17), .load true 3 (.tmp 16), (some (15, false))⟩,
⟨(some 18), .mov (.tmp 3), (some (15, false))⟩,
⟨(some 19), .call 30 [(.tmp 17), (.tmp 18)] .auto, (some (15, false))⟩,
⟨(some 20), .bin .neq (.tmp 19) (.const (.int .i64 0)), (some (15, false))⟩,
⟨(some 21), .pick (.tmp 15) (.const (.bool true)) (.tmp 20), none⟩])
(.cond (.tmp 21)
(.seq (.reg [⟨(some 2), .mov (.const (.int .i64 1)), none⟩])
(.ret))
(.skip)))
(.seq (.reg [⟨(some 22), .fieldAddr 1 (.tmp 1), none⟩,
⟨(some 23), .fieldAddr 4 (.tmp 22), none⟩,
⟨(some 24), .load false 1 (.tmp 23), none⟩,
⟨(some 25), .bin .shl (.const (.int .i64 1)) (.tmp 24), none⟩,
⟨(some 5), .mov (.tmp 25), none⟩])
(.seq (.seq (.reg [⟨(some 26), .fieldAddr 0 (.tmp 1), none⟩,
⟨(some 27), .load false 1 (.tmp 26), none⟩,
⟨(some 28), .call 72 [(.tmp 27), (.const (.int .i64 1)), (.const (.int .i64 64))] .auto, none⟩,
⟨(some 29), .un .not (.tmp 28), none⟩,
⟨(some 30), .mov (.tmp 29), none⟩,
⟨(some 31), .fieldAddr 9 (.tmp 1), (some (30, false))⟩,
⟨(some 32), .load false 1 (.tmp 31), (some (30, false))⟩,
⟨(some 33), .call 72 [(.tmp 32), (.const (.int .i64 0)), (.const (.int .i64 1048576))] .auto, (some (30, false))⟩,
⟨(some 34), .un .not (.tmp 33), (some (30, false))⟩,
⟨(some 35), .pick (.tmp 30) (.const (.bool true)) (.tmp 34), none⟩,
⟨(some 36), .mov (.tmp 35), none⟩,
⟨(some 37), .fieldAddr 10 (.tmp 1), (some (36, false))⟩,
⟨(some 38), .load false 1 (.tmp 37), (some (36, false))⟩,
⟨(some 39), .mov (.tmp 5), (some (36, false))⟩,
⟨(some 40), .call 73 [(.tmp 38), (.const (.int .i64 0)), (.tmp 39)] .auto, (some (36, false))⟩,
⟨(some 41), .un .not (.tmp 40), (some (36, false))⟩,
⟨(some 42), .pick (.tmp 36) (.const (.bool true)) (.tmp 41), none⟩,
⟨(some 43), .mov (.tmp 42), none⟩,
⟨(some 44), .fieldAddr 11 (.tmp 1), (some (43, false))⟩,
⟨(some 45), .load false 1 (.tmp 44), (some (43, false))⟩,
⟨(some 46), .mov (.tmp 5), (some (43, false))⟩,
⟨(some 47), .call 73 [(.tmp 45), (.const (.int .i64 0)), (.tmp 46)] .auto, (some (43, false))⟩,
⟨(some 48), .un .not (.tmp 47), (some (43, false))⟩,
⟨(some 49), .pick (.tmp 43) (.const (.bool true)) (.tmp 48), none⟩,
⟨(some 50), .mov (.tmp 49), none⟩,
⟨(some 51), .fieldAddr 12 (.tmp 1), (some (50, false))⟩,
⟨(some 52), .load false 1 (.tmp 51), (some (50, false))⟩,
⟨(some 53), .bin .lss (.tmp 52) (.const (.int .i64 0)), (some (50, false))⟩,
⟨(some 54), .pick (.tmp 50) (.const (.bool true)) (.tmp 53), none⟩])
(.cond (.tmp 54)
(.seq (.reg [⟨(some 2), .mov (.const (.int .i64 1)), none⟩])
(.ret))
(.skip)))
(.seq (.seq (.reg [⟨(some 55), .fieldAddr 15 (.tmp 1), none⟩,
⟨(some 56), .load false 1 (.tmp 55), none⟩,
⟨(some 57), .len (.tmp 56), none⟩,
⟨(some 58), .bin .gtr (.tmp 57) (.const (.int .i64 256)), none⟩,
⟨(some 59), .mov (.tmp 58), none⟩,
⟨(some 60), .fieldAddr 13 (.tmp 1), (some (59, false))⟩,
⟨(some 61), .load false 1 (.tmp 60), (some (59, false))⟩,
⟨(some 62), .fieldAddr 15 (.tmp 1), (some (59, false))⟩,
⟨(some 63), .load false 1 (.tmp 62), (some (59, false))⟩,
⟨(some 64), .len (.tmp 63), (some (59, false))⟩,
⟨(some 65), .min (.const (.int .i64 64)) (.tmp 64), (some (59, false))⟩,
⟨(some 66), .call 72 [(.tmp 61), (.const (.int .i64 1)), (.tmp 65)] .auto, (some (59, false))⟩,
⟨(some 67), .un .not (.tmp 66), (some (59, false))⟩,
⟨(some 68), .pick (.tmp 59) (.const (.bool true)) (.tmp 67), none⟩])
(.cond (.tmp 68)
(.seq (.reg [⟨(some 2), .mov (.const (.int .i64 1)), none⟩])
(.ret))
(.skip)))
(.seq (.reg [⟨(some 69), .mov (.tmp 3), none⟩,
⟨(some 70), .mkSlice 1 8 [(.int .i64 0)] (.tmp 69) (.tmp 69), none⟩,
⟨(some 6), .box 1 (.const (.lst [] true)), none⟩,
⟨none, .store 1 (.tmp 6) (.tmp 70), none⟩])
(.seq (.seq (.reg [⟨(some 71), .fieldAddr 15 (.tmp 1), none⟩,
⟨(some 72), .load false 1 (.tmp 71), none⟩,
⟨(some 73), .mkFunc 75 [] [(.tmp 1), (.tmp 6)], none⟩,
⟨(some 74), .call 74 [(.tmp 72), (.tmp 73)] .auto, none⟩])
(.cond (.tmp 74)
(.seq (.reg [⟨(some 2), .mov (.const (.int .i64 1)), none⟩])
(.ret))
(.skip)))
(.seq (.reg [⟨(some 2), .mov (.const (.int .i64 0)), none⟩])
(.ret))))))))),
[.tmp 2]⟩
/-- thrum/model.Dim -/
def c28 : Func1 := ⟨1,
.seq (.reg [⟨(some 1), .box 5 (.tmp 0), none⟩,
⟨(some 2), .mov (.const (.int .i64 0)), none⟩,
⟨(some 3), .mov (.const (.int .i64 0)), none⟩])
(.seq (.reg [⟨(some 8), .load true 5 (.tmp 1), none⟩,
⟨(some 9), .call 77 [(.tmp 8)] .auto, none⟩,
⟨(some 7), .mov (.tmp 9), none⟩,
⟨(some 10), .extract (.tmp 7) 0, none⟩,
⟨(some 11), .extract (.tmp 7) 1, none⟩,
⟨(some 12), .extract (.tmp 7) 2, none⟩,
⟨(some 4), .mov (.tmp 10), none⟩,
⟨(some 5), .mov (.tmp 11), none⟩,
⟨(some 6), .mov (.tmp 12), none⟩])
(.seq (.reg [⟨(some 13), .mov (.tmp 5), none⟩,
⟨(some 14), .mov (.tmp 6), none⟩,
⟨(some 2), .mov (.tmp 13), none⟩,
⟨(some 3), .mov (.tmp 14), none⟩])
(.ret))),
[.tmp 2, .tmp 3]⟩
/-- thrum/press.Check -/
def c30 : Func1 := ⟨2,
.seq (.reg [⟨(some 2), .box 3 (.tmp 0), none⟩,
⟨(some 4), .mov (.const (.int .i64 0)), none⟩])
(.seq (.regd [⟨(some 8), .call 52 [] .auto, none⟩,
⟨(some 9), .fieldAddr 0 (.tmp 2), none⟩,
⟨(some 10), .load false 1 (.tmp 9), none⟩,
⟨(some 11), .lookup (.agg [.nilfn, .nilfn, .nilfn, .nilfn]) true (.tmp 8) (.tmp 10), none⟩,
⟨(some 7), .mov (.tmp 11), none⟩,
⟨(some 12), .extract (.tmp 7) 0, none⟩,
⟨(some 13), .extract (.tmp 7) 1, none⟩,
⟨(some 5), .box 4 (.const (.agg [.nilfn, .nilfn, .nilfn, .nilfn])), none⟩,
⟨none, .store 4 (.tmp 5) (.tmp 12), none⟩,
⟨(some 6), .mov (.tmp 13), none⟩] [(0, 2), (0, 7), (2, 7), (3, 7)])
(.seq (.seq (.reg [⟨(some 14), .mov (.tmp 6), none⟩,
⟨(some 15), .un .not (.tmp 14), none⟩,
⟨(some 16), .mov (.tmp 15), none⟩,
⟨(some 17), .mov (.tmp 1), (some (16, false))⟩,
⟨(some 18), .bin .lss (.tmp 17) (.const (.int .i64 1)), (some (16, false))⟩,
⟨(some 19), .pick (.tmp 16) (.const (.bool true)) (.tmp 18), none⟩,
⟨(some 20), .mov (.tmp 19), none⟩,
⟨(some 21), .mov (.tmp 1), (some (20, false))⟩,
⟨(some 22), .bin .gtr (.tmp 21) (.const (.int .i64 4096)), (some (20, false))⟩,
⟨(some 23), .pick (.tmp 20) (.const (.bool true)) (.tmp 22), none⟩,
⟨(some 24), .mov (.tmp 23), none⟩,
⟨(some 25), .fieldAddr 0 (.tmp 5), (some (24, false))⟩,
⟨(some 26), .load false 1 (.tmp 25), (some (24, false))⟩,
⟨(some 27), .load true 3 (.tmp 2), (some (24, false))⟩,
⟨(some 28), .mov (.tmp 1), (some (24, false))⟩,
⟨(some 29), .dyn (.tmp 26) [(.tmp 27), (.tmp 28)] .auto, (some (24, false))⟩,
⟨(some 30), .un .not (.tmp 29), (some (24, false))⟩,
⟨(some 31), .pick (.tmp 24) (.const (.bool true)) (.tmp 30), none⟩])
(.cond (.tmp 31)
(.seq (.reg [⟨(some 4), .mov (.const (.int .i64 1)), none⟩])
(.ret))
(.skip)))
(.seq (.reg [⟨(some 4), .mov (.const (.int .i64 0)), none⟩])
(.ret)))),
[.tmp 4]⟩
/-- thrum/conf.Keep -/
def c34 : Func1 := ⟨4,
.seq (.reg [⟨(some 8), .mov (.const (.int .i64 0)), none⟩,
⟨(some 9), .mov (.const (.int .i64 0)), none⟩])
(.seq (.block 0
(.seq (.reg [⟨(some 11), .mov (.tmp 0), none⟩,
⟨(some 12), .call 72 [(.tmp 11), (.const (.int .i64 1)), (.const (.int .i64 4096))] .auto, none⟩,
⟨(some 13), .un .not (.tmp 12), none⟩,
⟨(some 14), .mov (.tmp 13), none⟩,
⟨(some 15), .mov (.tmp 1), (some (14, false))⟩,
⟨(some 16), .mov (.tmp 0), (some (14, false))⟩,
⟨(some 17), .call 72 [(.tmp 15), (.const (.int .i64 0)), (.tmp 16)] .auto, (some (14, false))⟩,
⟨(some 18), .un .not (.tmp 17), (some (14, false))⟩,
⟨(some 19), .pick (.tmp 14) (.const (.bool true)) (.tmp 18), none⟩,
⟨(some 20), .mov (.tmp 19), none⟩,
⟨(some 21), .mov (.tmp 2), (some (20, false))⟩,
⟨(some 22), .call 72 [(.tmp 21), (.const (.int .i64 0)), (.const (.int .i64 1048576))] .auto, (some (20, false))⟩,
⟨(some 23), .un .not (.tmp 22), (some (20, false))⟩,
⟨(some 24), .pick (.tmp 20) (.const (.bool true)) (.tmp 23), none⟩,
⟨(some 25), .mov (.tmp 24), none⟩,
⟨(some 26), .mov (.tmp 3), (some (25, false))⟩,
⟨(some 27), .call 72 [(.tmp 26), (.const (.int .i64 0)), (.const (.int .i64 1073741824))] .auto, (some (25, false))⟩,
⟨(some 28), .un .not (.tmp 27), (some (25, false))⟩,
⟨(some 29), .pick (.tmp 25) (.const (.bool true)) (.tmp 28), none⟩,
⟨(some 10), .mov (.tmp 29), none⟩])
(.cond (.tmp 10)
(.seq (.reg [⟨(some 8), .mov (.const (.int .i64 0)), none⟩,
⟨(some 9), .mov (.const (.int .i64 1)), none⟩])
(.ret))
(.seq (.reg [⟨(some 31), .mov (.tmp 3), none⟩,
⟨(some 32), .mov (.tmp 2), none⟩,
⟨(some 33), .bin .geq (.tmp 31) (.tmp 32), none⟩,
⟨(some 30), .mov (.tmp 33), none⟩])
(.cond (.tmp 30)
(.seq (.reg [⟨(some 34), .mov (.tmp 1), none⟩,
⟨(some 8), .mov (.tmp 34), none⟩,
⟨(some 9), .mov (.const (.int .i64 0)), none⟩])
(.ret))
(.skip))))))
(.seq (.reg [⟨(some 35), .mov (.tmp 0), none⟩,
⟨(some 36), .mov (.tmp 0), none⟩,
⟨(some 37), .mov (.tmp 1), none⟩,
⟨(some 38), .bin .sub (.tmp 36) (.tmp 37), none⟩,
⟨(some 39), .mov (.tmp 3), none⟩,
⟨(some 40), .bin .mul (.tmp 38) (.tmp 39), none⟩,
⟨(some 41), .mov (.tmp 2), none⟩,
⟨(some 42), .bin .quo (.tmp 40) (.tmp 41), none⟩,
⟨(some 43), .bin .sub (.tmp 35) (.tmp 42), none⟩,
⟨(some 8), .mov (.tmp 43), none⟩,
⟨(some 9), .mov (.const (.int .i64 0)), none⟩])
(.ret))),
[.tmp 8, .tmp 9]⟩
/-- thrum/press.ways -/
def c52 : Func1 := ⟨0,
.seq (.reg [⟨(some 0), .mov (.const (.mp [])), none⟩])
(.seq (.reg [⟨(some 1), .mkMap, none⟩,
⟨(some 2), .build [.nilfn, .nilfn, .nilfn, .nilfn] [(0, 1, (.const (.func (.func 99) [] []))), (1, 1, (.const (.func (.func 100) [] []))), (2, 1, (.const (.func (.func 101) [] []))), (3, 1, (.const (.func (.func 103) [] [])))], none⟩,
⟨none, .insert (.tmp 1) (.const (.int .i64 0)) (.tmp 2), none⟩,
⟨(some 3), .build [.nilfn, .nilfn, .nilfn, .nilfn] [(0, 1, (.const (.func (.func 104) [] []))), (1, 1, (.const (.func (.func 105) [] []))), (2, 1, (.const (.func (.func 106) [] []))), (3, 1, (.const (.func (.func 108) [] [])))], none⟩,
⟨none, .insert (.tmp 1) (.const (.int .i64 1)) (.tmp 3), none⟩,
⟨(some 4), .build [.nilfn, .nilfn, .nilfn, .nilfn] [(0, 1, (.const (.func (.func 110) [] []))), (1, 1, (.const (.func (.func 111) [] []))), (2, 1, (.const (.func (.func 113) [] []))), (3, 1, (.const (.func (.func 114) [] [])))], none⟩,
⟨none, .insert (.tmp 1) (.const (.int .i64 2)) (.tmp 4), none⟩,
⟨(some 5), .build [.nilfn, .nilfn, .nilfn, .nilfn] [(0, 1, (.const (.func (.func 99) [] []))), (1, 1, (.const (.func (.func 116) [] []))), (2, 1, (.const (.func (.func 118) [] []))), (3, 1, (.const (.func (.func 119) [] [])))], none⟩,
⟨none, .insert (.tmp 1) (.const (.int .i64 3)) (.tmp 5), none⟩,
⟨(some 6), .mov (.tmp 1), none⟩,
⟨(some 0), .mov (.tmp 6), none⟩])
(.ret)),
[.tmp 0]⟩
/-- slices.ContainsFunc[[]int,int] -/
def c66 : Func1 := ⟨2,
.seq (.reg [⟨(some 4), .mov (.const (.bool false)), none⟩])
(.seq (.reg [⟨(some 5), .mov (.tmp 0), none⟩,
⟨(some 6), .mov (.tmp 1), none⟩,
⟨(some 7), .call 143 [(.tmp 5), (.tmp 6)] .auto, none⟩,
⟨(some 8), .bin .geq (.tmp 7) (.const (.int .i64 0)), none⟩,
⟨(some 4), .mov (.tmp 8), none⟩])
(.ret)),
[.tmp 4]⟩
/-- thrum/conf.within[int] -/
def c72 : Func1 := ⟨3,
.seq (.reg [⟨(some 6), .mov (.const (.bool false)), none⟩])
(.seq (.reg [⟨(some 7), .mov (.tmp 0), none⟩,
⟨(some 8), .mov (.tmp 1), none⟩,
⟨(some 9), .bin .geq (.tmp 7) (.tmp 8), none⟩,
⟨(some 10), .mov (.tmp 9), none⟩,
⟨(some 11), .mov (.tmp 0), (some (10, true))⟩,
⟨(some 12), .mov (.tmp 2), (some (10, true))⟩,
⟨(some 13), .bin .leq (.tmp 11) (.tmp 12), (some (10, true))⟩,
⟨(some 14), .pick (.tmp 10) (.tmp 13) (.const (.bool false)), none⟩,
⟨(some 6), .mov (.tmp 14), none⟩])
(.ret)),
[.tmp 6]⟩
/-- thrum/conf.within[int64] -/
def c73 : Func1 := ⟨3,
.seq (.reg [⟨(some 6), .mov (.const (.bool false)), none⟩])
(.seq (.reg [⟨(some 7), .mov (.tmp 0), none⟩,
⟨(some 8), .mov (.tmp 1), none⟩,
⟨(some 9), .bin .geq (.tmp 7) (.tmp 8), none⟩,
⟨(some 10), .mov (.tmp 9), none⟩,
⟨(some 11), .mov (.tmp 0), (some (10, true))⟩,
⟨(some 12), .mov (.tmp 2), (some (10, true))⟩,
⟨(some 13), .bin .leq (.tmp 11) (.tmp 12), (some (10, true))⟩,
⟨(some 14), .pick (.tmp 10) (.tmp 13) (.const (.bool false)), none⟩,
⟨(some 6), .mov (.tmp 14), none⟩])
(.ret)),
[.tmp 6]⟩
/-- slices.ContainsFunc[[]thrum/api.Sample,thrum/api.Sample] -/
def c74 : Func1 := ⟨2,
.seq (.reg [⟨(some 4), .mov (.const (.bool false)), none⟩])
(.seq (.reg [⟨(some 5), .mov (.tmp 0), none⟩,
⟨(some 6), .mov (.tmp 1), none⟩,
⟨(some 7), .call 151 [(.tmp 5), (.tmp 6)] .auto, none⟩,
⟨(some 8), .bin .geq (.tmp 7) (.const (.int .i64 0)), none⟩,
⟨(some 4), .mov (.tmp 8), none⟩])
(.ret)),
[.tmp 4]⟩
/-- thrum/conf.Check$1 -/
def c75 : Func1 := ⟨3,
.seq (.reg [⟨(some 3), .box 2 (.tmp 0), none⟩,
⟨(some 4), .mov (.const (.bool false)), none⟩])
(.seq (.reg [⟨(some 5), .fieldAddr 1 (.tmp 1), none⟩,
⟨(some 6), .load true 5 (.tmp 5), none⟩,
⟨(some 7), .load false 1 (.tmp 2), none⟩,
⟨(some 8), .load true 2 (.tmp 3), none⟩,
⟨(some 9), .buildSlice 2 [[(.lst [] true), (.int .i64 0)]] [(0, (.tmp 8))], none⟩,
⟨(some 10), .call 76 [(.tmp 6), (.tmp 7), (.tmp 9)] .auto, none⟩,
⟨(some 11), .bin .neq (.tmp 10) (.const (.int .i64 0)), none⟩,
⟨(some 4), .mov (.tmp 11), none⟩])
(.ret)),
[.tmp 4]⟩
/-- thrum/model.Fits -/
def c76 : Func1 := ⟨3,
.seq (.reg [⟨(some 3), .box 5 (.tmp 0), none⟩,
⟨(some 6), .mov (.const (.int .i64 0)), none⟩])
(.seq (.reg [⟨(some 11), .load true 5 (.tmp 3), none⟩,
⟨(some 12), .call 77 [(.tmp 11)] .auto, none⟩,
⟨(some 10), .mov (.tmp 12), none⟩,
⟨(some 13), .extract (.tmp 10) 0, none⟩,
⟨(some 14), .extract (.tmp 10) 1, none⟩,
⟨(some 15), .extract (.tmp 10) 2, none⟩,
⟨(some 7), .mov (.tmp 13), none⟩,
⟨(some 8), .mov (.tmp 14), none⟩,
⟨(some 9), .mov (.tmp 15), none⟩])
(.seq (.seq (.reg [⟨(some 16), .mov (.tmp 9), none⟩,
⟨(some 17), .bin .neq (.tmp 16) (.const (.int .i64 0)), none⟩])
(.cond (.tmp 17)
(.seq (.reg [⟨(some 18), .mov (.tmp 9), none⟩,
⟨(some 6), .mov (.tmp 18), none⟩])
(.ret))
(.skip)))
(.seq (.reg [⟨(some 19), .mov (.tmp 7), none⟩,
⟨(some 20), .mov (.tmp 1), none⟩,
⟨(some 21), .mov (.tmp 2), none⟩,
⟨(some 22), .invoke (.tmp 19) [(177, 360, .plain), (178, 386, .plain), (179, 413, .plain)] [(.tmp 20), (.tmp 21)] .auto, none⟩,
⟨(some 6), .mov (.tmp 22), none⟩])
(.ret)))),
[.tmp 6]⟩
/-- thrum/model.of -/
def c77 : Func1 := ⟨1,
.seq (.reg [⟨(some 1), .box 5 (.tmp 0), none⟩,
⟨(some 2), .mov (.const .nilif), none⟩,
⟨(some 3), .mov (.const (.int .i64 0)), none⟩,
⟨(some 4), .mov (.const (.int .i64 0)), none⟩])
(.seq (.reg [⟨(some 10), .mkMap, none⟩,
⟨(some 11), .load true 5 (.tmp 1), none⟩,
⟨(some 12), .build [(.int .i64 0), (.int .i64 0), (.int .i64 0), (.int .i64 0), (.int .i64 0)] [(0, 5, (.tmp 11))], none⟩,
⟨(some 13), .mkIface 177 (.tmp 12), none⟩,
⟨none, .insert (.tmp 10) (.const (.int .i64 0)) (.tmp 13), none⟩,
⟨(some 14), .load true 5 (.tmp 1), none⟩,
⟨(some 15), .build [(.int .i64 0), (.int .i64 0), (.int .i64 0), (.int .i64 0), (.int .i64 0)] [(0, 5, (.tmp 14))], none⟩,
⟨(some 16), .mkIface 178 (.tmp 15), none⟩,
⟨none, .insert (.tmp 10) (.const (.int .i64 1)) (.tmp 16), none⟩,
⟨(some 17), .load true 5 (.tmp 1), none⟩,
⟨(some 18), .build [(.int .i64 0), (.int .i64 0), (.int .i64 0), (.int .i64 0), (.int .i64 0)] [(0, 5, (.tmp 17))], none⟩,
⟨(some 19), .mkIface 179 (.tmp 18), none⟩,
⟨none, .insert (.tmp 10) (.const (.int .i64 2)) (.tmp 19), none⟩,
⟨(some 20), .mov (.tmp 10), none⟩,
⟨(some 5), .mov (.tmp 20), none⟩])
(.seq (.reg [⟨(some 22), .mov (.tmp 5), none⟩,
⟨(some 23), .fieldAddr 0 (.tmp 1), none⟩,
⟨(some 24), .load false 1 (.tmp 23), none⟩,
⟨(some 25), .lookup .nilif true (.tmp 22) (.tmp 24), none⟩,
⟨(some 21), .mov (.tmp 25), none⟩,
⟨(some 26), .extract (.tmp 21) 0, none⟩,
⟨(some 27), .extract (.tmp 21) 1, none⟩,
⟨(some 6), .mov (.tmp 26), none⟩,
⟨(some 7), .mov (.tmp 27), none⟩])
(.seq (.seq (.reg [⟨(some 28), .mov (.tmp 7), none⟩,
⟨(some 29), .un .not (.tmp 28), none⟩,
⟨(some 30), .mov (.tmp 29), none⟩,
⟨(some 31), .fieldAddr 4 (.tmp 1), (some (30, false))⟩,
⟨(some 32), .load false 1 (.tmp 31), (some (30, false))⟩,
⟨(some 33), .bin .lss (.tmp 32) (.const (.int .i64 0)), (some (30, false))⟩,
⟨(some 34), .pick (.tmp 30) (.const (.bool true)) (.tmp 33), none⟩,
⟨(some 35), .mov (.tmp 34), none⟩,
⟨(some 36), .fieldAddr 4 (.tmp 1), (some (35, false))⟩,
⟨(some 37), .load false 1 (.tmp 36), (some (35, false))⟩,
⟨(some 38), .bin .gtr (.tmp 37) (.const (.int .i64 30)), (some (35, false))⟩,
⟨(some 39), .pick (.tmp 35) (.const (.bool true)) (.tmp 38), none⟩,
⟨(some 40), .mov (.tmp 39), none⟩,
⟨(some 41), .fieldAddr 0 (.tmp 1), (some (40, false))⟩,
⟨(some 42), .load false 1 (.tmp 41), (some (40, false))⟩,
⟨(some 43), .bin .neq (.tmp 42) (.const (.int .i64 1)), (some (40, false))⟩,
⟨(some 44), .mov (.tmp 43), (some (40, false))⟩,
⟨(some 45), .fieldAddr 2 (.tmp 1), (some (44, true))⟩,
⟨(some 46), .load false 1 (.tmp 45), (some (44, true))⟩,
⟨(some 47), .bin .neq (.tmp 46) (.const (.int .i64 0)), (some (44, true))⟩,
⟨(some 48), .pick (.tmp 44) (.tmp 47) (.const (.bool false)), (some (40, false))⟩,
⟨(some 49), .pick (.tmp 40) (.const (.bool true)) (.tmp 48), none⟩,
⟨(some 50), .mov (.tmp 49), none⟩,
⟨(some 51), .fieldAddr 0 (.tmp 1), (some (50, false))⟩,
⟨(some 52), .load false 1 (.tmp 51), (some (50, false))⟩,
⟨(some 53), .bin .neq (.tmp 52) (.const (.int .i64 2)), (some (50, false))⟩,
⟨(some 54), .mov (.tmp 53), (some (50, false))⟩,
⟨(some 55), .fieldAddr 3 (.tmp 1), (some (54, true))⟩,
⟨(some 56), .load false 1 (.tmp 55), (some (54, true))⟩,
⟨(some 57), .bin .neq (.tmp 56) (.const (.int .i64 0)), (some (54, true))⟩,
⟨(some 58), .pick (.tmp 54) (.tmp 57) (.const (.bool false)), (some (50, false))⟩,
⟨(some 59), .pick (.tmp 50) (.const (.bool true)) (.tmp 58), none⟩])
(.cond (.tmp 59)
(.seq (.reg [⟨(some 2), .mov (.const .nilif), none⟩,
⟨(some 3), .mov (.const (.int .i64 0)), none⟩,
⟨(some 4), .mov (.const (.int .i64 1)), none⟩])
(.ret))
(.skip)))
(.seq (.reg [⟨(some 61), .mov (.tmp 6), none⟩,
⟨(some 62), .invoke (.tmp 61) [(177, 359, .plain), (178, 385, .plain), (179, 412, .plain)] [] .auto, none⟩,
⟨(some 60), .mov (.tmp 62), none⟩,
⟨(some 63), .extract (.tmp 60) 0, none⟩,
⟨(some 64), .extract (.tmp 60) 1, none⟩,
⟨(some 8), .mov (.tmp 63), none⟩,
⟨(some 9), .mov (.tmp 64), none⟩])
(.seq (.reg [⟨(some 65), .mov (.tmp 6), none⟩,
⟨(some 66), .mov (.tmp 8), none⟩,
⟨(some 67), .mov (.tmp 9), none⟩,
⟨(some 2), .mov (.tmp 65), none⟩,
⟨(some 3), .mov (.tmp 66), none⟩,
⟨(some 4), .mov (.tmp 67), none⟩])
(.ret)))))),
[.tmp 2, .tmp 3, .tmp 4]⟩
/-- thrum/press.bare -/
def c99 : Func1 := ⟨2,
.seq (.reg [⟨(some 2), .box 3 (.tmp 0), none⟩,
⟨(some 4), .mov (.const (.bool false)), none⟩])
(.seq (.reg [⟨(some 5), .fieldAddr 1 (.tmp 2), none⟩,
⟨(some 6), .load false 1 (.tmp 5), none⟩,
⟨(some 7), .bin .eql (.tmp 6) (.const (.int .i64 0)), none⟩,
⟨(some 8), .mov (.tmp 7), none⟩,
⟨(some 9), .fieldAddr 2 (.tmp 2), (some (8, true))⟩,
⟨(some 10), .load false 1 (.tmp 9), (some (8, true))⟩,
⟨(some 11), .bin .eql (.tmp 10) (.const (.int .i64 0)), (some (8, true))⟩,
⟨(some 12), .pick (.tmp 8) (.tmp 11) (.const (.bool false)), none⟩,
⟨(some 4), .mov (.tmp 12), none⟩])
(.ret)),
[.tmp 4]⟩
/-- thrum/press.ways$3 -/
def c104 : Func1 := ⟨2,
.seq (.reg [⟨(some 2), .box 3 (.tmp 0), none⟩,
⟨(some 4), .mov (.const (.bool false)), none⟩])
(.seq (.reg [⟨(some 5), .fieldAddr 1 (.tmp 2), none⟩,
⟨(some 6), .load false 1 (.tmp 5), none⟩,
⟨(some 7), .bin .geq (.tmp 6) (.const (.int .i64 0)), none⟩,
⟨(some 8), .mov (.tmp 7), none⟩,
⟨(some 9), .fieldAddr 1 (.tmp 2), (some (8, true))⟩,
⟨(some 10), .load false 1 (.tmp 9), (some (8, true))⟩,
⟨(some 11), .mov (.tmp 1), (some (8, true))⟩,
⟨(some 12), .bin .leq (.tmp 10) (.tmp 11), (some (8, true))⟩,
⟨(some 13), .pick (.tmp 8) (.tmp 12) (.const (.bool false)), none⟩,
⟨(some 14), .mov (.tmp 13), none⟩,
⟨(some 15), .fieldAddr 2 (.tmp 2), (some (14, true))⟩,
⟨(some 16), .load false 1 (.tmp 15), (some (14, true))⟩,
⟨(some 17), .bin .eql (.tmp 16) (.const (.int .i64 0)), (some (14, true))⟩,
⟨(some 18), .pick (.tmp 14) (.tmp 17) (.const (.bool false)), none⟩,
⟨(some 4), .mov (.tmp 18), none⟩])
(.ret)),
[.tmp 4]⟩
/-- thrum/press.ways$7 -/
def c110 : Func1 := ⟨2,
.seq (.reg [⟨(some 2), .box 3 (.tmp 0), none⟩,
⟨(some 4), .mov (.const (.bool false)), none⟩])
(.seq (.reg [⟨(some 5), .fieldAddr 1 (.tmp 2), none⟩,
⟨(some 6), .load false 1 (.tmp 5), none⟩,
⟨(some 7), .bin .eql (.tmp 6) (.const (.int .i64 0)), none⟩,
⟨(some 8), .mov (.tmp 7), none⟩,
⟨(some 9), .fieldAddr 2 (.tmp 2), (some (8, true))⟩,
⟨(some 10), .load false 1 (.tmp 9), (some (8, true))⟩,
⟨(some 11), .bin .gtr (.tmp 10) (.const (.int .i64 0)), (some (8, true))⟩,
⟨(some 12), .pick (.tmp 8) (.tmp 11) (.const (.bool false)), none⟩,
⟨(some 13), .mov (.tmp 12), none⟩,
⟨(some 14), .fieldAddr 2 (.tmp 2), (some (13, true))⟩,
⟨(some 15), .load false 1 (.tmp 14), (some (13, true))⟩,
⟨(some 16), .bin .leq (.tmp 15) (.const (.int .i64 8)), (some (13, true))⟩,
⟨(some 17), .pick (.tmp 13) (.tmp 16) (.const (.bool false)), none⟩,
⟨(some 4), .mov (.tmp 17), none⟩])
(.ret)),
[.tmp 4]⟩
/-- slices.IndexFunc[[]int,int] -/
def c143 : Func1 := ⟨2,
.seq (.reg [⟨(some 4), .mov (.const (.int .i64 0)), none⟩])
(.seq (.seq (.reg [⟨(some 6), .mov (.tmp 0), none⟩,
⟨(some 7), .len (.tmp 6), none⟩,
⟨(some 8), .mov (.const (.int .i64 0)), none⟩])
(.block 0
(.loop [0, 1, 7, 8]
(.seq (.reg [⟨(some 9), .bin .lss (.tmp 8) (.tmp 7), none⟩])
(.seq (.cond (.tmp 9)
(.skip)
(.exit 0))
(.seq (.block 1
(.seq (.reg [⟨(some 10), .mov (.tmp 8), none⟩,
⟨(some 5), .mov (.tmp 10), none⟩])
(.seq (.reg [⟨(some 11), .mov (.tmp 1), none⟩,
⟨(some 12), .mov (.tmp 0), none⟩,
⟨(some 13), .mov (.tmp 5), none⟩,
⟨(some 14), .indexAddr 1 (.tmp 12) (.tmp 13), none⟩,
⟨(some 15), .load false 1 (.tmp 14), none⟩,
⟨(some 16), .dyn (.tmp 11) [(.tmp 15)] .auto, none⟩])
(.cond (.tmp 16)
(.seq (.reg [⟨(some 17), .mov (.tmp 5), none⟩,
⟨(some 4), .mov (.tmp 17), none⟩])
(.ret))
(.skip)))))
(.reg [⟨(some 18), .bin .add (.tmp 8) (.const (.int .i64 1)), none⟩,
⟨(some 8), .mov (.tmp 18), none⟩])))))))
(.seq (.reg [⟨(some 4), .mov (.const (.int .i64 (-1))), none⟩])
(.ret))),
[.tmp 4]⟩
/-- slices.ContainsFunc[[]uint64,uint64] -/
def c145 : Func1 := ⟨2,
.seq (.reg [⟨(some 4), .mov (.const (.bool false)), none⟩])
(.seq (.reg [⟨(some 5), .mov (.tmp 0), none⟩,
⟨(some 6), .mov (.tmp 1), none⟩,
⟨(some 7), .call 209 [(.tmp 5), (.tmp 6)] .auto, none⟩,
⟨(some 8), .bin .geq (.tmp 7) (.const (.int .i64 0)), none⟩,
⟨(some 4), .mov (.tmp 8), none⟩])
(.ret)),
[.tmp 4]⟩
/-- slices.IndexFunc[[]thrum/api.Sample,thrum/api.Sample] -/
def c151 : Func1 := ⟨2,
.seq (.reg [⟨(some 4), .mov (.const (.int .i64 0)), none⟩])
(.seq (.seq (.reg [⟨(some 6), .mov (.tmp 0), none⟩,
⟨(some 7), .len (.tmp 6), none⟩,
⟨(some 8), .mov (.const (.int .i64 0)), none⟩])
(.block 0
(.loop [0, 1, 7, 8]
(.seq (.reg [⟨(some 9), .bin .lss (.tmp 8) (.tmp 7), none⟩])
(.seq (.cond (.tmp 9)
(.skip)
(.exit 0))
(.seq (.block 1
(.seq (.reg [⟨(some 10), .mov (.tmp 8), none⟩,
⟨(some 5), .mov (.tmp 10), none⟩])
(.seq (.reg [⟨(some 11), .mov (.tmp 1), none⟩,
⟨(some 12), .mov (.tmp 0), none⟩,
⟨(some 13), .mov (.tmp 5), none⟩,
⟨(some 14), .indexAddr 2 (.tmp 12) (.tmp 13), none⟩,
⟨(some 15), .load true 2 (.tmp 14), none⟩,
⟨(some 16), .dyn (.tmp 11) [(.tmp 15)] .auto, none⟩])
(.cond (.tmp 16)
(.seq (.reg [⟨(some 17), .mov (.tmp 5), none⟩,
⟨(some 4), .mov (.tmp 17), none⟩])
(.ret))
(.skip)))))
(.reg [⟨(some 18), .bin .add (.tmp 8) (.const (.int .i64 1)), none⟩,
⟨(some 8), .mov (.tmp 18), none⟩])))))))
(.seq (.reg [⟨(some 4), .mov (.const (.int .i64 (-1))), none⟩])
(.ret))),
[.tmp 4]⟩
/-- slices.IndexFunc[[]uint64,uint64] -/
def c209 : Func1 := ⟨2,
.seq (.reg [⟨(some 4), .mov (.const (.int .i64 0)), none⟩])
(.seq (.seq (.reg [⟨(some 6), .mov (.tmp 0), none⟩,
⟨(some 7), .len (.tmp 6), none⟩,
⟨(some 8), .mov (.const (.int .i64 0)), none⟩])
(.block 0
(.loop [0, 1, 7, 8]
(.seq (.reg [⟨(some 9), .bin .lss (.tmp 8) (.tmp 7), none⟩])
(.seq (.cond (.tmp 9)
(.skip)
(.exit 0))
(.seq (.block 1
(.seq (.reg [⟨(some 10), .mov (.tmp 8), none⟩,
⟨(some 5), .mov (.tmp 10), none⟩])
(.seq (.reg [⟨(some 11), .mov (.tmp 1), none⟩,
⟨(some 12), .mov (.tmp 0), none⟩,
⟨(some 13), .mov (.tmp 5), none⟩,
⟨(some 14), .indexAddr 1 (.tmp 12) (.tmp 13), none⟩,
⟨(some 15), .load false 1 (.tmp 14), none⟩,
⟨(some 16), .dyn (.tmp 11) [(.tmp 15)] .auto, none⟩])
(.cond (.tmp 16)
(.seq (.reg [⟨(some 17), .mov (.tmp 5), none⟩,
⟨(some 4), .mov (.tmp 17), none⟩])
(.ret))
(.skip)))))
(.reg [⟨(some 18), .bin .add (.tmp 8) (.const (.int .i64 1)), none⟩,
⟨(some 8), .mov (.tmp 18), none⟩])))))))
(.seq (.reg [⟨(some 4), .mov (.const (.int .i64 (-1))), none⟩])
(.ret))),
[.tmp 4]⟩
/-- (thrum/model.straight).dim -/
def c359 : Func1 := ⟨1,
.seq (.reg [⟨(some 1), .box 5 (.tmp 0), none⟩,
⟨(some 2), .mov (.const (.int .i64 0)), none⟩,
⟨(some 3), .mov (.const (.int .i64 0)), none⟩])
(.seq (.reg [⟨(some 4), .fieldAddr 0 (.tmp 1), none⟩,
⟨(some 5), .fieldAddr 1 (.tmp 4), none⟩,
⟨(some 6), .load false 1 (.tmp 5), none⟩,
⟨(some 7), .call 363 [(.tmp 6)] .thaw, none⟩,
⟨(some 8), .extract (.tmp 7) 0, none⟩,
⟨(some 9), .extract (.tmp 7) 1, none⟩,
⟨(some 2), .mov (.tmp 8), none⟩,
⟨(some 3), .mov (.tmp 9), none⟩])
(.ret)),
[.tmp 2, .tmp 3]⟩
/-- (thrum/model.straight).fits -/
def c360 : Func1 := ⟨3,
.seq (.reg [⟨(some 3), .box 5 (.tmp 0), none⟩,
⟨(some 6), .mov (.const (.int .i64 0)), none⟩])
(.seq (.reg [⟨(some 7), .fieldAddr 0 (.tmp 3), none⟩,
⟨(some 8), .fieldAddr 1 (.tmp 7), none⟩,
⟨(some 9), .load false 1 (.tmp 8), none⟩,
⟨(some 10), .mov (.tmp 1), none⟩,
⟨(some 11), .mov (.tmp 2), none⟩,
⟨(some 12), .call 364 [(.tmp 9), (.tmp 10), (.tmp 11)] .thaw, none⟩,
⟨(some 6), .mov (.tmp 12), none⟩])
(.ret)),
[.tmp 6]⟩
/-- thrum/linear.Dim -/
def c363 : Func1 := ⟨1,
.seq (.reg [⟨(some 2), .mov (.const (.int .i64 0)), none⟩,
⟨(some 3), .mov (.const (.int .i64 0)), none⟩])
(.seq (.seq (.reg [⟨(some 4), .mov (.tmp 0), none⟩,
⟨(some 5), .bin .lss (.tmp 4) (.const (.int .i64 1)), none⟩,
⟨(some 6), .mov (.tmp 5), none⟩,
⟨(some 7), .mov (.tmp 0), (some (6, false))⟩,
⟨(some 8), .bin .gtr (.tmp 7) (.const (.int .i64 16)), (some (6, false))⟩,
⟨(some 9), .pick (.tmp 6) (.const (.bool true)) (.tmp 8), none⟩])
(.cond (.tmp 9)
(.seq (.reg [⟨(some 2), .mov (.const (.int .i64 0)), none⟩,
⟨(some 3), .mov (.const (.int .i64 1)), none⟩])
(.ret))
(.skip)))
(.seq (.reg [⟨(some 10), .mov (.tmp 0), none⟩,
⟨(some 11), .bin .add (.tmp 10) (.const (.int .i64 1)), none⟩,
⟨(some 2), .mov (.tmp 11), none⟩,
⟨(some 3), .mov (.const (.int .i64 0)), none⟩])
(.ret))),
[.tmp 2, .tmp 3]⟩
/-- thrum/linear.Check -/
def c364 : Func1 := ⟨3,
.seq (.reg [⟨(some 6), .mov (.const (.int .i64 0)), none⟩])
(.seq (.reg [⟨(some 13), .mov (.tmp 0), none⟩,
⟨(some 14), .call 363 [(.tmp 13)] .thaw, none⟩,
⟨(some 12), .mov (.tmp 14), none⟩,
⟨(some 15), .extract (.tmp 12) 0, none⟩,
⟨(some 16), .extract (.tmp 12) 1, none⟩,
⟨(some 7), .mov (.tmp 15), none⟩,
⟨(some 8), .mov (.tmp 16), none⟩])
(.seq (.seq (.reg [⟨(some 17), .mov (.tmp 8), none⟩,
⟨(some 18), .bin .neq (.tmp 17) (.const (.int .i64 0)), none⟩])
(.cond (.tmp 18)
(.seq (.reg [⟨(some 19), .mov (.tmp 8), none⟩,
⟨(some 6), .mov (.tmp 19), none⟩])
(.ret))
(.skip)))
(.seq (.reg [⟨(some 20), .mov (.tmp 1), none⟩,
⟨(some 21), .len (.tmp 20), none⟩,
⟨(some 22), .mov (.tmp 7), none⟩,
⟨(some 23), .bin .eql (.tmp 21) (.tmp 22), none⟩,
⟨(some 9), .mov (.tmp 23), none⟩])
(.seq (.seq (.reg [⟨(some 24), .mov (.tmp 2), none⟩,
⟨(some 25), .len (.tmp 24), none⟩,
⟨(some 26), .mov (.const (.int .i64 0)), none⟩])
(.block 0
(.loop [0, 2, 9, 24, 25, 26]
(.seq (.reg [⟨(some 27), .bin .lss (.tmp 26) (.tmp 25), none⟩])
(.seq (.cond (.tmp 27)
(.skip)
(.exit 0))
(.seq (.block 1
(.seq (.reg [⟨(some 28), .indexAddr 2 (.tmp 24) (.tmp 26), none⟩,
⟨(some 29), .load true 2 (.tmp 28), none⟩,
⟨(some 11), .box 2 (.const (.agg [(.lst [] true), (.int .i64 0)])), none⟩,
⟨none, .store 2 (.tmp 11) (.tmp 29), none⟩])
(.reg [⟨(some 30), .mov (.tmp 9), none⟩,
⟨(some 31), .mov (.tmp 30), none⟩,
⟨(some 32), .fieldAddr 0 (.tmp 11), (some (31, true))⟩,
⟨(some 33), .load false 1 (.tmp 32), (some (31, true))⟩,
⟨(some 34), .len (.tmp 33), (some (31, true))⟩,
⟨(some 35), .mov (.tmp 0), (some (31, true))⟩,
⟨(some 36), .bin .eql (.tmp 34) (.tmp 35), (some (31, true))⟩,
⟨(some 37), .pick (.tmp 31) (.tmp 36) (.const (.bool false)), none⟩,
⟨(some 9), .mov (.tmp 37), none⟩])))
(.reg [⟨(some 38), .bin .add (.tmp 26) (.const (.int .i64 1)), none⟩,
⟨(some 26), .mov (.tmp 38), none⟩])))))))
(.seq (.block 2
(.seq (.reg [⟨(some 40), .mov (.tmp 9), none⟩,
⟨(some 41), .un .not (.tmp 40), none⟩,
⟨(some 39), .mov (.tmp 41), none⟩])
(.cond (.tmp 39)
(.seq (.reg [⟨(some 6), .mov (.const (.int .i64 4)), none⟩])
(.ret))
(.seq (.reg [⟨(some 43), .mov (.tmp 2), none⟩,
⟨(some 44), .len (.tmp 43), none⟩,
⟨(some 45), .bin .eql (.tmp 44) (.const (.int .i64 0)), none⟩,
⟨(some 46), .mov (.tmp 45), none⟩,
⟨(some 47), .mov (.tmp 2), (some (46, false))⟩,
⟨(some 48), .len (.tmp 47), (some (46, false))⟩,
⟨(some 49), .bin .gtr (.tmp 48) (.const (.int .i64 64)), (some (46, false))⟩,
⟨(some 50), .pick (.tmp 46) (.const (.bool true)) (.tmp 49), none⟩,
⟨(some 42), .mov (.tmp 50), none⟩])
(.cond (.tmp 42)
(.seq (.reg [⟨(some 6), .mov (.const (.int .i64 1)), none⟩])
(.ret))
(.skip))))))
(.seq (.reg [⟨(some 6), .mov (.const (.int .i64 0)), none⟩])
(.ret))))))),
[.tmp 6]⟩
/-- (thrum/model.classes).dim -/
def c385 : Func1 := ⟨1,
.seq (.reg [⟨(some 1), .box 5 (.tmp 0), none⟩,
⟨(some 2), .mov (.const (.int .i64 0)), none⟩,
⟨(some 3), .mov (.const (.int .i64 0)), none⟩])
(.seq (.reg [⟨(some 4), .fieldAddr 0 (.tmp 1), none⟩,
⟨(some 5), .fieldAddr 1 (.tmp 4), none⟩,
⟨(some 6), .load false 1 (.tmp 5), none⟩,
⟨(some 7), .fieldAddr 0 (.tmp 1), none⟩,
⟨(some 8), .fieldAddr 2 (.tmp 7), none⟩,
⟨(some 9), .load false 1 (.tmp 8), none⟩,
⟨(some 10), .call 389 [(.tmp 6), (.tmp 9)] .thaw, none⟩,
⟨(some 11), .extract (.tmp 10) 0, none⟩,
⟨(some 12), .extract (.tmp 10) 1, none⟩,
⟨(some 2), .mov (.tmp 11), none⟩,
⟨(some 3), .mov (.tmp 12), none⟩])
(.ret)),
[.tmp 2, .tmp 3]⟩
/-- (thrum/model.classes).fits -/
def c386 : Func1 := ⟨3,
.seq (.reg [⟨(some 3), .box 5 (.tmp 0), none⟩,
⟨(some 6), .mov (.const (.int .i64 0)), none⟩])
(.seq (.reg [⟨(some 7), .fieldAddr 0 (.tmp 3), none⟩,
⟨(some 8), .fieldAddr 1 (.tmp 7), none⟩,
⟨(some 9), .load false 1 (.tmp 8), none⟩,
⟨(some 10), .fieldAddr 0 (.tmp 3), none⟩,
⟨(some 11), .fieldAddr 2 (.tmp 10), none⟩,
⟨(some 12), .load false 1 (.tmp 11), none⟩,
⟨(some 13), .mov (.tmp 1), none⟩,
⟨(some 14), .mov (.tmp 2), none⟩,
⟨(some 15), .call 390 [(.tmp 9), (.tmp 12), (.tmp 13), (.tmp 14)] .thaw, none⟩,
⟨(some 6), .mov (.tmp 15), none⟩])
(.ret)),
[.tmp 6]⟩
/-- thrum/soft.Dim -/
def c389 : Func1 := ⟨2,
.seq (.reg [⟨(some 4), .mov (.const (.int .i64 0)), none⟩,
⟨(some 5), .mov (.const (.int .i64 0)), none⟩])
(.seq (.reg [⟨(some 9), .mov (.tmp 0), none⟩,
⟨(some 10), .call 363 [(.tmp 9)] .auto, none⟩,
⟨(some 8), .mov (.tmp 10), none⟩,
⟨(some 11), .extract (.tmp 8) 0, none⟩,
⟨(some 12), .extract (.tmp 8) 1, none⟩,
⟨(some 6), .mov (.tmp 11), none⟩,
⟨(some 7), .mov (.tmp 12), none⟩])
(.seq (.seq (.reg [⟨(some 13), .mov (.tmp 7), none⟩,
⟨(some 14), .bin .neq (.tmp 13) (.const (.int .i64 0)), none⟩,
⟨(some 15), .mov (.tmp 14), none⟩,
⟨(some 16), .mov (.tmp 1), (some (15, false))⟩,
⟨(some 17), .call 392 [(.tmp 16)] .auto, (some (15, false))⟩,
⟨(some 18), .un .not (.tmp 17), (some (15, false))⟩,
⟨(some 19), .pick (.tmp 15) (.const (.bool true)) (.tmp 18), none⟩])
(.cond (.tmp 19)
(.seq (.reg [⟨(some 4), .mov (.const (.int .i64 0)), none⟩,
⟨(some 5), .mov (.const (.int .i64 1)), none⟩])
(.ret))
(.skip)))
(.seq (.reg [⟨(some 20), .mov (.tmp 6), none⟩,
⟨(some 21), .mov (.tmp 1), none⟩,
⟨(some 22), .bin .mul (.tmp 20) (.tmp 21), none⟩,
⟨(some 4), .mov (.tmp 22), none⟩,
⟨(some 5), .mov (.const (.int .i64 0)), none⟩])
(.ret)))),
[.tmp 4, .tmp 5]⟩
/-- thrum/soft.Check -/
def c390 : Func1 := ⟨4,
.seq (.reg [⟨(some 4), .box 1 (.tmp 0), none⟩,
⟨(some 5), .box 1 (.tmp 1), none⟩,
⟨(some 8), .mov (.const (.int .i64 0)), none⟩])
(.seq (.reg [⟨(some 12), .load false 1 (.tmp 4), none⟩,
⟨(some 13), .load false 1 (.tmp 5), none⟩,
⟨(some 14), .call 389 [(.tmp 12), (.tmp 13)] .thaw, none⟩,
⟨(some 11), .mov (.tmp 14), none⟩,
⟨(some 15), .extract (.tmp 11) 0, none⟩,
⟨(some 16), .extract (.tmp 11) 1, none⟩,
⟨(some 9), .mov (.tmp 15), none⟩,
⟨(some 10), .mov (.tmp 16), none⟩])
(.seq (.block 0
(.seq (.reg [⟨(some 18), .mov (.tmp 10), none⟩,
⟨(some 19), .bin .neq (.tmp 18) (.const (.int .i64 0)), none⟩,
⟨(some 17), .mov (.tmp 19), none⟩])
(.cond (.tmp 17)
(.seq (.reg [⟨(some 20), .mov (.tmp 10), none⟩,
⟨(some 8), .mov (.tmp 20), none⟩])
(.ret))
(.seq (.reg [⟨(some 22), .mov (.tmp 2), none⟩,
⟨(some 23), .len (.tmp 22), none⟩,
⟨(some 24), .mov (.tmp 9), none⟩,
⟨(some 25), .bin .neq (.tmp 23) (.tmp 24), none⟩,
⟨(some 26), .mov (.tmp 25), none⟩,
⟨(some 27), .mov (.tmp 3), (some (26, false))⟩,
⟨(some 28), .mkFunc 393 [] [(.tmp 4)], (some (26, false))⟩,
⟨(some 29), .call 74 [(.tmp 27), (.tmp 28)] .auto, (some (26, false))⟩,
⟨(some 30), .pick (.tmp 26) (.const (.bool true)) (.tmp 29), none⟩,
⟨(some 21), .mov (.tmp 30), none⟩])
(.cond (.tmp 21)
(.seq (.reg [⟨(some 8), .mov (.const (.int .i64 4)), none⟩])
(.ret))
(.seq (.reg [⟨(some 32), .mov (.tmp 3), none⟩,
⟨(some 33), .len (.tmp 32), none⟩,
⟨(some 34), .bin .eql (.tmp 33) (.const (.int .i64 0)), none⟩,
⟨(some 35), .mov (.tmp 34), none⟩,
⟨(some 36), .mov (.tmp 3), (some (35, false))⟩,
⟨(some 37), .len (.tmp 36), (some (35, false))⟩,
⟨(some 38), .bin .gtr (.tmp 37) (.const (.int .i64 64)), (some (35, false))⟩,
⟨(some 39), .pick (.tmp 35) (.const (.bool true)) (.tmp 38), none⟩,
⟨(some 40), .mov (.tmp 39), none⟩,
⟨(some 41), .mov (.tmp 3), (some (40, false))⟩,
⟨(some 42), .mkFunc 394 [] [(.tmp 5)], (some (40, false))⟩,
⟨(some 43), .call 74 [(.tmp 41), (.tmp 42)] .auto, (some (40, false))⟩,
⟨(some 44), .pick (.tmp 40) (.const (.bool true)) (.tmp 43), none⟩,
⟨(some 31), .mov (.tmp 44), none⟩])
(.cond (.tmp 31)
(.seq (.reg [⟨(some 8), .mov (.const (.int .i64 1)), none⟩])
(.ret))
(.skip))))))))
(.seq (.reg [⟨(some 8), .mov (.const (.int .i64 0)), none⟩])
(.ret)))),
[.tmp 8]⟩
/-- thrum/soft.classes -/
def c392 : Func1 := ⟨1,
.seq (.reg [⟨(some 2), .mov (.const (.bool false)), none⟩])
(.seq (.reg [⟨(some 3), .mov (.tmp 0), none⟩,
⟨(some 4), .bin .gtr (.tmp 3) (.const (.int .i64 1)), none⟩,
⟨(some 5), .mov (.tmp 4), none⟩,
⟨(some 6), .mov (.tmp 0), (some (5, true))⟩,
⟨(some 7), .bin .leq (.tmp 6) (.const (.int .i64 8)), (some (5, true))⟩,
⟨(some 8), .pick (.tmp 5) (.tmp 7) (.const (.bool false)), none⟩,
⟨(some 2), .mov (.tmp 8), none⟩])
(.ret)),
[.tmp 2]⟩
/-- thrum/soft.Check$1 -/
def c393 : Func1 := ⟨2,
.seq (.reg [⟨(some 2), .box 2 (.tmp 0), none⟩,
⟨(some 3), .mov (.const (.bool false)), none⟩])
(.seq (.reg [⟨(some 4), .fieldAddr 0 (.tmp 2), none⟩,
⟨(some 5), .load false 1 (.tmp 4), none⟩,
⟨(some 6), .len (.tmp 5), none⟩,
⟨(some 7), .load false 1 (.tmp 1), none⟩,
⟨(some 8), .bin .neq (.tmp 6) (.tmp 7), none⟩,
⟨(some 3), .mov (.tmp 8), none⟩])
(.ret)),
[.tmp 3]⟩
/-- thrum/soft.Check$2 -/
def c394 : Func1 := ⟨2,
.seq (.reg [⟨(some 2), .box 2 (.tmp 0), none⟩,
⟨(some 3), .mov (.const (.bool false)), none⟩])
(.seq (.reg [⟨(some 4), .fieldAddr 1 (.tmp 2), none⟩,
⟨(some 5), .load false 1 (.tmp 4), none⟩,
⟨(some 6), .bin .lss (.tmp 5) (.const (.int .i64 0)), none⟩,
⟨(some 7), .mov (.tmp 6), none⟩,
⟨(some 8), .fieldAddr 1 (.tmp 2), (some (7, false))⟩,
⟨(some 9), .load false 1 (.tmp 8), (some (7, false))⟩,
⟨(some 10), .load false 1 (.tmp 1), (some (7, false))⟩,
⟨(some 11), .bin .geq (.tmp 9) (.tmp 10), (some (7, false))⟩,
⟨(some 12), .pick (.tmp 7) (.const (.bool true)) (.tmp 11), none⟩,
⟨(some 3), .mov (.tmp 12), none⟩])
(.ret)),
[.tmp 3]⟩
/-- (thrum/model.layers).dim -/
def c412 : Func1 := ⟨1,
.seq (.reg [⟨(some 1), .box 5 (.tmp 0), none⟩,
⟨(some 2), .mov (.const (.int .i64 0)), none⟩,
⟨(some 3), .mov (.const (.int .i64 0)), none⟩])
(.seq (.reg [⟨(some 4), .fieldAddr 0 (.tmp 1), none⟩,
⟨(some 5), .fieldAddr 1 (.tmp 4), none⟩,
⟨(some 6), .load false 1 (.tmp 5), none⟩,
⟨(some 7), .fieldAddr 0 (.tmp 1), none⟩,
⟨(some 8), .fieldAddr 3 (.tmp 7), none⟩,
⟨(some 9), .load false 1 (.tmp 8), none⟩,
⟨(some 10), .call 416 [(.tmp 6), (.tmp 9)] .thaw, none⟩,
⟨(some 11), .extract (.tmp 10) 0, none⟩,
⟨(some 12), .extract (.tmp 10) 1, none⟩,
⟨(some 2), .mov (.tmp 11), none⟩,
⟨(some 3), .mov (.tmp 12), none⟩])
(.ret)),
[.tmp 2, .tmp 3]⟩
/-- (thrum/model.layers).fits -/
def c413 : Func1 := ⟨3,
.seq (.reg [⟨(some 3), .box 5 (.tmp 0), none⟩,
⟨(some 6), .mov (.const (.int .i64 0)), none⟩])
(.seq (.reg [⟨(some 7), .fieldAddr 0 (.tmp 3), none⟩,
⟨(some 8), .fieldAddr 1 (.tmp 7), none⟩,
⟨(some 9), .load false 1 (.tmp 8), none⟩,
⟨(some 10), .fieldAddr 0 (.tmp 3), none⟩,
⟨(some 11), .fieldAddr 3 (.tmp 10), none⟩,
⟨(some 12), .load false 1 (.tmp 11), none⟩,
⟨(some 13), .mov (.tmp 1), none⟩,
⟨(some 14), .mov (.tmp 2), none⟩,
⟨(some 15), .call 417 [(.tmp 9), (.tmp 12), (.tmp 13), (.tmp 14)] .thaw, none⟩,
⟨(some 6), .mov (.tmp 15), none⟩])
(.ret)),
[.tmp 6]⟩
/-- thrum/mlp.Dim -/
def c416 : Func1 := ⟨2,
.seq (.reg [⟨(some 4), .mov (.const (.int .i64 0)), none⟩,
⟨(some 5), .mov (.const (.int .i64 0)), none⟩])
(.seq (.reg [⟨(some 9), .mov (.tmp 0), none⟩,
⟨(some 10), .call 363 [(.tmp 9)] .auto, none⟩,
⟨(some 8), .mov (.tmp 10), none⟩,
⟨(some 11), .extract (.tmp 8) 0, none⟩,
⟨(some 12), .extract (.tmp 8) 1, none⟩,
⟨(some 6), .mov (.tmp 11), none⟩,
⟨(some 7), .mov (.tmp 12), none⟩])
(.seq (.seq (.reg [⟨(some 13), .mov (.tmp 7), none⟩,
⟨(some 14), .bin .neq (.tmp 13) (.const (.int .i64 0)), none⟩,
⟨(some 15), .mov (.tmp 14), none⟩,
⟨(some 16), .mov (.tmp 1), (some (15, false))⟩,
⟨(some 17), .call 419 [(.tmp 16)] .auto, (some (15, false))⟩,
⟨(some 18), .un .not (.tmp 17), (some (15, false))⟩,
⟨(some 19), .pick (.tmp 15) (.const (.bool true)) (.tmp 18), none⟩])
(.cond (.tmp 19)
(.seq (.reg [⟨(some 4), .mov (.const (.int .i64 0)), none⟩,
⟨(some 5), .mov (.const (.int .i64 1)), none⟩])
(.ret))
(.skip)))
(.seq (.reg [⟨(some 20), .mov (.tmp 1), none⟩,
⟨(some 21), .mov (.tmp 6), none⟩,
⟨(some 22), .bin .mul (.tmp 20) (.tmp 21), none⟩,
⟨(some 23), .mov (.tmp 1), none⟩,
⟨(some 24), .bin .add (.tmp 22) (.tmp 23), none⟩,
⟨(some 25), .bin .add (.tmp 24) (.const (.int .i64 1)), none⟩,
⟨(some 4), .mov (.tmp 25), none⟩,
⟨(some 5), .mov (.const (.int .i64 0)), none⟩])
(.ret)))),
[.tmp 4, .tmp 5]⟩
/-- thrum/mlp.Check -/
def c417 : Func1 := ⟨4,
.seq (.reg [⟨(some 4), .box 1 (.tmp 0), none⟩,
⟨(some 8), .mov (.const (.int .i64 0)), none⟩])
(.seq (.reg [⟨(some 12), .load false 1 (.tmp 4), none⟩,
⟨(some 13), .mov (.tmp 1), none⟩,
⟨(some 14), .call 416 [(.tmp 12), (.tmp 13)] .thaw, none⟩,
⟨(some 11), .mov (.tmp 14), none⟩,
⟨(some 15), .extract (.tmp 11) 0, none⟩,
⟨(some 16), .extract (.tmp 11) 1, none⟩,
⟨(some 9), .mov (.tmp 15), none⟩,
⟨(some 10), .mov (.tmp 16), none⟩])
(.seq (.block 0
(.seq (.reg [⟨(some 18), .mov (.tmp 10), none⟩,
⟨(some 19), .bin .neq (.tmp 18) (.const (.int .i64 0)), none⟩,
⟨(some 17), .mov (.tmp 19), none⟩])
(.cond (.tmp 17)
(.seq (.reg [⟨(some 20), .mov (.tmp 10), none⟩,
⟨(some 8), .mov (.tmp 20), none⟩])
(.ret))
(.seq (.reg [⟨(some 22), .mov (.tmp 2), none⟩,
⟨(some 23), .len (.tmp 22), none⟩,
⟨(some 24), .mov (.tmp 9), none⟩,
⟨(some 25), .bin .neq (.tmp 23) (.tmp 24), none⟩,
⟨(some 26), .mov (.tmp 25), none⟩,
⟨(some 27), .mov (.tmp 3), (some (26, false))⟩,
⟨(some 28), .mkFunc 420 [] [(.tmp 4)], (some (26, false))⟩,
⟨(some 29), .call 74 [(.tmp 27), (.tmp 28)] .auto, (some (26, false))⟩,
⟨(some 30), .pick (.tmp 26) (.const (.bool true)) (.tmp 29), none⟩,
⟨(some 21), .mov (.tmp 30), none⟩])
(.cond (.tmp 21)
(.seq (.reg [⟨(some 8), .mov (.const (.int .i64 4)), none⟩])
(.ret))
(.seq (.reg [⟨(some 32), .mov (.tmp 3), none⟩,
⟨(some 33), .len (.tmp 32), none⟩,
⟨(some 34), .bin .eql (.tmp 33) (.const (.int .i64 0)), none⟩,
⟨(some 35), .mov (.tmp 34), none⟩,
⟨(some 36), .mov (.tmp 3), (some (35, false))⟩,
⟨(some 37), .len (.tmp 36), (some (35, false))⟩,
⟨(some 38), .bin .gtr (.tmp 37) (.const (.int .i64 64)), (some (35, false))⟩,
⟨(some 39), .pick (.tmp 35) (.const (.bool true)) (.tmp 38), none⟩,
⟨(some 31), .mov (.tmp 39), none⟩])
(.cond (.tmp 31)
(.seq (.reg [⟨(some 8), .mov (.const (.int .i64 1)), none⟩])
(.ret))
(.skip))))))))
(.seq (.reg [⟨(some 8), .mov (.const (.int .i64 0)), none⟩])
(.ret)))),
[.tmp 8]⟩
/-- thrum/mlp.hides -/
def c419 : Func1 := ⟨1,
.seq (.reg [⟨(some 2), .mov (.const (.bool false)), none⟩])
(.seq (.reg [⟨(some 3), .mov (.tmp 0), none⟩,
⟨(some 4), .bin .gtr (.tmp 3) (.const (.int .i64 0)), none⟩,
⟨(some 5), .mov (.tmp 4), none⟩,
⟨(some 6), .mov (.tmp 0), (some (5, true))⟩,
⟨(some 7), .bin .leq (.tmp 6) (.const (.int .i64 8)), (some (5, true))⟩,
⟨(some 8), .pick (.tmp 5) (.tmp 7) (.const (.bool false)), none⟩,
⟨(some 2), .mov (.tmp 8), none⟩])
(.ret)),
[.tmp 2]⟩
/-- thrum/mlp.Check$1 -/
def c420 : Func1 := ⟨2,
.seq (.reg [⟨(some 2), .box 2 (.tmp 0), none⟩,
⟨(some 3), .mov (.const (.bool false)), none⟩])
(.seq (.reg [⟨(some 4), .fieldAddr 0 (.tmp 2), none⟩,
⟨(some 5), .load false 1 (.tmp 4), none⟩,
⟨(some 6), .len (.tmp 5), none⟩,
⟨(some 7), .load false 1 (.tmp 1), none⟩,
⟨(some 8), .bin .neq (.tmp 6) (.tmp 7), none⟩,
⟨(some 3), .mov (.tmp 8), none⟩])
(.ret)),
[.tmp 3]⟩
end Go.Abs
