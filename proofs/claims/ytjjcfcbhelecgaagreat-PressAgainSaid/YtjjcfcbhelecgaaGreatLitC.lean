/- The literal codes of functions, as the interpreter takes them (written by program: mkq.py). Conditions: none. -/
import Derived.Test.YtjjcfcbhelecgaaGreatAbsDef
set_option linter.unusedVariables false
set_option maxRecDepth 100000
namespace Go.Abs
/-- thrum/thrumlaw12.PressAgain -/
def c3 : Func1 := ⟨3,
.seq (.reg [⟨(some 3), .box 3 (.tmp 0), none⟩,
⟨(some 6), .mov (.const (.bool false)), none⟩])
(.seq (.reg [⟨(some 16), .call 12 [] .auto, none⟩,
⟨(some 7), .mov (.tmp 16), none⟩])
(.seq (.seq (.reg [⟨(some 17), .mov (.tmp 7), none⟩,
⟨(some 18), .un .not (.tmp 17), none⟩])
(.cond (.tmp 18)
(.seq (.reg [⟨(some 6), .mov (.const (.bool false)), none⟩])
(.ret))
(.skip)))
(.seq (.seq (.reg [⟨(some 19), .mov (.tmp 1), none⟩,
⟨(some 20), .buildSlice 1 [[(.lst [] true)]] [(0, (.tmp 19))], none⟩,
⟨(some 21), .call 13 [(.const (.lst [] true)), (.tmp 20)] .auto, none⟩,
⟨(some 22), .un .not (.tmp 21), none⟩,
⟨(some 23), .mov (.tmp 22), none⟩,
⟨(some 24), .mov (.tmp 1), (some (23, false))⟩,
⟨(some 25), .len (.tmp 24), (some (23, false))⟩,
⟨(some 26), .bin .gtr (.tmp 25) (.const (.int .i64 200)), (some (23, false))⟩,
⟨(some 27), .pick (.tmp 23) (.const (.bool true)) (.tmp 26), none⟩,
⟨(some 28), .mov (.tmp 27), none⟩,
⟨(some 29), .fieldAddr 0 (.tmp 3), (some (28, false))⟩,
⟨(some 30), .load false 1 (.tmp 29), (some (28, false))⟩,
⟨(some 31), .bin .eql (.tmp 30) (.const (.int .i64 2)), (some (28, false))⟩,
⟨(some 32), .pick (.tmp 28) (.const (.bool true)) (.tmp 31), none⟩])
(.cond (.tmp 32)
(.seq (.reg [⟨(some 33), .mov (.tmp 7), none⟩,
⟨(some 6), .mov (.tmp 33), none⟩])
(.ret))
(.skip)))
(.seq (.reg [⟨(some 35), .load true 3 (.tmp 3), none⟩,
⟨(some 36), .mov (.tmp 1), none⟩,
⟨(some 37), .mov (.tmp 2), none⟩,
⟨(some 38), .call 14 [(.tmp 35), (.tmp 36), (.tmp 37), (.const (.lst [] true))] .auto, none⟩,
⟨(some 34), .mov (.tmp 38), none⟩,
⟨(some 39), .extract (.tmp 34) 0, none⟩,
⟨(some 40), .extract (.tmp 34) 1, none⟩,
⟨(some 8), .box 8 (.const (.agg [(.int .i64 0), (.int .i64 0), (.lst [] true), (.lst [] true), (.int .i64 0), (.int .i64 0), (.lst [] true), (.lst [] true)])), none⟩,
⟨none, .store 8 (.tmp 8) (.tmp 39), none⟩,
⟨(some 9), .mov (.tmp 40), none⟩])
(.seq (.seq (.reg [⟨(some 41), .mov (.tmp 9), none⟩,
⟨(some 42), .bin .neq (.tmp 41) (.const (.int .i64 0)), none⟩])
(.cond (.tmp 42)
(.seq (.reg [⟨(some 43), .mov (.tmp 7), none⟩,
⟨(some 6), .mov (.tmp 43), none⟩])
(.ret))
(.skip)))
(.seq (.reg [⟨(some 45), .load true 8 (.tmp 8), none⟩,
⟨(some 46), .call 15 [(.tmp 45)] .auto, none⟩,
⟨(some 44), .mov (.tmp 46), none⟩,
⟨(some 47), .extract (.tmp 44) 0, none⟩,
⟨(some 48), .extract (.tmp 44) 1, none⟩,
⟨(some 10), .mov (.tmp 47), none⟩,
⟨(some 11), .mov (.tmp 48), none⟩])
(.seq (.reg [⟨(some 50), .load true 3 (.tmp 3), none⟩,
⟨(some 51), .mov (.tmp 10), none⟩,
⟨(some 52), .mov (.tmp 2), none⟩,
⟨(some 53), .bin .add (.tmp 52) (.const (.int .u64 1)), none⟩,
⟨(some 54), .call 14 [(.tmp 50), (.tmp 51), (.tmp 53), (.const (.lst [] true))] .auto, none⟩,
⟨(some 49), .mov (.tmp 54), none⟩,
⟨(some 55), .extract (.tmp 49) 0, none⟩,
⟨(some 56), .extract (.tmp 49) 1, none⟩,
⟨(some 12), .box 8 (.const (.agg [(.int .i64 0), (.int .i64 0), (.lst [] true), (.lst [] true), (.int .i64 0), (.int .i64 0), (.lst [] true), (.lst [] true)])), none⟩,
⟨none, .store 8 (.tmp 12) (.tmp 55), none⟩,
⟨(some 13), .mov (.tmp 56), none⟩])
(.seq (.seq (.reg [⟨(some 57), .mov (.tmp 11), none⟩,
⟨(some 58), .bin .neq (.tmp 57) (.const (.int .i64 0)), none⟩,
⟨(some 59), .mov (.tmp 58), none⟩,
⟨(some 60), .mov (.tmp 13), (some (59, false))⟩,
⟨(some 61), .bin .neq (.tmp 60) (.const (.int .i64 0)), (some (59, false))⟩,
⟨(some 62), .pick (.tmp 59) (.const (.bool true)) (.tmp 61), none⟩])
(.cond (.tmp 62)
(.seq (.reg [⟨(some 6), .mov (.const (.bool false)), none⟩])
(.ret))
(.skip)))
(.seq (.reg [⟨(some 64), .load true 8 (.tmp 12), none⟩,
⟨(some 65), .call 15 [(.tmp 64)] .auto, none⟩,
⟨(some 63), .mov (.tmp 65), none⟩,
⟨(some 66), .extract (.tmp 63) 0, none⟩,
⟨(some 67), .extract (.tmp 63) 1, none⟩,
⟨(some 14), .mov (.tmp 66), none⟩,
⟨(some 15), .mov (.tmp 67), none⟩])
(.seq (.reg [⟨(some 68), .mov (.tmp 7), none⟩,
⟨(some 69), .mov (.tmp 68), none⟩,
⟨(some 70), .mov (.tmp 15), (some (69, true))⟩,
⟨(some 71), .bin .eql (.tmp 70) (.const (.int .i64 0)), (some (69, true))⟩,
⟨(some 72), .pick (.tmp 69) (.tmp 71) (.const (.bool false)), none⟩,
⟨(some 73), .mov (.tmp 72), none⟩,
⟨(some 74), .mov (.tmp 10), (some (73, true))⟩,
⟨(some 75), .mov (.tmp 14), (some (73, true))⟩,
⟨(some 76), .call 16 [(.tmp 74), (.tmp 75)] .auto, (some (73, true))⟩,
⟨(some 77), .pick (.tmp 73) (.tmp 76) (.const (.bool false)), none⟩,
⟨(some 6), .mov (.tmp 77), none⟩])
(.ret))))))))))),
[.tmp 6]⟩
/-- thrum/thrumlaw18.ConfBends -/
def c5 : Func1 := ⟨1,
.seq (.reg [⟨(some 1), .box 16 (.tmp 0), none⟩,
⟨(some 2), .mov (.const (.bool false)), none⟩])
(.seq (.reg [⟨(some 5), .call 25 [] .auto, none⟩,
⟨(some 3), .mov (.tmp 5), none⟩])
(.seq (.seq (.reg [⟨(some 6), .mov (.tmp 3), none⟩,
⟨(some 7), .un .not (.tmp 6), none⟩])
(.cond (.tmp 7)
(.seq (.reg [⟨(some 2), .mov (.const (.bool false)), none⟩])
(.ret))
(.skip)))
(.seq (.seq (.reg [⟨(some 8), .load true 16 (.tmp 1), none⟩,
⟨(some 9), .call 26 [(.tmp 8)] .auto, none⟩,
⟨(some 10), .un .not (.tmp 9), none⟩,
⟨(some 11), .mov (.tmp 10), none⟩,
⟨(some 12), .load true 16 (.tmp 1), (some (11, false))⟩,
⟨(some 13), .call 27 [(.tmp 12)] .auto, (some (11, false))⟩,
⟨(some 14), .bin .neq (.tmp 13) (.const (.int .i64 0)), (some (11, false))⟩,
⟨(some 15), .pick (.tmp 11) (.const (.bool true)) (.tmp 14), none⟩])
(.cond (.tmp 15)
(.seq (.reg [⟨(some 16), .mov (.tmp 3), none⟩,
⟨(some 2), .mov (.tmp 16), none⟩])
(.ret))
(.skip)))
(.seq (.reg [⟨(some 17), .load true 16 (.tmp 1), none⟩,
⟨(some 4), .box 16 (.const (.agg [(.int .i64 0), (.int .i64 0), (.int .i64 0), (.int .i64 0), (.int .i64 0), (.int .i64 0), (.int .i64 0), (.int .i64 0), (.int .i64 0), (.int .i64 0), (.int .i64 0), (.int .i64 0), (.int .i64 0), (.int .i64 0), (.int .u64 0), (.lst [] true)])), none⟩,
⟨none, .store 16 (.tmp 4) (.tmp 17), none⟩])
(.seq (.reg [⟨(some 18), .fieldAddr 0 (.tmp 4), none⟩,
⟨none, .store 1 (.tmp 18) (.const (.int .i64 0)), none⟩])
(.seq (.seq (.reg [⟨(some 19), .load true 16 (.tmp 4), none⟩,
⟨(some 20), .call 27 [(.tmp 19)] .auto, none⟩,
⟨(some 21), .bin .eql (.tmp 20) (.const (.int .i64 0)), none⟩])
(.cond (.tmp 21)
(.seq (.reg [⟨(some 2), .mov (.const (.bool false)), none⟩])
(.ret))
(.skip)))
(.seq (.reg [⟨(some 22), .load true 16 (.tmp 1), none⟩,
⟨none, .store 16 (.tmp 4) (.tmp 22), none⟩])
(.seq (.reg [⟨(some 23), .fieldAddr 15 (.tmp 4), none⟩,
⟨none, .store 1 (.tmp 23) (.const (.lst [] true)), none⟩])
(.seq (.seq (.reg [⟨(some 24), .load true 16 (.tmp 4), none⟩,
⟨(some 25), .call 27 [(.tmp 24)] .auto, none⟩,
⟨(some 26), .bin .eql (.tmp 25) (.const (.int .i64 0)), none⟩])
(.cond (.tmp 26)
(.seq (.reg [⟨(some 2), .mov (.const (.bool false)), none⟩])
(.ret))
(.skip)))
(.seq (.reg [⟨(some 27), .load true 16 (.tmp 1), none⟩,
⟨none, .store 16 (.tmp 4) (.tmp 27), none⟩])
(.seq (.reg [⟨(some 28), .fieldAddr 15 (.tmp 1), none⟩,
⟨(some 29), .load false 1 (.tmp 28), none⟩,
⟨(some 30), .len (.tmp 29), none⟩,
⟨(some 31), .bin .add (.tmp 30) (.const (.int .i64 1)), none⟩,
⟨(some 32), .fieldAddr 13 (.tmp 4), none⟩,
⟨none, .store 1 (.tmp 32) (.tmp 31), none⟩])
(.seq (.seq (.reg [⟨(some 33), .load true 16 (.tmp 4), none⟩,
⟨(some 34), .call 27 [(.tmp 33)] .auto, none⟩,
⟨(some 35), .bin .eql (.tmp 34) (.const (.int .i64 0)), none⟩])
(.cond (.tmp 35)
(.seq (.reg [⟨(some 2), .mov (.const (.bool false)), none⟩])
(.ret))
(.skip)))
(.seq (.reg [⟨(some 36), .load true 16 (.tmp 1), none⟩,
⟨none, .store 16 (.tmp 4) (.tmp 36), none⟩])
(.seq (.reg [⟨(some 37), .fieldAddr 15 (.tmp 1), none⟩,
⟨(some 38), .load false 1 (.tmp 37), none⟩,
⟨(some 39), .append 2 32 (.const (.lst [] true)) (.tmp 38), none⟩,
⟨(some 40), .build [(.lst [] true), (.int .i64 0)] [], none⟩,
⟨(some 41), .buildSlice 2 [[(.lst [] true), (.int .i64 0)]] [(0, (.tmp 40))], none⟩,
⟨(some 42), .append 2 32 (.tmp 39) (.tmp 41), none⟩,
⟨(some 43), .fieldAddr 15 (.tmp 4), none⟩,
⟨none, .store 1 (.tmp 43) (.tmp 42), none⟩])
(.seq (.seq (.reg [⟨(some 44), .load true 16 (.tmp 4), none⟩,
⟨(some 45), .call 27 [(.tmp 44)] .auto, none⟩,
⟨(some 46), .bin .eql (.tmp 45) (.const (.int .i64 0)), none⟩])
(.cond (.tmp 46)
(.seq (.reg [⟨(some 2), .mov (.const (.bool false)), none⟩])
(.ret))
(.skip)))
(.seq (.reg [⟨(some 47), .load true 16 (.tmp 1), none⟩,
⟨none, .store 16 (.tmp 4) (.tmp 47), none⟩])
(.seq (.reg [⟨(some 48), .fieldAddr 1 (.tmp 1), none⟩,
⟨(some 49), .fieldAddr 4 (.tmp 48), none⟩,
⟨(some 50), .load false 1 (.tmp 49), none⟩,
⟨(some 51), .bin .shl (.const (.int .i64 1)) (.tmp 50), none⟩,
⟨(some 52), .bin .add (.tmp 51) (.const (.int .i64 1)), none⟩,
⟨(some 53), .fieldAddr 10 (.tmp 4), none⟩,
⟨none, .store 1 (.tmp 53) (.tmp 52), none⟩])
(.seq (.seq (.reg [⟨(some 54), .load true 16 (.tmp 4), none⟩,
⟨(some 55), .call 27 [(.tmp 54)] .auto, none⟩,
⟨(some 56), .bin .eql (.tmp 55) (.const (.int .i64 0)), none⟩])
(.cond (.tmp 56)
(.seq (.reg [⟨(some 2), .mov (.const (.bool false)), none⟩])
(.ret))
(.skip)))
(.seq (.reg [⟨(some 57), .load true 16 (.tmp 1), none⟩,
⟨none, .store 16 (.tmp 4) (.tmp 57), none⟩])
(.seq (.reg [⟨(some 58), .fieldAddr 0 (.tmp 4), none⟩,
⟨none, .store 1 (.tmp 58) (.const (.int .i64 64)), none⟩])
(.seq (.reg [⟨(some 59), .mov (.tmp 3), none⟩,
⟨(some 60), .mov (.tmp 59), none⟩,
⟨(some 61), .load true 16 (.tmp 4), (some (60, true))⟩,
⟨(some 62), .call 27 [(.tmp 61)] .auto, (some (60, true))⟩,
⟨(some 63), .bin .eql (.tmp 62) (.const (.int .i64 0)), (some (60, true))⟩,
⟨(some 64), .pick (.tmp 60) (.tmp 63) (.const (.bool false)), none⟩,
⟨(some 2), .mov (.tmp 64), none⟩])
(.ret)))))))))))))))))))))),
[.tmp 2]⟩
/-- thrum/thrumlaw18.ConfWarms -/
def c6 : Func1 := ⟨3,
.seq (.reg [⟨(some 3), .box 16 (.tmp 0), none⟩,
⟨(some 6), .mov (.const (.bool false)), none⟩])
(.seq (.reg [⟨(some 14), .call 25 [] .auto, none⟩,
⟨(some 7), .mov (.tmp 14), none⟩])
(.seq (.seq (.reg [⟨(some 15), .mov (.tmp 7), none⟩,
⟨(some 16), .un .not (.tmp 15), none⟩])
(.cond (.tmp 16)
(.seq (.reg [⟨(some 6), .mov (.const (.bool false)), none⟩])
(.ret))
(.skip)))
(.seq (.seq (.reg [⟨(some 17), .load true 16 (.tmp 3), none⟩,
⟨(some 18), .call 26 [(.tmp 17)] .auto, none⟩,
⟨(some 19), .un .not (.tmp 18), none⟩,
⟨(some 20), .mov (.tmp 19), none⟩,
⟨(some 21), .load true 16 (.tmp 3), (some (20, false))⟩,
⟨(some 22), .call 27 [(.tmp 21)] .auto, (some (20, false))⟩,
⟨(some 23), .bin .neq (.tmp 22) (.const (.int .i64 0)), (some (20, false))⟩,
⟨(some 24), .pick (.tmp 20) (.const (.bool true)) (.tmp 23), none⟩])
(.cond (.tmp 24)
(.seq (.reg [⟨(some 25), .mov (.tmp 7), none⟩,
⟨(some 6), .mov (.tmp 25), none⟩])
(.ret))
(.skip)))
(.seq (.seq (.reg [⟨(some 26), .mov (.tmp 2), none⟩,
⟨(some 27), .mov (.tmp 1), none⟩,
⟨(some 28), .bin .lss (.tmp 26) (.tmp 27), none⟩])
(.cond (.tmp 28)
(.reg [⟨(some 29), .mov (.tmp 2), none⟩,
⟨(some 30), .mov (.tmp 1), none⟩,
⟨(some 1), .mov (.tmp 29), none⟩,
⟨(some 2), .mov (.tmp 30), none⟩])
(.skip)))
(.seq (.reg [⟨(some 32), .fieldAddr 1 (.tmp 3), none⟩,
⟨(some 33), .load true 5 (.tmp 32), none⟩,
⟨(some 34), .call 28 [(.tmp 33)] .auto, none⟩,
⟨(some 31), .mov (.tmp 34), none⟩,
⟨(some 35), .extract (.tmp 31) 0, none⟩,
⟨(some 36), .extract (.tmp 31) 1, none⟩,
⟨(some 8), .mov (.tmp 35), none⟩,
⟨(some 9), .mov (.tmp 36), none⟩])
(.seq (.reg [⟨(some 38), .load true 16 (.tmp 3), none⟩,
⟨(some 39), .mov (.tmp 1), none⟩,
⟨(some 40), .call 29 [(.tmp 38), (.tmp 39)] .auto, none⟩,
⟨(some 37), .mov (.tmp 40), none⟩,
⟨(some 41), .extract (.tmp 37) 0, none⟩,
⟨(some 42), .extract (.tmp 37) 1, none⟩,
⟨(some 10), .box 3 (.const (.agg [(.int .i64 0), (.int .i64 0), (.int .i64 0)])), none⟩,
⟨none, .store 3 (.tmp 10) (.tmp 41), none⟩,
⟨(some 11), .mov (.tmp 42), none⟩])
(.seq (.reg [⟨(some 44), .load true 16 (.tmp 3), none⟩,
⟨(some 45), .mov (.tmp 2), none⟩,
⟨(some 46), .call 29 [(.tmp 44), (.tmp 45)] .auto, none⟩,
⟨(some 43), .mov (.tmp 46), none⟩,
⟨(some 47), .extract (.tmp 43) 0, none⟩,
⟨(some 48), .extract (.tmp 43) 1, none⟩,
⟨(some 12), .box 3 (.const (.agg [(.int .i64 0), (.int .i64 0), (.int .i64 0)])), none⟩,
⟨none, .store 3 (.tmp 12) (.tmp 47), none⟩,
⟨(some 13), .mov (.tmp 48), none⟩])
(.seq (.seq (.reg [⟨(some 49), .mov (.tmp 9), none⟩,
⟨(some 50), .bin .neq (.tmp 49) (.const (.int .i64 0)), none⟩])
(.cond (.tmp 50)
(.seq (.reg [⟨(some 6), .mov (.const (.bool false)), none⟩])
(.ret))
(.skip)))
(.seq (.seq (.reg [⟨(some 51), .mov (.tmp 11), none⟩,
⟨(some 52), .bin .neq (.tmp 51) (.const (.int .i64 0)), none⟩,
⟨(some 53), .mov (.tmp 52), none⟩,
⟨(some 54), .mov (.tmp 13), (some (53, false))⟩,
⟨(some 55), .bin .neq (.tmp 54) (.const (.int .i64 0)), (some (53, false))⟩,
⟨(some 56), .pick (.tmp 53) (.const (.bool true)) (.tmp 55), none⟩])
(.cond (.tmp 56)
(.seq (.reg [⟨(some 57), .mov (.tmp 7), none⟩,
⟨(some 58), .mov (.tmp 57), none⟩,
⟨(some 59), .mov (.tmp 1), (some (58, true))⟩,
⟨(some 60), .bin .lss (.tmp 59) (.const (.int .i64 0)), (some (58, true))⟩,
⟨(some 61), .mov (.tmp 60), (some (58, true))⟩,
⟨(some 62), .mov (.tmp 2), (some (61, false))⟩,
⟨(some 63), .bin .gtr (.tmp 62) (.const (.int .i64 1073741824)), (some (61, false))⟩,
⟨(some 64), .pick (.tmp 61) (.const (.bool true)) (.tmp 63), (some (58, true))⟩,
⟨(some 65), .pick (.tmp 58) (.tmp 64) (.const (.bool false)), none⟩,
⟨(some 6), .mov (.tmp 65), none⟩])
(.ret))
(.skip)))
(.seq (.seq (.reg [⟨(some 66), .load true 3 (.tmp 10), none⟩,
⟨(some 67), .mov (.tmp 8), none⟩,
⟨(some 68), .call 30 [(.tmp 66), (.tmp 67)] .auto, none⟩,
⟨(some 69), .bin .neq (.tmp 68) (.const (.int .i64 0)), none⟩,
⟨(some 70), .mov (.tmp 69), none⟩,
⟨(some 71), .load true 3 (.tmp 12), (some (70, false))⟩,
⟨(some 72), .mov (.tmp 8), (some (70, false))⟩,
⟨(some 73), .call 30 [(.tmp 71), (.tmp 72)] .auto, (some (70, false))⟩,
⟨(some 74), .bin .neq (.tmp 73) (.const (.int .i64 0)), (some (70, false))⟩,
⟨(some 75), .pick (.tmp 70) (.const (.bool true)) (.tmp 74), none⟩,
⟨(some 76), .mov (.tmp 75), none⟩,
⟨(some 77), .fieldAddr 0 (.tmp 10), (some (76, false))⟩,
⟨(some 78), .load false 1 (.tmp 77), (some (76, false))⟩,
⟨(some 79), .fieldAddr 6 (.tmp 3), (some (76, false))⟩,
⟨(some 80), .fieldAddr 0 (.tmp 79), (some (76, false))⟩,
⟨(some 81), .load false 1 (.tmp 80), (some (76, false))⟩,
⟨(some 82), .bin .neq (.tmp 78) (.tmp 81), (some (76, false))⟩,
⟨(some 83), .pick (.tmp 76) (.const (.bool true)) (.tmp 82), none⟩,
⟨(some 84), .mov (.tmp 83), none⟩,
⟨(some 85), .fieldAddr 2 (.tmp 10), (some (84, false))⟩,
⟨(some 86), .load false 1 (.tmp 85), (some (84, false))⟩,
⟨(some 87), .fieldAddr 6 (.tmp 3), (some (84, false))⟩,
⟨(some 88), .fieldAddr 2 (.tmp 87), (some (84, false))⟩,
⟨(some 89), .load false 1 (.tmp 88), (some (84, false))⟩,
⟨(some 90), .bin .neq (.tmp 86) (.tmp 89), (some (84, false))⟩,
⟨(some 91), .pick (.tmp 84) (.const (.bool true)) (.tmp 90), none⟩])
(.cond (.tmp 91)
(.seq (.reg [⟨(some 6), .mov (.const (.bool false)), none⟩])
(.ret))
(.skip)))
(.seq (.seq (.reg [⟨(some 92), .fieldAddr 6 (.tmp 3), none⟩,
⟨(some 93), .fieldAddr 0 (.tmp 92), none⟩,
⟨(some 94), .load false 1 (.tmp 93), none⟩,
⟨(some 95), .bin .neq (.tmp 94) (.const (.int .i64 1)), none⟩])
(.cond (.tmp 95)
(.seq (.reg [⟨(some 96), .mov (.tmp 7), none⟩,
⟨(some 97), .mov (.tmp 96), none⟩,
⟨(some 98), .load true 3 (.tmp 10), (some (97, true))⟩,
⟨(some 99), .fieldAddr 6 (.tmp 3), (some (97, true))⟩,
⟨(some 100), .load true 3 (.tmp 99), (some (97, true))⟩,
⟨(some 101), .eqs false 3 (.tmp 98) (.tmp 100), (some (97, true))⟩,
⟨(some 102), .pick (.tmp 97) (.tmp 101) (.const (.bool false)), none⟩,
⟨(some 103), .mov (.tmp 102), none⟩,
⟨(some 104), .load true 3 (.tmp 12), (some (103, true))⟩,
⟨(some 105), .fieldAddr 6 (.tmp 3), (some (103, true))⟩,
⟨(some 106), .load true 3 (.tmp 105), (some (103, true))⟩,
⟨(some 107), .eqs false 3 (.tmp 104) (.tmp 106), (some (103, true))⟩,
⟨(some 108), .pick (.tmp 103) (.tmp 107) (.const (.bool false)), none⟩,
⟨(some 6), .mov (.tmp 108), none⟩])
(.ret))
(.skip)))
(.seq (.seq (.reg [⟨(some 109), .fieldAddr 1 (.tmp 12), none⟩,
⟨(some 110), .load false 1 (.tmp 109), none⟩,
⟨(some 111), .fieldAddr 1 (.tmp 10), none⟩,
⟨(some 112), .load false 1 (.tmp 111), none⟩,
⟨(some 113), .bin .gtr (.tmp 110) (.tmp 112), none⟩,
⟨(some 114), .mov (.tmp 113), none⟩,
⟨(some 115), .fieldAddr 1 (.tmp 12), (some (114, false))⟩,
⟨(some 116), .load false 1 (.tmp 115), (some (114, false))⟩,
⟨(some 117), .fieldAddr 6 (.tmp 3), (some (114, false))⟩,
⟨(some 118), .fieldAddr 1 (.tmp 117), (some (114, false))⟩,
⟨(some 119), .load false 1 (.tmp 118), (some (114, false))⟩,
⟨(some 120), .bin .lss (.tmp 116) (.tmp 119), (some (114, false))⟩,
⟨(some 121), .pick (.tmp 114) (.const (.bool true)) (.tmp 120), none⟩,
⟨(some 122), .mov (.tmp 121), none⟩,
⟨(some 123), .fieldAddr 1 (.tmp 10), (some (122, false))⟩,
⟨(some 124), .load false 1 (.tmp 123), (some (122, false))⟩,
⟨(some 125), .mov (.tmp 8), (some (122, false))⟩,
⟨(some 126), .bin .gtr (.tmp 124) (.tmp 125), (some (122, false))⟩,
⟨(some 127), .pick (.tmp 122) (.const (.bool true)) (.tmp 126), none⟩])
(.cond (.tmp 127)
(.seq (.reg [⟨(some 6), .mov (.const (.bool false)), none⟩])
(.ret))
(.skip)))
(.seq (.reg [⟨(some 128), .mov (.tmp 7), none⟩,
⟨(some 129), .mov (.tmp 128), none⟩,
⟨(some 130), .mov (.tmp 1), (some (129, true))⟩,
⟨(some 131), .fieldAddr 9 (.tmp 3), (some (129, true))⟩,
⟨(some 132), .load false 1 (.tmp 131), (some (129, true))⟩,
⟨(some 133), .bin .lss (.tmp 130) (.tmp 132), (some (129, true))⟩,
⟨(some 134), .mov (.tmp 133), (some (129, true))⟩,
⟨(some 135), .fieldAddr 1 (.tmp 10), (some (134, false))⟩,
⟨(some 136), .load false 1 (.tmp 135), (some (134, false))⟩,
⟨(some 137), .fieldAddr 6 (.tmp 3), (some (134, false))⟩,
⟨(some 138), .fieldAddr 1 (.tmp 137), (some (134, false))⟩,
⟨(some 139), .load false 1 (.tmp 138), (some (134, false))⟩,
⟨(some 140), .bin .eql (.tmp 136) (.tmp 139), (some (134, false))⟩,
⟨(some 141), .pick (.tmp 134) (.const (.bool true)) (.tmp 140), (some (129, true))⟩,
⟨(some 142), .pick (.tmp 129) (.tmp 141) (.const (.bool false)), none⟩,
⟨(some 143), .mov (.tmp 142), none⟩,
⟨(some 144), .mov (.tmp 1), (some (143, true))⟩,
⟨(some 145), .bin .gtr (.tmp 144) (.const (.int .i64 0)), (some (143, true))⟩,
⟨(some 146), .mov (.tmp 145), (some (143, true))⟩,
⟨(some 147), .fieldAddr 9 (.tmp 3), (some (146, false))⟩,
⟨(some 148), .load false 1 (.tmp 147), (some (146, false))⟩,
⟨(some 149), .bin .eql (.tmp 148) (.const (.int .i64 0)), (some (146, false))⟩,
⟨(some 150), .pick (.tmp 146) (.const (.bool true)) (.tmp 149), (some (143, true))⟩,
⟨(some 151), .mov (.tmp 150), (some (143, true))⟩,
⟨(some 152), .fieldAddr 1 (.tmp 10), (some (151, false))⟩,
⟨(some 153), .load false 1 (.tmp 152), (some (151, false))⟩,
⟨(some 154), .mov (.tmp 8), (some (151, false))⟩,
⟨(some 155), .bin .eql (.tmp 153) (.tmp 154), (some (151, false))⟩,
⟨(some 156), .pick (.tmp 151) (.const (.bool true)) (.tmp 155), (some (143, true))⟩,
⟨(some 157), .pick (.tmp 143) (.tmp 156) (.const (.bool false)), none⟩,
⟨(some 6), .mov (.tmp 157), none⟩])
(.ret)))))))))))))),
[.tmp 6]⟩
/-- thrum/thrumlaw18.ConfTells -/
def c7 : Func1 := ⟨4,
.seq (.reg [⟨(some 4), .box 16 (.tmp 0), none⟩,
⟨(some 8), .mov (.const (.bool false)), none⟩])
(.seq (.reg [⟨(some 22), .call 25 [] .auto, none⟩,
⟨(some 9), .mov (.tmp 22), none⟩])
(.seq (.seq (.reg [⟨(some 23), .mov (.tmp 9), none⟩,
⟨(some 24), .un .not (.tmp 23), none⟩])
(.cond (.tmp 24)
(.seq (.reg [⟨(some 8), .mov (.const (.bool false)), none⟩])
(.ret))
(.skip)))
(.seq (.seq (.reg [⟨(some 25), .load true 16 (.tmp 4), none⟩,
⟨(some 26), .call 26 [(.tmp 25)] .auto, none⟩,
⟨(some 27), .un .not (.tmp 26), none⟩])
(.cond (.tmp 27)
(.seq (.reg [⟨(some 28), .mov (.tmp 9), none⟩,
⟨(some 8), .mov (.tmp 28), none⟩])
(.ret))
(.skip)))
(.seq (.reg [⟨(some 30), .load true 16 (.tmp 4), none⟩,
⟨(some 31), .mov (.tmp 2), none⟩,
⟨(some 32), .call 29 [(.tmp 30), (.tmp 31)] .auto, none⟩,
⟨(some 29), .mov (.tmp 32), none⟩,
⟨(some 33), .extract (.tmp 29) 0, none⟩,
⟨(some 34), .extract (.tmp 29) 1, none⟩,
⟨(some 10), .box 3 (.const (.agg [(.int .i64 0), (.int .i64 0), (.int .i64 0)])), none⟩,
⟨none, .store 3 (.tmp 10) (.tmp 33), none⟩,
⟨(some 11), .mov (.tmp 34), none⟩])
(.seq (.reg [⟨(some 36), .load true 16 (.tmp 4), none⟩,
⟨(some 37), .mov (.tmp 2), none⟩,
⟨(some 38), .call 31 [(.tmp 36), (.tmp 37)] .auto, none⟩,
⟨(some 35), .mov (.tmp 38), none⟩,
⟨(some 39), .extract (.tmp 35) 0, none⟩,
⟨(some 40), .extract (.tmp 35) 1, none⟩,
⟨(some 12), .box 3 (.const (.agg [(.int .i64 0), (.int .i64 0), (.int .i64 0)])), none⟩,
⟨none, .store 3 (.tmp 12) (.tmp 39), none⟩,
⟨(some 13), .mov (.tmp 40), none⟩])
(.seq (.reg [⟨(some 42), .load true 16 (.tmp 4), none⟩,
⟨(some 43), .mov (.tmp 1), none⟩,
⟨(some 44), .mov (.tmp 2), none⟩,
⟨(some 45), .call 32 [(.tmp 42), (.tmp 43), (.tmp 44)] .auto, none⟩,
⟨(some 41), .mov (.tmp 45), none⟩,
⟨(some 46), .extract (.tmp 41) 0, none⟩,
⟨(some 47), .extract (.tmp 41) 1, none⟩,
⟨(some 14), .mov (.tmp 46), none⟩,
⟨(some 15), .mov (.tmp 47), none⟩])
(.seq (.reg [⟨(some 49), .load true 16 (.tmp 4), none⟩,
⟨(some 50), .mov (.tmp 1), none⟩,
⟨(some 51), .mov (.tmp 2), none⟩,
⟨(some 52), .call 33 [(.tmp 49), (.tmp 50), (.tmp 51)] .auto, none⟩,
⟨(some 48), .mov (.tmp 52), none⟩,
⟨(some 53), .extract (.tmp 48) 0, none⟩,
⟨(some 54), .extract (.tmp 48) 1, none⟩,
⟨(some 16), .mov (.tmp 53), none⟩,
⟨(some 17), .mov (.tmp 54), none⟩])
(.seq (.reg [⟨(some 56), .fieldAddr 13 (.tmp 4), none⟩,
⟨(some 57), .load false 1 (.tmp 56), none⟩,
⟨(some 58), .mov (.tmp 3), none⟩,
⟨(some 59), .fieldAddr 9 (.tmp 4), none⟩,
⟨(some 60), .load false 1 (.tmp 59), none⟩,
⟨(some 61), .mov (.tmp 2), none⟩,
⟨(some 62), .call 34 [(.tmp 57), (.tmp 58), (.tmp 60), (.tmp 61)] .auto, none⟩,
⟨(some 55), .mov (.tmp 62), none⟩,
⟨(some 63), .extract (.tmp 55) 0, none⟩,
⟨(some 64), .extract (.tmp 55) 1, none⟩,
⟨(some 18), .mov (.tmp 63), none⟩,
⟨(some 19), .mov (.tmp 64), none⟩])
(.seq (.reg [⟨(some 66), .fieldAddr 13 (.tmp 4), none⟩,
⟨(some 67), .load false 1 (.tmp 66), none⟩,
⟨(some 68), .mov (.tmp 3), none⟩,
⟨(some 69), .fieldAddr 9 (.tmp 4), none⟩,
⟨(some 70), .load false 1 (.tmp 69), none⟩,
⟨(some 71), .mov (.tmp 2), none⟩,
⟨(some 72), .call 35 [(.tmp 67), (.tmp 68), (.tmp 70), (.tmp 71)] .auto, none⟩,
⟨(some 65), .mov (.tmp 72), none⟩,
⟨(some 73), .extract (.tmp 65) 0, none⟩,
⟨(some 74), .extract (.tmp 65) 1, none⟩,
⟨(some 20), .mov (.tmp 73), none⟩,
⟨(some 21), .mov (.tmp 74), none⟩])
(.seq (.regd [⟨(some 75), .mov (.tmp 9), none⟩,
⟨(some 76), .mov (.tmp 75), none⟩,
⟨(some 77), .load true 16 (.tmp 4), (some (76, true))⟩,
⟨(some 78), .call 27 [(.tmp 77)] .auto, (some (76, true))⟩,
⟨(some 79), .load true 16 (.tmp 4), (some (76, true))⟩,
⟨(some 80), .call 36 [(.tmp 79)] .auto, (some (76, true))⟩,
⟨(some 81), .bin .eql (.tmp 78) (.tmp 80), (some (76, true))⟩,
⟨(some 82), .pick (.tmp 76) (.tmp 81) (.const (.bool false)), none⟩,
⟨(some 83), .mov (.tmp 82), none⟩,
⟨(some 84), .load true 3 (.tmp 10), (some (83, true))⟩,
⟨(some 85), .load true 3 (.tmp 12), (some (83, true))⟩,
⟨(some 86), .eqs false 3 (.tmp 84) (.tmp 85), (some (83, true))⟩,
⟨(some 87), .pick (.tmp 83) (.tmp 86) (.const (.bool false)), none⟩,
⟨(some 88), .mov (.tmp 87), none⟩,
⟨(some 89), .mov (.tmp 11), (some (88, true))⟩,
⟨(some 90), .mov (.tmp 13), (some (88, true))⟩,
⟨(some 91), .bin .eql (.tmp 89) (.tmp 90), (some (88, true))⟩,
⟨(some 92), .pick (.tmp 88) (.tmp 91) (.const (.bool false)), none⟩,
⟨(some 93), .mov (.tmp 92), none⟩,
⟨(some 94), .mov (.tmp 14), (some (93, true))⟩,
⟨(some 95), .mov (.tmp 16), (some (93, true))⟩,
⟨(some 96), .call 37 [(.tmp 94), (.tmp 95)] .auto, (some (93, true))⟩,
⟨(some 97), .pick (.tmp 93) (.tmp 96) (.const (.bool false)), none⟩,
⟨(some 98), .mov (.tmp 97), none⟩,
⟨(some 99), .mov (.tmp 15), (some (98, true))⟩,
⟨(some 100), .mov (.tmp 17), (some (98, true))⟩,
⟨(some 101), .bin .eql (.tmp 99) (.tmp 100), (some (98, true))⟩,
⟨(some 102), .pick (.tmp 98) (.tmp 101) (.const (.bool false)), none⟩,
⟨(some 103), .mov (.tmp 102), none⟩,
⟨(some 104), .mov (.tmp 18), (some (103, true))⟩,
⟨(some 105), .mov (.tmp 20), (some (103, true))⟩,
⟨(some 106), .bin .eql (.tmp 104) (.tmp 105), (some (103, true))⟩,
⟨(some 107), .pick (.tmp 103) (.tmp 106) (.const (.bool false)), none⟩,
⟨(some 108), .mov (.tmp 107), none⟩,
⟨(some 109), .mov (.tmp 19), (some (108, true))⟩,
⟨(some 110), .mov (.tmp 21), (some (108, true))⟩,
⟨(some 111), .bin .eql (.tmp 109) (.tmp 110), (some (108, true))⟩,
⟨(some 112), .pick (.tmp 108) (.tmp 111) (.const (.bool false)), none⟩,
⟨(some 8), .mov (.tmp 112), none⟩] [(3, 4)])
(.ret))))))))))),
[.tmp 8]⟩
/-- thrum/thrumlaw12.live -/
def c12 : Func1 := ⟨0,
.seq (.reg [⟨(some 0), .mov (.const (.bool false)), none⟩])
(.seq (.reg [⟨(some 5), .build [(.int .i64 0), (.int .i64 0), (.int .i64 0)] [(0, 1, (.const (.int .i64 1))), (1, 1, (.const (.int .i64 1)))], none⟩,
⟨(some 6), .buildSlice 1 [[(.int .i64 0)], [(.int .i64 0)]] [(0, (.const (.int .i64 3))), (1, (.const (.int .i64 (-5))))], none⟩,
⟨(some 7), .buildSlice 1 [[(.int .i64 0)], [(.int .i64 0)]] [(0, (.const (.int .i64 0))), (1, (.const (.int .i64 0)))], none⟩,
⟨(some 8), .call 50 [(.tmp 5), (.tmp 6), (.tmp 7), (.const (.int .u64 1)), (.const (.lst [] true))] .auto, none⟩,
⟨(some 4), .mov (.tmp 8), none⟩,
⟨(some 9), .extract (.tmp 4) 0, none⟩,
⟨(some 10), .extract (.tmp 4) 1, none⟩,
⟨(some 11), .extract (.tmp 4) 2, none⟩,
⟨(some 1), .box 8 (.const (.agg [(.int .i64 0), (.int .i64 0), (.lst [] true), (.lst [] true), (.int .i64 0), (.int .i64 0), (.lst [] true), (.lst [] true)])), none⟩,
⟨none, .store 8 (.tmp 1) (.tmp 9), none⟩,
⟨(some 2), .mov (.tmp 10), none⟩,
⟨(some 3), .mov (.tmp 11), none⟩])
(.seq (.reg [⟨(some 12), .mov (.tmp 3), none⟩,
⟨(some 13), .bin .eql (.tmp 12) (.const (.int .i64 0)), none⟩,
⟨(some 14), .mov (.tmp 13), none⟩,
⟨(some 15), .fieldAddr 2 (.tmp 1), (some (14, true))⟩,
⟨(some 16), .load false 1 (.tmp 15), (some (14, true))⟩,
⟨(some 17), .len (.tmp 16), (some (14, true))⟩,
⟨(some 18), .bin .eql (.tmp 17) (.const (.int .i64 1)), (some (14, true))⟩,
⟨(some 19), .pick (.tmp 14) (.tmp 18) (.const (.bool false)), none⟩,
⟨(some 20), .mov (.tmp 19), none⟩,
⟨(some 21), .fieldAddr 2 (.tmp 1), (some (20, true))⟩,
⟨(some 22), .load false 1 (.tmp 21), (some (20, true))⟩,
⟨(some 23), .indexAddr 1 (.tmp 22) (.const (.int .i64 0)), (some (20, true))⟩,
⟨(some 24), .load false 1 (.tmp 23), (some (20, true))⟩,
⟨(some 25), .bin .eql (.tmp 24) (.const (.int .i64 1)), (some (20, true))⟩,
⟨(some 26), .pick (.tmp 20) (.tmp 25) (.const (.bool false)), none⟩,
⟨(some 27), .mov (.tmp 26), none⟩,
⟨(some 28), .fieldAddr 3 (.tmp 1), (some (27, true))⟩,
⟨(some 29), .load false 1 (.tmp 28), (some (27, true))⟩,
⟨(some 30), .buildSlice 1 [[(.int .i64 0)]] [(0, (.const (.int .i64 (-5))))], (some (27, true))⟩,
⟨(some 31), .call 44 [(.tmp 29), (.tmp 30)] .auto, (some (27, true))⟩,
⟨(some 32), .pick (.tmp 27) (.tmp 31) (.const (.bool false)), none⟩,
⟨(some 33), .mov (.tmp 32), none⟩,
⟨(some 34), .mov (.tmp 2), (some (33, true))⟩,
⟨(some 35), .buildSlice 1 [[(.int .i64 0)], [(.int .i64 0)]] [(0, (.const (.int .i64 3))), (1, (.const (.int .i64 0)))], (some (33, true))⟩,
⟨(some 36), .call 44 [(.tmp 34), (.tmp 35)] .auto, (some (33, true))⟩,
⟨(some 37), .pick (.tmp 33) (.tmp 36) (.const (.bool false)), none⟩,
⟨(some 0), .mov (.tmp 37), none⟩])
(.ret))),
[.tmp 0]⟩
/-- thrum/thrumlaw12.few -/
def c13 : Func1 := ⟨2,
.seq (.reg [⟨(some 4), .mov (.const (.bool false)), none⟩])
(.seq (.seq (.reg [⟨(some 7), .mov (.tmp 1), none⟩,
⟨(some 8), .len (.tmp 7), none⟩,
⟨(some 9), .mov (.const (.int .i64 0)), none⟩])
(.block 0
(.loop [0, 1, 7, 8, 9]
(.seq (.reg [⟨(some 10), .bin .lss (.tmp 9) (.tmp 8), none⟩])
(.seq (.cond (.tmp 10)
(.skip)
(.exit 0))
(.seq (.block 1
(.seq (.reg [⟨(some 11), .indexAddr 1 (.tmp 7) (.tmp 9), none⟩,
⟨(some 12), .load false 1 (.tmp 11), none⟩,
⟨(some 6), .mov (.tmp 12), none⟩])
(.seq (.reg [⟨(some 13), .mov (.tmp 6), none⟩,
⟨(some 14), .len (.tmp 13), none⟩,
⟨(some 15), .bin .gtr (.tmp 14) (.const (.int .i64 200)), none⟩,
⟨(some 16), .mov (.tmp 15), none⟩,
⟨(some 17), .mov (.tmp 6), (some (16, true))⟩,
⟨(some 18), .len (.tmp 17), (some (16, true))⟩,
⟨(some 19), .bin .leq (.tmp 18) (.const (.int .i64 4096)), (some (16, true))⟩,
⟨(some 20), .pick (.tmp 16) (.tmp 19) (.const (.bool false)), none⟩,
⟨(some 21), .mov (.tmp 20), none⟩,
⟨(some 22), .mov (.tmp 6), (some (21, false))⟩,
⟨(some 23), .len (.tmp 22), (some (21, false))⟩,
⟨(some 24), .bin .gtr (.tmp 23) (.const (.int .i64 5000)), (some (21, false))⟩,
⟨(some 25), .pick (.tmp 21) (.const (.bool true)) (.tmp 24), none⟩])
(.cond (.tmp 25)
(.seq (.reg [⟨(some 4), .mov (.const (.bool false)), none⟩])
(.ret))
(.skip)))))
(.reg [⟨(some 26), .bin .add (.tmp 9) (.const (.int .i64 1)), none⟩,
⟨(some 9), .mov (.tmp 26), none⟩])))))))
(.seq (.reg [⟨(some 27), .mov (.tmp 0), none⟩,
⟨(some 28), .len (.tmp 27), none⟩,
⟨(some 29), .bin .leq (.tmp 28) (.const (.int .i64 50)), none⟩,
⟨(some 30), .mov (.tmp 29), none⟩,
⟨(some 31), .mov (.tmp 1), (some (30, true))⟩,
⟨(some 32), .len (.tmp 31), (some (30, true))⟩,
⟨(some 33), .bin .leq (.tmp 32) (.const (.int .i64 30)), (some (30, true))⟩,
⟨(some 34), .pick (.tmp 30) (.tmp 33) (.const (.bool false)), none⟩,
⟨(some 4), .mov (.tmp 34), none⟩])
(.ret))),
[.tmp 4]⟩
/-- thrum/press.Press -/
def c14 : Func1 := ⟨4,
.seq (.reg [⟨(some 4), .box 3 (.tmp 0), none⟩,
⟨(some 8), .box 8 (.const (.agg [(.int .i64 0), (.int .i64 0), (.lst [] true), (.lst [] true), (.int .i64 0), (.int .i64 0), (.lst [] true), (.lst [] true)])), none⟩,
⟨(some 9), .mov (.const (.int .i64 0)), none⟩])
(.seq (.reg [⟨(some 11), .mov (.tmp 1), none⟩,
⟨(some 12), .call 51 [(.tmp 11)] .auto, none⟩,
⟨(some 10), .mov (.tmp 12), none⟩])
(.seq (.seq (.reg [⟨(some 13), .mov (.tmp 10), none⟩,
⟨(some 14), .bin .eql (.tmp 13) (.const (.int .i64 0)), none⟩])
(.cond (.tmp 14)
(.reg [⟨(some 15), .load true 3 (.tmp 4), none⟩,
⟨(some 16), .mov (.tmp 1), none⟩,
⟨(some 17), .len (.tmp 16), none⟩,
⟨(some 18), .call 30 [(.tmp 15), (.tmp 17)] .auto, none⟩,
⟨(some 10), .mov (.tmp 18), none⟩])
(.skip)))
(.seq (.seq (.reg [⟨(some 19), .mov (.tmp 10), none⟩,
⟨(some 20), .bin .neq (.tmp 19) (.const (.int .i64 0)), none⟩])
(.cond (.tmp 20)
(.seq (.reg [⟨(some 21), .build [(.int .i64 0), (.int .i64 0), (.lst [] true), (.lst [] true), (.int .i64 0), (.int .i64 0), (.lst [] true), (.lst [] true)] [], none⟩,
⟨(some 22), .mov (.tmp 10), none⟩,
⟨none, .store 8 (.tmp 8) (.tmp 21), none⟩,
⟨(some 9), .mov (.tmp 22), none⟩])
(.ret))
(.skip)))
(.seq (.regd [⟨(some 23), .call 52 [] .auto, none⟩,
⟨(some 24), .fieldAddr 0 (.tmp 4), none⟩,
⟨(some 25), .load false 1 (.tmp 24), none⟩,
⟨(some 26), .lookup (.agg [.nilfn, .nilfn, .nilfn, .nilfn]) false (.tmp 23) (.tmp 25), none⟩,
⟨(some 27), .field false 1 1 (.tmp 26), none⟩,
⟨(some 28), .load true 3 (.tmp 4), none⟩,
⟨(some 29), .mov (.tmp 1), none⟩,
⟨(some 30), .mov (.tmp 2), none⟩,
⟨(some 31), .mov (.tmp 3), none⟩,
⟨(some 32), .dyn (.tmp 27) [(.tmp 28), (.tmp 29), (.tmp 30), (.tmp 31)] .auto, none⟩,
⟨(some 33), .extract (.tmp 32) 0, none⟩,
⟨(some 34), .extract (.tmp 32) 1, none⟩,
⟨none, .store 8 (.tmp 8) (.tmp 33), none⟩,
⟨(some 9), .mov (.tmp 34), none⟩] [(0, 2), (0, 5)])
(.ret))))),
[.cell 8 true 8, .tmp 9]⟩
/-- thrum/press.Loosen -/
def c15 : Func1 := ⟨1,
.seq (.reg [⟨(some 1), .box 8 (.tmp 0), none⟩,
⟨(some 2), .mov (.const (.lst [] true)), none⟩,
⟨(some 3), .mov (.const (.int .i64 0)), none⟩])
(.seq (.seq (.reg [⟨(some 4), .load true 8 (.tmp 1), none⟩,
⟨(some 5), .call 23 [(.tmp 4)] .auto, none⟩,
⟨(some 6), .un .not (.tmp 5), none⟩])
(.cond (.tmp 6)
(.seq (.reg [⟨(some 2), .mov (.const (.lst [] true)), none⟩,
⟨(some 3), .mov (.const (.int .i64 1)), none⟩])
(.ret))
(.skip)))
(.seq (.regd [⟨(some 7), .call 52 [] .auto, none⟩,
⟨(some 8), .fieldAddr 0 (.tmp 1), none⟩,
⟨(some 9), .load false 1 (.tmp 8), none⟩,
⟨(some 10), .lookup (.agg [.nilfn, .nilfn, .nilfn, .nilfn]) false (.tmp 7) (.tmp 9), none⟩,
⟨(some 11), .field false 2 1 (.tmp 10), none⟩,
⟨(some 12), .load true 8 (.tmp 1), none⟩,
⟨(some 13), .dyn (.tmp 11) [(.tmp 12)] .thaw, none⟩,
⟨(some 14), .extract (.tmp 13) 0, none⟩,
⟨(some 15), .extract (.tmp 13) 1, none⟩,
⟨(some 2), .mov (.tmp 14), none⟩,
⟨(some 3), .mov (.tmp 15), none⟩] [(0, 2), (0, 5)])
(.ret))),
[.tmp 2, .tmp 3]⟩
/-- thrum/vec.Same -/
def c16 : Func1 := ⟨2,
.seq (.reg [⟨(some 4), .mov (.const (.bool false)), none⟩])
(.seq (.reg [⟨(some 5), .mov (.tmp 0), none⟩,
⟨(some 6), .mov (.tmp 1), none⟩,
⟨(some 7), .call 53 [(.tmp 5), (.tmp 6)] .auto, none⟩,
⟨(some 4), .mov (.tmp 7), none⟩])
(.ret)),
[.tmp 4]⟩
/-- thrum/topk.Press -/
def c19 : Func1 := ⟨2,
.seq (.reg [⟨(some 4), .box 8 (.const (.agg [(.int .i64 0), (.int .i64 0), (.lst [] true), (.lst [] true), (.int .i64 0), (.int .i64 0), (.lst [] true), (.lst [] true)])), none⟩,
⟨(some 5), .mov (.const (.int .i64 0)), none⟩])
(.seq (.seq (.reg [⟨(some 9), .mov (.tmp 1), none⟩,
⟨(some 10), .len (.tmp 9), none⟩,
⟨(some 11), .bin .eql (.tmp 10) (.const (.int .i64 0)), none⟩])
(.cond (.tmp 11)
(.seq (.reg [⟨(some 12), .build [(.int .i64 0), (.int .i64 0), (.lst [] true), (.lst [] true), (.int .i64 0), (.int .i64 0), (.lst [] true), (.lst [] true)] [], none⟩,
⟨none, .store 8 (.tmp 4) (.tmp 12), none⟩,
⟨(some 5), .mov (.const (.int .i64 1)), none⟩])
(.ret))
(.skip)))
(.seq (.reg [⟨(some 14), .mov (.tmp 0), none⟩,
⟨(some 15), .mov (.tmp 1), none⟩,
⟨(some 16), .call 54 [(.tmp 14), (.tmp 15)] .thaw, none⟩,
⟨(some 13), .mov (.tmp 16), none⟩,
⟨(some 17), .extract (.tmp 13) 0, none⟩,
⟨(some 18), .extract (.tmp 13) 1, none⟩,
⟨(some 6), .mov (.tmp 17), none⟩,
⟨(some 7), .mov (.tmp 18), none⟩])
(.seq (.seq (.reg [⟨(some 19), .mov (.tmp 7), none⟩,
⟨(some 20), .bin .neq (.tmp 19) (.const (.int .i64 0)), none⟩])
(.cond (.tmp 20)
(.seq (.reg [⟨(some 21), .build [(.int .i64 0), (.int .i64 0), (.lst [] true), (.lst [] true), (.int .i64 0), (.int .i64 0), (.lst [] true), (.lst [] true)] [], none⟩,
⟨(some 22), .mov (.tmp 7), none⟩,
⟨none, .store 8 (.tmp 4) (.tmp 21), none⟩,
⟨(some 5), .mov (.tmp 22), none⟩])
(.ret))
(.skip)))
(.seq (.reg [⟨(some 24), .mov (.tmp 6), none⟩,
⟨(some 25), .mov (.tmp 1), none⟩,
⟨(some 26), .call 22 [(.tmp 24), (.tmp 25)] .thaw, none⟩,
⟨(some 23), .mov (.tmp 26), none⟩,
⟨(some 27), .extract (.tmp 23) 0, none⟩,
⟨(some 28), .extract (.tmp 23) 1, none⟩,
⟨(some 8), .mov (.tmp 27), none⟩,
⟨(some 7), .mov (.tmp 28), none⟩])
(.seq (.seq (.reg [⟨(some 29), .mov (.tmp 7), none⟩,
⟨(some 30), .bin .neq (.tmp 29) (.const (.int .i64 0)), none⟩])
(.cond (.tmp 30)
(.seq (.reg [⟨(some 31), .build [(.int .i64 0), (.int .i64 0), (.lst [] true), (.lst [] true), (.int .i64 0), (.int .i64 0), (.lst [] true), (.lst [] true)] [], none⟩,
⟨(some 32), .mov (.tmp 7), none⟩,
⟨none, .store 8 (.tmp 4) (.tmp 31), none⟩,
⟨(some 5), .mov (.tmp 32), none⟩])
(.ret))
(.skip)))
(.seq (.reg [⟨(some 33), .mov (.tmp 1), none⟩,
⟨(some 34), .len (.tmp 33), none⟩,
⟨(some 35), .mov (.tmp 6), none⟩,
⟨(some 36), .mov (.tmp 8), none⟩,
⟨(some 37), .build [(.int .i64 0), (.int .i64 0), (.lst [] true), (.lst [] true), (.int .i64 0), (.int .i64 0), (.lst [] true), (.lst [] true)] [(0, 1, (.const (.int .i64 1))), (1, 1, (.tmp 34)), (2, 1, (.tmp 35)), (3, 1, (.tmp 36))], none⟩,
⟨none, .store 8 (.tmp 4) (.tmp 37), none⟩,
⟨(some 5), .mov (.const (.int .i64 0)), none⟩])
(.ret))))))),
[.cell 4 true 8, .tmp 5]⟩
/-- thrum/index.Gather -/
def c22 : Func1 := ⟨2,
.seq (.reg [⟨(some 3), .box 1 (.tmp 1), none⟩,
⟨(some 4), .mov (.const (.lst [] true)), none⟩,
⟨(some 5), .mov (.const (.int .i64 0)), none⟩])
(.seq (.seq (.reg [⟨(some 9), .mov (.tmp 0), none⟩,
⟨(some 10), .call 65 [(.tmp 9)] .auto, none⟩,
⟨(some 11), .un .not (.tmp 10), none⟩,
⟨(some 12), .mov (.tmp 11), none⟩,
⟨(some 13), .mov (.tmp 0), (some (12, false))⟩,
⟨(some 14), .mkFunc 67 [] [(.tmp 3)], (some (12, false))⟩,
⟨(some 15), .call 66 [(.tmp 13), (.tmp 14)] .auto, (some (12, false))⟩,
⟨(some 16), .pick (.tmp 12) (.const (.bool true)) (.tmp 15), none⟩])
(.cond (.tmp 16)
(.seq (.reg [⟨(some 4), .mov (.const (.lst [] true)), none⟩,
⟨(some 5), .mov (.const (.int .i64 1)), none⟩])
(.ret))
(.skip)))
(.seq (.reg [⟨(some 17), .mov (.tmp 0), none⟩,
⟨(some 18), .len (.tmp 17), none⟩,
⟨(some 19), .mkSlice 1 8 [(.int .i64 0)] (.const (.int .i64 0)) (.tmp 18), none⟩,
⟨(some 6), .mov (.tmp 19), none⟩])
(.seq (.seq (.reg [⟨(some 20), .mov (.tmp 0), none⟩,
⟨(some 21), .len (.tmp 20), none⟩,
⟨(some 22), .mov (.const (.int .i64 0)), none⟩])
(.block 0
(.loop [3, 6, 20, 21, 22]
(.seq (.reg [⟨(some 23), .bin .lss (.tmp 22) (.tmp 21), none⟩])
(.seq (.cond (.tmp 23)
(.skip)
(.exit 0))
(.seq (.block 1
(.seq (.reg [⟨(some 24), .indexAddr 1 (.tmp 20) (.tmp 22), none⟩,
⟨(some 25), .load false 1 (.tmp 24), none⟩,
⟨(some 8), .mov (.tmp 25), none⟩])
(.reg [⟨(some 26), .mov (.tmp 6), none⟩,
⟨(some 27), .load false 1 (.tmp 3), none⟩,
⟨(some 28), .mov (.tmp 8), none⟩,
⟨(some 29), .indexAddr 1 (.tmp 27) (.tmp 28), none⟩,
⟨(some 30), .load false 1 (.tmp 29), none⟩,
⟨(some 31), .buildSlice 1 [[(.int .i64 0)]] [(0, (.tmp 30))], none⟩,
⟨(some 32), .append 1 8 (.tmp 26) (.tmp 31), none⟩,
⟨(some 6), .mov (.tmp 32), none⟩])))
(.reg [⟨(some 33), .bin .add (.tmp 22) (.const (.int .i64 1)), none⟩,
⟨(some 22), .mov (.tmp 33), none⟩])))))))
(.seq (.reg [⟨(some 34), .mov (.tmp 6), none⟩,
⟨(some 4), .mov (.tmp 34), none⟩,
⟨(some 5), .mov (.const (.int .i64 0)), none⟩])
(.ret))))),
[.tmp 4, .tmp 5]⟩
/-- thrum/frame.May -/
def c23 : Func1 := ⟨1,
.seq (.reg [⟨(some 1), .box 8 (.tmp 0), none⟩,
⟨(some 2), .mov (.const (.bool false)), none⟩])
(.seq (.reg [⟨(some 6), .load true 8 (.tmp 1), none⟩,
⟨(some 7), .call 68 [(.tmp 6)] .auto, none⟩,
⟨(some 5), .mov (.tmp 7), none⟩,
⟨(some 8), .extract (.tmp 5) 0, none⟩,
⟨(some 9), .extract (.tmp 5) 1, none⟩,
⟨(some 3), .box 8 (.const (.agg [(.int .i64 0), (.int .i64 0), (.lst [] true), (.lst [] true), (.int .i64 0), (.int .i64 0), (.lst [] true), (.lst [] true)])), none⟩,
⟨none, .store 8 (.tmp 3) (.tmp 8), none⟩,
⟨(some 4), .mov (.tmp 9), none⟩])
(.seq (.reg [⟨(some 10), .mov (.tmp 4), none⟩,
⟨(some 11), .mov (.tmp 10), none⟩,
⟨(some 12), .load true 8 (.tmp 3), (some (11, true))⟩,
⟨(some 13), .build [(.int .i64 0), (.int .i64 0), (.lst [] true), (.lst [] true), (.int .i64 0), (.int .i64 0), (.lst [] true), (.lst [] true)] [], (some (11, true))⟩,
⟨(some 14), .call 69 [(.tmp 12), (.tmp 13)] .auto, (some (11, true))⟩,
⟨(some 15), .pick (.tmp 11) (.tmp 14) (.const (.bool false)), none⟩,
⟨(some 2), .mov (.tmp 15), none⟩])
(.ret))),
[.tmp 2]⟩
/-- thrum/thrumlaw18.live -/
def c25 : Func1 := ⟨0,
.seq (.reg [⟨(some 0), .mov (.const (.bool false)), none⟩])
(.seq (.reg [⟨(some 6), .build [(.int .i64 0), (.int .i64 0), (.int .i64 0), (.int .i64 0), (.int .i64 0)] [(1, 1, (.const (.int .i64 1)))], none⟩,
⟨(some 7), .buildSlice 1 [[(.int .i64 0)]] [(0, (.const (.int .i64 1)))], none⟩,
⟨(some 8), .build [(.lst [] true), (.int .i64 0)] [(0, 1, (.tmp 7))], none⟩,
⟨(some 9), .buildSlice 2 [[(.lst [] true), (.int .i64 0)]] [(0, (.tmp 8))], none⟩,
⟨(some 10), .build [(.int .i64 0), (.int .i64 0), (.int .i64 0), (.int .i64 0), (.int .i64 0), (.int .i64 0), (.int .i64 0), (.int .i64 0), (.int .i64 0), (.int .i64 0), (.int .i64 0), (.int .i64 0), (.int .i64 0), (.int .i64 0), (.int .u64 0), (.lst [] true)] [(0, 1, (.const (.int .i64 1))), (1, 5, (.tmp 6)), (13, 1, (.const (.int .i64 1))), (15, 1, (.tmp 9))], none⟩,
⟨(some 1), .box 16 (.const (.agg [(.int .i64 0), (.int .i64 0), (.int .i64 0), (.int .i64 0), (.int .i64 0), (.int .i64 0), (.int .i64 0), (.int .i64 0), (.int .i64 0), (.int .i64 0), (.int .i64 0), (.int .i64 0), (.int .i64 0), (.int .i64 0), (.int .u64 0), (.lst [] true)])), none⟩,
⟨none, .store 16 (.tmp 1) (.tmp 10), none⟩])
(.seq (.seq (.reg [⟨(some 11), .buildSlice 1 [[(.int .i64 0)], [(.int .i64 0)], [(.int .i64 0)], [(.int .i64 0)], [(.int .i64 0)], [(.int .i64 0)]] [(0, (.const (.int .i64 10))), (1, (.const (.int .i64 8))), (2, (.const (.int .i64 6))), (3, (.const (.int .i64 4))), (4, (.const (.int .i64 2))), (5, (.const (.int .i64 2)))], none⟩,
⟨(some 12), .len (.tmp 11), none⟩,
⟨(some 13), .mov (.const (.int .i64 0)), none⟩])
(.block 0
(.loop [1, 11, 12, 13]
(.seq (.reg [⟨(some 14), .bin .lss (.tmp 13) (.tmp 12), none⟩])
(.seq (.cond (.tmp 14)
(.skip)
(.exit 0))
(.seq (.block 1
(.seq (.reg [⟨(some 15), .mov (.tmp 13), none⟩,
⟨(some 16), .indexAddr 1 (.tmp 11) (.tmp 13), none⟩,
⟨(some 17), .load false 1 (.tmp 16), none⟩,
⟨(some 2), .mov (.tmp 15), none⟩,
⟨(some 3), .mov (.tmp 17), none⟩])
(.seq (.reg [⟨(some 19), .mov (.tmp 2), none⟩,
⟨(some 20), .call 34 [(.const (.int .i64 10)), (.const (.int .i64 2)), (.const (.int .i64 4)), (.tmp 19)] .auto, none⟩,
⟨(some 18), .mov (.tmp 20), none⟩,
⟨(some 21), .extract (.tmp 18) 0, none⟩,
⟨(some 22), .extract (.tmp 18) 1, none⟩,
⟨(some 4), .mov (.tmp 21), none⟩,
⟨(some 5), .mov (.tmp 22), none⟩])
(.seq (.reg [⟨(some 23), .mov (.tmp 4), none⟩,
⟨(some 24), .mov (.tmp 3), none⟩,
⟨(some 25), .bin .neq (.tmp 23) (.tmp 24), none⟩,
⟨(some 26), .mov (.tmp 25), none⟩,
⟨(some 27), .mov (.tmp 5), (some (26, false))⟩,
⟨(some 28), .bin .neq (.tmp 27) (.const (.int .i64 0)), (some (26, false))⟩,
⟨(some 29), .pick (.tmp 26) (.const (.bool true)) (.tmp 28), none⟩])
(.cond (.tmp 29)
(.seq (.reg [⟨(some 0), .mov (.const (.bool false)), none⟩])
(.ret))
(.skip))))))
(.reg [⟨(some 30), .bin .add (.tmp 13) (.const (.int .i64 1)), none⟩,
⟨(some 13), .mov (.tmp 30), none⟩])))))))
(.seq (.reg [⟨(some 31), .load true 16 (.tmp 1), none⟩,
⟨(some 32), .call 27 [(.tmp 31)] .auto, none⟩,
⟨(some 33), .bin .eql (.tmp 32) (.const (.int .i64 0)), none⟩,
⟨(some 34), .mov (.tmp 33), none⟩,
⟨(some 35), .build [(.int .i64 0), (.int .i64 0), (.int .i64 0), (.int .i64 0), (.int .i64 0), (.int .i64 0), (.int .i64 0), (.int .i64 0), (.int .i64 0), (.int .i64 0), (.int .i64 0), (.int .i64 0), (.int .i64 0), (.int .i64 0), (.int .u64 0), (.lst [] true)] [], (some (34, true))⟩,
⟨(some 36), .call 27 [(.tmp 35)] .auto, (some (34, true))⟩,
⟨(some 37), .bin .eql (.tmp 36) (.const (.int .i64 1)), (some (34, true))⟩,
⟨(some 38), .pick (.tmp 34) (.tmp 37) (.const (.bool false)), none⟩,
⟨(some 0), .mov (.tmp 38), none⟩])
(.ret)))),
[.tmp 0]⟩
/-- thrum/thrumref18.Few -/
def c26 : Func1 := ⟨1,
.seq (.reg [⟨(some 1), .box 16 (.tmp 0), none⟩,
⟨(some 2), .mov (.const (.bool false)), none⟩])
(.seq (.seq (.reg [⟨(some 5), .fieldAddr 15 (.tmp 1), none⟩,
⟨(some 6), .load false 1 (.tmp 5), none⟩,
⟨(some 7), .len (.tmp 6), none⟩,
⟨(some 8), .mov (.const (.int .i64 0)), none⟩])
(.block 0
(.loop [1, 6, 7, 8]
(.seq (.reg [⟨(some 9), .bin .lss (.tmp 8) (.tmp 7), none⟩])
(.seq (.cond (.tmp 9)
(.skip)
(.exit 0))
(.seq (.block 1
(.seq (.reg [⟨(some 10), .indexAddr 2 (.tmp 6) (.tmp 8), none⟩,
⟨(some 11), .load true 2 (.tmp 10), none⟩,
⟨(some 4), .box 2 (.const (.agg [(.lst [] true), (.int .i64 0)])), none⟩,
⟨none, .store 2 (.tmp 4) (.tmp 11), none⟩])
(.seq (.reg [⟨(some 12), .fieldAddr 0 (.tmp 4), none⟩,
⟨(some 13), .load false 1 (.tmp 12), none⟩,
⟨(some 14), .len (.tmp 13), none⟩,
⟨(some 15), .bin .gtr (.tmp 14) (.const (.int .i64 100)), none⟩])
(.cond (.tmp 15)
(.seq (.reg [⟨(some 2), .mov (.const (.bool false)), none⟩])
(.ret))
(.skip)))))
(.reg [⟨(some 16), .bin .add (.tmp 8) (.const (.int .i64 1)), none⟩,
⟨(some 8), .mov (.tmp 16), none⟩])))))))
(.seq (.reg [⟨(some 17), .fieldAddr 15 (.tmp 1), none⟩,
⟨(some 18), .load false 1 (.tmp 17), none⟩,
⟨(some 19), .len (.tmp 18), none⟩,
⟨(some 20), .bin .leq (.tmp 19) (.const (.int .i64 300)), none⟩,
⟨(some 2), .mov (.tmp 20), none⟩])
(.ret))),
[.tmp 2]⟩
/-- thrum/conf.Check -/
def c27 : Func1 := ⟨1,
.seq (.reg [⟨(some 1), .box 16 (.tmp 0), none⟩,
⟨(some 2), .mov (.const (.int .i64 0)), none⟩])
(.seq (.reg [⟨(some 8), .fieldAddr 1 (.tmp 1), none⟩,
⟨(some 9), .load true 5 (.tmp 8), none⟩,
⟨(some 10), .call 28 [(.tmp 9)] .auto, none⟩,
⟨(some 7), .mov (.tmp 10), none⟩,
⟨(some 11), .extract (.tmp 7) 0, none⟩,
⟨(some 12), .extract (.tmp 7) 1, none⟩,
⟨(some 3), .mov (.tmp 11), none⟩,
⟨(some 4), .mov (.tmp 12), none⟩])
(.seq (.seq (.reg [⟨(some 13), .mov (.tmp 4), none⟩,
⟨(some 14), .bin .neq (.tmp 13) (.const (.int .i64 0)), none⟩,
⟨(some 15), .mov (.tmp 14), none⟩,
⟨(some 16), .fieldAddr 6 (.tmp 1), (some (15, false))⟩,
⟨(some 17), .load true 3 (.tmp 16), (some (15, false))⟩,
⟨(some 18), .mov (.tmp 3), (some (15, false))⟩,
⟨(some 19), .call 30 [(.tmp 17), (.tmp 18)] .auto, (some (15, false))⟩,
⟨(some 20), .bin .neq (.tmp 19) (.const (.int .i64 0)), (some (15, false))⟩,
⟨(some 21), .pick (.tmp 15) (.const (.bool true)) (.tmp 20), none⟩])
(.cond (.tmp 21)
(.seq (.reg [⟨(some 2), .mov (.const (.int .i64 1)), none⟩])
(.ret))
(.skip)))
(.seq (.reg [⟨(some 22), .fieldAddr 1 (.tmp 1), none⟩,
⟨(some 23), .fieldAddr 4 (.tmp 22), none⟩,
⟨(some 24), .load false 1 (.tmp 23), none⟩,
⟨(some 25), .bin .shl (.const (.int .i64 1)) (.tmp 24), none⟩,
⟨(some 5), .mov (.tmp 25), none⟩])
(.seq (.seq (.reg [⟨(some 26), .fieldAddr 0 (.tmp 1), none⟩,
⟨(some 27), .load false 1 (.tmp 26), none⟩,
⟨(some 28), .call 72 [(.tmp 27), (.const (.int .i64 1)), (.const (.int .i64 64))] .auto, none⟩,
⟨(some 29), .un .not (.tmp 28), none⟩,
⟨(some 30), .mov (.tmp 29), none⟩,
⟨(some 31), .fieldAddr 9 (.tmp 1), (some (30, false))⟩,
⟨(some 32), .load false 1 (.tmp 31), (some (30, false))⟩,
⟨(some 33), .call 72 [(.tmp 32), (.const (.int .i64 0)), (.const (.int .i64 1048576))] .auto, (some (30, false))⟩,
⟨(some 34), .un .not (.tmp 33), (some (30, false))⟩,
⟨(some 35), .pick (.tmp 30) (.const (.bool true)) (.tmp 34), none⟩,
⟨(some 36), .mov (.tmp 35), none⟩,
⟨(some 37), .fieldAddr 10 (.tmp 1), (some (36, false))⟩,
⟨(some 38), .load false 1 (.tmp 37), (some (36, false))⟩,
⟨(some 39), .mov (.tmp 5), (some (36, false))⟩,
⟨(some 40), .call 73 [(.tmp 38), (.const (.int .i64 0)), (.tmp 39)] .auto, (some (36, false))⟩,
⟨(some 41), .un .not (.tmp 40), (some (36, false))⟩,
⟨(some 42), .pick (.tmp 36) (.const (.bool true)) (.tmp 41), none⟩,
⟨(some 43), .mov (.tmp 42), none⟩,
⟨(some 44), .fieldAddr 11 (.tmp 1), (some (43, false))⟩,
⟨(some 45), .load false 1 (.tmp 44), (some (43, false))⟩,
⟨(some 46), .mov (.tmp 5), (some (43, false))⟩,
⟨(some 47), .call 73 [(.tmp 45), (.const (.int .i64 0)), (.tmp 46)] .auto, (some (43, false))⟩,
⟨(some 48), .un .not (.tmp 47), (some (43, false))⟩,
⟨(some 49), .pick (.tmp 43) (.const (.bool true)) (.tmp 48), none⟩,
⟨(some 50), .mov (.tmp 49), none⟩,
⟨(some 51), .fieldAddr 12 (.tmp 1), (some (50, false))⟩,
⟨(some 52), .load false 1 (.tmp 51), (some (50, false))⟩,
⟨(some 53), .bin .lss (.tmp 52) (.const (.int .i64 0)), (some (50, false))⟩,
⟨(some 54), .pick (.tmp 50) (.const (.bool true)) (.tmp 53), none⟩])
(.cond (.tmp 54)
(.seq (.reg [⟨(some 2), .mov (.const (.int .i64 1)), none⟩])
(.ret))
(.skip)))
(.seq (.seq (.reg [⟨(some 55), .fieldAddr 15 (.tmp 1), none⟩,
⟨(some 56), .load false 1 (.tmp 55), none⟩,
⟨(some 57), .len (.tmp 56), none⟩,
⟨(some 58), .bin .gtr (.tmp 57) (.const (.int .i64 256)), none⟩,
⟨(some 59), .mov (.tmp 58), none⟩,
⟨(some 60), .fieldAddr 13 (.tmp 1), (some (59, false))⟩,
⟨(some 61), .load false 1 (.tmp 60), (some (59, false))⟩,
⟨(some 62), .fieldAddr 15 (.tmp 1), (some (59, false))⟩,
⟨(some 63), .load false 1 (.tmp 62), (some (59, false))⟩,
⟨(some 64), .len (.tmp 63), (some (59, false))⟩,
⟨(some 65), .min (.const (.int .i64 64)) (.tmp 64), (some (59, false))⟩,
⟨(some 66), .call 72 [(.tmp 61), (.const (.int .i64 1)), (.tmp 65)] .auto, (some (59, false))⟩,
⟨(some 67), .un .not (.tmp 66), (some (59, false))⟩,
⟨(some 68), .pick (.tmp 59) (.const (.bool true)) (.tmp 67), none⟩])
(.cond (.tmp 68)
(.seq (.reg [⟨(some 2), .mov (.const (.int .i64 1)), none⟩])
(.ret))
(.skip)))
(.seq (.reg [⟨(some 69), .mov (.tmp 3), none⟩,
⟨(some 70), .mkSlice 1 8 [(.int .i64 0)] (.tmp 69) (.tmp 69), none⟩,
⟨(some 6), .box 1 (.const (.lst [] true)), none⟩,
⟨none, .store 1 (.tmp 6) (.tmp 70), none⟩])
(.seq (.seq (.reg [⟨(some 71), .fieldAddr 15 (.tmp 1), none⟩,
⟨(some 72), .load false 1 (.tmp 71), none⟩,
⟨(some 73), .mkFunc 75 [] [(.tmp 1), (.tmp 6)], none⟩,
⟨(some 74), .call 74 [(.tmp 72), (.tmp 73)] .auto, none⟩])
(.cond (.tmp 74)
(.seq (.reg [⟨(some 2), .mov (.const (.int .i64 1)), none⟩])
(.ret))
(.skip)))
(.seq (.reg [⟨(some 2), .mov (.const (.int .i64 0)), none⟩])
(.ret))))))))),
[.tmp 2]⟩
/-- thrum/model.Dim -/
def c28 : Func1 := ⟨1,
.seq (.reg [⟨(some 1), .box 5 (.tmp 0), none⟩,
⟨(some 2), .mov (.const (.int .i64 0)), none⟩,
⟨(some 3), .mov (.const (.int .i64 0)), none⟩])
(.seq (.reg [⟨(some 8), .load true 5 (.tmp 1), none⟩,
⟨(some 9), .call 77 [(.tmp 8)] .auto, none⟩,
⟨(some 7), .mov (.tmp 9), none⟩,
⟨(some 10), .extract (.tmp 7) 0, none⟩,
⟨(some 11), .extract (.tmp 7) 1, none⟩,
⟨(some 12), .extract (.tmp 7) 2, none⟩,
⟨(some 4), .mov (.tmp 10), none⟩,
⟨(some 5), .mov (.tmp 11), none⟩,
⟨(some 6), .mov (.tmp 12), none⟩])
(.seq (.reg [⟨(some 13), .mov (.tmp 5), none⟩,
⟨(some 14), .mov (.tmp 6), none⟩,
⟨(some 2), .mov (.tmp 13), none⟩,
⟨(some 3), .mov (.tmp 14), none⟩])
(.ret))),
[.tmp 2, .tmp 3]⟩
/-- thrum/conf.How -/
def c29 : Func1 := ⟨2,
.seq (.reg [⟨(some 2), .box 16 (.tmp 0), none⟩,
⟨(some 4), .box 3 (.const (.agg [(.int .i64 0), (.int .i64 0), (.int .i64 0)])), none⟩,
⟨(some 5), .mov (.const (.int .i64 0)), none⟩])
(.seq (.seq (.reg [⟨(some 8), .load true 16 (.tmp 2), none⟩,
⟨(some 9), .mov (.tmp 1), none⟩,
⟨(some 10), .call 78 [(.tmp 8), (.tmp 9)] .auto, none⟩,
⟨(some 11), .un .not (.tmp 10), none⟩])
(.cond (.tmp 11)
(.seq (.reg [⟨(some 12), .load true 3 (.tmp 4), none⟩,
⟨none, .store 3 (.tmp 4) (.tmp 12), none⟩,
⟨(some 5), .mov (.const (.int .i64 1)), none⟩])
(.ret))
(.skip)))
(.seq (.reg [⟨(some 13), .fieldAddr 6 (.tmp 2), none⟩,
⟨(some 14), .load true 3 (.tmp 13), none⟩,
⟨none, .store 3 (.tmp 4) (.tmp 14), none⟩])
(.seq (.seq (.reg [⟨(some 15), .fieldAddr 0 (.tmp 4), none⟩,
⟨(some 16), .load false 1 (.tmp 15), none⟩,
⟨(some 17), .bin .eql (.tmp 16) (.const (.int .i64 1)), none⟩])
(.cond (.tmp 17)
(.seq (.reg [⟨(some 19), .fieldAddr 1 (.tmp 2), none⟩,
⟨(some 20), .load true 5 (.tmp 19), none⟩,
⟨(some 21), .call 28 [(.tmp 20)] .auto, none⟩,
⟨(some 18), .mov (.tmp 21), none⟩,
⟨(some 22), .extract (.tmp 18) 0, none⟩,
⟨(some 23), .extract (.tmp 18) 1, none⟩,
⟨(some 6), .mov (.tmp 22), none⟩,
⟨(some 7), .mov (.tmp 23), none⟩])
(.seq (.seq (.reg [⟨(some 24), .mov (.tmp 7), none⟩,
⟨(some 25), .bin .eql (.tmp 24) (.const (.int .i64 0)), none⟩])
(.cond (.tmp 25)
(.reg [⟨(some 27), .mov (.tmp 6), none⟩,
⟨(some 28), .fieldAddr 1 (.tmp 4), none⟩,
⟨(some 29), .load false 1 (.tmp 28), none⟩,
⟨(some 30), .fieldAddr 9 (.tmp 2), none⟩,
⟨(some 31), .load false 1 (.tmp 30), none⟩,
⟨(some 32), .mov (.tmp 1), none⟩,
⟨(some 33), .call 34 [(.tmp 27), (.tmp 29), (.tmp 31), (.tmp 32)] .auto, none⟩,
⟨(some 26), .mov (.tmp 33), none⟩,
⟨(some 34), .extract (.tmp 26) 0, none⟩,
⟨(some 35), .extract (.tmp 26) 1, none⟩,
⟨(some 36), .fieldAddr 1 (.tmp 4), none⟩,
⟨none, .store 1 (.tmp 36) (.tmp 34), none⟩,
⟨(some 7), .mov (.tmp 35), none⟩])
(.skip)))
(.seq (.reg [⟨(some 37), .mov (.tmp 7), none⟩,
⟨(some 38), .bin .neq (.tmp 37) (.const (.int .i64 0)), none⟩])
(.cond (.tmp 38)
(.seq (.reg [⟨(some 39), .build [(.int .i64 0), (.int .i64 0), (.int .i64 0)] [], none⟩,
⟨(some 40), .mov (.tmp 7), none⟩,
⟨none, .store 3 (.tmp 4) (.tmp 39), none⟩,
⟨(some 5), .mov (.tmp 40), none⟩])
(.ret))
(.skip)))))
(.skip)))
(.seq (.reg [⟨(some 41), .load true 3 (.tmp 4), none⟩,
⟨none, .store 3 (.tmp 4) (.tmp 41), none⟩,
⟨(some 5), .mov (.const (.int .i64 0)), none⟩])
(.ret))))),
[.cell 4 true 3, .tmp 5]⟩
/-- thrum/press.Check -/
def c30 : Func1 := ⟨2,
.seq (.reg [⟨(some 2), .box 3 (.tmp 0), none⟩,
⟨(some 4), .mov (.const (.int .i64 0)), none⟩])
(.seq (.regd [⟨(some 8), .call 52 [] .auto, none⟩,
⟨(some 9), .fieldAddr 0 (.tmp 2), none⟩,
⟨(some 10), .load false 1 (.tmp 9), none⟩,
⟨(some 11), .lookup (.agg [.nilfn, .nilfn, .nilfn, .nilfn]) true (.tmp 8) (.tmp 10), none⟩,
⟨(some 7), .mov (.tmp 11), none⟩,
⟨(some 12), .extract (.tmp 7) 0, none⟩,
⟨(some 13), .extract (.tmp 7) 1, none⟩,
⟨(some 5), .box 4 (.const (.agg [.nilfn, .nilfn, .nilfn, .nilfn])), none⟩,
⟨none, .store 4 (.tmp 5) (.tmp 12), none⟩,
⟨(some 6), .mov (.tmp 13), none⟩] [(0, 2), (0, 7), (2, 7), (3, 7)])
(.seq (.seq (.reg [⟨(some 14), .mov (.tmp 6), none⟩,
⟨(some 15), .un .not (.tmp 14), none⟩,
⟨(some 16), .mov (.tmp 15), none⟩,
⟨(some 17), .mov (.tmp 1), (some (16, false))⟩,
⟨(some 18), .bin .lss (.tmp 17) (.const (.int .i64 1)), (some (16, false))⟩,
⟨(some 19), .pick (.tmp 16) (.const (.bool true)) (.tmp 18), none⟩,
⟨(some 20), .mov (.tmp 19), none⟩,
⟨(some 21), .mov (.tmp 1), (some (20, false))⟩,
⟨(some 22), .bin .gtr (.tmp 21) (.const (.int .i64 4096)), (some (20, false))⟩,
⟨(some 23), .pick (.tmp 20) (.const (.bool true)) (.tmp 22), none⟩,
⟨(some 24), .mov (.tmp 23), none⟩,
⟨(some 25), .fieldAddr 0 (.tmp 5), (some (24, false))⟩,
⟨(some 26), .load false 1 (.tmp 25), (some (24, false))⟩,
⟨(some 27), .load true 3 (.tmp 2), (some (24, false))⟩,
⟨(some 28), .mov (.tmp 1), (some (24, false))⟩,
⟨(some 29), .dyn (.tmp 26) [(.tmp 27), (.tmp 28)] .auto, (some (24, false))⟩,
⟨(some 30), .un .not (.tmp 29), (some (24, false))⟩,
⟨(some 31), .pick (.tmp 24) (.const (.bool true)) (.tmp 30), none⟩])
(.cond (.tmp 31)
(.seq (.reg [⟨(some 4), .mov (.const (.int .i64 1)), none⟩])
(.ret))
(.skip)))
(.seq (.reg [⟨(some 4), .mov (.const (.int .i64 0)), none⟩])
(.ret)))),
[.tmp 4]⟩
/-- thrum/thrumref18.How -/
def c31 : Func1 := ⟨2,
.seq (.reg [⟨(some 2), .box 16 (.tmp 0), none⟩,
⟨(some 4), .box 3 (.const (.agg [(.int .i64 0), (.int .i64 0), (.int .i64 0)])), none⟩,
⟨(some 5), .mov (.const (.int .i64 0)), none⟩])
(.seq (.seq (.reg [⟨(some 9), .load true 16 (.tmp 2), none⟩,
⟨(some 10), .call 36 [(.tmp 9)] .auto, none⟩,
⟨(some 11), .bin .neq (.tmp 10) (.const (.int .i64 0)), none⟩,
⟨(some 12), .mov (.tmp 11), none⟩,
⟨(some 13), .mov (.tmp 1), (some (12, false))⟩,
⟨(some 14), .bin .lss (.tmp 13) (.const (.int .i64 0)), (some (12, false))⟩,
⟨(some 15), .pick (.tmp 12) (.const (.bool true)) (.tmp 14), none⟩,
⟨(some 16), .mov (.tmp 15), none⟩,
⟨(some 17), .mov (.tmp 1), (some (16, false))⟩,
⟨(some 18), .bin .gtr (.tmp 17) (.const (.int .i64 1073741824)), (some (16, false))⟩,
⟨(some 19), .pick (.tmp 16) (.const (.bool true)) (.tmp 18), none⟩])
(.cond (.tmp 19)
(.seq (.reg [⟨(some 20), .build [(.int .i64 0), (.int .i64 0), (.int .i64 0)] [], none⟩,
⟨none, .store 3 (.tmp 4) (.tmp 20), none⟩,
⟨(some 5), .mov (.const (.int .i64 1)), none⟩])
(.ret))
(.skip)))
(.seq (.reg [⟨(some 21), .fieldAddr 6 (.tmp 2), none⟩,
⟨(some 22), .load true 3 (.tmp 21), none⟩,
⟨(some 6), .box 3 (.const (.agg [(.int .i64 0), (.int .i64 0), (.int .i64 0)])), none⟩,
⟨none, .store 3 (.tmp 6) (.tmp 22), none⟩])
(.seq (.seq (.reg [⟨(some 23), .fieldAddr 0 (.tmp 6), none⟩,
⟨(some 24), .load false 1 (.tmp 23), none⟩,
⟨(some 25), .bin .eql (.tmp 24) (.const (.int .i64 1)), none⟩])
(.cond (.tmp 25)
(.seq (.reg [⟨(some 27), .fieldAddr 1 (.tmp 2), none⟩,
⟨(some 28), .load true 5 (.tmp 27), none⟩,
⟨(some 29), .call 79 [(.tmp 28)] .auto, none⟩,
⟨(some 26), .mov (.tmp 29), none⟩,
⟨(some 30), .extract (.tmp 26) 0, none⟩,
⟨(some 31), .extract (.tmp 26) 1, none⟩,
⟨(some 7), .mov (.tmp 30), none⟩,
⟨(some 8), .mov (.tmp 31), none⟩])
(.reg [⟨(some 33), .mov (.tmp 7), none⟩,
⟨(some 34), .fieldAddr 1 (.tmp 6), none⟩,
⟨(some 35), .load false 1 (.tmp 34), none⟩,
⟨(some 36), .fieldAddr 9 (.tmp 2), none⟩,
⟨(some 37), .load false 1 (.tmp 36), none⟩,
⟨(some 38), .mov (.tmp 1), none⟩,
⟨(some 39), .call 35 [(.tmp 33), (.tmp 35), (.tmp 37), (.tmp 38)] .auto, none⟩,
⟨(some 32), .mov (.tmp 39), none⟩,
⟨(some 40), .extract (.tmp 32) 0, none⟩,
⟨(some 41), .extract (.tmp 32) 1, none⟩,
⟨(some 42), .fieldAddr 1 (.tmp 6), none⟩,
⟨none, .store 1 (.tmp 42) (.tmp 40), none⟩]))
(.skip)))
(.seq (.reg [⟨(some 43), .load true 3 (.tmp 6), none⟩,
⟨none, .store 3 (.tmp 4) (.tmp 43), none⟩,
⟨(some 5), .mov (.const (.int .i64 0)), none⟩])
(.ret))))),
[.cell 4 true 3, .tmp 5]⟩
/-- thrum/conf.Picks -/
def c32 : Func1 := ⟨3,
.seq (.reg [⟨(some 3), .box 16 (.tmp 0), none⟩,
⟨(some 6), .mov (.const (.lst [] true)), none⟩,
⟨(some 7), .mov (.const (.int .i64 0)), none⟩])
(.seq (.seq (.reg [⟨(some 8), .load true 16 (.tmp 3), none⟩,
⟨(some 9), .mov (.tmp 2), none⟩,
⟨(some 10), .call 78 [(.tmp 8), (.tmp 9)] .auto, none⟩,
⟨(some 11), .un .not (.tmp 10), none⟩,
⟨(some 12), .mov (.tmp 11), none⟩,
⟨(some 13), .mov (.tmp 1), (some (12, false))⟩,
⟨(some 14), .fieldAddr 0 (.tmp 3), (some (12, false))⟩,
⟨(some 15), .load false 1 (.tmp 14), (some (12, false))⟩,
⟨(some 16), .bin .sub (.tmp 15) (.const (.int .i64 1)), (some (12, false))⟩,
⟨(some 17), .call 72 [(.tmp 13), (.const (.int .i64 0)), (.tmp 16)] .auto, (some (12, false))⟩,
⟨(some 18), .un .not (.tmp 17), (some (12, false))⟩,
⟨(some 19), .pick (.tmp 12) (.const (.bool true)) (.tmp 18), none⟩])
(.cond (.tmp 19)
(.seq (.reg [⟨(some 6), .mov (.const (.lst [] true)), none⟩,
⟨(some 7), .mov (.const (.int .i64 1)), none⟩])
(.ret))
(.skip)))
(.seq (.reg [⟨(some 20), .fieldAddr 13 (.tmp 3), none⟩,
⟨(some 21), .load false 1 (.tmp 20), none⟩,
⟨(some 22), .fieldAddr 15 (.tmp 3), none⟩,
⟨(some 23), .load false 1 (.tmp 22), none⟩,
⟨(some 24), .len (.tmp 23), none⟩,
⟨(some 25), .fieldAddr 14 (.tmp 3), none⟩,
⟨(some 26), .load false 1 (.tmp 25), none⟩,
⟨(some 27), .mov (.tmp 1), none⟩,
⟨(some 28), .mov (.tmp 2), none⟩,
⟨(some 29), .buildSlice 1 [[(.int .i64 0)], [(.int .i64 0)]] [(0, (.tmp 27)), (1, (.tmp 28))], none⟩,
⟨(some 30), .call 80 [(.tmp 21), (.tmp 24), (.tmp 26), (.tmp 29)] .auto, none⟩,
⟨(some 31), .extract (.tmp 30) 0, none⟩,
⟨(some 32), .extract (.tmp 30) 1, none⟩,
⟨(some 6), .mov (.tmp 31), none⟩,
⟨(some 7), .mov (.tmp 32), none⟩])
(.ret))),
[.tmp 6, .tmp 7]⟩
/-- thrum/thrumref18.Picks -/
def c33 : Func1 := ⟨3,
.seq (.reg [⟨(some 3), .box 16 (.tmp 0), none⟩,
⟨(some 6), .mov (.const (.lst [] true)), none⟩,
⟨(some 7), .mov (.const (.int .i64 0)), none⟩])
(.seq (.seq (.reg [⟨(some 8), .load true 16 (.tmp 3), none⟩,
⟨(some 9), .call 36 [(.tmp 8)] .auto, none⟩,
⟨(some 10), .bin .neq (.tmp 9) (.const (.int .i64 0)), none⟩,
⟨(some 11), .mov (.tmp 10), none⟩,
⟨(some 12), .mov (.tmp 2), (some (11, false))⟩,
⟨(some 13), .bin .lss (.tmp 12) (.const (.int .i64 0)), (some (11, false))⟩,
⟨(some 14), .pick (.tmp 11) (.const (.bool true)) (.tmp 13), none⟩,
⟨(some 15), .mov (.tmp 14), none⟩,
⟨(some 16), .mov (.tmp 2), (some (15, false))⟩,
⟨(some 17), .bin .gtr (.tmp 16) (.const (.int .i64 1073741824)), (some (15, false))⟩,
⟨(some 18), .pick (.tmp 15) (.const (.bool true)) (.tmp 17), none⟩,
⟨(some 19), .mov (.tmp 18), none⟩,
⟨(some 20), .mov (.tmp 1), (some (19, false))⟩,
⟨(some 21), .bin .lss (.tmp 20) (.const (.int .i64 0)), (some (19, false))⟩,
⟨(some 22), .pick (.tmp 19) (.const (.bool true)) (.tmp 21), none⟩,
⟨(some 23), .mov (.tmp 22), none⟩,
⟨(some 24), .mov (.tmp 1), (some (23, false))⟩,
⟨(some 25), .fieldAddr 0 (.tmp 3), (some (23, false))⟩,
⟨(some 26), .load false 1 (.tmp 25), (some (23, false))⟩,
⟨(some 27), .bin .geq (.tmp 24) (.tmp 26), (some (23, false))⟩,
⟨(some 28), .pick (.tmp 23) (.const (.bool true)) (.tmp 27), none⟩])
(.cond (.tmp 28)
(.seq (.reg [⟨(some 6), .mov (.const (.lst [] true)), none⟩,
⟨(some 7), .mov (.const (.int .i64 1)), none⟩])
(.ret))
(.skip)))
(.seq (.reg [⟨(some 29), .fieldAddr 13 (.tmp 3), none⟩,
⟨(some 30), .load false 1 (.tmp 29), none⟩,
⟨(some 31), .fieldAddr 15 (.tmp 3), none⟩,
⟨(some 32), .load false 1 (.tmp 31), none⟩,
⟨(some 33), .len (.tmp 32), none⟩,
⟨(some 34), .fieldAddr 14 (.tmp 3), none⟩,
⟨(some 35), .load false 1 (.tmp 34), none⟩,
⟨(some 36), .mov (.tmp 1), none⟩,
⟨(some 37), .mov (.tmp 2), none⟩,
⟨(some 38), .buildSlice 1 [[(.int .i64 0)], [(.int .i64 0)]] [(0, (.tmp 36)), (1, (.tmp 37))], none⟩,
⟨(some 39), .call 81 [(.tmp 30), (.tmp 33), (.tmp 35), (.tmp 38)] .auto, none⟩,
⟨(some 40), .extract (.tmp 39) 0, none⟩,
⟨(some 41), .extract (.tmp 39) 1, none⟩,
⟨(some 6), .mov (.tmp 40), none⟩,
⟨(some 7), .mov (.tmp 41), none⟩])
(.ret))),
[.tmp 6, .tmp 7]⟩
/-- thrum/conf.Keep -/
def c34 : Func1 := ⟨4,
.seq (.reg [⟨(some 8), .mov (.const (.int .i64 0)), none⟩,
⟨(some 9), .mov (.const (.int .i64 0)), none⟩])
(.seq (.block 0
(.seq (.reg [⟨(some 11), .mov (.tmp 0), none⟩,
⟨(some 12), .call 72 [(.tmp 11), (.const (.int .i64 1)), (.const (.int .i64 4096))] .auto, none⟩,
⟨(some 13), .un .not (.tmp 12), none⟩,
⟨(some 14), .mov (.tmp 13), none⟩,
⟨(some 15), .mov (.tmp 1), (some (14, false))⟩,
⟨(some 16), .mov (.tmp 0), (some (14, false))⟩,
⟨(some 17), .call 72 [(.tmp 15), (.const (.int .i64 0)), (.tmp 16)] .auto, (some (14, false))⟩,
⟨(some 18), .un .not (.tmp 17), (some (14, false))⟩,
⟨(some 19), .pick (.tmp 14) (.const (.bool true)) (.tmp 18), none⟩,
⟨(some 20), .mov (.tmp 19), none⟩,
⟨(some 21), .mov (.tmp 2), (some (20, false))⟩,
⟨(some 22), .call 72 [(.tmp 21), (.const (.int .i64 0)), (.const (.int .i64 1048576))] .auto, (some (20, false))⟩,
⟨(some 23), .un .not (.tmp 22), (some (20, false))⟩,
⟨(some 24), .pick (.tmp 20) (.const (.bool true)) (.tmp 23), none⟩,
⟨(some 25), .mov (.tmp 24), none⟩,
⟨(some 26), .mov (.tmp 3), (some (25, false))⟩,
⟨(some 27), .call 72 [(.tmp 26), (.const (.int .i64 0)), (.const (.int .i64 1073741824))] .auto, (some (25, false))⟩,
⟨(some 28), .un .not (.tmp 27), (some (25, false))⟩,
⟨(some 29), .pick (.tmp 25) (.const (.bool true)) (.tmp 28), none⟩,
⟨(some 10), .mov (.tmp 29), none⟩])
(.cond (.tmp 10)
(.seq (.reg [⟨(some 8), .mov (.const (.int .i64 0)), none⟩,
⟨(some 9), .mov (.const (.int .i64 1)), none⟩])
(.ret))
(.seq (.reg [⟨(some 31), .mov (.tmp 3), none⟩,
⟨(some 32), .mov (.tmp 2), none⟩,
⟨(some 33), .bin .geq (.tmp 31) (.tmp 32), none⟩,
⟨(some 30), .mov (.tmp 33), none⟩])
(.cond (.tmp 30)
(.seq (.reg [⟨(some 34), .mov (.tmp 1), none⟩,
⟨(some 8), .mov (.tmp 34), none⟩,
⟨(some 9), .mov (.const (.int .i64 0)), none⟩])
(.ret))
(.skip))))))
(.seq (.reg [⟨(some 35), .mov (.tmp 0), none⟩,
⟨(some 36), .mov (.tmp 0), none⟩,
⟨(some 37), .mov (.tmp 1), none⟩,
⟨(some 38), .bin .sub (.tmp 36) (.tmp 37), none⟩,
⟨(some 39), .mov (.tmp 3), none⟩,
⟨(some 40), .bin .mul (.tmp 38) (.tmp 39), none⟩,
⟨(some 41), .mov (.tmp 2), none⟩,
⟨(some 42), .bin .quo (.tmp 40) (.tmp 41), none⟩,
⟨(some 43), .bin .sub (.tmp 35) (.tmp 42), none⟩,
⟨(some 8), .mov (.tmp 43), none⟩,
⟨(some 9), .mov (.const (.int .i64 0)), none⟩])
(.ret))),
[.tmp 8, .tmp 9]⟩
/-- thrum/thrumref18.Keep -/
def c35 : Func1 := ⟨4,
.seq (.reg [⟨(some 8), .mov (.const (.int .i64 0)), none⟩,
⟨(some 9), .mov (.const (.int .i64 0)), none⟩])
(.seq (.seq (.reg [⟨(some 10), .mov (.tmp 0), none⟩,
⟨(some 11), .bin .lss (.tmp 10) (.const (.int .i64 1)), none⟩,
⟨(some 12), .mov (.tmp 11), none⟩,
⟨(some 13), .mov (.tmp 0), (some (12, false))⟩,
⟨(some 14), .bin .gtr (.tmp 13) (.const (.int .i64 4096)), (some (12, false))⟩,
⟨(some 15), .pick (.tmp 12) (.const (.bool true)) (.tmp 14), none⟩,
⟨(some 16), .mov (.tmp 15), none⟩,
⟨(some 17), .mov (.tmp 1), (some (16, false))⟩,
⟨(some 18), .bin .lss (.tmp 17) (.const (.int .i64 0)), (some (16, false))⟩,
⟨(some 19), .pick (.tmp 16) (.const (.bool true)) (.tmp 18), none⟩,
⟨(some 20), .mov (.tmp 19), none⟩,
⟨(some 21), .mov (.tmp 1), (some (20, false))⟩,
⟨(some 22), .mov (.tmp 0), (some (20, false))⟩,
⟨(some 23), .bin .gtr (.tmp 21) (.tmp 22), (some (20, false))⟩,
⟨(some 24), .pick (.tmp 20) (.const (.bool true)) (.tmp 23), none⟩,
⟨(some 25), .mov (.tmp 24), none⟩,
⟨(some 26), .mov (.tmp 2), (some (25, false))⟩,
⟨(some 27), .bin .lss (.tmp 26) (.const (.int .i64 0)), (some (25, false))⟩,
⟨(some 28), .pick (.tmp 25) (.const (.bool true)) (.tmp 27), none⟩,
⟨(some 29), .mov (.tmp 28), none⟩,
⟨(some 30), .mov (.tmp 2), (some (29, false))⟩,
⟨(some 31), .bin .gtr (.tmp 30) (.const (.int .i64 1048576)), (some (29, false))⟩,
⟨(some 32), .pick (.tmp 29) (.const (.bool true)) (.tmp 31), none⟩,
⟨(some 33), .mov (.tmp 32), none⟩,
⟨(some 34), .mov (.tmp 3), (some (33, false))⟩,
⟨(some 35), .bin .lss (.tmp 34) (.const (.int .i64 0)), (some (33, false))⟩,
⟨(some 36), .pick (.tmp 33) (.const (.bool true)) (.tmp 35), none⟩,
⟨(some 37), .mov (.tmp 36), none⟩,
⟨(some 38), .mov (.tmp 3), (some (37, false))⟩,
⟨(some 39), .bin .gtr (.tmp 38) (.const (.int .i64 1073741824)), (some (37, false))⟩,
⟨(some 40), .pick (.tmp 37) (.const (.bool true)) (.tmp 39), none⟩])
(.cond (.tmp 40)
(.seq (.reg [⟨(some 8), .mov (.const (.int .i64 0)), none⟩,
⟨(some 9), .mov (.const (.int .i64 1)), none⟩])
(.ret))
(.skip)))
(.seq (.seq (.reg [⟨(some 41), .mov (.tmp 3), none⟩,
⟨(some 42), .mov (.tmp 2), none⟩,
⟨(some 43), .bin .geq (.tmp 41) (.tmp 42), none⟩])
(.cond (.tmp 43)
(.seq (.reg [⟨(some 44), .mov (.tmp 1), none⟩,
⟨(some 8), .mov (.tmp 44), none⟩,
⟨(some 9), .mov (.const (.int .i64 0)), none⟩])
(.ret))
(.skip)))
(.seq (.reg [⟨(some 45), .mov (.tmp 0), none⟩,
⟨(some 46), .mov (.tmp 0), none⟩,
⟨(some 47), .mov (.tmp 1), none⟩,
⟨(some 48), .bin .sub (.tmp 46) (.tmp 47), none⟩,
⟨(some 49), .mov (.tmp 3), none⟩,
⟨(some 50), .bin .mul (.tmp 48) (.tmp 49), none⟩,
⟨(some 51), .mov (.tmp 2), none⟩,
⟨(some 52), .bin .quo (.tmp 50) (.tmp 51), none⟩,
⟨(some 53), .bin .sub (.tmp 45) (.tmp 52), none⟩,
⟨(some 8), .mov (.tmp 53), none⟩,
⟨(some 9), .mov (.const (.int .i64 0)), none⟩])
(.ret)))),
[.tmp 8, .tmp 9]⟩
/-- thrum/thrumref18.Check -/
def c36 : Func1 := ⟨1,
.seq (.reg [⟨(some 1), .box 16 (.tmp 0), none⟩,
⟨(some 2), .mov (.const (.int .i64 0)), none⟩])
(.seq (.reg [⟨(some 9), .fieldAddr 1 (.tmp 1), none⟩,
⟨(some 10), .load true 5 (.tmp 9), none⟩,
⟨(some 11), .call 79 [(.tmp 10)] .auto, none⟩,
⟨(some 8), .mov (.tmp 11), none⟩,
⟨(some 12), .extract (.tmp 8) 0, none⟩,
⟨(some 13), .extract (.tmp 8) 1, none⟩,
⟨(some 3), .mov (.tmp 12), none⟩,
⟨(some 4), .mov (.tmp 13), none⟩])
(.seq (.seq (.reg [⟨(some 14), .mov (.tmp 4), none⟩,
⟨(some 15), .bin .neq (.tmp 14) (.const (.int .i64 0)), none⟩,
⟨(some 16), .mov (.tmp 15), none⟩,
⟨(some 17), .fieldAddr 0 (.tmp 1), (some (16, false))⟩,
⟨(some 18), .load false 1 (.tmp 17), (some (16, false))⟩,
⟨(some 19), .bin .lss (.tmp 18) (.const (.int .i64 1)), (some (16, false))⟩,
⟨(some 20), .pick (.tmp 16) (.const (.bool true)) (.tmp 19), none⟩,
⟨(some 21), .mov (.tmp 20), none⟩,
⟨(some 22), .fieldAddr 0 (.tmp 1), (some (21, false))⟩,
⟨(some 23), .load false 1 (.tmp 22), (some (21, false))⟩,
⟨(some 24), .bin .gtr (.tmp 23) (.const (.int .i64 64)), (some (21, false))⟩,
⟨(some 25), .pick (.tmp 21) (.const (.bool true)) (.tmp 24), none⟩,
⟨(some 26), .mov (.tmp 25), none⟩,
⟨(some 27), .fieldAddr 6 (.tmp 1), (some (26, false))⟩,
⟨(some 28), .load true 3 (.tmp 27), (some (26, false))⟩,
⟨(some 29), .mov (.tmp 3), (some (26, false))⟩,
⟨(some 30), .call 82 [(.tmp 28), (.tmp 29)] .auto, (some (26, false))⟩,
⟨(some 31), .bin .neq (.tmp 30) (.const (.int .i64 0)), (some (26, false))⟩,
⟨(some 32), .pick (.tmp 26) (.const (.bool true)) (.tmp 31), none⟩,
⟨(some 33), .mov (.tmp 32), none⟩,
⟨(some 34), .fieldAddr 9 (.tmp 1), (some (33, false))⟩,
⟨(some 35), .load false 1 (.tmp 34), (some (33, false))⟩,
⟨(some 36), .bin .lss (.tmp 35) (.const (.int .i64 0)), (some (33, false))⟩,
⟨(some 37), .pick (.tmp 33) (.const (.bool true)) (.tmp 36), none⟩,
⟨(some 38), .mov (.tmp 37), none⟩,
⟨(some 39), .fieldAddr 9 (.tmp 1), (some (38, false))⟩,
⟨(some 40), .load false 1 (.tmp 39), (some (38, false))⟩,
⟨(some 41), .bin .gtr (.tmp 40) (.const (.int .i64 1048576)), (some (38, false))⟩,
⟨(some 42), .pick (.tmp 38) (.const (.bool true)) (.tmp 41), none⟩])
(.cond (.tmp 42)
(.seq (.reg [⟨(some 2), .mov (.const (.int .i64 1)), none⟩])
(.ret))
(.skip)))
(.seq (.reg [⟨(some 43), .fieldAddr 1 (.tmp 1), none⟩,
⟨(some 44), .fieldAddr 4 (.tmp 43), none⟩,
⟨(some 45), .load false 1 (.tmp 44), none⟩,
⟨(some 46), .bin .shl (.const (.int .i64 1)) (.tmp 45), none⟩,
⟨(some 5), .mov (.tmp 46), none⟩])
(.seq (.seq (.reg [⟨(some 47), .fieldAddr 10 (.tmp 1), none⟩,
⟨(some 48), .load false 1 (.tmp 47), none⟩,
⟨(some 49), .bin .lss (.tmp 48) (.const (.int .i64 0)), none⟩,
⟨(some 50), .mov (.tmp 49), none⟩,
⟨(some 51), .fieldAddr 10 (.tmp 1), (some (50, false))⟩,
⟨(some 52), .load false 1 (.tmp 51), (some (50, false))⟩,
⟨(some 53), .mov (.tmp 5), (some (50, false))⟩,
⟨(some 54), .bin .gtr (.tmp 52) (.tmp 53), (some (50, false))⟩,
⟨(some 55), .pick (.tmp 50) (.const (.bool true)) (.tmp 54), none⟩,
⟨(some 56), .mov (.tmp 55), none⟩,
⟨(some 57), .fieldAddr 11 (.tmp 1), (some (56, false))⟩,
⟨(some 58), .load false 1 (.tmp 57), (some (56, false))⟩,
⟨(some 59), .bin .lss (.tmp 58) (.const (.int .i64 0)), (some (56, false))⟩,
⟨(some 60), .pick (.tmp 56) (.const (.bool true)) (.tmp 59), none⟩,
⟨(some 61), .mov (.tmp 60), none⟩,
⟨(some 62), .fieldAddr 11 (.tmp 1), (some (61, false))⟩,
⟨(some 63), .load false 1 (.tmp 62), (some (61, false))⟩,
⟨(some 64), .mov (.tmp 5), (some (61, false))⟩,
⟨(some 65), .bin .gtr (.tmp 63) (.tmp 64), (some (61, false))⟩,
⟨(some 66), .pick (.tmp 61) (.const (.bool true)) (.tmp 65), none⟩,
⟨(some 67), .mov (.tmp 66), none⟩,
⟨(some 68), .fieldAddr 12 (.tmp 1), (some (67, false))⟩,
⟨(some 69), .load false 1 (.tmp 68), (some (67, false))⟩,
⟨(some 70), .bin .lss (.tmp 69) (.const (.int .i64 0)), (some (67, false))⟩,
⟨(some 71), .pick (.tmp 67) (.const (.bool true)) (.tmp 70), none⟩])
(.cond (.tmp 71)
(.seq (.reg [⟨(some 2), .mov (.const (.int .i64 1)), none⟩])
(.ret))
(.skip)))
(.seq (.seq (.reg [⟨(some 72), .fieldAddr 15 (.tmp 1), none⟩,
⟨(some 73), .load false 1 (.tmp 72), none⟩,
⟨(some 74), .len (.tmp 73), none⟩,
⟨(some 75), .bin .gtr (.tmp 74) (.const (.int .i64 256)), none⟩,
⟨(some 76), .mov (.tmp 75), none⟩,
⟨(some 77), .fieldAddr 13 (.tmp 1), (some (76, false))⟩,
⟨(some 78), .load false 1 (.tmp 77), (some (76, false))⟩,
⟨(some 79), .bin .lss (.tmp 78) (.const (.int .i64 1)), (some (76, false))⟩,
⟨(some 80), .pick (.tmp 76) (.const (.bool true)) (.tmp 79), none⟩,
⟨(some 81), .mov (.tmp 80), none⟩,
⟨(some 82), .fieldAddr 13 (.tmp 1), (some (81, false))⟩,
⟨(some 83), .load false 1 (.tmp 82), (some (81, false))⟩,
⟨(some 84), .bin .gtr (.tmp 83) (.const (.int .i64 64)), (some (81, false))⟩,
⟨(some 85), .pick (.tmp 81) (.const (.bool true)) (.tmp 84), none⟩,
⟨(some 86), .mov (.tmp 85), none⟩,
⟨(some 87), .fieldAddr 13 (.tmp 1), (some (86, false))⟩,
⟨(some 88), .load false 1 (.tmp 87), (some (86, false))⟩,
⟨(some 89), .fieldAddr 15 (.tmp 1), (some (86, false))⟩,
⟨(some 90), .load false 1 (.tmp 89), (some (86, false))⟩,
⟨(some 91), .len (.tmp 90), (some (86, false))⟩,
⟨(some 92), .bin .gtr (.tmp 88) (.tmp 91), (some (86, false))⟩,
⟨(some 93), .pick (.tmp 86) (.const (.bool true)) (.tmp 92), none⟩])
(.cond (.tmp 93)
(.seq (.reg [⟨(some 2), .mov (.const (.int .i64 1)), none⟩])
(.ret))
(.skip)))
(.seq (.seq (.reg [⟨(some 94), .fieldAddr 15 (.tmp 1), none⟩,
⟨(some 95), .load false 1 (.tmp 94), none⟩,
⟨(some 96), .len (.tmp 95), none⟩,
⟨(some 97), .mov (.const (.int .i64 0)), none⟩])
(.block 0
(.loop [1, 3, 95, 96, 97]
(.seq (.reg [⟨(some 98), .bin .lss (.tmp 97) (.tmp 96), none⟩])
(.seq (.cond (.tmp 98)
(.skip)
(.exit 0))
(.seq (.block 1
(.seq (.reg [⟨(some 99), .indexAddr 2 (.tmp 95) (.tmp 97), none⟩,
⟨(some 100), .load true 2 (.tmp 99), none⟩,
⟨(some 7), .box 2 (.const (.agg [(.lst [] true), (.int .i64 0)])), none⟩,
⟨none, .store 2 (.tmp 7) (.tmp 100), none⟩])
(.seq (.regd [⟨(some 101), .fieldAddr 1 (.tmp 1), none⟩,
⟨(some 102), .load true 5 (.tmp 101), none⟩,
⟨(some 103), .mov (.tmp 3), none⟩,
⟨(some 104), .mkSlice 1 8 [(.int .i64 0)] (.tmp 103) (.tmp 103), none⟩,
⟨(some 105), .load true 2 (.tmp 7), none⟩,
⟨(some 106), .buildSlice 2 [[(.lst [] true), (.int .i64 0)]] [(0, (.tmp 105))], none⟩,
⟨(some 107), .call 83 [(.tmp 102), (.tmp 104), (.tmp 106)] .auto, none⟩,
⟨(some 108), .bin .neq (.tmp 107) (.const (.int .i64 0)), none⟩] [(1, 3), (3, 4), (1, 5), (3, 5)])
(.cond (.tmp 108)
(.seq (.reg [⟨(some 2), .mov (.const (.int .i64 1)), none⟩])
(.ret))
(.skip)))))
(.reg [⟨(some 109), .bin .add (.tmp 97) (.const (.int .i64 1)), none⟩,
⟨(some 97), .mov (.tmp 109), none⟩])))))))
(.seq (.reg [⟨(some 2), .mov (.const (.int .i64 0)), none⟩])
(.ret)))))))),
[.tmp 2]⟩
/-- thrum/thrumref06.Equal -/
def c37 : Func1 := ⟨2,
.seq (.reg [⟨(some 4), .mov (.const (.bool false)), none⟩])
(.seq (.seq (.reg [⟨(some 6), .mov (.tmp 0), none⟩,
⟨(some 7), .len (.tmp 6), none⟩,
⟨(some 8), .mov (.tmp 1), none⟩,
⟨(some 9), .len (.tmp 8), none⟩,
⟨(some 10), .bin .neq (.tmp 7) (.tmp 9), none⟩])
(.cond (.tmp 10)
(.seq (.reg [⟨(some 4), .mov (.const (.bool false)), none⟩])
(.ret))
(.skip)))
(.seq (.seq (.reg [⟨(some 11), .mov (.tmp 0), none⟩,
⟨(some 12), .len (.tmp 11), none⟩,
⟨(some 13), .mov (.const (.int .i64 0)), none⟩])
(.block 0
(.loop [0, 1, 12, 13]
(.seq (.reg [⟨(some 14), .bin .lss (.tmp 13) (.tmp 12), none⟩])
(.seq (.cond (.tmp 14)
(.skip)
(.exit 0))
(.seq (.block 1
(.seq (.reg [⟨(some 15), .mov (.tmp 13), none⟩,
⟨(some 5), .mov (.tmp 15), none⟩])
(.seq (.regd [⟨(some 16), .mov (.tmp 0), none⟩,
⟨(some 17), .mov (.tmp 5), none⟩,
⟨(some 18), .indexAddr 1 (.tmp 16) (.tmp 17), none⟩,
⟨(some 19), .load false 1 (.tmp 18), none⟩,
⟨(some 20), .mov (.tmp 1), none⟩,
⟨(some 21), .mov (.tmp 5), none⟩,
⟨(some 22), .indexAddr 1 (.tmp 20) (.tmp 21), none⟩,
⟨(some 23), .load false 1 (.tmp 22), none⟩,
⟨(some 24), .bin .neq (.tmp 19) (.tmp 23), none⟩] [])
(.cond (.tmp 24)
(.seq (.reg [⟨(some 4), .mov (.const (.bool false)), none⟩])
(.ret))
(.skip)))))
(.reg [⟨(some 25), .bin .add (.tmp 13) (.const (.int .i64 1)), none⟩,
⟨(some 13), .mov (.tmp 25), none⟩])))))))
(.seq (.reg [⟨(some 4), .mov (.const (.bool true)), none⟩])
(.ret)))),
[.tmp 4]⟩
/-- thrum/press.Left -/
def c40 : Func1 := ⟨2,
.seq (.reg [⟨(some 3), .box 8 (.tmp 1), none⟩,
⟨(some 4), .mov (.const (.lst [] true)), none⟩,
⟨(some 5), .mov (.const (.int .i64 0)), none⟩])
(.seq (.reg [⟨(some 9), .load true 8 (.tmp 3), none⟩,
⟨(some 10), .call 15 [(.tmp 9)] .auto, none⟩,
⟨(some 8), .mov (.tmp 10), none⟩,
⟨(some 11), .extract (.tmp 8) 0, none⟩,
⟨(some 12), .extract (.tmp 8) 1, none⟩,
⟨(some 6), .mov (.tmp 11), none⟩,
⟨(some 7), .mov (.tmp 12), none⟩])
(.seq (.seq (.reg [⟨(some 13), .mov (.tmp 7), none⟩,
⟨(some 14), .bin .neq (.tmp 13) (.const (.int .i64 0)), none⟩])
(.cond (.tmp 14)
(.seq (.reg [⟨(some 15), .mov (.tmp 7), none⟩,
⟨(some 4), .mov (.const (.lst [] true)), none⟩,
⟨(some 5), .mov (.tmp 15), none⟩])
(.ret))
(.skip)))
(.seq (.reg [⟨(some 16), .mov (.tmp 0), none⟩,
⟨(some 17), .mov (.tmp 6), none⟩,
⟨(some 18), .call 87 [(.tmp 16), (.tmp 17)] .auto, none⟩,
⟨(some 19), .extract (.tmp 18) 0, none⟩,
⟨(some 20), .extract (.tmp 18) 1, none⟩,
⟨(some 4), .mov (.tmp 19), none⟩,
⟨(some 5), .mov (.tmp 20), none⟩])
(.ret)))),
[.tmp 4, .tmp 5]⟩
/-- thrum/thrumref02.Same -/
def c44 : Func1 := ⟨2,
.seq (.reg [⟨(some 4), .mov (.const (.bool false)), none⟩])
(.seq (.seq (.reg [⟨(some 6), .mov (.tmp 0), none⟩,
⟨(some 7), .len (.tmp 6), none⟩,
⟨(some 8), .mov (.tmp 1), none⟩,
⟨(some 9), .len (.tmp 8), none⟩,
⟨(some 10), .bin .neq (.tmp 7) (.tmp 9), none⟩])
(.cond (.tmp 10)
(.seq (.reg [⟨(some 4), .mov (.const (.bool false)), none⟩])
(.ret))
(.skip)))
(.seq (.seq (.reg [⟨(some 11), .mov (.tmp 0), none⟩,
⟨(some 12), .len (.tmp 11), none⟩,
⟨(some 13), .mov (.const (.int .i64 0)), none⟩])
(.block 0
(.loop [0, 1, 12, 13]
(.seq (.reg [⟨(some 14), .bin .lss (.tmp 13) (.tmp 12), none⟩])
(.seq (.cond (.tmp 14)
(.skip)
(.exit 0))
(.seq (.block 1
(.seq (.reg [⟨(some 15), .mov (.tmp 13), none⟩,
⟨(some 5), .mov (.tmp 15), none⟩])
(.seq (.regd [⟨(some 16), .mov (.tmp 0), none⟩,
⟨(some 17), .mov (.tmp 5), none⟩,
⟨(some 18), .indexAddr 1 (.tmp 16) (.tmp 17), none⟩,
⟨(some 19), .load false 1 (.tmp 18), none⟩,
⟨(some 20), .mov (.tmp 1), none⟩,
⟨(some 21), .mov (.tmp 5), none⟩,
⟨(some 22), .indexAddr 1 (.tmp 20) (.tmp 21), none⟩,
⟨(some 23), .load false 1 (.tmp 22), none⟩,
⟨(some 24), .bin .neq (.tmp 19) (.tmp 23), none⟩] [])
(.cond (.tmp 24)
(.seq (.reg [⟨(some 4), .mov (.const (.bool false)), none⟩])
(.ret))
(.skip)))))
(.reg [⟨(some 25), .bin .add (.tmp 13) (.const (.int .i64 1)), none⟩,
⟨(some 13), .mov (.tmp 25), none⟩])))))))
(.seq (.reg [⟨(some 4), .mov (.const (.bool true)), none⟩])
(.ret)))),
[.tmp 4]⟩
/-- thrum/vec.Add -/
def c47 : Func1 := ⟨2,
.seq (.reg [⟨(some 2), .box 1 (.tmp 0), none⟩,
⟨(some 3), .box 1 (.tmp 1), none⟩,
⟨(some 4), .mov (.const (.lst [] true)), none⟩,
⟨(some 5), .mov (.const (.int .i64 0)), none⟩])
(.seq (.seq (.reg [⟨(some 7), .load false 1 (.tmp 2), none⟩,
⟨(some 8), .load false 1 (.tmp 3), none⟩,
⟨(some 9), .call 93 [(.tmp 7), (.tmp 8)] .thaw, none⟩,
⟨(some 6), .mov (.tmp 9), none⟩])
(.seq (.reg [⟨(some 10), .mov (.tmp 6), none⟩,
⟨(some 11), .bin .neq (.tmp 10) (.const (.int .i64 0)), none⟩])
(.cond (.tmp 11)
(.seq (.reg [⟨(some 12), .mov (.tmp 6), none⟩,
⟨(some 4), .mov (.const (.lst [] true)), none⟩,
⟨(some 5), .mov (.tmp 12), none⟩])
(.ret))
(.skip))))
(.seq (.reg [⟨(some 13), .load false 1 (.tmp 2), none⟩,
⟨(some 14), .len (.tmp 13), none⟩,
⟨(some 15), .mkFunc 95 [] [(.tmp 2), (.tmp 3)], none⟩,
⟨(some 16), .call 94 [(.tmp 14), (.tmp 15)] .thaw, none⟩,
⟨(some 17), .extract (.tmp 16) 0, none⟩,
⟨(some 18), .extract (.tmp 16) 1, none⟩,
⟨(some 4), .mov (.tmp 17), none⟩,
⟨(some 5), .mov (.tmp 18), none⟩])
(.ret))),
[.tmp 4, .tmp 5]⟩
/-- thrum/press.Round -/
def c50 : Func1 := ⟨5,
.seq (.reg [⟨(some 5), .box 3 (.tmp 0), none⟩,
⟨(some 10), .box 8 (.const (.agg [(.int .i64 0), (.int .i64 0), (.lst [] true), (.lst [] true), (.int .i64 0), (.int .i64 0), (.lst [] true), (.lst [] true)])), none⟩,
⟨(some 11), .mov (.const (.lst [] true)), none⟩,
⟨(some 12), .mov (.const (.int .i64 0)), none⟩])
(.seq (.reg [⟨(some 15), .mov (.tmp 1), none⟩,
⟨(some 16), .mov (.tmp 2), none⟩,
⟨(some 17), .call 47 [(.tmp 15), (.tmp 16)] .auto, none⟩,
⟨(some 14), .mov (.tmp 17), none⟩,
⟨(some 18), .extract (.tmp 14) 0, none⟩,
⟨(some 19), .extract (.tmp 14) 1, none⟩,
⟨(some 13), .mov (.tmp 18), none⟩,
⟨(some 12), .mov (.tmp 19), none⟩])
(.seq (.seq (.reg [⟨(some 20), .mov (.tmp 12), none⟩,
⟨(some 21), .bin .eql (.tmp 20) (.const (.int .i64 0)), none⟩])
(.cond (.tmp 21)
(.reg [⟨(some 23), .load true 3 (.tmp 5), none⟩,
⟨(some 24), .mov (.tmp 13), none⟩,
⟨(some 25), .mov (.tmp 3), none⟩,
⟨(some 26), .mov (.tmp 4), none⟩,
⟨(some 27), .call 14 [(.tmp 23), (.tmp 24), (.tmp 25), (.tmp 26)] .auto, none⟩,
⟨(some 22), .mov (.tmp 27), none⟩,
⟨(some 28), .extract (.tmp 22) 0, none⟩,
⟨(some 29), .extract (.tmp 22) 1, none⟩,
⟨none, .store 8 (.tmp 10) (.tmp 28), none⟩,
⟨(some 12), .mov (.tmp 29), none⟩])
(.skip)))
(.seq (.seq (.reg [⟨(some 30), .mov (.tmp 12), none⟩,
⟨(some 31), .bin .eql (.tmp 30) (.const (.int .i64 0)), none⟩])
(.cond (.tmp 31)
(.reg [⟨(some 33), .mov (.tmp 13), none⟩,
⟨(some 34), .load true 8 (.tmp 10), none⟩,
⟨(some 35), .call 40 [(.tmp 33), (.tmp 34)] .auto, none⟩,
⟨(some 32), .mov (.tmp 35), none⟩,
⟨(some 36), .extract (.tmp 32) 0, none⟩,
⟨(some 37), .extract (.tmp 32) 1, none⟩,
⟨(some 11), .mov (.tmp 36), none⟩,
⟨(some 12), .mov (.tmp 37), none⟩])
(.skip)))
(.seq (.seq (.reg [⟨(some 38), .mov (.tmp 12), none⟩,
⟨(some 39), .bin .neq (.tmp 38) (.const (.int .i64 0)), none⟩])
(.cond (.tmp 39)
(.seq (.reg [⟨(some 40), .build [(.int .i64 0), (.int .i64 0), (.lst [] true), (.lst [] true), (.int .i64 0), (.int .i64 0), (.lst [] true), (.lst [] true)] [], none⟩,
⟨(some 41), .mov (.tmp 12), none⟩,
⟨none, .store 8 (.tmp 10) (.tmp 40), none⟩,
⟨(some 11), .mov (.const (.lst [] true)), none⟩,
⟨(some 12), .mov (.tmp 41), none⟩])
(.ret))
(.skip)))
(.seq (.reg [⟨(some 42), .load true 8 (.tmp 10), none⟩,
⟨(some 43), .mov (.tmp 11), none⟩,
⟨none, .store 8 (.tmp 10) (.tmp 42), none⟩,
⟨(some 11), .mov (.tmp 43), none⟩,
⟨(some 12), .mov (.const (.int .i64 0)), none⟩])
(.ret)))))),
[.cell 10 true 8, .tmp 11, .tmp 12]⟩
/-- thrum/vec.Check -/
def c51 : Func1 := ⟨1,
.seq (.reg [⟨(some 2), .mov (.const (.int .i64 0)), none⟩])
(.seq (.seq (.reg [⟨(some 3), .mov (.tmp 0), none⟩,
⟨(some 4), .len (.tmp 3), none⟩,
⟨(some 5), .bin .gtr (.tmp 4) (.const (.int .i64 4096)), none⟩])
(.cond (.tmp 5)
(.seq (.reg [⟨(some 2), .mov (.const (.int .i64 3)), none⟩])
(.ret))
(.skip)))
(.seq (.reg [⟨(some 2), .mov (.const (.int .i64 0)), none⟩])
(.ret))),
[.tmp 2]⟩
/-- thrum/press.ways -/
def c52 : Func1 := ⟨0,
.seq (.reg [⟨(some 0), .mov (.const (.mp [])), none⟩])
(.seq (.reg [⟨(some 1), .mkMap, none⟩,
⟨(some 2), .build [.nilfn, .nilfn, .nilfn, .nilfn] [(0, 1, (.const (.func (.func 99) [] []))), (1, 1, (.const (.func (.func 100) [] []))), (2, 1, (.const (.func (.func 101) [] []))), (3, 1, (.const (.func (.func 103) [] [])))], none⟩,
⟨none, .insert (.tmp 1) (.const (.int .i64 0)) (.tmp 2), none⟩,
⟨(some 3), .build [.nilfn, .nilfn, .nilfn, .nilfn] [(0, 1, (.const (.func (.func 104) [] []))), (1, 1, (.const (.func (.func 105) [] []))), (2, 1, (.const (.func (.func 106) [] []))), (3, 1, (.const (.func (.func 108) [] [])))], none⟩,
⟨none, .insert (.tmp 1) (.const (.int .i64 1)) (.tmp 3), none⟩,
⟨(some 4), .build [.nilfn, .nilfn, .nilfn, .nilfn] [(0, 1, (.const (.func (.func 110) [] []))), (1, 1, (.const (.func (.func 111) [] []))), (2, 1, (.const (.func (.func 113) [] []))), (3, 1, (.const (.func (.func 114) [] [])))], none⟩,
⟨none, .insert (.tmp 1) (.const (.int .i64 2)) (.tmp 4), none⟩,
⟨(some 5), .build [.nilfn, .nilfn, .nilfn, .nilfn] [(0, 1, (.const (.func (.func 99) [] []))), (1, 1, (.const (.func (.func 116) [] []))), (2, 1, (.const (.func (.func 118) [] []))), (3, 1, (.const (.func (.func 119) [] [])))], none⟩,
⟨none, .insert (.tmp 1) (.const (.int .i64 3)) (.tmp 5), none⟩,
⟨(some 6), .mov (.tmp 1), none⟩,
⟨(some 0), .mov (.tmp 6), none⟩])
(.ret)),
[.tmp 0]⟩
/-- slices.Equal[[]int64,int64] -/
def c53 : Func1 := ⟨2,
.seq (.reg [⟨(some 4), .mov (.const (.bool false)), none⟩])
(.seq (.seq (.reg [⟨(some 6), .mov (.tmp 0), none⟩,
⟨(some 7), .len (.tmp 6), none⟩,
⟨(some 8), .mov (.tmp 1), none⟩,
⟨(some 9), .len (.tmp 8), none⟩,
⟨(some 10), .bin .neq (.tmp 7) (.tmp 9), none⟩])
(.cond (.tmp 10)
(.seq (.reg [⟨(some 4), .mov (.const (.bool false)), none⟩])
(.ret))
(.skip)))
(.seq (.seq (.reg [⟨(some 11), .mov (.tmp 0), none⟩,
⟨(some 12), .len (.tmp 11), none⟩,
⟨(some 13), .mov (.const (.int .i64 0)), none⟩])
(.block 0
(.loop [0, 1, 12, 13]
(.seq (.reg [⟨(some 14), .bin .lss (.tmp 13) (.tmp 12), none⟩])
(.seq (.cond (.tmp 14)
(.skip)
(.exit 0))
(.seq (.block 1
(.seq (.reg [⟨(some 15), .mov (.tmp 13), none⟩,
⟨(some 5), .mov (.tmp 15), none⟩])
(.seq (.regd [⟨(some 16), .mov (.tmp 0), none⟩,
⟨(some 17), .mov (.tmp 5), none⟩,
⟨(some 18), .indexAddr 1 (.tmp 16) (.tmp 17), none⟩,
⟨(some 19), .load false 1 (.tmp 18), none⟩,
⟨(some 20), .mov (.tmp 1), none⟩,
⟨(some 21), .mov (.tmp 5), none⟩,
⟨(some 22), .indexAddr 1 (.tmp 20) (.tmp 21), none⟩,
⟨(some 23), .load false 1 (.tmp 22), none⟩,
⟨(some 24), .bin .neq (.tmp 19) (.tmp 23), none⟩] [])
(.cond (.tmp 24)
(.seq (.reg [⟨(some 4), .mov (.const (.bool false)), none⟩])
(.ret))
(.skip)))))
(.reg [⟨(some 25), .bin .add (.tmp 13) (.const (.int .i64 1)), none⟩,
⟨(some 13), .mov (.tmp 25), none⟩])))))))
(.seq (.reg [⟨(some 4), .mov (.const (.bool true)), none⟩])
(.ret)))),
[.tmp 4]⟩
/-- thrum/topk.Pick -/
def c54 : Func1 := ⟨2,
.seq (.reg [⟨(some 4), .mov (.const (.lst [] true)), none⟩,
⟨(some 5), .mov (.const (.int .i64 0)), none⟩])
(.seq (.block 0
(.seq (.reg [⟨(some 11), .mov (.tmp 1), none⟩,
⟨(some 12), .len (.tmp 11), none⟩,
⟨(some 13), .bin .gtr (.tmp 12) (.const (.int .i64 4096)), none⟩,
⟨(some 10), .mov (.tmp 13), none⟩])
(.cond (.tmp 10)
(.seq (.reg [⟨(some 4), .mov (.const (.lst [] true)), none⟩,
⟨(some 5), .mov (.const (.int .i64 3)), none⟩])
(.ret))
(.seq (.reg [⟨(some 15), .mov (.tmp 0), none⟩,
⟨(some 16), .bin .lss (.tmp 15) (.const (.int .i64 0)), none⟩,
⟨(some 17), .mov (.tmp 16), none⟩,
⟨(some 18), .mov (.tmp 0), (some (17, false))⟩,
⟨(some 19), .mov (.tmp 1), (some (17, false))⟩,
⟨(some 20), .len (.tmp 19), (some (17, false))⟩,
⟨(some 21), .bin .gtr (.tmp 18) (.tmp 20), (some (17, false))⟩,
⟨(some 22), .pick (.tmp 17) (.const (.bool true)) (.tmp 21), none⟩,
⟨(some 14), .mov (.tmp 22), none⟩])
(.cond (.tmp 14)
(.seq (.reg [⟨(some 4), .mov (.const (.lst [] true)), none⟩,
⟨(some 5), .mov (.const (.int .i64 1)), none⟩])
(.ret))
(.skip))))))
(.seq (.reg [⟨(some 23), .buildSlice 2 [] [], none⟩,
⟨(some 24), .box 1 (.tmp 23), none⟩,
⟨(some 6), .mov (.tmp 24), none⟩])
(.seq (.seq (.reg [⟨(some 25), .mov (.tmp 1), none⟩,
⟨(some 26), .call 121 [(.tmp 25)] .auto, none⟩,
⟨(some 27), .len (.tmp 26), none⟩,
⟨(some 28), .mov (.const (.int .i64 0)), none⟩])
(.block 1
(.loop [0, 6, 26, 27, 28]
(.seq (.reg [⟨(some 29), .bin .lss (.tmp 28) (.tmp 27), none⟩])
(.seq (.cond (.tmp 29)
(.skip)
(.exit 1))
(.seq (.block 2
(.seq (.reg [⟨(some 30), .indexAddr 2 (.tmp 26) (.tmp 28), none⟩,
⟨(some 31), .load true 2 (.tmp 30), none⟩,
⟨(some 8), .box 2 (.const (.agg [(.int .i64 0), (.int .u64 0)])), none⟩,
⟨none, .store 2 (.tmp 8) (.tmp 31), none⟩])
(.seq (.reg [⟨(some 32), .mov (.tmp 6), none⟩,
⟨(some 33), .mkIface 137 (.tmp 32), none⟩,
⟨(some 34), .load true 2 (.tmp 8), none⟩,
⟨(some 35), .mkIface 142 (.tmp 34), none⟩,
⟨(some 36), .call 122 [(.tmp 33), (.tmp 35)] .auto, none⟩])
(.seq (.reg [⟨(some 37), .mov (.tmp 6), none⟩,
⟨(some 38), .nilCheck (.tmp 37), none⟩,
⟨(some 39), .load false 1 (.tmp 38), none⟩,
⟨(some 40), .call 123 [(.tmp 39)] .auto, none⟩,
⟨(some 41), .mov (.tmp 0), none⟩,
⟨(some 42), .bin .gtr (.tmp 40) (.tmp 41), none⟩])
(.cond (.tmp 42)
(.reg [⟨(some 43), .mov (.tmp 6), none⟩,
⟨(some 44), .mkIface 137 (.tmp 43), none⟩,
⟨(some 45), .call 124 [(.tmp 44)] .auto, none⟩])
(.skip))))))
(.reg [⟨(some 46), .bin .add (.tmp 28) (.const (.int .i64 1)), none⟩,
⟨(some 28), .mov (.tmp 46), none⟩])))))))
(.seq (.reg [⟨(some 47), .mov (.tmp 6), none⟩,
⟨(some 48), .nilCheck (.tmp 47), none⟩,
⟨(some 49), .load false 1 (.tmp 48), none⟩,
⟨(some 50), .call 125 [(.tmp 49)] .thaw, none⟩,
⟨(some 9), .mov (.tmp 50), none⟩])
(.seq (.reg [⟨(some 51), .mov (.tmp 9), none⟩,
⟨(some 52), .call 126 [(.tmp 51)] .shared, none⟩])
(.seq (.reg [⟨(some 53), .mov (.tmp 9), none⟩,
⟨(some 4), .mov (.tmp 53), none⟩,
⟨(some 5), .mov (.const (.int .i64 0)), none⟩])
(.ret))))))),
[.tmp 4, .tmp 5]⟩
/-- thrum/index.rises -/
def c65 : Func1 := ⟨1,
.seq (.reg [⟨(some 2), .mov (.const (.bool false)), none⟩])
(.seq (.seq (.reg [⟨(some 3), .mov (.const (.int .i64 1)), none⟩])
(.block 0
(.loop [0, 3]
(.seq (.seq (.reg [⟨(some 4), .mov (.tmp 3), none⟩,
⟨(some 5), .mov (.tmp 0), none⟩,
⟨(some 6), .len (.tmp 5), none⟩,
⟨(some 7), .bin .lss (.tmp 4) (.tmp 6), none⟩])
(.cond (.tmp 7)
(.skip)
(.exit 0)))
(.seq (.block 1
(.seq (.regd [⟨(some 10), .mov (.tmp 0), none⟩,
⟨(some 11), .mov (.tmp 3), none⟩,
⟨(some 12), .bin .sub (.tmp 11) (.const (.int .i64 1)), none⟩,
⟨(some 13), .indexAddr 1 (.tmp 10) (.tmp 12), none⟩,
⟨(some 14), .load false 1 (.tmp 13), none⟩,
⟨(some 15), .mov (.tmp 0), none⟩,
⟨(some 16), .mov (.tmp 3), none⟩,
⟨(some 17), .indexAddr 1 (.tmp 15) (.tmp 16), none⟩,
⟨(some 18), .load false 1 (.tmp 17), none⟩,
⟨(some 19), .bin .geq (.tmp 14) (.tmp 18), none⟩] [])
(.cond (.tmp 19)
(.seq (.reg [⟨(some 2), .mov (.const (.bool false)), none⟩])
(.ret))
(.skip))))
(.reg [⟨(some 8), .mov (.tmp 3), none⟩,
⟨(some 9), .bin .add (.tmp 8) (.const (.int .i64 1)), none⟩,
⟨(some 3), .mov (.tmp 9), none⟩]))))))
(.seq (.reg [⟨(some 2), .mov (.const (.bool true)), none⟩])
(.ret))),
[.tmp 2]⟩
/-- slices.ContainsFunc[[]int,int] -/
def c66 : Func1 := ⟨2,
.seq (.reg [⟨(some 4), .mov (.const (.bool false)), none⟩])
(.seq (.reg [⟨(some 5), .mov (.tmp 0), none⟩,
⟨(some 6), .mov (.tmp 1), none⟩,
⟨(some 7), .call 143 [(.tmp 5), (.tmp 6)] .auto, none⟩,
⟨(some 8), .bin .geq (.tmp 7) (.const (.int .i64 0)), none⟩,
⟨(some 4), .mov (.tmp 8), none⟩])
(.ret)),
[.tmp 4]⟩
/-- thrum/index.Gather$1 -/
def c67 : Func1 := ⟨2,
.seq (.reg [⟨(some 3), .mov (.const (.bool false)), none⟩])
(.seq (.reg [⟨(some 4), .mov (.tmp 0), none⟩,
⟨(some 5), .bin .lss (.tmp 4) (.const (.int .i64 0)), none⟩,
⟨(some 6), .mov (.tmp 5), none⟩,
⟨(some 7), .mov (.tmp 0), (some (6, false))⟩,
⟨(some 8), .load false 1 (.tmp 1), (some (6, false))⟩,
⟨(some 9), .len (.tmp 8), (some (6, false))⟩,
⟨(some 10), .bin .geq (.tmp 7) (.tmp 9), (some (6, false))⟩,
⟨(some 11), .pick (.tmp 6) (.const (.bool true)) (.tmp 10), none⟩,
⟨(some 3), .mov (.tmp 11), none⟩])
(.ret)),
[.tmp 3]⟩
/-- thrum/frame.bare -/
def c68 : Func1 := ⟨1,
.seq (.reg [⟨(some 1), .box 8 (.tmp 0), none⟩,
⟨(some 2), .box 8 (.const (.agg [(.int .i64 0), (.int .i64 0), (.lst [] true), (.lst [] true), (.int .i64 0), (.int .i64 0), (.lst [] true), (.lst [] true)])), none⟩,
⟨(some 3), .mov (.const (.bool false)), none⟩])
(.seq (.reg [⟨(some 6), .load true 8 (.tmp 1), none⟩,
⟨(some 4), .box 8 (.const (.agg [(.int .i64 0), (.int .i64 0), (.lst [] true), (.lst [] true), (.int .i64 0), (.int .i64 0), (.lst [] true), (.lst [] true)])), none⟩,
⟨none, .store 8 (.tmp 4) (.tmp 6), none⟩])
(.seq (.reg [⟨(some 7), .fieldAddr 0 (.tmp 4), none⟩,
⟨none, .store 1 (.tmp 7) (.const (.int .i64 0)), none⟩,
⟨(some 8), .fieldAddr 1 (.tmp 4), none⟩,
⟨none, .store 1 (.tmp 8) (.const (.int .i64 0)), none⟩])
(.seq (.reg [⟨(some 9), .fieldAddr 1 (.tmp 1), none⟩,
⟨(some 10), .load false 1 (.tmp 9), none⟩,
⟨(some 11), .bin .gtr (.tmp 10) (.const (.int .i64 0)), none⟩,
⟨(some 12), .mov (.tmp 11), none⟩,
⟨(some 13), .fieldAddr 1 (.tmp 1), (some (12, true))⟩,
⟨(some 14), .load false 1 (.tmp 13), (some (12, true))⟩,
⟨(some 15), .bin .leq (.tmp 14) (.const (.int .i64 4096)), (some (12, true))⟩,
⟨(some 16), .pick (.tmp 12) (.tmp 15) (.const (.bool false)), none⟩,
⟨(some 5), .mov (.tmp 16), none⟩])
(.seq (.seq (.reg [⟨(some 17), .fieldAddr 0 (.tmp 1), none⟩,
⟨(some 18), .load false 1 (.tmp 17), none⟩])
(.block 0
(.seq (.block 5
(.seq (.block 4
(.seq (.block 3
(.seq (.block 2
(.seq (.block 1
(.seq (.seq (.seq (.reg [⟨(some 20), .bin .eql (.tmp 18) (.const (.int .i64 0)), none⟩,
⟨(some 19), .mov (.tmp 20), none⟩])
(.cond (.tmp 19)
(.exit 1)
(.skip)))
(.seq (.seq (.reg [⟨(some 22), .bin .eql (.tmp 18) (.const (.int .i64 1)), none⟩,
⟨(some 21), .mov (.tmp 22), none⟩])
(.cond (.tmp 21)
(.exit 2)
(.skip)))
(.seq (.seq (.reg [⟨(some 24), .bin .eql (.tmp 18) (.const (.int .i64 2)), none⟩,
⟨(some 23), .mov (.tmp 24), none⟩])
(.cond (.tmp 23)
(.exit 3)
(.skip)))
(.seq (.reg [⟨(some 26), .bin .eql (.tmp 18) (.const (.int .i64 3)), none⟩,
⟨(some 25), .mov (.tmp 26), none⟩])
(.cond (.tmp 25)
(.exit 4)
(.skip))))))
(.exit 5)))
(.seq (.seq (.reg [⟨(some 27), .mov (.tmp 5), none⟩,
⟨(some 28), .mov (.tmp 27), none⟩,
⟨(some 29), .fieldAddr 3 (.tmp 1), (some (28, true))⟩,
⟨(some 30), .load false 1 (.tmp 29), (some (28, true))⟩,
⟨(some 31), .len (.tmp 30), (some (28, true))⟩,
⟨(some 32), .fieldAddr 1 (.tmp 1), (some (28, true))⟩,
⟨(some 33), .load false 1 (.tmp 32), (some (28, true))⟩,
⟨(some 34), .bin .eql (.tmp 31) (.tmp 33), (some (28, true))⟩,
⟨(some 35), .pick (.tmp 28) (.tmp 34) (.const (.bool false)), none⟩,
⟨(some 5), .mov (.tmp 35), none⟩])
(.reg [⟨(some 36), .fieldAddr 3 (.tmp 4), none⟩,
⟨none, .store 1 (.tmp 36) (.const (.lst [] true)), none⟩]))
(.exit 0))))
(.seq (.seq (.reg [⟨(some 37), .mov (.tmp 5), none⟩,
⟨(some 38), .mov (.tmp 37), none⟩,
⟨(some 39), .fieldAddr 1 (.tmp 1), (some (38, true))⟩,
⟨(some 40), .load false 1 (.tmp 39), (some (38, true))⟩,
⟨(some 41), .fieldAddr 2 (.tmp 1), (some (38, true))⟩,
⟨(some 42), .load false 1 (.tmp 41), (some (38, true))⟩,
⟨(some 43), .call 144 [(.tmp 40), (.tmp 42)] .auto, (some (38, true))⟩,
⟨(some 44), .bin .eql (.tmp 43) (.const (.int .i64 0)), (some (38, true))⟩,
⟨(some 45), .pick (.tmp 38) (.tmp 44) (.const (.bool false)), none⟩,
⟨(some 46), .mov (.tmp 45), none⟩,
⟨(some 47), .fieldAddr 2 (.tmp 1), (some (46, true))⟩,
⟨(some 48), .load false 1 (.tmp 47), (some (46, true))⟩,
⟨(some 49), .len (.tmp 48), (some (46, true))⟩,
⟨(some 50), .fieldAddr 3 (.tmp 1), (some (46, true))⟩,
⟨(some 51), .load false 1 (.tmp 50), (some (46, true))⟩,
⟨(some 52), .len (.tmp 51), (some (46, true))⟩,
⟨(some 53), .bin .eql (.tmp 49) (.tmp 52), (some (46, true))⟩,
⟨(some 54), .pick (.tmp 46) (.tmp 53) (.const (.bool false)), none⟩,
⟨(some 5), .mov (.tmp 54), none⟩])
(.reg [⟨(some 55), .fieldAddr 2 (.tmp 4), none⟩,
⟨none, .store 1 (.tmp 55) (.const (.lst [] true)), none⟩,
⟨(some 56), .fieldAddr 3 (.tmp 4), none⟩,
⟨none, .store 1 (.tmp 56) (.const (.lst [] true)), none⟩]))
(.exit 0))))
(.seq (.reg [⟨(some 57), .mov (.tmp 5), none⟩,
⟨(some 58), .mov (.tmp 57), none⟩,
⟨(some 59), .fieldAddr 5 (.tmp 1), (some (58, true))⟩,
⟨(some 60), .load false 1 (.tmp 59), (some (58, true))⟩,
⟨(some 61), .bin .gtr (.tmp 60) (.const (.int .i64 0)), (some (58, true))⟩,
⟨(some 62), .pick (.tmp 58) (.tmp 61) (.const (.bool false)), none⟩,
⟨(some 63), .mov (.tmp 62), none⟩,
⟨(some 64), .fieldAddr 5 (.tmp 1), (some (63, true))⟩,
⟨(some 65), .load false 1 (.tmp 64), (some (63, true))⟩,
⟨(some 66), .bin .leq (.tmp 65) (.const (.int .i64 8)), (some (63, true))⟩,
⟨(some 67), .pick (.tmp 63) (.tmp 66) (.const (.bool false)), none⟩,
⟨(some 68), .mov (.tmp 67), none⟩,
⟨(some 69), .fieldAddr 6 (.tmp 1), (some (68, true))⟩,
⟨(some 70), .load false 1 (.tmp 69), (some (68, true))⟩,
⟨(some 71), .len (.tmp 70), (some (68, true))⟩,
⟨(some 72), .fieldAddr 1 (.tmp 1), (some (68, true))⟩,
⟨(some 73), .load false 1 (.tmp 72), (some (68, true))⟩,
⟨(some 74), .bin .eql (.tmp 71) (.tmp 73), (some (68, true))⟩,
⟨(some 75), .pick (.tmp 68) (.tmp 74) (.const (.bool false)), none⟩,
⟨(some 76), .mov (.tmp 75), none⟩,
⟨(some 77), .fieldAddr 6 (.tmp 1), (some (76, true))⟩,
⟨(some 78), .load false 1 (.tmp 77), (some (76, true))⟩,
⟨(some 79), .mkFunc 146 [] [(.tmp 1)], (some (76, true))⟩,
⟨(some 80), .call 145 [(.tmp 78), (.tmp 79)] .auto, (some (76, true))⟩,
⟨(some 81), .un .not (.tmp 80), (some (76, true))⟩,
⟨(some 82), .pick (.tmp 76) (.tmp 81) (.const (.bool false)), none⟩,
⟨(some 5), .mov (.tmp 82), none⟩])
(.reg [⟨(some 83), .fieldAddr 6 (.tmp 4), none⟩,
⟨none, .store 1 (.tmp 83) (.const (.lst [] true)), none⟩,
⟨(some 84), .fieldAddr 5 (.tmp 4), none⟩,
⟨none, .store 1 (.tmp 84) (.const (.int .i64 0)), none⟩]))))
(.seq (.seq (.reg [⟨(some 85), .mov (.tmp 5), none⟩,
⟨(some 86), .mov (.tmp 85), none⟩,
⟨(some 87), .fieldAddr 4 (.tmp 1), (some (86, true))⟩,
⟨(some 88), .load false 1 (.tmp 87), (some (86, true))⟩,
⟨(some 89), .bin .geq (.tmp 88) (.const (.int .i64 0)), (some (86, true))⟩,
⟨(some 90), .pick (.tmp 86) (.tmp 89) (.const (.bool false)), none⟩,
⟨(some 91), .mov (.tmp 90), none⟩,
⟨(some 92), .fieldAddr 7 (.tmp 1), (some (91, true))⟩,
⟨(some 93), .load false 1 (.tmp 92), (some (91, true))⟩,
⟨(some 94), .len (.tmp 93), (some (91, true))⟩,
⟨(some 95), .fieldAddr 1 (.tmp 1), (some (91, true))⟩,
⟨(some 96), .load false 1 (.tmp 95), (some (91, true))⟩,
⟨(some 97), .bin .eql (.tmp 94) (.tmp 96), (some (91, true))⟩,
⟨(some 98), .pick (.tmp 91) (.tmp 97) (.const (.bool false)), none⟩,
⟨(some 5), .mov (.tmp 98), none⟩])
(.reg [⟨(some 99), .fieldAddr 4 (.tmp 4), none⟩,
⟨none, .store 1 (.tmp 99) (.const (.int .i64 0)), none⟩,
⟨(some 100), .fieldAddr 7 (.tmp 4), none⟩,
⟨none, .store 1 (.tmp 100) (.const (.lst [] true)), none⟩]))
(.exit 0))))
(.seq (.reg [⟨(some 5), .mov (.const (.bool false)), none⟩])
(.exit 0)))))
(.seq (.reg [⟨(some 101), .load true 8 (.tmp 4), none⟩,
⟨(some 102), .mov (.tmp 5), none⟩,
⟨none, .store 8 (.tmp 2) (.tmp 101), none⟩,
⟨(some 3), .mov (.tmp 102), none⟩])
(.ret)))))),
[.cell 2 true 8, .tmp 3]⟩
/-- thrum/frame.same -/
def c69 : Func1 := ⟨2,
.seq (.reg [⟨(some 2), .box 8 (.tmp 0), none⟩,
⟨(some 3), .box 8 (.tmp 1), none⟩,
⟨(some 4), .mov (.const (.bool false)), none⟩])
(.seq (.reg [⟨(some 5), .fieldAddr 0 (.tmp 2), none⟩,
⟨(some 6), .load false 1 (.tmp 5), none⟩,
⟨(some 7), .fieldAddr 1 (.tmp 2), none⟩,
⟨(some 8), .load false 1 (.tmp 7), none⟩,
⟨(some 9), .fieldAddr 4 (.tmp 2), none⟩,
⟨(some 10), .load false 1 (.tmp 9), none⟩,
⟨(some 11), .fieldAddr 5 (.tmp 2), none⟩,
⟨(some 12), .load false 1 (.tmp 11), none⟩,
⟨(some 13), .build [(.int .i64 0), (.int .i64 0), (.int .i64 0), (.int .i64 0)] [(0, 1, (.tmp 6)), (1, 1, (.tmp 8)), (2, 1, (.tmp 10)), (3, 1, (.tmp 12))], none⟩,
⟨(some 14), .fieldAddr 0 (.tmp 3), none⟩,
⟨(some 15), .load false 1 (.tmp 14), none⟩,
⟨(some 16), .fieldAddr 1 (.tmp 3), none⟩,
⟨(some 17), .load false 1 (.tmp 16), none⟩,
⟨(some 18), .fieldAddr 4 (.tmp 3), none⟩,
⟨(some 19), .load false 1 (.tmp 18), none⟩,
⟨(some 20), .fieldAddr 5 (.tmp 3), none⟩,
⟨(some 21), .load false 1 (.tmp 20), none⟩,
⟨(some 22), .build [(.int .i64 0), (.int .i64 0), (.int .i64 0), (.int .i64 0)] [(0, 1, (.tmp 15)), (1, 1, (.tmp 17)), (2, 1, (.tmp 19)), (3, 1, (.tmp 21))], none⟩,
⟨(some 23), .eqs false 4 (.tmp 13) (.tmp 22), none⟩,
⟨(some 24), .mov (.tmp 23), none⟩,
⟨(some 25), .fieldAddr 2 (.tmp 2), (some (24, true))⟩,
⟨(some 26), .load false 1 (.tmp 25), (some (24, true))⟩,
⟨(some 27), .fieldAddr 2 (.tmp 3), (some (24, true))⟩,
⟨(some 28), .load false 1 (.tmp 27), (some (24, true))⟩,
⟨(some 29), .call 148 [(.tmp 26), (.tmp 28)] .auto, (some (24, true))⟩,
⟨(some 30), .pick (.tmp 24) (.tmp 29) (.const (.bool false)), none⟩,
⟨(some 31), .mov (.tmp 30), none⟩,
⟨(some 32), .fieldAddr 3 (.tmp 2), (some (31, true))⟩,
⟨(some 33), .load false 1 (.tmp 32), (some (31, true))⟩,
⟨(some 34), .fieldAddr 3 (.tmp 3), (some (31, true))⟩,
⟨(some 35), .load false 1 (.tmp 34), (some (31, true))⟩,
⟨(some 36), .call 53 [(.tmp 33), (.tmp 35)] .auto, (some (31, true))⟩,
⟨(some 37), .pick (.tmp 31) (.tmp 36) (.const (.bool false)), none⟩,
⟨(some 38), .mov (.tmp 37), none⟩,
⟨(some 39), .fieldAddr 6 (.tmp 2), (some (38, true))⟩,
⟨(some 40), .load false 1 (.tmp 39), (some (38, true))⟩,
⟨(some 41), .fieldAddr 6 (.tmp 3), (some (38, true))⟩,
⟨(some 42), .load false 1 (.tmp 41), (some (38, true))⟩,
⟨(some 43), .call 149 [(.tmp 40), (.tmp 42)] .auto, (some (38, true))⟩,
⟨(some 44), .pick (.tmp 38) (.tmp 43) (.const (.bool false)), none⟩,
⟨(some 45), .mov (.tmp 44), none⟩,
⟨(some 46), .fieldAddr 7 (.tmp 2), (some (45, true))⟩,
⟨(some 47), .load false 1 (.tmp 46), (some (45, true))⟩,
⟨(some 48), .fieldAddr 7 (.tmp 3), (some (45, true))⟩,
⟨(some 49), .load false 1 (.tmp 48), (some (45, true))⟩,
⟨(some 50), .call 150 [(.tmp 47), (.tmp 49)] .auto, (some (45, true))⟩,
⟨(some 51), .pick (.tmp 45) (.tmp 50) (.const (.bool false)), none⟩,
⟨(some 4), .mov (.tmp 51), none⟩])
(.ret)),
[.tmp 4]⟩
/-- thrum/conf.within[int] -/
def c72 : Func1 := ⟨3,
.seq (.reg [⟨(some 6), .mov (.const (.bool false)), none⟩])
(.seq (.reg [⟨(some 7), .mov (.tmp 0), none⟩,
⟨(some 8), .mov (.tmp 1), none⟩,
⟨(some 9), .bin .geq (.tmp 7) (.tmp 8), none⟩,
⟨(some 10), .mov (.tmp 9), none⟩,
⟨(some 11), .mov (.tmp 0), (some (10, true))⟩,
⟨(some 12), .mov (.tmp 2), (some (10, true))⟩,
⟨(some 13), .bin .leq (.tmp 11) (.tmp 12), (some (10, true))⟩,
⟨(some 14), .pick (.tmp 10) (.tmp 13) (.const (.bool false)), none⟩,
⟨(some 6), .mov (.tmp 14), none⟩])
(.ret)),
[.tmp 6]⟩
/-- thrum/conf.within[int64] -/
def c73 : Func1 := ⟨3,
.seq (.reg [⟨(some 6), .mov (.const (.bool false)), none⟩])
(.seq (.reg [⟨(some 7), .mov (.tmp 0), none⟩,
⟨(some 8), .mov (.tmp 1), none⟩,
⟨(some 9), .bin .geq (.tmp 7) (.tmp 8), none⟩,
⟨(some 10), .mov (.tmp 9), none⟩,
⟨(some 11), .mov (.tmp 0), (some (10, true))⟩,
⟨(some 12), .mov (.tmp 2), (some (10, true))⟩,
⟨(some 13), .bin .leq (.tmp 11) (.tmp 12), (some (10, true))⟩,
⟨(some 14), .pick (.tmp 10) (.tmp 13) (.const (.bool false)), none⟩,
⟨(some 6), .mov (.tmp 14), none⟩])
(.ret)),
[.tmp 6]⟩
/-- slices.ContainsFunc[[]thrum/api.Sample,thrum/api.Sample] -/
def c74 : Func1 := ⟨2,
.seq (.reg [⟨(some 4), .mov (.const (.bool false)), none⟩])
(.seq (.reg [⟨(some 5), .mov (.tmp 0), none⟩,
⟨(some 6), .mov (.tmp 1), none⟩,
⟨(some 7), .call 151 [(.tmp 5), (.tmp 6)] .auto, none⟩,
⟨(some 8), .bin .geq (.tmp 7) (.const (.int .i64 0)), none⟩,
⟨(some 4), .mov (.tmp 8), none⟩])
(.ret)),
[.tmp 4]⟩
/-- thrum/conf.Check$1 -/
def c75 : Func1 := ⟨3,
.seq (.reg [⟨(some 3), .box 2 (.tmp 0), none⟩,
⟨(some 4), .mov (.const (.bool false)), none⟩])
(.seq (.reg [⟨(some 5), .fieldAddr 1 (.tmp 1), none⟩,
⟨(some 6), .load true 5 (.tmp 5), none⟩,
⟨(some 7), .load false 1 (.tmp 2), none⟩,
⟨(some 8), .load true 2 (.tmp 3), none⟩,
⟨(some 9), .buildSlice 2 [[(.lst [] true), (.int .i64 0)]] [(0, (.tmp 8))], none⟩,
⟨(some 10), .call 76 [(.tmp 6), (.tmp 7), (.tmp 9)] .auto, none⟩,
⟨(some 11), .bin .neq (.tmp 10) (.const (.int .i64 0)), none⟩,
⟨(some 4), .mov (.tmp 11), none⟩])
(.ret)),
[.tmp 4]⟩
/-- thrum/model.Fits -/
def c76 : Func1 := ⟨3,
.seq (.reg [⟨(some 3), .box 5 (.tmp 0), none⟩,
⟨(some 6), .mov (.const (.int .i64 0)), none⟩])
(.seq (.reg [⟨(some 11), .load true 5 (.tmp 3), none⟩,
⟨(some 12), .call 77 [(.tmp 11)] .auto, none⟩,
⟨(some 10), .mov (.tmp 12), none⟩,
⟨(some 13), .extract (.tmp 10) 0, none⟩,
⟨(some 14), .extract (.tmp 10) 1, none⟩,
⟨(some 15), .extract (.tmp 10) 2, none⟩,
⟨(some 7), .mov (.tmp 13), none⟩,
⟨(some 8), .mov (.tmp 14), none⟩,
⟨(some 9), .mov (.tmp 15), none⟩])
(.seq (.seq (.reg [⟨(some 16), .mov (.tmp 9), none⟩,
⟨(some 17), .bin .neq (.tmp 16) (.const (.int .i64 0)), none⟩])
(.cond (.tmp 17)
(.seq (.reg [⟨(some 18), .mov (.tmp 9), none⟩,
⟨(some 6), .mov (.tmp 18), none⟩])
(.ret))
(.skip)))
(.seq (.reg [⟨(some 19), .mov (.tmp 7), none⟩,
⟨(some 20), .mov (.tmp 1), none⟩,
⟨(some 21), .mov (.tmp 2), none⟩,
⟨(some 22), .invoke (.tmp 19) [(177, 360, .plain), (178, 386, .plain), (179, 413, .plain)] [(.tmp 20), (.tmp 21)] .auto, none⟩,
⟨(some 6), .mov (.tmp 22), none⟩])
(.ret)))),
[.tmp 6]⟩
/-- thrum/model.of -/
def c77 : Func1 := ⟨1,
.seq (.reg [⟨(some 1), .box 5 (.tmp 0), none⟩,
⟨(some 2), .mov (.const .nilif), none⟩,
⟨(some 3), .mov (.const (.int .i64 0)), none⟩,
⟨(some 4), .mov (.const (.int .i64 0)), none⟩])
(.seq (.reg [⟨(some 10), .mkMap, none⟩,
⟨(some 11), .load true 5 (.tmp 1), none⟩,
⟨(some 12), .build [(.int .i64 0), (.int .i64 0), (.int .i64 0), (.int .i64 0), (.int .i64 0)] [(0, 5, (.tmp 11))], none⟩,
⟨(some 13), .mkIface 177 (.tmp 12), none⟩,
⟨none, .insert (.tmp 10) (.const (.int .i64 0)) (.tmp 13), none⟩,
⟨(some 14), .load true 5 (.tmp 1), none⟩,
⟨(some 15), .build [(.int .i64 0), (.int .i64 0), (.int .i64 0), (.int .i64 0), (.int .i64 0)] [(0, 5, (.tmp 14))], none⟩,
⟨(some 16), .mkIface 178 (.tmp 15), none⟩,
⟨none, .insert (.tmp 10) (.const (.int .i64 1)) (.tmp 16), none⟩,
⟨(some 17), .load true 5 (.tmp 1), none⟩,
⟨(some 18), .build [(.int .i64 0), (.int .i64 0), (.int .i64 0), (.int .i64 0), (.int .i64 0)] [(0, 5, (.tmp 17))], none⟩,
⟨(some 19), .mkIface 179 (.tmp 18), none⟩,
⟨none, .insert (.tmp 10) (.const (.int .i64 2)) (.tmp 19), none⟩,
⟨(some 20), .mov (.tmp 10), none⟩,
⟨(some 5), .mov (.tmp 20), none⟩])
(.seq (.reg [⟨(some 22), .mov (.tmp 5), none⟩,
⟨(some 23), .fieldAddr 0 (.tmp 1), none⟩,
⟨(some 24), .load false 1 (.tmp 23), none⟩,
⟨(some 25), .lookup .nilif true (.tmp 22) (.tmp 24), none⟩,
⟨(some 21), .mov (.tmp 25), none⟩,
⟨(some 26), .extract (.tmp 21) 0, none⟩,
⟨(some 27), .extract (.tmp 21) 1, none⟩,
⟨(some 6), .mov (.tmp 26), none⟩,
⟨(some 7), .mov (.tmp 27), none⟩])
(.seq (.seq (.reg [⟨(some 28), .mov (.tmp 7), none⟩,
⟨(some 29), .un .not (.tmp 28), none⟩,
⟨(some 30), .mov (.tmp 29), none⟩,
⟨(some 31), .fieldAddr 4 (.tmp 1), (some (30, false))⟩,
⟨(some 32), .load false 1 (.tmp 31), (some (30, false))⟩,
⟨(some 33), .bin .lss (.tmp 32) (.const (.int .i64 0)), (some (30, false))⟩,
⟨(some 34), .pick (.tmp 30) (.const (.bool true)) (.tmp 33), none⟩,
⟨(some 35), .mov (.tmp 34), none⟩,
⟨(some 36), .fieldAddr 4 (.tmp 1), (some (35, false))⟩,
⟨(some 37), .load false 1 (.tmp 36), (some (35, false))⟩,
⟨(some 38), .bin .gtr (.tmp 37) (.const (.int .i64 30)), (some (35, false))⟩,
⟨(some 39), .pick (.tmp 35) (.const (.bool true)) (.tmp 38), none⟩,
⟨(some 40), .mov (.tmp 39), none⟩,
⟨(some 41), .fieldAddr 0 (.tmp 1), (some (40, false))⟩,
⟨(some 42), .load false 1 (.tmp 41), (some (40, false))⟩,
⟨(some 43), .bin .neq (.tmp 42) (.const (.int .i64 1)), (some (40, false))⟩,
⟨(some 44), .mov (.tmp 43), (some (40, false))⟩,
⟨(some 45), .fieldAddr 2 (.tmp 1), (some (44, true))⟩,
⟨(some 46), .load false 1 (.tmp 45), (some (44, true))⟩,
⟨(some 47), .bin .neq (.tmp 46) (.const (.int .i64 0)), (some (44, true))⟩,
⟨(some 48), .pick (.tmp 44) (.tmp 47) (.const (.bool false)), (some (40, false))⟩,
⟨(some 49), .pick (.tmp 40) (.const (.bool true)) (.tmp 48), none⟩,
⟨(some 50), .mov (.tmp 49), none⟩,
⟨(some 51), .fieldAddr 0 (.tmp 1), (some (50, false))⟩,
⟨(some 52), .load false 1 (.tmp 51), (some (50, false))⟩,
⟨(some 53), .bin .neq (.tmp 52) (.const (.int .i64 2)), (some (50, false))⟩,
⟨(some 54), .mov (.tmp 53), (some (50, false))⟩,
⟨(some 55), .fieldAddr 3 (.tmp 1), (some (54, true))⟩,
⟨(some 56), .load false 1 (.tmp 55), (some (54, true))⟩,
⟨(some 57), .bin .neq (.tmp 56) (.const (.int .i64 0)), (some (54, true))⟩,
⟨(some 58), .pick (.tmp 54) (.tmp 57) (.const (.bool false)), (some (50, false))⟩,
⟨(some 59), .pick (.tmp 50) (.const (.bool true)) (.tmp 58), none⟩])
(.cond (.tmp 59)
(.seq (.reg [⟨(some 2), .mov (.const .nilif), none⟩,
⟨(some 3), .mov (.const (.int .i64 0)), none⟩,
⟨(some 4), .mov (.const (.int .i64 1)), none⟩])
(.ret))
(.skip)))
(.seq (.reg [⟨(some 61), .mov (.tmp 6), none⟩,
⟨(some 62), .invoke (.tmp 61) [(177, 359, .plain), (178, 385, .plain), (179, 412, .plain)] [] .auto, none⟩,
⟨(some 60), .mov (.tmp 62), none⟩,
⟨(some 63), .extract (.tmp 60) 0, none⟩,
⟨(some 64), .extract (.tmp 60) 1, none⟩,
⟨(some 8), .mov (.tmp 63), none⟩,
⟨(some 9), .mov (.tmp 64), none⟩])
(.seq (.reg [⟨(some 65), .mov (.tmp 6), none⟩,
⟨(some 66), .mov (.tmp 8), none⟩,
⟨(some 67), .mov (.tmp 9), none⟩,
⟨(some 2), .mov (.tmp 65), none⟩,
⟨(some 3), .mov (.tmp 66), none⟩,
⟨(some 4), .mov (.tmp 67), none⟩])
(.ret)))))),
[.tmp 2, .tmp 3, .tmp 4]⟩
/-- thrum/conf.at -/
def c78 : Func1 := ⟨2,
.seq (.reg [⟨(some 2), .box 16 (.tmp 0), none⟩,
⟨(some 4), .mov (.const (.bool false)), none⟩])
(.seq (.reg [⟨(some 5), .mov (.tmp 1), none⟩,
⟨(some 6), .call 72 [(.tmp 5), (.const (.int .i64 0)), (.const (.int .i64 1073741824))] .auto, none⟩,
⟨(some 7), .mov (.tmp 6), none⟩,
⟨(some 8), .load true 16 (.tmp 2), (some (7, true))⟩,
⟨(some 9), .call 27 [(.tmp 8)] .auto, (some (7, true))⟩,
⟨(some 10), .bin .eql (.tmp 9) (.const (.int .i64 0)), (some (7, true))⟩,
⟨(some 11), .pick (.tmp 7) (.tmp 10) (.const (.bool false)), none⟩,
⟨(some 4), .mov (.tmp 11), none⟩])
(.ret)),
[.tmp 4]⟩
/-- thrum/thrumref17.Dim -/
def c79 : Func1 := ⟨1,
.seq (.reg [⟨(some 1), .box 5 (.tmp 0), none⟩,
⟨(some 2), .mov (.const (.int .i64 0)), none⟩,
⟨(some 3), .mov (.const (.int .i64 0)), none⟩])
(.seq (.seq (.reg [⟨(some 5), .load true 5 (.tmp 1), none⟩,
⟨(some 6), .call 152 [(.tmp 5)] .auto, none⟩,
⟨(some 4), .mov (.tmp 6), none⟩])
(.seq (.reg [⟨(some 7), .mov (.tmp 4), none⟩,
⟨(some 8), .bin .neq (.tmp 7) (.const (.int .i64 0)), none⟩])
(.cond (.tmp 8)
(.seq (.reg [⟨(some 9), .mov (.tmp 4), none⟩,
⟨(some 2), .mov (.const (.int .i64 0)), none⟩,
⟨(some 3), .mov (.tmp 9), none⟩])
(.ret))
(.skip))))
(.seq (.seq (.reg [⟨(some 10), .fieldAddr 0 (.tmp 1), none⟩,
⟨(some 11), .load false 1 (.tmp 10), none⟩])
(.block 0
(.seq (.reg [⟨(some 13), .bin .eql (.tmp 11) (.const (.int .i64 1)), none⟩,
⟨(some 12), .mov (.tmp 13), none⟩])
(.cond (.tmp 12)
(.seq (.reg [⟨(some 14), .fieldAddr 1 (.tmp 1), none⟩,
⟨(some 15), .load false 1 (.tmp 14), none⟩,
⟨(some 16), .fieldAddr 2 (.tmp 1), none⟩,
⟨(some 17), .load false 1 (.tmp 16), none⟩,
⟨(some 18), .call 153 [(.tmp 15), (.tmp 17)] .auto, none⟩,
⟨(some 19), .extract (.tmp 18) 0, none⟩,
⟨(some 20), .extract (.tmp 18) 1, none⟩,
⟨(some 2), .mov (.tmp 19), none⟩,
⟨(some 3), .mov (.tmp 20), none⟩])
(.ret))
(.seq (.reg [⟨(some 22), .bin .eql (.tmp 11) (.const (.int .i64 2)), none⟩,
⟨(some 21), .mov (.tmp 22), none⟩])
(.cond (.tmp 21)
(.seq (.reg [⟨(some 23), .fieldAddr 1 (.tmp 1), none⟩,
⟨(some 24), .load false 1 (.tmp 23), none⟩,
⟨(some 25), .fieldAddr 3 (.tmp 1), none⟩,
⟨(some 26), .load false 1 (.tmp 25), none⟩,
⟨(some 27), .call 154 [(.tmp 24), (.tmp 26)] .auto, none⟩,
⟨(some 28), .extract (.tmp 27) 0, none⟩,
⟨(some 29), .extract (.tmp 27) 1, none⟩,
⟨(some 2), .mov (.tmp 28), none⟩,
⟨(some 3), .mov (.tmp 29), none⟩])
(.ret))
(.skip)))))))
(.seq (.reg [⟨(some 30), .fieldAddr 1 (.tmp 1), none⟩,
⟨(some 31), .load false 1 (.tmp 30), none⟩,
⟨(some 32), .call 155 [(.tmp 31)] .auto, none⟩,
⟨(some 33), .extract (.tmp 32) 0, none⟩,
⟨(some 34), .extract (.tmp 32) 1, none⟩,
⟨(some 2), .mov (.tmp 33), none⟩,
⟨(some 3), .mov (.tmp 34), none⟩])
(.ret)))),
[.tmp 2, .tmp 3]⟩
/-- thrum/draw.Pick -/
def c80 : Func1 := ⟨4,
.seq (.reg [⟨(some 8), .mov (.const (.lst [] true)), none⟩,
⟨(some 9), .mov (.const (.int .i64 0)), none⟩])
(.seq (.seq (.reg [⟨(some 12), .mov (.tmp 0), none⟩,
⟨(some 13), .bin .lss (.tmp 12) (.const (.int .i64 0)), none⟩,
⟨(some 14), .mov (.tmp 13), none⟩,
⟨(some 15), .mov (.tmp 0), (some (14, false))⟩,
⟨(some 16), .mov (.tmp 1), (some (14, false))⟩,
⟨(some 17), .bin .gtr (.tmp 15) (.tmp 16), (some (14, false))⟩,
⟨(some 18), .pick (.tmp 14) (.const (.bool true)) (.tmp 17), none⟩])
(.cond (.tmp 18)
(.seq (.reg [⟨(some 8), .mov (.const (.lst [] true)), none⟩,
⟨(some 9), .mov (.const (.int .i64 1)), none⟩])
(.ret))
(.skip)))
(.seq (.reg [⟨(some 20), .mov (.tmp 1), none⟩,
⟨(some 21), .mov (.tmp 2), none⟩,
⟨(some 22), .mov (.tmp 3), none⟩,
⟨(some 23), .call 156 [(.tmp 20), (.tmp 21), (.tmp 22)] .auto, none⟩,
⟨(some 19), .mov (.tmp 23), none⟩,
⟨(some 24), .extract (.tmp 19) 0, none⟩,
⟨(some 25), .extract (.tmp 19) 1, none⟩,
⟨(some 10), .mov (.tmp 24), none⟩,
⟨(some 11), .mov (.tmp 25), none⟩])
(.seq (.seq (.reg [⟨(some 26), .mov (.tmp 11), none⟩,
⟨(some 27), .bin .neq (.tmp 26) (.const (.int .i64 0)), none⟩])
(.cond (.tmp 27)
(.seq (.reg [⟨(some 28), .mov (.tmp 11), none⟩,
⟨(some 8), .mov (.const (.lst [] true)), none⟩,
⟨(some 9), .mov (.tmp 28), none⟩])
(.ret))
(.skip)))
(.seq (.reg [⟨(some 29), .mov (.tmp 10), none⟩,
⟨(some 30), .mov (.tmp 0), none⟩,
⟨(some 31), .slice 1 (.tmp 29) none (some (.tmp 30)) none, none⟩,
⟨(some 8), .mov (.tmp 31), none⟩,
⟨(some 9), .mov (.const (.int .i64 0)), none⟩])
(.ret))))),
[.tmp 8, .tmp 9]⟩
/-- thrum/thrumref08.Pick -/
def c81 : Func1 := ⟨4,
.seq (.reg [⟨(some 8), .mov (.const (.lst [] true)), none⟩,
⟨(some 9), .mov (.const (.int .i64 0)), none⟩])
(.seq (.seq (.reg [⟨(some 12), .mov (.tmp 0), none⟩,
⟨(some 13), .bin .lss (.tmp 12) (.const (.int .i64 0)), none⟩,
⟨(some 14), .mov (.tmp 13), none⟩,
⟨(some 15), .mov (.tmp 0), (some (14, false))⟩,
⟨(some 16), .mov (.tmp 1), (some (14, false))⟩,
⟨(some 17), .bin .gtr (.tmp 15) (.tmp 16), (some (14, false))⟩,
⟨(some 18), .pick (.tmp 14) (.const (.bool true)) (.tmp 17), none⟩])
(.cond (.tmp 18)
(.seq (.reg [⟨(some 8), .mov (.const (.lst [] true)), none⟩,
⟨(some 9), .mov (.const (.int .i64 1)), none⟩])
(.ret))
(.skip)))
(.seq (.reg [⟨(some 20), .mov (.tmp 1), none⟩,
⟨(some 21), .mov (.tmp 2), none⟩,
⟨(some 22), .mov (.tmp 3), none⟩,
⟨(some 23), .call 157 [(.tmp 20), (.tmp 21), (.tmp 22)] .auto, none⟩,
⟨(some 19), .mov (.tmp 23), none⟩,
⟨(some 24), .extract (.tmp 19) 0, none⟩,
⟨(some 25), .extract (.tmp 19) 1, none⟩,
⟨(some 10), .mov (.tmp 24), none⟩,
⟨(some 11), .mov (.tmp 25), none⟩])
(.seq (.seq (.reg [⟨(some 26), .mov (.tmp 11), none⟩,
⟨(some 27), .bin .neq (.tmp 26) (.const (.int .i64 0)), none⟩])
(.cond (.tmp 27)
(.seq (.reg [⟨(some 28), .mov (.tmp 11), none⟩,
⟨(some 8), .mov (.const (.lst [] true)), none⟩,
⟨(some 9), .mov (.tmp 28), none⟩])
(.ret))
(.skip)))
(.seq (.reg [⟨(some 29), .mov (.tmp 10), none⟩,
⟨(some 30), .mov (.tmp 0), none⟩,
⟨(some 31), .slice 1 (.tmp 29) none (some (.tmp 30)) none, none⟩,
⟨(some 8), .mov (.tmp 31), none⟩,
⟨(some 9), .mov (.const (.int .i64 0)), none⟩])
(.ret))))),
[.tmp 8, .tmp 9]⟩
/-- thrum/thrumref12.Check -/
def c82 : Func1 := ⟨2,
.seq (.reg [⟨(some 2), .box 3 (.tmp 0), none⟩,
⟨(some 4), .mov (.const (.int .i64 0)), none⟩])
(.seq (.reg [⟨(some 6), .mov (.tmp 1), none⟩,
⟨(some 7), .bin .geq (.tmp 6) (.const (.int .i64 1)), none⟩,
⟨(some 8), .mov (.tmp 7), none⟩,
⟨(some 9), .mov (.tmp 1), (some (8, true))⟩,
⟨(some 10), .bin .leq (.tmp 9) (.const (.int .i64 4096)), (some (8, true))⟩,
⟨(some 11), .pick (.tmp 8) (.tmp 10) (.const (.bool false)), none⟩,
⟨(some 5), .mov (.tmp 11), none⟩])
(.seq (.seq (.reg [⟨(some 12), .fieldAddr 0 (.tmp 2), none⟩,
⟨(some 13), .load false 1 (.tmp 12), none⟩])
(.block 0
(.seq (.seq (.reg [⟨(some 15), .bin .eql (.tmp 13) (.const (.int .i64 0)), none⟩,
⟨(some 14), .mov (.tmp 15), none⟩])
(.cond (.tmp 14)
(.skip)
(.reg [⟨(some 16), .bin .eql (.tmp 13) (.const (.int .i64 3)), none⟩,
⟨(some 14), .mov (.tmp 16), none⟩])))
(.cond (.tmp 14)
(.reg [⟨(some 17), .mov (.tmp 5), none⟩,
⟨(some 18), .mov (.tmp 17), none⟩,
⟨(some 19), .fieldAddr 1 (.tmp 2), (some (18, true))⟩,
⟨(some 20), .load false 1 (.tmp 19), (some (18, true))⟩,
⟨(some 21), .bin .eql (.tmp 20) (.const (.int .i64 0)), (some (18, true))⟩,
⟨(some 22), .pick (.tmp 18) (.tmp 21) (.const (.bool false)), none⟩,
⟨(some 23), .mov (.tmp 22), none⟩,
⟨(some 24), .fieldAddr 2 (.tmp 2), (some (23, true))⟩,
⟨(some 25), .load false 1 (.tmp 24), (some (23, true))⟩,
⟨(some 26), .bin .eql (.tmp 25) (.const (.int .i64 0)), (some (23, true))⟩,
⟨(some 27), .pick (.tmp 23) (.tmp 26) (.const (.bool false)), none⟩,
⟨(some 5), .mov (.tmp 27), none⟩])
(.seq (.reg [⟨(some 29), .bin .eql (.tmp 13) (.const (.int .i64 1)), none⟩,
⟨(some 28), .mov (.tmp 29), none⟩])
(.cond (.tmp 28)
(.reg [⟨(some 30), .mov (.tmp 5), none⟩,
⟨(some 31), .mov (.tmp 30), none⟩,
⟨(some 32), .fieldAddr 1 (.tmp 2), (some (31, true))⟩,
⟨(some 33), .load false 1 (.tmp 32), (some (31, true))⟩,
⟨(some 34), .bin .geq (.tmp 33) (.const (.int .i64 0)), (some (31, true))⟩,
⟨(some 35), .pick (.tmp 31) (.tmp 34) (.const (.bool false)), none⟩,
⟨(some 36), .mov (.tmp 35), none⟩,
⟨(some 37), .fieldAddr 1 (.tmp 2), (some (36, true))⟩,
⟨(some 38), .load false 1 (.tmp 37), (some (36, true))⟩,
⟨(some 39), .mov (.tmp 1), (some (36, true))⟩,
⟨(some 40), .bin .leq (.tmp 38) (.tmp 39), (some (36, true))⟩,
⟨(some 41), .pick (.tmp 36) (.tmp 40) (.const (.bool false)), none⟩,
⟨(some 42), .mov (.tmp 41), none⟩,
⟨(some 43), .fieldAddr 2 (.tmp 2), (some (42, true))⟩,
⟨(some 44), .load false 1 (.tmp 43), (some (42, true))⟩,
⟨(some 45), .bin .eql (.tmp 44) (.const (.int .i64 0)), (some (42, true))⟩,
⟨(some 46), .pick (.tmp 42) (.tmp 45) (.const (.bool false)), none⟩,
⟨(some 5), .mov (.tmp 46), none⟩])
(.seq (.reg [⟨(some 48), .bin .eql (.tmp 13) (.const (.int .i64 2)), none⟩,
⟨(some 47), .mov (.tmp 48), none⟩])
(.cond (.tmp 47)
(.reg [⟨(some 49), .mov (.tmp 5), none⟩,
⟨(some 50), .mov (.tmp 49), none⟩,
⟨(some 51), .fieldAddr 1 (.tmp 2), (some (50, true))⟩,
⟨(some 52), .load false 1 (.tmp 51), (some (50, true))⟩,
⟨(some 53), .bin .eql (.tmp 52) (.const (.int .i64 0)), (some (50, true))⟩,
⟨(some 54), .pick (.tmp 50) (.tmp 53) (.const (.bool false)), none⟩,
⟨(some 55), .mov (.tmp 54), none⟩,
⟨(some 56), .fieldAddr 2 (.tmp 2), (some (55, true))⟩,
⟨(some 57), .load false 1 (.tmp 56), (some (55, true))⟩,
⟨(some 58), .bin .geq (.tmp 57) (.const (.int .i64 1)), (some (55, true))⟩,
⟨(some 59), .pick (.tmp 55) (.tmp 58) (.const (.bool false)), none⟩,
⟨(some 60), .mov (.tmp 59), none⟩,
⟨(some 61), .fieldAddr 2 (.tmp 2), (some (60, true))⟩,
⟨(some 62), .load false 1 (.tmp 61), (some (60, true))⟩,
⟨(some 63), .bin .leq (.tmp 62) (.const (.int .i64 8)), (some (60, true))⟩,
⟨(some 64), .pick (.tmp 60) (.tmp 63) (.const (.bool false)), none⟩,
⟨(some 5), .mov (.tmp 64), none⟩])
(.reg [⟨(some 5), .mov (.const (.bool false)), none⟩])))))))))
(.seq (.seq (.reg [⟨(some 65), .mov (.tmp 5), none⟩,
⟨(some 66), .un .not (.tmp 65), none⟩])
(.cond (.tmp 66)
(.seq (.reg [⟨(some 4), .mov (.const (.int .i64 1)), none⟩])
(.ret))
(.skip)))
(.seq (.reg [⟨(some 4), .mov (.const (.int .i64 0)), none⟩])
(.ret))))),
[.tmp 4]⟩
/-- thrum/thrumref17.Fits -/
def c83 : Func1 := ⟨3,
.seq (.reg [⟨(some 3), .box 5 (.tmp 0), none⟩,
⟨(some 6), .mov (.const (.int .i64 0)), none⟩])
(.seq (.seq (.reg [⟨(some 8), .load true 5 (.tmp 3), none⟩,
⟨(some 9), .call 152 [(.tmp 8)] .auto, none⟩,
⟨(some 7), .mov (.tmp 9), none⟩])
(.seq (.reg [⟨(some 10), .mov (.tmp 7), none⟩,
⟨(some 11), .bin .neq (.tmp 10) (.const (.int .i64 0)), none⟩])
(.cond (.tmp 11)
(.seq (.reg [⟨(some 12), .mov (.tmp 7), none⟩,
⟨(some 6), .mov (.tmp 12), none⟩])
(.ret))
(.skip))))
(.seq (.seq (.reg [⟨(some 13), .fieldAddr 0 (.tmp 3), none⟩,
⟨(some 14), .load false 1 (.tmp 13), none⟩])
(.block 0
(.seq (.reg [⟨(some 16), .bin .eql (.tmp 14) (.const (.int .i64 1)), none⟩,
⟨(some 15), .mov (.tmp 16), none⟩])
(.cond (.tmp 15)
(.seq (.reg [⟨(some 17), .fieldAddr 1 (.tmp 3), none⟩,
⟨(some 18), .load false 1 (.tmp 17), none⟩,
⟨(some 19), .fieldAddr 2 (.tmp 3), none⟩,
⟨(some 20), .load false 1 (.tmp 19), none⟩,
⟨(some 21), .mov (.tmp 1), none⟩,
⟨(some 22), .mov (.tmp 2), none⟩,
⟨(some 23), .call 158 [(.tmp 18), (.tmp 20), (.tmp 21), (.tmp 22)] .auto, none⟩,
⟨(some 6), .mov (.tmp 23), none⟩])
(.ret))
(.seq (.reg [⟨(some 25), .bin .eql (.tmp 14) (.const (.int .i64 2)), none⟩,
⟨(some 24), .mov (.tmp 25), none⟩])
(.cond (.tmp 24)
(.seq (.reg [⟨(some 26), .fieldAddr 1 (.tmp 3), none⟩,
⟨(some 27), .load false 1 (.tmp 26), none⟩,
⟨(some 28), .fieldAddr 3 (.tmp 3), none⟩,
⟨(some 29), .load false 1 (.tmp 28), none⟩,
⟨(some 30), .mov (.tmp 1), none⟩,
⟨(some 31), .mov (.tmp 2), none⟩,
⟨(some 32), .call 159 [(.tmp 27), (.tmp 29), (.tmp 30), (.tmp 31)] .auto, none⟩,
⟨(some 6), .mov (.tmp 32), none⟩])
(.ret))
(.skip)))))))
(.seq (.reg [⟨(some 33), .fieldAddr 1 (.tmp 3), none⟩,
⟨(some 34), .load false 1 (.tmp 33), none⟩,
⟨(some 35), .mov (.tmp 1), none⟩,
⟨(some 36), .mov (.tmp 2), none⟩,
⟨(some 37), .call 160 [(.tmp 34), (.tmp 35), (.tmp 36)] .auto, none⟩,
⟨(some 6), .mov (.tmp 37), none⟩])
(.ret)))),
[.tmp 6]⟩
/-- thrum/vec.Sub -/
def c87 : Func1 := ⟨2,
.seq (.reg [⟨(some 2), .box 1 (.tmp 0), none⟩,
⟨(some 3), .box 1 (.tmp 1), none⟩,
⟨(some 4), .mov (.const (.lst [] true)), none⟩,
⟨(some 5), .mov (.const (.int .i64 0)), none⟩])
(.seq (.seq (.reg [⟨(some 7), .load false 1 (.tmp 2), none⟩,
⟨(some 8), .load false 1 (.tmp 3), none⟩,
⟨(some 9), .call 93 [(.tmp 7), (.tmp 8)] .auto, none⟩,
⟨(some 6), .mov (.tmp 9), none⟩])
(.seq (.reg [⟨(some 10), .mov (.tmp 6), none⟩,
⟨(some 11), .bin .neq (.tmp 10) (.const (.int .i64 0)), none⟩])
(.cond (.tmp 11)
(.seq (.reg [⟨(some 12), .mov (.tmp 6), none⟩,
⟨(some 4), .mov (.const (.lst [] true)), none⟩,
⟨(some 5), .mov (.tmp 12), none⟩])
(.ret))
(.skip))))
(.seq (.reg [⟨(some 13), .load false 1 (.tmp 2), none⟩,
⟨(some 14), .len (.tmp 13), none⟩,
⟨(some 15), .mkFunc 164 [] [(.tmp 2), (.tmp 3)], none⟩,
⟨(some 16), .call 94 [(.tmp 14), (.tmp 15)] .auto, none⟩,
⟨(some 17), .extract (.tmp 16) 0, none⟩,
⟨(some 18), .extract (.tmp 16) 1, none⟩,
⟨(some 4), .mov (.tmp 17), none⟩,
⟨(some 5), .mov (.tmp 18), none⟩])
(.ret))),
[.tmp 4, .tmp 5]⟩
/-- thrum/vec.pair -/
def c93 : Func1 := ⟨2,
.seq (.reg [⟨(some 4), .mov (.const (.int .i64 0)), none⟩])
(.seq (.block 0
(.seq (.reg [⟨(some 6), .mov (.tmp 0), none⟩,
⟨(some 7), .len (.tmp 6), none⟩,
⟨(some 8), .mov (.tmp 1), none⟩,
⟨(some 9), .len (.tmp 8), none⟩,
⟨(some 10), .max (.tmp 7) (.tmp 9), none⟩,
⟨(some 11), .bin .gtr (.tmp 10) (.const (.int .i64 4096)), none⟩,
⟨(some 5), .mov (.tmp 11), none⟩])
(.cond (.tmp 5)
(.seq (.reg [⟨(some 4), .mov (.const (.int .i64 3)), none⟩])
(.ret))
(.seq (.reg [⟨(some 13), .mov (.tmp 0), none⟩,
⟨(some 14), .len (.tmp 13), none⟩,
⟨(some 15), .mov (.tmp 1), none⟩,
⟨(some 16), .len (.tmp 15), none⟩,
⟨(some 17), .bin .neq (.tmp 14) (.tmp 16), none⟩,
⟨(some 12), .mov (.tmp 17), none⟩])
(.cond (.tmp 12)
(.seq (.reg [⟨(some 4), .mov (.const (.int .i64 4)), none⟩])
(.ret))
(.skip))))))
(.seq (.reg [⟨(some 4), .mov (.const (.int .i64 0)), none⟩])
(.ret))),
[.tmp 4]⟩
/-- thrum/vec.each -/
def c94 : Func1 := ⟨2,
.seq (.reg [⟨(some 4), .mov (.const (.lst [] true)), none⟩,
⟨(some 5), .mov (.const (.int .i64 0)), none⟩])
(.seq (.reg [⟨(some 9), .mov (.tmp 0), none⟩,
⟨(some 10), .mkSlice 1 8 [(.int .i64 0)] (.tmp 9) (.tmp 9), none⟩,
⟨(some 6), .mov (.tmp 10), none⟩])
(.seq (.seq (.reg [⟨(some 11), .mov (.tmp 6), none⟩,
⟨(some 12), .len (.tmp 11), none⟩,
⟨(some 13), .mov (.const (.int .i64 0)), none⟩])
(.block 0
(.loop [1, 6, 12, 13]
(.seq (.reg [⟨(some 14), .bin .lss (.tmp 13) (.tmp 12), none⟩])
(.seq (.cond (.tmp 14)
(.skip)
(.exit 0))
(.seq (.block 1
(.seq (.reg [⟨(some 15), .mov (.tmp 13), none⟩,
⟨(some 7), .mov (.tmp 15), none⟩])
(.seq (.reg [⟨(some 8), .mov (.const (.int .i64 0)), none⟩])
(.seq (.reg [⟨(some 17), .mov (.tmp 6), none⟩,
⟨(some 18), .mov (.tmp 7), none⟩,
⟨(some 19), .mov (.tmp 1), none⟩,
⟨(some 20), .mov (.tmp 7), none⟩,
⟨(some 21), .dyn (.tmp 19) [(.tmp 20)] .thaw, none⟩,
⟨(some 16), .mov (.tmp 21), none⟩,
⟨(some 22), .extract (.tmp 16) 0, none⟩,
⟨(some 23), .extract (.tmp 16) 1, none⟩,
⟨(some 24), .indexAddr 1 (.tmp 17) (.tmp 18), none⟩,
⟨none, .store 1 (.tmp 24) (.tmp 22), none⟩,
⟨(some 8), .mov (.tmp 23), none⟩])
(.seq (.reg [⟨(some 25), .mov (.tmp 8), none⟩,
⟨(some 26), .bin .neq (.tmp 25) (.const (.int .i64 0)), none⟩])
(.cond (.tmp 26)
(.seq (.reg [⟨(some 27), .mov (.tmp 8), none⟩,
⟨(some 4), .mov (.const (.lst [] true)), none⟩,
⟨(some 5), .mov (.tmp 27), none⟩])
(.ret))
(.skip)))))))
(.reg [⟨(some 28), .bin .add (.tmp 13) (.const (.int .i64 1)), none⟩,
⟨(some 13), .mov (.tmp 28), none⟩])))))))
(.seq (.reg [⟨(some 29), .mov (.tmp 6), none⟩,
⟨(some 4), .mov (.tmp 29), none⟩,
⟨(some 5), .mov (.const (.int .i64 0)), none⟩])
(.ret)))),
[.tmp 4, .tmp 5]⟩
/-- thrum/vec.Add$1 -/
def c95 : Func1 := ⟨3,
.seq (.reg [⟨(some 4), .mov (.const (.int .i64 0)), none⟩,
⟨(some 5), .mov (.const (.int .i64 0)), none⟩])
(.seq (.regd [⟨(some 6), .load false 1 (.tmp 1), none⟩,
⟨(some 7), .mov (.tmp 0), none⟩,
⟨(some 8), .indexAddr 1 (.tmp 6) (.tmp 7), none⟩,
⟨(some 9), .load false 1 (.tmp 8), none⟩,
⟨(some 10), .load false 1 (.tmp 2), none⟩,
⟨(some 11), .mov (.tmp 0), none⟩,
⟨(some 12), .indexAddr 1 (.tmp 10) (.tmp 11), none⟩,
⟨(some 13), .load false 1 (.tmp 12), none⟩,
⟨(some 14), .call 96 [(.tmp 9), (.tmp 13)] .thaw, none⟩,
⟨(some 15), .extract (.tmp 14) 0, none⟩,
⟨(some 16), .extract (.tmp 14) 1, none⟩,
⟨(some 4), .mov (.tmp 15), none⟩,
⟨(some 5), .mov (.tmp 16), none⟩] [])
(.ret)),
[.tmp 4, .tmp 5]⟩
/-- thrum/fix.Add -/
def c96 : Func1 := ⟨2,
.seq (.reg [⟨(some 4), .mov (.const (.int .i64 0)), none⟩,
⟨(some 5), .mov (.const (.int .i64 0)), none⟩])
(.seq (.reg [⟨(some 7), .mov (.tmp 0), none⟩,
⟨(some 8), .mov (.tmp 1), none⟩,
⟨(some 9), .bin .add (.tmp 7) (.tmp 8), none⟩,
⟨(some 6), .mov (.tmp 9), none⟩])
(.seq (.seq (.reg [⟨(some 10), .mov (.tmp 0), none⟩,
⟨(some 11), .mov (.tmp 6), none⟩,
⟨(some 12), .bin .xor (.tmp 10) (.tmp 11), none⟩,
⟨(some 13), .mov (.tmp 1), none⟩,
⟨(some 14), .mov (.tmp 6), none⟩,
⟨(some 15), .bin .xor (.tmp 13) (.tmp 14), none⟩,
⟨(some 16), .bin .and (.tmp 12) (.tmp 15), none⟩,
⟨(some 17), .bin .lss (.tmp 16) (.const (.int .i64 0)), none⟩])
(.cond (.tmp 17)
(.seq (.reg [⟨(some 4), .mov (.const (.int .i64 0)), none⟩,
⟨(some 5), .mov (.const (.int .i64 2)), none⟩])
(.ret))
(.skip)))
(.seq (.reg [⟨(some 18), .mov (.tmp 6), none⟩,
⟨(some 4), .mov (.tmp 18), none⟩,
⟨(some 5), .mov (.const (.int .i64 0)), none⟩])
(.ret)))),
[.tmp 4, .tmp 5]⟩
/-- thrum/press.bare -/
def c99 : Func1 := ⟨2,
.seq (.reg [⟨(some 2), .box 3 (.tmp 0), none⟩,
⟨(some 4), .mov (.const (.bool false)), none⟩])
(.seq (.reg [⟨(some 5), .fieldAddr 1 (.tmp 2), none⟩,
⟨(some 6), .load false 1 (.tmp 5), none⟩,
⟨(some 7), .bin .eql (.tmp 6) (.const (.int .i64 0)), none⟩,
⟨(some 8), .mov (.tmp 7), none⟩,
⟨(some 9), .fieldAddr 2 (.tmp 2), (some (8, true))⟩,
⟨(some 10), .load false 1 (.tmp 9), (some (8, true))⟩,
⟨(some 11), .bin .eql (.tmp 10) (.const (.int .i64 0)), (some (8, true))⟩,
⟨(some 12), .pick (.tmp 8) (.tmp 11) (.const (.bool false)), none⟩,
⟨(some 4), .mov (.tmp 12), none⟩])
(.ret)),
[.tmp 4]⟩
/-- thrum/press.dense -/
def c100 : Func1 := ⟨4,
.seq (.reg [⟨(some 4), .box 3 (.tmp 0), none⟩,
⟨(some 8), .box 8 (.const (.agg [(.int .i64 0), (.int .i64 0), (.lst [] true), (.lst [] true), (.int .i64 0), (.int .i64 0), (.lst [] true), (.lst [] true)])), none⟩,
⟨(some 9), .mov (.const (.int .i64 0)), none⟩])
(.seq (.reg [⟨(some 10), .mov (.tmp 1), none⟩,
⟨(some 11), .len (.tmp 10), none⟩,
⟨(some 12), .mov (.tmp 1), none⟩,
⟨(some 13), .call 102 [(.tmp 12)] .auto, none⟩,
⟨(some 14), .build [(.int .i64 0), (.int .i64 0), (.lst [] true), (.lst [] true), (.int .i64 0), (.int .i64 0), (.lst [] true), (.lst [] true)] [(0, 1, (.const (.int .i64 0))), (1, 1, (.tmp 11)), (3, 1, (.tmp 13))], none⟩,
⟨none, .store 8 (.tmp 8) (.tmp 14), none⟩,
⟨(some 9), .mov (.const (.int .i64 0)), none⟩])
(.ret)),
[.cell 8 true 8, .tmp 9]⟩
/-- thrum/press.ways$1 -/
def c101 : Func1 := ⟨1,
.seq (.reg [⟨(some 1), .box 8 (.tmp 0), none⟩,
⟨(some 2), .mov (.const (.lst [] true)), none⟩,
⟨(some 3), .mov (.const (.int .i64 0)), none⟩])
(.seq (.reg [⟨(some 4), .fieldAddr 3 (.tmp 1), none⟩,
⟨(some 5), .load false 1 (.tmp 4), none⟩,
⟨(some 6), .call 102 [(.tmp 5)] .thaw, none⟩,
⟨(some 2), .mov (.tmp 6), none⟩,
⟨(some 3), .mov (.const (.int .i64 0)), none⟩])
(.ret)),
[.tmp 2, .tmp 3]⟩
/-- slices.Clone[[]int64,int64] -/
def c102 : Func1 := ⟨1,
.seq (.reg [⟨(some 2), .mov (.const (.lst [] true)), none⟩])
(.seq (.seq (.reg [⟨(some 3), .mov (.tmp 0), none⟩,
⟨(some 4), .isNil false (.tmp 3), none⟩])
(.cond (.tmp 4)
(.seq (.reg [⟨(some 2), .mov (.const (.lst [] true)), none⟩])
(.ret))
(.skip)))
(.seq (.reg [⟨(some 5), .buildSlice 1 [] [], none⟩,
⟨(some 6), .mov (.tmp 0), none⟩,
⟨(some 7), .append 1 8 (.tmp 5) (.tmp 6), none⟩,
⟨(some 2), .mov (.tmp 7), none⟩])
(.ret))),
[.tmp 2]⟩
/-- thrum/press.ways$3 -/
def c104 : Func1 := ⟨2,
.seq (.reg [⟨(some 2), .box 3 (.tmp 0), none⟩,
⟨(some 4), .mov (.const (.bool false)), none⟩])
(.seq (.reg [⟨(some 5), .fieldAddr 1 (.tmp 2), none⟩,
⟨(some 6), .load false 1 (.tmp 5), none⟩,
⟨(some 7), .bin .geq (.tmp 6) (.const (.int .i64 0)), none⟩,
⟨(some 8), .mov (.tmp 7), none⟩,
⟨(some 9), .fieldAddr 1 (.tmp 2), (some (8, true))⟩,
⟨(some 10), .load false 1 (.tmp 9), (some (8, true))⟩,
⟨(some 11), .mov (.tmp 1), (some (8, true))⟩,
⟨(some 12), .bin .leq (.tmp 10) (.tmp 11), (some (8, true))⟩,
⟨(some 13), .pick (.tmp 8) (.tmp 12) (.const (.bool false)), none⟩,
⟨(some 14), .mov (.tmp 13), none⟩,
⟨(some 15), .fieldAddr 2 (.tmp 2), (some (14, true))⟩,
⟨(some 16), .load false 1 (.tmp 15), (some (14, true))⟩,
⟨(some 17), .bin .eql (.tmp 16) (.const (.int .i64 0)), (some (14, true))⟩,
⟨(some 18), .pick (.tmp 14) (.tmp 17) (.const (.bool false)), none⟩,
⟨(some 4), .mov (.tmp 18), none⟩])
(.ret)),
[.tmp 4]⟩
/-- thrum/press.ways$4 -/
def c105 : Func1 := ⟨4,
.seq (.reg [⟨(some 4), .box 3 (.tmp 0), none⟩,
⟨(some 8), .box 8 (.const (.agg [(.int .i64 0), (.int .i64 0), (.lst [] true), (.lst [] true), (.int .i64 0), (.int .i64 0), (.lst [] true), (.lst [] true)])), none⟩,
⟨(some 9), .mov (.const (.int .i64 0)), none⟩])
(.seq (.reg [⟨(some 10), .fieldAddr 1 (.tmp 4), none⟩,
⟨(some 11), .load false 1 (.tmp 10), none⟩,
⟨(some 12), .mov (.tmp 1), none⟩,
⟨(some 13), .call 19 [(.tmp 11), (.tmp 12)] .thaw, none⟩,
⟨(some 14), .extract (.tmp 13) 0, none⟩,
⟨(some 15), .extract (.tmp 13) 1, none⟩,
⟨none, .store 8 (.tmp 8) (.tmp 14), none⟩,
⟨(some 9), .mov (.tmp 15), none⟩])
(.ret)),
[.cell 8 true 8, .tmp 9]⟩
/-- thrum/press.ways$5 -/
def c106 : Func1 := ⟨1,
.seq (.reg [⟨(some 1), .box 8 (.tmp 0), none⟩,
⟨(some 2), .mov (.const (.lst [] true)), none⟩,
⟨(some 3), .mov (.const (.int .i64 0)), none⟩])
(.seq (.reg [⟨(some 4), .fieldAddr 1 (.tmp 1), none⟩,
⟨(some 5), .load false 1 (.tmp 4), none⟩,
⟨(some 6), .fieldAddr 2 (.tmp 1), none⟩,
⟨(some 7), .load false 1 (.tmp 6), none⟩,
⟨(some 8), .fieldAddr 3 (.tmp 1), none⟩,
⟨(some 9), .load false 1 (.tmp 8), none⟩,
⟨(some 10), .call 107 [(.tmp 5), (.tmp 7), (.tmp 9)] .thaw, none⟩,
⟨(some 11), .extract (.tmp 10) 0, none⟩,
⟨(some 12), .extract (.tmp 10) 1, none⟩,
⟨(some 2), .mov (.tmp 11), none⟩,
⟨(some 3), .mov (.tmp 12), none⟩])
(.ret)),
[.tmp 2, .tmp 3]⟩
/-- thrum/index.Spread -/
def c107 : Func1 := ⟨3,
.seq (.reg [⟨(some 6), .mov (.const (.lst [] true)), none⟩,
⟨(some 7), .mov (.const (.int .i64 0)), none⟩])
(.seq (.seq (.reg [⟨(some 12), .mov (.tmp 0), none⟩,
⟨(some 13), .mov (.tmp 1), none⟩,
⟨(some 14), .call 144 [(.tmp 12), (.tmp 13)] .thaw, none⟩,
⟨(some 8), .mov (.tmp 14), none⟩])
(.block 0
(.seq (.reg [⟨(some 16), .mov (.tmp 8), none⟩,
⟨(some 17), .bin .neq (.tmp 16) (.const (.int .i64 0)), none⟩,
⟨(some 15), .mov (.tmp 17), none⟩])
(.cond (.tmp 15)
(.seq (.reg [⟨(some 18), .mov (.tmp 8), none⟩,
⟨(some 6), .mov (.const (.lst [] true)), none⟩,
⟨(some 7), .mov (.tmp 18), none⟩])
(.ret))
(.seq (.reg [⟨(some 20), .mov (.tmp 1), none⟩,
⟨(some 21), .len (.tmp 20), none⟩,
⟨(some 22), .mov (.tmp 2), none⟩,
⟨(some 23), .len (.tmp 22), none⟩,
⟨(some 24), .bin .neq (.tmp 21) (.tmp 23), none⟩,
⟨(some 19), .mov (.tmp 24), none⟩])
(.cond (.tmp 19)
(.seq (.reg [⟨(some 6), .mov (.const (.lst [] true)), none⟩,
⟨(some 7), .mov (.const (.int .i64 4)), none⟩])
(.ret))
(.skip)))))))
(.seq (.reg [⟨(some 25), .mov (.tmp 0), none⟩,
⟨(some 26), .mkSlice 1 8 [(.int .i64 0)] (.tmp 25) (.tmp 25), none⟩,
⟨(some 9), .mov (.tmp 26), none⟩])
(.seq (.seq (.reg [⟨(some 27), .mov (.tmp 1), none⟩,
⟨(some 28), .len (.tmp 27), none⟩,
⟨(some 29), .mov (.const (.int .i64 0)), none⟩])
(.block 1
(.loop [2, 9, 27, 28, 29]
(.seq (.reg [⟨(some 30), .bin .lss (.tmp 29) (.tmp 28), none⟩])
(.seq (.cond (.tmp 30)
(.skip)
(.exit 1))
(.seq (.block 2
(.seq (.reg [⟨(some 31), .mov (.tmp 29), none⟩,
⟨(some 32), .indexAddr 1 (.tmp 27) (.tmp 29), none⟩,
⟨(some 33), .load false 1 (.tmp 32), none⟩,
⟨(some 10), .mov (.tmp 31), none⟩,
⟨(some 11), .mov (.tmp 33), none⟩])
(.reg [⟨(some 34), .mov (.tmp 9), none⟩,
⟨(some 35), .mov (.tmp 11), none⟩,
⟨(some 36), .mov (.tmp 2), none⟩,
⟨(some 37), .mov (.tmp 10), none⟩,
⟨(some 38), .indexAddr 1 (.tmp 36) (.tmp 37), none⟩,
⟨(some 39), .load false 1 (.tmp 38), none⟩,
⟨(some 40), .indexAddr 1 (.tmp 34) (.tmp 35), none⟩,
⟨none, .store 1 (.tmp 40) (.tmp 39), none⟩])))
(.reg [⟨(some 41), .bin .add (.tmp 29) (.const (.int .i64 1)), none⟩,
⟨(some 29), .mov (.tmp 41), none⟩])))))))
(.seq (.reg [⟨(some 42), .mov (.tmp 9), none⟩,
⟨(some 6), .mov (.tmp 42), none⟩,
⟨(some 7), .mov (.const (.int .i64 0)), none⟩])
(.ret))))),
[.tmp 6, .tmp 7]⟩
/-- thrum/press.ways$7 -/
def c110 : Func1 := ⟨2,
.seq (.reg [⟨(some 2), .box 3 (.tmp 0), none⟩,
⟨(some 4), .mov (.const (.bool false)), none⟩])
(.seq (.reg [⟨(some 5), .fieldAddr 1 (.tmp 2), none⟩,
⟨(some 6), .load false 1 (.tmp 5), none⟩,
⟨(some 7), .bin .eql (.tmp 6) (.const (.int .i64 0)), none⟩,
⟨(some 8), .mov (.tmp 7), none⟩,
⟨(some 9), .fieldAddr 2 (.tmp 2), (some (8, true))⟩,
⟨(some 10), .load false 1 (.tmp 9), (some (8, true))⟩,
⟨(some 11), .bin .gtr (.tmp 10) (.const (.int .i64 0)), (some (8, true))⟩,
⟨(some 12), .pick (.tmp 8) (.tmp 11) (.const (.bool false)), none⟩,
⟨(some 13), .mov (.tmp 12), none⟩,
⟨(some 14), .fieldAddr 2 (.tmp 2), (some (13, true))⟩,
⟨(some 15), .load false 1 (.tmp 14), (some (13, true))⟩,
⟨(some 16), .bin .leq (.tmp 15) (.const (.int .i64 8)), (some (13, true))⟩,
⟨(some 17), .pick (.tmp 13) (.tmp 16) (.const (.bool false)), none⟩,
⟨(some 4), .mov (.tmp 17), none⟩])
(.ret)),
[.tmp 4]⟩
/-- thrum/press.ways$10 -/
def c116 : Func1 := ⟨4,
.seq (.reg [⟨(some 4), .box 3 (.tmp 0), none⟩,
⟨(some 8), .box 8 (.const (.agg [(.int .i64 0), (.int .i64 0), (.lst [] true), (.lst [] true), (.int .i64 0), (.int .i64 0), (.lst [] true), (.lst [] true)])), none⟩,
⟨(some 9), .mov (.const (.int .i64 0)), none⟩])
(.seq (.reg [⟨(some 10), .mov (.tmp 1), none⟩,
⟨(some 11), .call 117 [(.tmp 10)] .thaw, none⟩,
⟨(some 12), .extract (.tmp 11) 0, none⟩,
⟨(some 13), .extract (.tmp 11) 1, none⟩,
⟨none, .store 8 (.tmp 8) (.tmp 12), none⟩,
⟨(some 9), .mov (.tmp 13), none⟩])
(.ret)),
[.cell 8 true 8, .tmp 9]⟩
/-- thrum/sign.Press -/
def c117 : Func1 := ⟨1,
.seq (.reg [⟨(some 2), .box 8 (.const (.agg [(.int .i64 0), (.int .i64 0), (.lst [] true), (.lst [] true), (.int .i64 0), (.int .i64 0), (.lst [] true), (.lst [] true)])), none⟩,
⟨(some 3), .mov (.const (.int .i64 0)), none⟩])
(.seq (.reg [⟨(some 7), .mov (.tmp 0), none⟩,
⟨(some 8), .call 188 [(.tmp 7)] .thaw, none⟩,
⟨(some 6), .mov (.tmp 8), none⟩,
⟨(some 9), .extract (.tmp 6) 0, none⟩,
⟨(some 10), .extract (.tmp 6) 1, none⟩,
⟨(some 4), .mov (.tmp 9), none⟩,
⟨(some 5), .mov (.tmp 10), none⟩])
(.seq (.seq (.reg [⟨(some 11), .mov (.tmp 5), none⟩,
⟨(some 12), .bin .neq (.tmp 11) (.const (.int .i64 0)), none⟩])
(.cond (.tmp 12)
(.seq (.reg [⟨(some 13), .build [(.int .i64 0), (.int .i64 0), (.lst [] true), (.lst [] true), (.int .i64 0), (.int .i64 0), (.lst [] true), (.lst [] true)] [], none⟩,
⟨(some 14), .mov (.tmp 5), none⟩,
⟨none, .store 8 (.tmp 2) (.tmp 13), none⟩,
⟨(some 3), .mov (.tmp 14), none⟩])
(.ret))
(.skip)))
(.seq (.reg [⟨(some 15), .mov (.tmp 0), none⟩,
⟨(some 16), .len (.tmp 15), none⟩,
⟨(some 17), .mov (.tmp 4), none⟩,
⟨(some 18), .mov (.tmp 0), none⟩,
⟨(some 19), .call 189 [(.tmp 18), (.const (.func (.func 190) [] []))] .auto, none⟩,
⟨(some 20), .build [(.int .i64 0), (.int .i64 0), (.lst [] true), (.lst [] true), (.int .i64 0), (.int .i64 0), (.lst [] true), (.lst [] true)] [(0, 1, (.const (.int .i64 3))), (1, 1, (.tmp 16)), (4, 1, (.tmp 17)), (7, 1, (.tmp 19))], none⟩,
⟨none, .store 8 (.tmp 2) (.tmp 20), none⟩,
⟨(some 3), .mov (.const (.int .i64 0)), none⟩])
(.ret)))),
[.cell 2 true 8, .tmp 3]⟩
/-- thrum/sign.Loosen -/
def c118 : Func1 := ⟨1,
.seq (.reg [⟨(some 1), .box 8 (.tmp 0), none⟩,
⟨(some 2), .mov (.const (.lst [] true)), none⟩,
⟨(some 3), .mov (.const (.int .i64 0)), none⟩])
(.seq (.seq (.reg [⟨(some 4), .load true 8 (.tmp 1), none⟩,
⟨(some 5), .call 23 [(.tmp 4)] .auto, none⟩,
⟨(some 6), .un .not (.tmp 5), none⟩,
⟨(some 7), .mov (.tmp 6), none⟩,
⟨(some 8), .fieldAddr 0 (.tmp 1), (some (7, false))⟩,
⟨(some 9), .load false 1 (.tmp 8), (some (7, false))⟩,
⟨(some 10), .bin .neq (.tmp 9) (.const (.int .i64 3)), (some (7, false))⟩,
⟨(some 11), .pick (.tmp 7) (.const (.bool true)) (.tmp 10), none⟩])
(.cond (.tmp 11)
(.seq (.reg [⟨(some 2), .mov (.const (.lst [] true)), none⟩,
⟨(some 3), .mov (.const (.int .i64 1)), none⟩])
(.ret))
(.skip)))
(.seq (.reg [⟨(some 12), .fieldAddr 7 (.tmp 1), none⟩,
⟨(some 13), .load false 1 (.tmp 12), none⟩,
⟨(some 14), .mkFunc 192 [] [(.tmp 1)], none⟩,
⟨(some 15), .call 191 [(.tmp 13), (.tmp 14)] .thaw, none⟩,
⟨(some 2), .mov (.tmp 15), none⟩,
⟨(some 3), .mov (.const (.int .i64 0)), none⟩])
(.ret))),
[.tmp 2, .tmp 3]⟩
/-- thrum/topk.ones -/
def c121 : Func1 := ⟨1,
.seq (.reg [⟨(some 2), .mov (.const (.lst [] true)), none⟩])
(.seq (.reg [⟨(some 6), .mov (.tmp 0), none⟩,
⟨(some 7), .len (.tmp 6), none⟩,
⟨(some 8), .mkSlice 2 16 [(.int .i64 0), (.int .u64 0)] (.tmp 7) (.tmp 7), none⟩,
⟨(some 3), .mov (.tmp 8), none⟩])
(.seq (.seq (.reg [⟨(some 9), .mov (.tmp 0), none⟩,
⟨(some 10), .len (.tmp 9), none⟩,
⟨(some 11), .mov (.const (.int .i64 0)), none⟩])
(.block 0
(.loop [3, 9, 10, 11]
(.seq (.reg [⟨(some 12), .bin .lss (.tmp 11) (.tmp 10), none⟩])
(.seq (.cond (.tmp 12)
(.skip)
(.exit 0))
(.seq (.block 1
(.seq (.reg [⟨(some 13), .mov (.tmp 11), none⟩,
⟨(some 14), .indexAddr 1 (.tmp 9) (.tmp 11), none⟩,
⟨(some 15), .load false 1 (.tmp 14), none⟩,
⟨(some 4), .mov (.tmp 13), none⟩,
⟨(some 5), .mov (.tmp 15), none⟩])
(.reg [⟨(some 16), .mov (.tmp 3), none⟩,
⟨(some 17), .mov (.tmp 4), none⟩,
⟨(some 18), .mov (.tmp 4), none⟩,
⟨(some 19), .mov (.tmp 5), none⟩,
⟨(some 20), .call 127 [(.tmp 19)] .auto, none⟩,
⟨(some 21), .build [(.int .i64 0), (.int .u64 0)] [(0, 1, (.tmp 18)), (1, 1, (.tmp 20))], none⟩,
⟨(some 22), .indexAddr 2 (.tmp 16) (.tmp 17), none⟩,
⟨none, .store 2 (.tmp 22) (.tmp 21), none⟩])))
(.reg [⟨(some 23), .bin .add (.tmp 11) (.const (.int .i64 1)), none⟩,
⟨(some 11), .mov (.tmp 23), none⟩])))))))
(.seq (.reg [⟨(some 24), .mov (.tmp 3), none⟩,
⟨(some 2), .mov (.tmp 24), none⟩])
(.ret)))),
[.tmp 2]⟩
/-- container/heap.Push -/
def c122 : Func1 := ⟨2,
.seq (.reg [⟨(some 4), .mov (.tmp 0), none⟩,
⟨(some 5), .mov (.tmp 1), none⟩,
⟨(some 6), .invoke (.tmp 4) [(137, 352, .plain)] [(.tmp 5)] .auto, none⟩])
(.reg [⟨(some 7), .mov (.tmp 0), none⟩,
⟨(some 8), .mov (.tmp 0), none⟩,
⟨(some 9), .invoke (.tmp 8) [(17, 347, .plain), (137, 123, (.deref false 1)), (139, 123, .plain)] [] .auto, none⟩,
⟨(some 10), .bin .sub (.tmp 9) (.const (.int .i64 1)), none⟩,
⟨(some 11), .call 193 [(.tmp 7), (.tmp 10)] .auto, none⟩]),
[]⟩
/-- (thrum/topk.best).Len -/
def c123 : Func1 := ⟨1,
.seq (.reg [⟨(some 2), .mov (.const (.int .i64 0)), none⟩])
(.seq (.reg [⟨(some 3), .mov (.tmp 0), none⟩,
⟨(some 4), .len (.tmp 3), none⟩,
⟨(some 2), .mov (.tmp 4), none⟩])
(.ret)),
[.tmp 2]⟩
/-- container/heap.Pop -/
def c124 : Func1 := ⟨1,
.seq (.reg [⟨(some 2), .mov (.const .nilif), none⟩])
(.seq (.reg [⟨(some 4), .mov (.tmp 0), none⟩,
⟨(some 5), .invoke (.tmp 4) [(17, 347, .plain), (137, 123, (.deref false 1)), (139, 123, .plain)] [] .auto, none⟩,
⟨(some 6), .bin .sub (.tmp 5) (.const (.int .i64 1)), none⟩,
⟨(some 3), .mov (.tmp 6), none⟩])
(.seq (.reg [⟨(some 7), .mov (.tmp 0), none⟩,
⟨(some 8), .mov (.tmp 3), none⟩,
⟨(some 9), .invoke (.tmp 7) [(137, 353, (.deref false 1)), (139, 353, .plain), (309, 427, .plain)] [(.const (.int .i64 0)), (.tmp 8)] .shared, none⟩])
(.seq (.reg [⟨(some 10), .mov (.tmp 0), none⟩,
⟨(some 11), .mov (.tmp 3), none⟩,
⟨(some 12), .call 194 [(.tmp 10), (.const (.int .i64 0)), (.tmp 11)] .auto, none⟩])
(.seq (.reg [⟨(some 13), .mov (.tmp 0), none⟩,
⟨(some 14), .invoke (.tmp 13) [(137, 351, .plain)] [] .auto, none⟩,
⟨(some 2), .mov (.tmp 14), none⟩])
(.ret))))),
[.tmp 2]⟩
/-- thrum/topk.places -/
def c125 : Func1 := ⟨1,
.seq (.reg [⟨(some 2), .mov (.const (.lst [] true)), none⟩])
(.seq (.reg [⟨(some 6), .mov (.tmp 0), none⟩,
⟨(some 7), .len (.tmp 6), none⟩,
⟨(some 8), .mkSlice 1 8 [(.int .i64 0)] (.const (.int .i64 0)) (.tmp 7), none⟩,
⟨(some 3), .mov (.tmp 8), none⟩])
(.seq (.seq (.reg [⟨(some 9), .mov (.tmp 0), none⟩,
⟨(some 10), .len (.tmp 9), none⟩,
⟨(some 11), .mov (.const (.int .i64 0)), none⟩])
(.block 0
(.loop [3, 9, 10, 11]
(.seq (.reg [⟨(some 12), .bin .lss (.tmp 11) (.tmp 10), none⟩])
(.seq (.cond (.tmp 12)
(.skip)
(.exit 0))
(.seq (.block 1
(.seq (.reg [⟨(some 13), .indexAddr 2 (.tmp 9) (.tmp 11), none⟩,
⟨(some 14), .load true 2 (.tmp 13), none⟩,
⟨(some 5), .box 2 (.const (.agg [(.int .i64 0), (.int .u64 0)])), none⟩,
⟨none, .store 2 (.tmp 5) (.tmp 14), none⟩])
(.reg [⟨(some 15), .mov (.tmp 3), none⟩,
⟨(some 16), .fieldAddr 0 (.tmp 5), none⟩,
⟨(some 17), .load false 1 (.tmp 16), none⟩,
⟨(some 18), .buildSlice 1 [[(.int .i64 0)]] [(0, (.tmp 17))], none⟩,
⟨(some 19), .append 1 8 (.tmp 15) (.tmp 18), none⟩,
⟨(some 3), .mov (.tmp 19), none⟩])))
(.reg [⟨(some 20), .bin .add (.tmp 11) (.const (.int .i64 1)), none⟩,
⟨(some 11), .mov (.tmp 20), none⟩])))))))
(.seq (.reg [⟨(some 21), .mov (.tmp 3), none⟩,
⟨(some 2), .mov (.tmp 21), none⟩])
(.ret)))),
[.tmp 2]⟩
/-- thrum/topk.size -/
def c127 : Func1 := ⟨1,
.seq (.reg [⟨(some 2), .mov (.const (.int .u64 0)), none⟩])
(.seq (.seq (.reg [⟨(some 3), .mov (.tmp 0), none⟩,
⟨(some 4), .bin .lss (.tmp 3) (.const (.int .i64 0)), none⟩])
(.cond (.tmp 4)
(.seq (.reg [⟨(some 5), .mov (.tmp 0), none⟩,
⟨(some 6), .conv .u64 (.tmp 5), none⟩,
⟨(some 7), .un .neg (.tmp 6), none⟩,
⟨(some 2), .mov (.tmp 7), none⟩])
(.ret))
(.skip)))
(.seq (.reg [⟨(some 8), .mov (.tmp 0), none⟩,
⟨(some 9), .conv .u64 (.tmp 8), none⟩,
⟨(some 2), .mov (.tmp 9), none⟩])
(.ret))),
[.tmp 2]⟩
/-- slices.IndexFunc[[]int,int] -/
def c143 : Func1 := ⟨2,
.seq (.reg [⟨(some 4), .mov (.const (.int .i64 0)), none⟩])
(.seq (.seq (.reg [⟨(some 6), .mov (.tmp 0), none⟩,
⟨(some 7), .len (.tmp 6), none⟩,
⟨(some 8), .mov (.const (.int .i64 0)), none⟩])
(.block 0
(.loop [0, 1, 7, 8]
(.seq (.reg [⟨(some 9), .bin .lss (.tmp 8) (.tmp 7), none⟩])
(.seq (.cond (.tmp 9)
(.skip)
(.exit 0))
(.seq (.block 1
(.seq (.reg [⟨(some 10), .mov (.tmp 8), none⟩,
⟨(some 5), .mov (.tmp 10), none⟩])
(.seq (.reg [⟨(some 11), .mov (.tmp 1), none⟩,
⟨(some 12), .mov (.tmp 0), none⟩,
⟨(some 13), .mov (.tmp 5), none⟩,
⟨(some 14), .indexAddr 1 (.tmp 12) (.tmp 13), none⟩,
⟨(some 15), .load false 1 (.tmp 14), none⟩,
⟨(some 16), .dyn (.tmp 11) [(.tmp 15)] .auto, none⟩])
(.cond (.tmp 16)
(.seq (.reg [⟨(some 17), .mov (.tmp 5), none⟩,
⟨(some 4), .mov (.tmp 17), none⟩])
(.ret))
(.skip)))))
(.reg [⟨(some 18), .bin .add (.tmp 8) (.const (.int .i64 1)), none⟩,
⟨(some 8), .mov (.tmp 18), none⟩])))))))
(.seq (.reg [⟨(some 4), .mov (.const (.int .i64 (-1))), none⟩])
(.ret))),
[.tmp 4]⟩
/-- thrum/index.Check -/
def c144 : Func1 := ⟨2,
.seq (.reg [⟨(some 4), .mov (.const (.int .i64 0)), none⟩])
(.seq (.reg [⟨(some 6), .mov (.tmp 1), none⟩,
⟨(some 7), .len (.tmp 6), none⟩,
⟨(some 5), .mov (.tmp 7), none⟩])
(.seq (.seq (.reg [⟨(some 8), .mov (.tmp 0), none⟩,
⟨(some 9), .call 208 [(.tmp 8)] .auto, none⟩,
⟨(some 10), .un .not (.tmp 9), none⟩,
⟨(some 11), .mov (.tmp 10), none⟩,
⟨(some 12), .mov (.tmp 1), (some (11, false))⟩,
⟨(some 13), .call 65 [(.tmp 12)] .auto, (some (11, false))⟩,
⟨(some 14), .un .not (.tmp 13), (some (11, false))⟩,
⟨(some 15), .pick (.tmp 11) (.const (.bool true)) (.tmp 14), none⟩,
⟨(some 16), .mov (.tmp 15), none⟩,
⟨(some 17), .mov (.tmp 5), (some (16, false))⟩,
⟨(some 18), .bin .gtr (.tmp 17) (.const (.int .i64 0)), (some (16, false))⟩,
⟨(some 19), .mov (.tmp 18), (some (16, false))⟩,
⟨(some 20), .mov (.tmp 1), (some (19, true))⟩,
⟨(some 21), .indexAddr 1 (.tmp 20) (.const (.int .i64 0)), (some (19, true))⟩,
⟨(some 22), .load false 1 (.tmp 21), (some (19, true))⟩,
⟨(some 23), .bin .lss (.tmp 22) (.const (.int .i64 0)), (some (19, true))⟩,
⟨(some 24), .mov (.tmp 23), (some (19, true))⟩,
⟨(some 25), .mov (.tmp 1), (some (24, false))⟩,
⟨(some 26), .mov (.tmp 5), (some (24, false))⟩,
⟨(some 27), .bin .sub (.tmp 26) (.const (.int .i64 1)), (some (24, false))⟩,
⟨(some 28), .indexAddr 1 (.tmp 25) (.tmp 27), (some (24, false))⟩,
⟨(some 29), .load false 1 (.tmp 28), (some (24, false))⟩,
⟨(some 30), .mov (.tmp 0), (some (24, false))⟩,
⟨(some 31), .bin .geq (.tmp 29) (.tmp 30), (some (24, false))⟩,
⟨(some 32), .pick (.tmp 24) (.const (.bool true)) (.tmp 31), (some (19, true))⟩,
⟨(some 33), .pick (.tmp 19) (.tmp 32) (.const (.bool false)), (some (16, false))⟩,
⟨(some 34), .pick (.tmp 16) (.const (.bool true)) (.tmp 33), none⟩])
(.cond (.tmp 34)
(.seq (.reg [⟨(some 4), .mov (.const (.int .i64 1)), none⟩])
(.ret))
(.skip)))
(.seq (.reg [⟨(some 4), .mov (.const (.int .i64 0)), none⟩])
(.ret)))),
[.tmp 4]⟩
/-- slices.ContainsFunc[[]uint64,uint64] -/
def c145 : Func1 := ⟨2,
.seq (.reg [⟨(some 4), .mov (.const (.bool false)), none⟩])
(.seq (.reg [⟨(some 5), .mov (.tmp 0), none⟩,
⟨(some 6), .mov (.tmp 1), none⟩,
⟨(some 7), .call 209 [(.tmp 5), (.tmp 6)] .auto, none⟩,
⟨(some 8), .bin .geq (.tmp 7) (.const (.int .i64 0)), none⟩,
⟨(some 4), .mov (.tmp 8), none⟩])
(.ret)),
[.tmp 4]⟩
/-- slices.Equal[[]int,int] -/
def c148 : Func1 := ⟨2,
.seq (.reg [⟨(some 4), .mov (.const (.bool false)), none⟩])
(.seq (.seq (.reg [⟨(some 6), .mov (.tmp 0), none⟩,
⟨(some 7), .len (.tmp 6), none⟩,
⟨(some 8), .mov (.tmp 1), none⟩,
⟨(some 9), .len (.tmp 8), none⟩,
⟨(some 10), .bin .neq (.tmp 7) (.tmp 9), none⟩])
(.cond (.tmp 10)
(.seq (.reg [⟨(some 4), .mov (.const (.bool false)), none⟩])
(.ret))
(.skip)))
(.seq (.seq (.reg [⟨(some 11), .mov (.tmp 0), none⟩,
⟨(some 12), .len (.tmp 11), none⟩,
⟨(some 13), .mov (.const (.int .i64 0)), none⟩])
(.block 0
(.loop [0, 1, 12, 13]
(.seq (.reg [⟨(some 14), .bin .lss (.tmp 13) (.tmp 12), none⟩])
(.seq (.cond (.tmp 14)
(.skip)
(.exit 0))
(.seq (.block 1
(.seq (.reg [⟨(some 15), .mov (.tmp 13), none⟩,
⟨(some 5), .mov (.tmp 15), none⟩])
(.seq (.regd [⟨(some 16), .mov (.tmp 0), none⟩,
⟨(some 17), .mov (.tmp 5), none⟩,
⟨(some 18), .indexAddr 1 (.tmp 16) (.tmp 17), none⟩,
⟨(some 19), .load false 1 (.tmp 18), none⟩,
⟨(some 20), .mov (.tmp 1), none⟩,
⟨(some 21), .mov (.tmp 5), none⟩,
⟨(some 22), .indexAddr 1 (.tmp 20) (.tmp 21), none⟩,
⟨(some 23), .load false 1 (.tmp 22), none⟩,
⟨(some 24), .bin .neq (.tmp 19) (.tmp 23), none⟩] [])
(.cond (.tmp 24)
(.seq (.reg [⟨(some 4), .mov (.const (.bool false)), none⟩])
(.ret))
(.skip)))))
(.reg [⟨(some 25), .bin .add (.tmp 13) (.const (.int .i64 1)), none⟩,
⟨(some 13), .mov (.tmp 25), none⟩])))))))
(.seq (.reg [⟨(some 4), .mov (.const (.bool true)), none⟩])
(.ret)))),
[.tmp 4]⟩
/-- slices.Equal[[]uint64,uint64] -/
def c149 : Func1 := ⟨2,
.seq (.reg [⟨(some 4), .mov (.const (.bool false)), none⟩])
(.seq (.seq (.reg [⟨(some 6), .mov (.tmp 0), none⟩,
⟨(some 7), .len (.tmp 6), none⟩,
⟨(some 8), .mov (.tmp 1), none⟩,
⟨(some 9), .len (.tmp 8), none⟩,
⟨(some 10), .bin .neq (.tmp 7) (.tmp 9), none⟩])
(.cond (.tmp 10)
(.seq (.reg [⟨(some 4), .mov (.const (.bool false)), none⟩])
(.ret))
(.skip)))
(.seq (.seq (.reg [⟨(some 11), .mov (.tmp 0), none⟩,
⟨(some 12), .len (.tmp 11), none⟩,
⟨(some 13), .mov (.const (.int .i64 0)), none⟩])
(.block 0
(.loop [0, 1, 12, 13]
(.seq (.reg [⟨(some 14), .bin .lss (.tmp 13) (.tmp 12), none⟩])
(.seq (.cond (.tmp 14)
(.skip)
(.exit 0))
(.seq (.block 1
(.seq (.reg [⟨(some 15), .mov (.tmp 13), none⟩,
⟨(some 5), .mov (.tmp 15), none⟩])
(.seq (.regd [⟨(some 16), .mov (.tmp 0), none⟩,
⟨(some 17), .mov (.tmp 5), none⟩,
⟨(some 18), .indexAddr 1 (.tmp 16) (.tmp 17), none⟩,
⟨(some 19), .load false 1 (.tmp 18), none⟩,
⟨(some 20), .mov (.tmp 1), none⟩,
⟨(some 21), .mov (.tmp 5), none⟩,
⟨(some 22), .indexAddr 1 (.tmp 20) (.tmp 21), none⟩,
⟨(some 23), .load false 1 (.tmp 22), none⟩,
⟨(some 24), .bin .neq (.tmp 19) (.tmp 23), none⟩] [])
(.cond (.tmp 24)
(.seq (.reg [⟨(some 4), .mov (.const (.bool false)), none⟩])
(.ret))
(.skip)))))
(.reg [⟨(some 25), .bin .add (.tmp 13) (.const (.int .i64 1)), none⟩,
⟨(some 13), .mov (.tmp 25), none⟩])))))))
(.seq (.reg [⟨(some 4), .mov (.const (.bool true)), none⟩])
(.ret)))),
[.tmp 4]⟩
/-- slices.Equal[[]bool,bool] -/
def c150 : Func1 := ⟨2,
.seq (.reg [⟨(some 4), .mov (.const (.bool false)), none⟩])
(.seq (.seq (.reg [⟨(some 6), .mov (.tmp 0), none⟩,
⟨(some 7), .len (.tmp 6), none⟩,
⟨(some 8), .mov (.tmp 1), none⟩,
⟨(some 9), .len (.tmp 8), none⟩,
⟨(some 10), .bin .neq (.tmp 7) (.tmp 9), none⟩])
(.cond (.tmp 10)
(.seq (.reg [⟨(some 4), .mov (.const (.bool false)), none⟩])
(.ret))
(.skip)))
(.seq (.seq (.reg [⟨(some 11), .mov (.tmp 0), none⟩,
⟨(some 12), .len (.tmp 11), none⟩,
⟨(some 13), .mov (.const (.int .i64 0)), none⟩])
(.block 0
(.loop [0, 1, 12, 13]
(.seq (.reg [⟨(some 14), .bin .lss (.tmp 13) (.tmp 12), none⟩])
(.seq (.cond (.tmp 14)
(.skip)
(.exit 0))
(.seq (.block 1
(.seq (.reg [⟨(some 15), .mov (.tmp 13), none⟩,
⟨(some 5), .mov (.tmp 15), none⟩])
(.seq (.regd [⟨(some 16), .mov (.tmp 0), none⟩,
⟨(some 17), .mov (.tmp 5), none⟩,
⟨(some 18), .indexAddr 1 (.tmp 16) (.tmp 17), none⟩,
⟨(some 19), .load false 1 (.tmp 18), none⟩,
⟨(some 20), .mov (.tmp 1), none⟩,
⟨(some 21), .mov (.tmp 5), none⟩,
⟨(some 22), .indexAddr 1 (.tmp 20) (.tmp 21), none⟩,
⟨(some 23), .load false 1 (.tmp 22), none⟩,
⟨(some 24), .eqB true (.tmp 19) (.tmp 23), none⟩] [])
(.cond (.tmp 24)
(.seq (.reg [⟨(some 4), .mov (.const (.bool false)), none⟩])
(.ret))
(.skip)))))
(.reg [⟨(some 25), .bin .add (.tmp 13) (.const (.int .i64 1)), none⟩,
⟨(some 13), .mov (.tmp 25), none⟩])))))))
(.seq (.reg [⟨(some 4), .mov (.const (.bool true)), none⟩])
(.ret)))),
[.tmp 4]⟩
/-- slices.IndexFunc[[]thrum/api.Sample,thrum/api.Sample] -/
def c151 : Func1 := ⟨2,
.seq (.reg [⟨(some 4), .mov (.const (.int .i64 0)), none⟩])
(.seq (.seq (.reg [⟨(some 6), .mov (.tmp 0), none⟩,
⟨(some 7), .len (.tmp 6), none⟩,
⟨(some 8), .mov (.const (.int .i64 0)), none⟩])
(.block 0
(.loop [0, 1, 7, 8]
(.seq (.reg [⟨(some 9), .bin .lss (.tmp 8) (.tmp 7), none⟩])
(.seq (.cond (.tmp 9)
(.skip)
(.exit 0))
(.seq (.block 1
(.seq (.reg [⟨(some 10), .mov (.tmp 8), none⟩,
⟨(some 5), .mov (.tmp 10), none⟩])
(.seq (.reg [⟨(some 11), .mov (.tmp 1), none⟩,
⟨(some 12), .mov (.tmp 0), none⟩,
⟨(some 13), .mov (.tmp 5), none⟩,
⟨(some 14), .indexAddr 2 (.tmp 12) (.tmp 13), none⟩,
⟨(some 15), .load true 2 (.tmp 14), none⟩,
⟨(some 16), .dyn (.tmp 11) [(.tmp 15)] .auto, none⟩])
(.cond (.tmp 16)
(.seq (.reg [⟨(some 17), .mov (.tmp 5), none⟩,
⟨(some 4), .mov (.tmp 17), none⟩])
(.ret))
(.skip)))))
(.reg [⟨(some 18), .bin .add (.tmp 8) (.const (.int .i64 1)), none⟩,
⟨(some 8), .mov (.tmp 18), none⟩])))))))
(.seq (.reg [⟨(some 4), .mov (.const (.int .i64 (-1))), none⟩])
(.ret))),
[.tmp 4]⟩
/-- thrum/thrumref17.Check -/
def c152 : Func1 := ⟨1,
.seq (.reg [⟨(some 1), .box 5 (.tmp 0), none⟩,
⟨(some 2), .mov (.const (.int .i64 0)), none⟩])
(.seq (.reg [⟨(some 4), .fieldAddr 1 (.tmp 1), none⟩,
⟨(some 5), .load false 1 (.tmp 4), none⟩,
⟨(some 6), .bin .geq (.tmp 5) (.const (.int .i64 1)), none⟩,
⟨(some 7), .mov (.tmp 6), none⟩,
⟨(some 8), .fieldAddr 1 (.tmp 1), (some (7, true))⟩,
⟨(some 9), .load false 1 (.tmp 8), (some (7, true))⟩,
⟨(some 10), .bin .leq (.tmp 9) (.const (.int .i64 16)), (some (7, true))⟩,
⟨(some 11), .pick (.tmp 7) (.tmp 10) (.const (.bool false)), none⟩,
⟨(some 12), .mov (.tmp 11), none⟩,
⟨(some 13), .fieldAddr 4 (.tmp 1), (some (12, true))⟩,
⟨(some 14), .load false 1 (.tmp 13), (some (12, true))⟩,
⟨(some 15), .bin .geq (.tmp 14) (.const (.int .i64 0)), (some (12, true))⟩,
⟨(some 16), .pick (.tmp 12) (.tmp 15) (.const (.bool false)), none⟩,
⟨(some 17), .mov (.tmp 16), none⟩,
⟨(some 18), .fieldAddr 4 (.tmp 1), (some (17, true))⟩,
⟨(some 19), .load false 1 (.tmp 18), (some (17, true))⟩,
⟨(some 20), .bin .leq (.tmp 19) (.const (.int .i64 30)), (some (17, true))⟩,
⟨(some 21), .pick (.tmp 17) (.tmp 20) (.const (.bool false)), none⟩,
⟨(some 3), .mov (.tmp 21), none⟩])
(.seq (.seq (.reg [⟨(some 22), .fieldAddr 0 (.tmp 1), none⟩,
⟨(some 23), .load false 1 (.tmp 22), none⟩])
(.block 0
(.seq (.reg [⟨(some 25), .bin .eql (.tmp 23) (.const (.int .i64 0)), none⟩,
⟨(some 24), .mov (.tmp 25), none⟩])
(.cond (.tmp 24)
(.reg [⟨(some 26), .mov (.tmp 3), none⟩,
⟨(some 27), .mov (.tmp 26), none⟩,
⟨(some 28), .fieldAddr 2 (.tmp 1), (some (27, true))⟩,
⟨(some 29), .load false 1 (.tmp 28), (some (27, true))⟩,
⟨(some 30), .bin .eql (.tmp 29) (.const (.int .i64 0)), (some (27, true))⟩,
⟨(some 31), .pick (.tmp 27) (.tmp 30) (.const (.bool false)), none⟩,
⟨(some 32), .mov (.tmp 31), none⟩,
⟨(some 33), .fieldAddr 3 (.tmp 1), (some (32, true))⟩,
⟨(some 34), .load false 1 (.tmp 33), (some (32, true))⟩,
⟨(some 35), .bin .eql (.tmp 34) (.const (.int .i64 0)), (some (32, true))⟩,
⟨(some 36), .pick (.tmp 32) (.tmp 35) (.const (.bool false)), none⟩,
⟨(some 3), .mov (.tmp 36), none⟩])
(.seq (.reg [⟨(some 38), .bin .eql (.tmp 23) (.const (.int .i64 1)), none⟩,
⟨(some 37), .mov (.tmp 38), none⟩])
(.cond (.tmp 37)
(.reg [⟨(some 39), .mov (.tmp 3), none⟩,
⟨(some 40), .mov (.tmp 39), none⟩,
⟨(some 41), .fieldAddr 2 (.tmp 1), (some (40, true))⟩,
⟨(some 42), .load false 1 (.tmp 41), (some (40, true))⟩,
⟨(some 43), .bin .geq (.tmp 42) (.const (.int .i64 2)), (some (40, true))⟩,
⟨(some 44), .pick (.tmp 40) (.tmp 43) (.const (.bool false)), none⟩,
⟨(some 45), .mov (.tmp 44), none⟩,
⟨(some 46), .fieldAddr 2 (.tmp 1), (some (45, true))⟩,
⟨(some 47), .load false 1 (.tmp 46), (some (45, true))⟩,
⟨(some 48), .bin .leq (.tmp 47) (.const (.int .i64 8)), (some (45, true))⟩,
⟨(some 49), .pick (.tmp 45) (.tmp 48) (.const (.bool false)), none⟩,
⟨(some 50), .mov (.tmp 49), none⟩,
⟨(some 51), .fieldAddr 3 (.tmp 1), (some (50, true))⟩,
⟨(some 52), .load false 1 (.tmp 51), (some (50, true))⟩,
⟨(some 53), .bin .eql (.tmp 52) (.const (.int .i64 0)), (some (50, true))⟩,
⟨(some 54), .pick (.tmp 50) (.tmp 53) (.const (.bool false)), none⟩,
⟨(some 3), .mov (.tmp 54), none⟩])
(.seq (.reg [⟨(some 56), .bin .eql (.tmp 23) (.const (.int .i64 2)), none⟩,
⟨(some 55), .mov (.tmp 56), none⟩])
(.cond (.tmp 55)
(.reg [⟨(some 57), .mov (.tmp 3), none⟩,
⟨(some 58), .mov (.tmp 57), none⟩,
⟨(some 59), .fieldAddr 2 (.tmp 1), (some (58, true))⟩,
⟨(some 60), .load false 1 (.tmp 59), (some (58, true))⟩,
⟨(some 61), .bin .eql (.tmp 60) (.const (.int .i64 0)), (some (58, true))⟩,
⟨(some 62), .pick (.tmp 58) (.tmp 61) (.const (.bool false)), none⟩,
⟨(some 63), .mov (.tmp 62), none⟩,
⟨(some 64), .fieldAddr 3 (.tmp 1), (some (63, true))⟩,
⟨(some 65), .load false 1 (.tmp 64), (some (63, true))⟩,
⟨(some 66), .bin .geq (.tmp 65) (.const (.int .i64 1)), (some (63, true))⟩,
⟨(some 67), .pick (.tmp 63) (.tmp 66) (.const (.bool false)), none⟩,
⟨(some 68), .mov (.tmp 67), none⟩,
⟨(some 69), .fieldAddr 3 (.tmp 1), (some (68, true))⟩,
⟨(some 70), .load false 1 (.tmp 69), (some (68, true))⟩,
⟨(some 71), .bin .leq (.tmp 70) (.const (.int .i64 8)), (some (68, true))⟩,
⟨(some 72), .pick (.tmp 68) (.tmp 71) (.const (.bool false)), none⟩,
⟨(some 3), .mov (.tmp 72), none⟩])
(.reg [⟨(some 3), .mov (.const (.bool false)), none⟩])))))))))
(.seq (.seq (.reg [⟨(some 73), .mov (.tmp 3), none⟩,
⟨(some 74), .un .not (.tmp 73), none⟩])
(.cond (.tmp 74)
(.seq (.reg [⟨(some 2), .mov (.const (.int .i64 1)), none⟩])
(.ret))
(.skip)))
(.seq (.reg [⟨(some 2), .mov (.const (.int .i64 0)), none⟩])
(.ret))))),
[.tmp 2]⟩
/-- thrum/thrumref15.Dim -/
def c153 : Func1 := ⟨2,
.seq (.reg [⟨(some 4), .mov (.const (.int .i64 0)), none⟩,
⟨(some 5), .mov (.const (.int .i64 0)), none⟩])
(.seq (.seq (.reg [⟨(some 6), .mov (.tmp 0), none⟩,
⟨(some 7), .bin .lss (.tmp 6) (.const (.int .i64 1)), none⟩,
⟨(some 8), .mov (.tmp 7), none⟩,
⟨(some 9), .mov (.tmp 0), (some (8, false))⟩,
⟨(some 10), .bin .gtr (.tmp 9) (.const (.int .i64 16)), (some (8, false))⟩,
⟨(some 11), .pick (.tmp 8) (.const (.bool true)) (.tmp 10), none⟩,
⟨(some 12), .mov (.tmp 11), none⟩,
⟨(some 13), .mov (.tmp 1), (some (12, false))⟩,
⟨(some 14), .bin .lss (.tmp 13) (.const (.int .i64 2)), (some (12, false))⟩,
⟨(some 15), .pick (.tmp 12) (.const (.bool true)) (.tmp 14), none⟩,
⟨(some 16), .mov (.tmp 15), none⟩,
⟨(some 17), .mov (.tmp 1), (some (16, false))⟩,
⟨(some 18), .bin .gtr (.tmp 17) (.const (.int .i64 8)), (some (16, false))⟩,
⟨(some 19), .pick (.tmp 16) (.const (.bool true)) (.tmp 18), none⟩])
(.cond (.tmp 19)
(.seq (.reg [⟨(some 4), .mov (.const (.int .i64 0)), none⟩,
⟨(some 5), .mov (.const (.int .i64 1)), none⟩])
(.ret))
(.skip)))
(.seq (.reg [⟨(some 20), .mov (.tmp 1), none⟩,
⟨(some 21), .mov (.tmp 0), none⟩,
⟨(some 22), .bin .add (.tmp 21) (.const (.int .i64 1)), none⟩,
⟨(some 23), .bin .mul (.tmp 20) (.tmp 22), none⟩,
⟨(some 4), .mov (.tmp 23), none⟩,
⟨(some 5), .mov (.const (.int .i64 0)), none⟩])
(.ret))),
[.tmp 4, .tmp 5]⟩
/-- thrum/thrumref16.Dim -/
def c154 : Func1 := ⟨2,
.seq (.reg [⟨(some 4), .mov (.const (.int .i64 0)), none⟩,
⟨(some 5), .mov (.const (.int .i64 0)), none⟩])
(.seq (.seq (.reg [⟨(some 6), .mov (.tmp 0), none⟩,
⟨(some 7), .bin .lss (.tmp 6) (.const (.int .i64 1)), none⟩,
⟨(some 8), .mov (.tmp 7), none⟩,
⟨(some 9), .mov (.tmp 0), (some (8, false))⟩,
⟨(some 10), .bin .gtr (.tmp 9) (.const (.int .i64 16)), (some (8, false))⟩,
⟨(some 11), .pick (.tmp 8) (.const (.bool true)) (.tmp 10), none⟩,
⟨(some 12), .mov (.tmp 11), none⟩,
⟨(some 13), .mov (.tmp 1), (some (12, false))⟩,
⟨(some 14), .bin .lss (.tmp 13) (.const (.int .i64 1)), (some (12, false))⟩,
⟨(some 15), .pick (.tmp 12) (.const (.bool true)) (.tmp 14), none⟩,
⟨(some 16), .mov (.tmp 15), none⟩,
⟨(some 17), .mov (.tmp 1), (some (16, false))⟩,
⟨(some 18), .bin .gtr (.tmp 17) (.const (.int .i64 8)), (some (16, false))⟩,
⟨(some 19), .pick (.tmp 16) (.const (.bool true)) (.tmp 18), none⟩])
(.cond (.tmp 19)
(.seq (.reg [⟨(some 4), .mov (.const (.int .i64 0)), none⟩,
⟨(some 5), .mov (.const (.int .i64 1)), none⟩])
(.ret))
(.skip)))
(.seq (.reg [⟨(some 20), .mov (.tmp 1), none⟩,
⟨(some 21), .mov (.tmp 0), none⟩,
⟨(some 22), .bin .add (.tmp 21) (.const (.int .i64 1)), none⟩,
⟨(some 23), .bin .mul (.tmp 20) (.tmp 22), none⟩,
⟨(some 24), .mov (.tmp 1), none⟩,
⟨(some 25), .bin .add (.tmp 23) (.tmp 24), none⟩,
⟨(some 26), .bin .add (.tmp 25) (.const (.int .i64 1)), none⟩,
⟨(some 4), .mov (.tmp 26), none⟩,
⟨(some 5), .mov (.const (.int .i64 0)), none⟩])
(.ret))),
[.tmp 4, .tmp 5]⟩
/-- thrum/thrumref14.Dim -/
def c155 : Func1 := ⟨1,
.seq (.reg [⟨(some 2), .mov (.const (.int .i64 0)), none⟩,
⟨(some 3), .mov (.const (.int .i64 0)), none⟩])
(.seq (.seq (.reg [⟨(some 4), .mov (.tmp 0), none⟩,
⟨(some 5), .bin .lss (.tmp 4) (.const (.int .i64 1)), none⟩,
⟨(some 6), .mov (.tmp 5), none⟩,
⟨(some 7), .mov (.tmp 0), (some (6, false))⟩,
⟨(some 8), .bin .gtr (.tmp 7) (.const (.int .i64 16)), (some (6, false))⟩,
⟨(some 9), .pick (.tmp 6) (.const (.bool true)) (.tmp 8), none⟩])
(.cond (.tmp 9)
(.seq (.reg [⟨(some 2), .mov (.const (.int .i64 0)), none⟩,
⟨(some 3), .mov (.const (.int .i64 1)), none⟩])
(.ret))
(.skip)))
(.seq (.reg [⟨(some 10), .mov (.tmp 0), none⟩,
⟨(some 11), .bin .add (.tmp 10) (.const (.int .i64 1)), none⟩,
⟨(some 2), .mov (.tmp 11), none⟩,
⟨(some 3), .mov (.const (.int .i64 0)), none⟩])
(.ret))),
[.tmp 2, .tmp 3]⟩
/-- thrum/draw.Order -/
def c156 : Func1 := ⟨3,
.seq (.reg [⟨(some 6), .mov (.const (.lst [] true)), none⟩,
⟨(some 7), .mov (.const (.int .i64 0)), none⟩])
(.seq (.block 0
(.seq (.reg [⟨(some 14), .mov (.tmp 0), none⟩,
⟨(some 15), .bin .lss (.tmp 14) (.const (.int .i64 0)), none⟩,
⟨(some 13), .mov (.tmp 15), none⟩])
(.cond (.tmp 13)
(.seq (.reg [⟨(some 6), .mov (.const (.lst [] true)), none⟩,
⟨(some 7), .mov (.const (.int .i64 1)), none⟩])
(.ret))
(.seq (.reg [⟨(some 17), .mov (.tmp 0), none⟩,
⟨(some 18), .bin .gtr (.tmp 17) (.const (.int .i64 4096)), none⟩,
⟨(some 16), .mov (.tmp 18), none⟩])
(.cond (.tmp 16)
(.seq (.reg [⟨(some 6), .mov (.const (.lst [] true)), none⟩,
⟨(some 7), .mov (.const (.int .i64 3)), none⟩])
(.ret))
(.skip))))))
(.seq (.reg [⟨(some 19), .mov (.tmp 0), none⟩,
⟨(some 20), .mkSlice 1 8 [(.int .i64 0)] (.tmp 19) (.tmp 19), none⟩,
⟨(some 8), .mov (.tmp 20), none⟩])
(.seq (.seq (.reg [⟨(some 21), .mov (.tmp 8), none⟩,
⟨(some 22), .len (.tmp 21), none⟩,
⟨(some 23), .mov (.const (.int .i64 0)), none⟩])
(.block 1
(.loop [0, 1, 2, 8, 22, 23]
(.seq (.reg [⟨(some 24), .bin .lss (.tmp 23) (.tmp 22), none⟩])
(.seq (.cond (.tmp 24)
(.skip)
(.exit 1))
(.seq (.block 2
(.seq (.reg [⟨(some 25), .mov (.tmp 23), none⟩,
⟨(some 9), .mov (.tmp 25), none⟩])
(.reg [⟨(some 26), .mov (.tmp 8), none⟩,
⟨(some 27), .mov (.tmp 9), none⟩,
⟨(some 28), .mov (.tmp 9), none⟩,
⟨(some 29), .indexAddr 1 (.tmp 26) (.tmp 27), none⟩,
⟨none, .store 1 (.tmp 29) (.tmp 28), none⟩])))
(.reg [⟨(some 30), .bin .add (.tmp 23) (.const (.int .i64 1)), none⟩,
⟨(some 23), .mov (.tmp 30), none⟩])))))))
(.seq (.reg [⟨(some 31), .mov (.tmp 1), none⟩,
⟨(some 32), .mov (.tmp 2), none⟩,
⟨(some 33), .call 211 [(.tmp 31), (.tmp 32)] .auto, none⟩,
⟨(some 10), .mov (.tmp 33), none⟩])
(.seq (.seq (.reg [⟨(some 34), .mov (.tmp 0), none⟩,
⟨(some 35), .bin .sub (.tmp 34) (.const (.int .i64 1)), none⟩,
⟨(some 11), .mov (.tmp 35), none⟩])
(.block 3
(.loop [8, 10, 11]
(.seq (.seq (.reg [⟨(some 36), .mov (.tmp 11), none⟩,
⟨(some 37), .bin .gtr (.tmp 36) (.const (.int .i64 0)), none⟩])
(.cond (.tmp 37)
(.skip)
(.exit 3)))
(.seq (.block 4
(.seq (.reg [⟨(some 40), .mov (.tmp 10), none⟩,
⟨(some 41), .mov (.tmp 11), none⟩,
⟨(some 42), .call 212 [(.tmp 40), (.tmp 41)] .auto, none⟩,
⟨(some 43), .call 213 [(.tmp 42)] .auto, none⟩,
⟨(some 44), .mov (.tmp 11), none⟩,
⟨(some 45), .bin .add (.tmp 44) (.const (.int .i64 1)), none⟩,
⟨(some 46), .conv .u64 (.tmp 45), none⟩,
⟨(some 47), .bin .rem (.tmp 43) (.tmp 46), none⟩,
⟨(some 12), .mov (.tmp 47), none⟩])
(.regd [⟨(some 48), .mov (.tmp 8), none⟩,
⟨(some 49), .mov (.tmp 11), none⟩,
⟨(some 50), .mov (.tmp 8), none⟩,
⟨(some 51), .mov (.tmp 12), none⟩,
⟨(some 52), .mov (.tmp 8), none⟩,
⟨(some 53), .mov (.tmp 12), none⟩,
⟨(some 54), .indexAddr 1 (.tmp 52) (.tmp 53), none⟩,
⟨(some 55), .load false 1 (.tmp 54), none⟩,
⟨(some 56), .mov (.tmp 8), none⟩,
⟨(some 57), .mov (.tmp 11), none⟩,
⟨(some 58), .indexAddr 1 (.tmp 56) (.tmp 57), none⟩,
⟨(some 59), .load false 1 (.tmp 58), none⟩,
⟨(some 60), .indexAddr 1 (.tmp 48) (.tmp 49), none⟩,
⟨none, .store 1 (.tmp 60) (.tmp 55), none⟩,
⟨(some 61), .indexAddr 1 (.tmp 50) (.tmp 51), none⟩,
⟨none, .store 1 (.tmp 61) (.tmp 59), none⟩] [])))
(.reg [⟨(some 38), .mov (.tmp 11), none⟩,
⟨(some 39), .bin .sub (.tmp 38) (.const (.int .i64 1)), none⟩,
⟨(some 11), .mov (.tmp 39), none⟩]))))))
(.seq (.reg [⟨(some 62), .mov (.tmp 8), none⟩,
⟨(some 6), .mov (.tmp 62), none⟩,
⟨(some 7), .mov (.const (.int .i64 0)), none⟩])
(.ret))))))),
[.tmp 6, .tmp 7]⟩
/-- thrum/thrumref08.Order -/
def c157 : Func1 := ⟨3,
.seq (.reg [⟨(some 6), .mov (.const (.lst [] true)), none⟩,
⟨(some 7), .mov (.const (.int .i64 0)), none⟩])
(.seq (.seq (.reg [⟨(some 14), .mov (.tmp 0), none⟩,
⟨(some 15), .bin .lss (.tmp 14) (.const (.int .i64 0)), none⟩])
(.cond (.tmp 15)
(.seq (.reg [⟨(some 6), .mov (.const (.lst [] true)), none⟩,
⟨(some 7), .mov (.const (.int .i64 1)), none⟩])
(.ret))
(.skip)))
(.seq (.seq (.reg [⟨(some 16), .mov (.tmp 0), none⟩,
⟨(some 17), .bin .gtr (.tmp 16) (.const (.int .i64 4096)), none⟩])
(.cond (.tmp 17)
(.seq (.reg [⟨(some 6), .mov (.const (.lst [] true)), none⟩,
⟨(some 7), .mov (.const (.int .i64 3)), none⟩])
(.ret))
(.skip)))
(.seq (.reg [⟨(some 18), .mov (.tmp 0), none⟩,
⟨(some 19), .mkSlice 1 8 [(.int .i64 0)] (.tmp 18) (.tmp 18), none⟩,
⟨(some 8), .mov (.tmp 19), none⟩])
(.seq (.seq (.reg [⟨(some 20), .mov (.tmp 8), none⟩,
⟨(some 21), .len (.tmp 20), none⟩,
⟨(some 22), .mov (.const (.int .i64 0)), none⟩])
(.block 0
(.loop [0, 1, 2, 8, 21, 22]
(.seq (.reg [⟨(some 23), .bin .lss (.tmp 22) (.tmp 21), none⟩])
(.seq (.cond (.tmp 23)
(.skip)
(.exit 0))
(.seq (.block 1
(.seq (.reg [⟨(some 24), .mov (.tmp 22), none⟩,
⟨(some 9), .mov (.tmp 24), none⟩])
(.reg [⟨(some 25), .mov (.tmp 8), none⟩,
⟨(some 26), .mov (.tmp 9), none⟩,
⟨(some 27), .mov (.tmp 9), none⟩,
⟨(some 28), .indexAddr 1 (.tmp 25) (.tmp 26), none⟩,
⟨none, .store 1 (.tmp 28) (.tmp 27), none⟩])))
(.reg [⟨(some 29), .bin .add (.tmp 22) (.const (.int .i64 1)), none⟩,
⟨(some 22), .mov (.tmp 29), none⟩])))))))
(.seq (.seq (.reg [⟨(some 30), .mov (.tmp 0), none⟩,
⟨(some 31), .bin .sub (.tmp 30) (.const (.int .i64 1)), none⟩,
⟨(some 10), .mov (.tmp 31), none⟩])
(.block 2
(.loop [1, 2, 8, 10]
(.seq (.seq (.reg [⟨(some 32), .mov (.tmp 10), none⟩,
⟨(some 33), .bin .geq (.tmp 32) (.const (.int .i64 1)), none⟩])
(.cond (.tmp 33)
(.skip)
(.exit 2)))
(.seq (.block 3
(.seq (.reg [⟨(some 37), .mov (.tmp 10), none⟩,
⟨(some 38), .bin .add (.tmp 37) (.const (.int .i64 1)), none⟩,
⟨(some 39), .conv .u64 (.tmp 38), none⟩,
⟨(some 40), .mov (.tmp 1), none⟩,
⟨(some 41), .mov (.tmp 2), none⟩,
⟨(some 42), .append 1 8 (.const (.lst [] true)) (.tmp 41), none⟩,
⟨(some 43), .mov (.tmp 10), none⟩,
⟨(some 44), .buildSlice 1 [[(.int .i64 0)]] [(0, (.tmp 43))], none⟩,
⟨(some 45), .append 1 8 (.tmp 42) (.tmp 44), none⟩,
⟨(some 46), .call 214 [(.tmp 39), (.tmp 40), (.tmp 45)] .auto, none⟩,
⟨(some 36), .mov (.tmp 46), none⟩,
⟨(some 47), .extract (.tmp 36) 0, none⟩,
⟨(some 48), .extract (.tmp 36) 1, none⟩,
⟨(some 11), .mov (.tmp 47), none⟩,
⟨(some 12), .mov (.tmp 48), none⟩])
(.seq (.reg [⟨(some 49), .mov (.tmp 8), none⟩,
⟨(some 50), .mov (.tmp 10), none⟩,
⟨(some 51), .indexAddr 1 (.tmp 49) (.tmp 50), none⟩,
⟨(some 52), .load false 1 (.tmp 51), none⟩,
⟨(some 13), .mov (.tmp 52), none⟩])
(.seq (.reg [⟨(some 53), .mov (.tmp 8), none⟩,
⟨(some 54), .mov (.tmp 10), none⟩,
⟨(some 55), .mov (.tmp 8), none⟩,
⟨(some 56), .mov (.tmp 11), none⟩,
⟨(some 57), .indexAddr 1 (.tmp 55) (.tmp 56), none⟩,
⟨(some 58), .load false 1 (.tmp 57), none⟩,
⟨(some 59), .indexAddr 1 (.tmp 53) (.tmp 54), none⟩,
⟨none, .store 1 (.tmp 59) (.tmp 58), none⟩])
(.reg [⟨(some 60), .mov (.tmp 8), none⟩,
⟨(some 61), .mov (.tmp 11), none⟩,
⟨(some 62), .mov (.tmp 13), none⟩,
⟨(some 63), .indexAddr 1 (.tmp 60) (.tmp 61), none⟩,
⟨none, .store 1 (.tmp 63) (.tmp 62), none⟩])))))
(.reg [⟨(some 34), .mov (.tmp 10), none⟩,
⟨(some 35), .bin .sub (.tmp 34) (.const (.int .i64 1)), none⟩,
⟨(some 10), .mov (.tmp 35), none⟩]))))))
(.seq (.reg [⟨(some 64), .mov (.tmp 8), none⟩,
⟨(some 6), .mov (.tmp 64), none⟩,
⟨(some 7), .mov (.const (.int .i64 0)), none⟩])
(.ret))))))),
[.tmp 6, .tmp 7]⟩
/-- thrum/thrumref15.Check -/
def c158 : Func1 := ⟨4,
.seq (.reg [⟨(some 8), .mov (.const (.int .i64 0)), none⟩])
(.seq (.reg [⟨(some 16), .mov (.tmp 0), none⟩,
⟨(some 17), .mov (.tmp 1), none⟩,
⟨(some 18), .call 153 [(.tmp 16), (.tmp 17)] .auto, none⟩,
⟨(some 15), .mov (.tmp 18), none⟩,
⟨(some 19), .extract (.tmp 15) 0, none⟩,
⟨(some 20), .extract (.tmp 15) 1, none⟩,
⟨(some 9), .mov (.tmp 19), none⟩,
⟨(some 10), .mov (.tmp 20), none⟩])
(.seq (.seq (.reg [⟨(some 21), .mov (.tmp 10), none⟩,
⟨(some 22), .bin .neq (.tmp 21) (.const (.int .i64 0)), none⟩])
(.cond (.tmp 22)
(.seq (.reg [⟨(some 23), .mov (.tmp 10), none⟩,
⟨(some 8), .mov (.tmp 23), none⟩])
(.ret))
(.skip)))
(.seq (.seq (.reg [⟨(some 24), .mov (.tmp 2), none⟩,
⟨(some 25), .len (.tmp 24), none⟩,
⟨(some 26), .mov (.tmp 9), none⟩,
⟨(some 27), .bin .neq (.tmp 25) (.tmp 26), none⟩])
(.cond (.tmp 27)
(.seq (.reg [⟨(some 8), .mov (.const (.int .i64 4)), none⟩])
(.ret))
(.skip)))
(.seq (.seq (.reg [⟨(some 28), .mov (.tmp 3), none⟩,
⟨(some 29), .len (.tmp 28), none⟩,
⟨(some 30), .mov (.const (.int .i64 0)), none⟩])
(.block 0
(.loop [0, 1, 3, 28, 29, 30]
(.seq (.reg [⟨(some 31), .bin .lss (.tmp 30) (.tmp 29), none⟩])
(.seq (.cond (.tmp 31)
(.skip)
(.exit 0))
(.seq (.block 1
(.seq (.reg [⟨(some 32), .indexAddr 2 (.tmp 28) (.tmp 30), none⟩,
⟨(some 33), .load true 2 (.tmp 32), none⟩,
⟨(some 12), .box 2 (.const (.agg [(.lst [] true), (.int .i64 0)])), none⟩,
⟨none, .store 2 (.tmp 12) (.tmp 33), none⟩])
(.seq (.reg [⟨(some 34), .fieldAddr 0 (.tmp 12), none⟩,
⟨(some 35), .load false 1 (.tmp 34), none⟩,
⟨(some 36), .len (.tmp 35), none⟩,
⟨(some 37), .mov (.tmp 0), none⟩,
⟨(some 38), .bin .neq (.tmp 36) (.tmp 37), none⟩])
(.cond (.tmp 38)
(.seq (.reg [⟨(some 8), .mov (.const (.int .i64 4)), none⟩])
(.ret))
(.skip)))))
(.reg [⟨(some 39), .bin .add (.tmp 30) (.const (.int .i64 1)), none⟩,
⟨(some 30), .mov (.tmp 39), none⟩])))))))
(.seq (.seq (.reg [⟨(some 40), .mov (.tmp 3), none⟩,
⟨(some 41), .len (.tmp 40), none⟩,
⟨(some 42), .bin .eql (.tmp 41) (.const (.int .i64 0)), none⟩,
⟨(some 43), .mov (.tmp 42), none⟩,
⟨(some 44), .mov (.tmp 3), (some (43, false))⟩,
⟨(some 45), .len (.tmp 44), (some (43, false))⟩,
⟨(some 46), .bin .gtr (.tmp 45) (.const (.int .i64 64)), (some (43, false))⟩,
⟨(some 47), .pick (.tmp 43) (.const (.bool true)) (.tmp 46), none⟩])
(.cond (.tmp 47)
(.seq (.reg [⟨(some 8), .mov (.const (.int .i64 1)), none⟩])
(.ret))
(.skip)))
(.seq (.seq (.reg [⟨(some 48), .mov (.tmp 3), none⟩,
⟨(some 49), .len (.tmp 48), none⟩,
⟨(some 50), .mov (.const (.int .i64 0)), none⟩])
(.block 2
(.loop [1, 48, 49, 50]
(.seq (.reg [⟨(some 51), .bin .lss (.tmp 50) (.tmp 49), none⟩])
(.seq (.cond (.tmp 51)
(.skip)
(.exit 2))
(.seq (.block 3
(.seq (.reg [⟨(some 52), .indexAddr 2 (.tmp 48) (.tmp 50), none⟩,
⟨(some 53), .load true 2 (.tmp 52), none⟩,
⟨(some 14), .box 2 (.const (.agg [(.lst [] true), (.int .i64 0)])), none⟩,
⟨none, .store 2 (.tmp 14) (.tmp 53), none⟩])
(.seq (.reg [⟨(some 54), .fieldAddr 1 (.tmp 14), none⟩,
⟨(some 55), .load false 1 (.tmp 54), none⟩,
⟨(some 56), .bin .lss (.tmp 55) (.const (.int .i64 0)), none⟩,
⟨(some 57), .mov (.tmp 56), none⟩,
⟨(some 58), .fieldAddr 1 (.tmp 14), (some (57, false))⟩,
⟨(some 59), .load false 1 (.tmp 58), (some (57, false))⟩,
⟨(some 60), .mov (.tmp 1), (some (57, false))⟩,
⟨(some 61), .bin .geq (.tmp 59) (.tmp 60), (some (57, false))⟩,
⟨(some 62), .pick (.tmp 57) (.const (.bool true)) (.tmp 61), none⟩])
(.cond (.tmp 62)
(.seq (.reg [⟨(some 8), .mov (.const (.int .i64 1)), none⟩])
(.ret))
(.skip)))))
(.reg [⟨(some 63), .bin .add (.tmp 50) (.const (.int .i64 1)), none⟩,
⟨(some 50), .mov (.tmp 63), none⟩])))))))
(.seq (.reg [⟨(some 8), .mov (.const (.int .i64 0)), none⟩])
(.ret)))))))),
[.tmp 8]⟩
/-- thrum/thrumref16.Check -/
def c159 : Func1 := ⟨4,
.seq (.reg [⟨(some 8), .mov (.const (.int .i64 0)), none⟩])
(.seq (.reg [⟨(some 14), .mov (.tmp 0), none⟩,
⟨(some 15), .mov (.tmp 1), none⟩,
⟨(some 16), .call 154 [(.tmp 14), (.tmp 15)] .auto, none⟩,
⟨(some 13), .mov (.tmp 16), none⟩,
⟨(some 17), .extract (.tmp 13) 0, none⟩,
⟨(some 18), .extract (.tmp 13) 1, none⟩,
⟨(some 9), .mov (.tmp 17), none⟩,
⟨(some 10), .mov (.tmp 18), none⟩])
(.seq (.seq (.reg [⟨(some 19), .mov (.tmp 10), none⟩,
⟨(some 20), .bin .neq (.tmp 19) (.const (.int .i64 0)), none⟩])
(.cond (.tmp 20)
(.seq (.reg [⟨(some 21), .mov (.tmp 10), none⟩,
⟨(some 8), .mov (.tmp 21), none⟩])
(.ret))
(.skip)))
(.seq (.seq (.reg [⟨(some 22), .mov (.tmp 2), none⟩,
⟨(some 23), .len (.tmp 22), none⟩,
⟨(some 24), .mov (.tmp 9), none⟩,
⟨(some 25), .bin .neq (.tmp 23) (.tmp 24), none⟩])
(.cond (.tmp 25)
(.seq (.reg [⟨(some 8), .mov (.const (.int .i64 4)), none⟩])
(.ret))
(.skip)))
(.seq (.seq (.reg [⟨(some 26), .mov (.tmp 3), none⟩,
⟨(some 27), .len (.tmp 26), none⟩,
⟨(some 28), .mov (.const (.int .i64 0)), none⟩])
(.block 0
(.loop [0, 3, 26, 27, 28]
(.seq (.reg [⟨(some 29), .bin .lss (.tmp 28) (.tmp 27), none⟩])
(.seq (.cond (.tmp 29)
(.skip)
(.exit 0))
(.seq (.block 1
(.seq (.reg [⟨(some 30), .indexAddr 2 (.tmp 26) (.tmp 28), none⟩,
⟨(some 31), .load true 2 (.tmp 30), none⟩,
⟨(some 12), .box 2 (.const (.agg [(.lst [] true), (.int .i64 0)])), none⟩,
⟨none, .store 2 (.tmp 12) (.tmp 31), none⟩])
(.seq (.reg [⟨(some 32), .fieldAddr 0 (.tmp 12), none⟩,
⟨(some 33), .load false 1 (.tmp 32), none⟩,
⟨(some 34), .len (.tmp 33), none⟩,
⟨(some 35), .mov (.tmp 0), none⟩,
⟨(some 36), .bin .neq (.tmp 34) (.tmp 35), none⟩])
(.cond (.tmp 36)
(.seq (.reg [⟨(some 8), .mov (.const (.int .i64 4)), none⟩])
(.ret))
(.skip)))))
(.reg [⟨(some 37), .bin .add (.tmp 28) (.const (.int .i64 1)), none⟩,
⟨(some 28), .mov (.tmp 37), none⟩])))))))
(.seq (.seq (.reg [⟨(some 38), .mov (.tmp 3), none⟩,
⟨(some 39), .len (.tmp 38), none⟩,
⟨(some 40), .bin .eql (.tmp 39) (.const (.int .i64 0)), none⟩,
⟨(some 41), .mov (.tmp 40), none⟩,
⟨(some 42), .mov (.tmp 3), (some (41, false))⟩,
⟨(some 43), .len (.tmp 42), (some (41, false))⟩,
⟨(some 44), .bin .gtr (.tmp 43) (.const (.int .i64 64)), (some (41, false))⟩,
⟨(some 45), .pick (.tmp 41) (.const (.bool true)) (.tmp 44), none⟩])
(.cond (.tmp 45)
(.seq (.reg [⟨(some 8), .mov (.const (.int .i64 1)), none⟩])
(.ret))
(.skip)))
(.seq (.reg [⟨(some 8), .mov (.const (.int .i64 0)), none⟩])
(.ret))))))),
[.tmp 8]⟩
/-- thrum/thrumref14.Check -/
def c160 : Func1 := ⟨3,
.seq (.reg [⟨(some 6), .mov (.const (.int .i64 0)), none⟩])
(.seq (.reg [⟨(some 12), .mov (.tmp 0), none⟩,
⟨(some 13), .call 155 [(.tmp 12)] .thaw, none⟩,
⟨(some 11), .mov (.tmp 13), none⟩,
⟨(some 14), .extract (.tmp 11) 0, none⟩,
⟨(some 15), .extract (.tmp 11) 1, none⟩,
⟨(some 7), .mov (.tmp 14), none⟩,
⟨(some 8), .mov (.tmp 15), none⟩])
(.seq (.seq (.reg [⟨(some 16), .mov (.tmp 8), none⟩,
⟨(some 17), .bin .neq (.tmp 16) (.const (.int .i64 0)), none⟩])
(.cond (.tmp 17)
(.seq (.reg [⟨(some 18), .mov (.tmp 8), none⟩,
⟨(some 6), .mov (.tmp 18), none⟩])
(.ret))
(.skip)))
(.seq (.seq (.reg [⟨(some 19), .mov (.tmp 1), none⟩,
⟨(some 20), .len (.tmp 19), none⟩,
⟨(some 21), .mov (.tmp 7), none⟩,
⟨(some 22), .bin .neq (.tmp 20) (.tmp 21), none⟩])
(.cond (.tmp 22)
(.seq (.reg [⟨(some 6), .mov (.const (.int .i64 4)), none⟩])
(.ret))
(.skip)))
(.seq (.seq (.reg [⟨(some 23), .mov (.tmp 2), none⟩,
⟨(some 24), .len (.tmp 23), none⟩,
⟨(some 25), .mov (.const (.int .i64 0)), none⟩])
(.block 0
(.loop [0, 2, 23, 24, 25]
(.seq (.reg [⟨(some 26), .bin .lss (.tmp 25) (.tmp 24), none⟩])
(.seq (.cond (.tmp 26)
(.skip)
(.exit 0))
(.seq (.block 1
(.seq (.reg [⟨(some 27), .indexAddr 2 (.tmp 23) (.tmp 25), none⟩,
⟨(some 28), .load true 2 (.tmp 27), none⟩,
⟨(some 10), .box 2 (.const (.agg [(.lst [] true), (.int .i64 0)])), none⟩,
⟨none, .store 2 (.tmp 10) (.tmp 28), none⟩])
(.seq (.reg [⟨(some 29), .fieldAddr 0 (.tmp 10), none⟩,
⟨(some 30), .load false 1 (.tmp 29), none⟩,
⟨(some 31), .len (.tmp 30), none⟩,
⟨(some 32), .mov (.tmp 0), none⟩,
⟨(some 33), .bin .neq (.tmp 31) (.tmp 32), none⟩])
(.cond (.tmp 33)
(.seq (.reg [⟨(some 6), .mov (.const (.int .i64 4)), none⟩])
(.ret))
(.skip)))))
(.reg [⟨(some 34), .bin .add (.tmp 25) (.const (.int .i64 1)), none⟩,
⟨(some 25), .mov (.tmp 34), none⟩])))))))
(.seq (.seq (.reg [⟨(some 35), .mov (.tmp 2), none⟩,
⟨(some 36), .len (.tmp 35), none⟩,
⟨(some 37), .bin .eql (.tmp 36) (.const (.int .i64 0)), none⟩,
⟨(some 38), .mov (.tmp 37), none⟩,
⟨(some 39), .mov (.tmp 2), (some (38, false))⟩,
⟨(some 40), .len (.tmp 39), (some (38, false))⟩,
⟨(some 41), .bin .gtr (.tmp 40) (.const (.int .i64 64)), (some (38, false))⟩,
⟨(some 42), .pick (.tmp 38) (.const (.bool true)) (.tmp 41), none⟩])
(.cond (.tmp 42)
(.seq (.reg [⟨(some 6), .mov (.const (.int .i64 1)), none⟩])
(.ret))
(.skip)))
(.seq (.reg [⟨(some 6), .mov (.const (.int .i64 0)), none⟩])
(.ret))))))),
[.tmp 6]⟩
/-- thrum/vec.Sub$1 -/
def c164 : Func1 := ⟨3,
.seq (.reg [⟨(some 4), .mov (.const (.int .i64 0)), none⟩,
⟨(some 5), .mov (.const (.int .i64 0)), none⟩])
(.seq (.regd [⟨(some 6), .load false 1 (.tmp 1), none⟩,
⟨(some 7), .mov (.tmp 0), none⟩,
⟨(some 8), .indexAddr 1 (.tmp 6) (.tmp 7), none⟩,
⟨(some 9), .load false 1 (.tmp 8), none⟩,
⟨(some 10), .load false 1 (.tmp 2), none⟩,
⟨(some 11), .mov (.tmp 0), none⟩,
⟨(some 12), .indexAddr 1 (.tmp 10) (.tmp 11), none⟩,
⟨(some 13), .load false 1 (.tmp 12), none⟩,
⟨(some 14), .call 165 [(.tmp 9), (.tmp 13)] .thaw, none⟩,
⟨(some 15), .extract (.tmp 14) 0, none⟩,
⟨(some 16), .extract (.tmp 14) 1, none⟩,
⟨(some 4), .mov (.tmp 15), none⟩,
⟨(some 5), .mov (.tmp 16), none⟩] [])
(.ret)),
[.tmp 4, .tmp 5]⟩
/-- thrum/fix.Sub -/
def c165 : Func1 := ⟨2,
.seq (.reg [⟨(some 4), .mov (.const (.int .i64 0)), none⟩,
⟨(some 5), .mov (.const (.int .i64 0)), none⟩])
(.seq (.reg [⟨(some 7), .mov (.tmp 0), none⟩,
⟨(some 8), .mov (.tmp 1), none⟩,
⟨(some 9), .bin .sub (.tmp 7) (.tmp 8), none⟩,
⟨(some 6), .mov (.tmp 9), none⟩])
(.seq (.seq (.reg [⟨(some 10), .mov (.tmp 0), none⟩,
⟨(some 11), .mov (.tmp 1), none⟩,
⟨(some 12), .bin .xor (.tmp 10) (.tmp 11), none⟩,
⟨(some 13), .mov (.tmp 0), none⟩,
⟨(some 14), .mov (.tmp 6), none⟩,
⟨(some 15), .bin .xor (.tmp 13) (.tmp 14), none⟩,
⟨(some 16), .bin .and (.tmp 12) (.tmp 15), none⟩,
⟨(some 17), .bin .lss (.tmp 16) (.const (.int .i64 0)), none⟩])
(.cond (.tmp 17)
(.seq (.reg [⟨(some 4), .mov (.const (.int .i64 0)), none⟩,
⟨(some 5), .mov (.const (.int .i64 2)), none⟩])
(.ret))
(.skip)))
(.seq (.reg [⟨(some 18), .mov (.tmp 6), none⟩,
⟨(some 4), .mov (.tmp 18), none⟩,
⟨(some 5), .mov (.const (.int .i64 0)), none⟩])
(.ret)))),
[.tmp 4, .tmp 5]⟩
/-- thrum/sign.Mean -/
def c188 : Func1 := ⟨1,
.seq (.reg [⟨(some 2), .mov (.const (.int .i64 0)), none⟩,
⟨(some 3), .mov (.const (.int .i64 0)), none⟩])
(.seq (.seq (.reg [⟨(some 6), .mov (.tmp 0), none⟩,
⟨(some 7), .len (.tmp 6), none⟩,
⟨(some 8), .bin .eql (.tmp 7) (.const (.int .i64 0)), none⟩])
(.cond (.tmp 8)
(.seq (.reg [⟨(some 2), .mov (.const (.int .i64 0)), none⟩,
⟨(some 3), .mov (.const (.int .i64 1)), none⟩])
(.ret))
(.skip)))
(.seq (.reg [⟨(some 10), .mov (.tmp 0), none⟩,
⟨(some 11), .call 235 [(.tmp 10)] .thaw, none⟩,
⟨(some 9), .mov (.tmp 11), none⟩,
⟨(some 12), .extract (.tmp 9) 0, none⟩,
⟨(some 13), .extract (.tmp 9) 1, none⟩,
⟨(some 4), .mov (.tmp 12), none⟩,
⟨(some 5), .mov (.tmp 13), none⟩])
(.seq (.reg [⟨(some 14), .mov (.tmp 4), none⟩,
⟨(some 15), .mov (.tmp 0), none⟩,
⟨(some 16), .len (.tmp 15), none⟩,
⟨(some 17), .bin .quo (.tmp 14) (.tmp 16), none⟩,
⟨(some 18), .mov (.tmp 5), none⟩,
⟨(some 2), .mov (.tmp 17), none⟩,
⟨(some 3), .mov (.tmp 18), none⟩])
(.ret)))),
[.tmp 2, .tmp 3]⟩
/-- thrum/sign.each[int64,bool] -/
def c189 : Func1 := ⟨2,
.seq (.reg [⟨(some 4), .mov (.const (.lst [] true)), none⟩])
(.seq (.reg [⟨(some 8), .mov (.tmp 0), none⟩,
⟨(some 9), .len (.tmp 8), none⟩,
⟨(some 10), .mkSlice 1 1 [(.bool false)] (.const (.int .i64 0)) (.tmp 9), none⟩,
⟨(some 5), .mov (.tmp 10), none⟩])
(.seq (.seq (.reg [⟨(some 11), .mov (.tmp 0), none⟩,
⟨(some 12), .len (.tmp 11), none⟩,
⟨(some 13), .mov (.const (.int .i64 0)), none⟩])
(.block 0
(.loop [1, 5, 11, 12, 13]
(.seq (.reg [⟨(some 14), .bin .lss (.tmp 13) (.tmp 12), none⟩])
(.seq (.cond (.tmp 14)
(.skip)
(.exit 0))
(.seq (.block 1
(.seq (.reg [⟨(some 15), .indexAddr 1 (.tmp 11) (.tmp 13), none⟩,
⟨(some 16), .load false 1 (.tmp 15), none⟩,
⟨(some 7), .mov (.tmp 16), none⟩])
(.reg [⟨(some 17), .mov (.tmp 5), none⟩,
⟨(some 18), .mov (.tmp 1), none⟩,
⟨(some 19), .mov (.tmp 7), none⟩,
⟨(some 20), .dyn (.tmp 18) [(.tmp 19)] .auto, none⟩,
⟨(some 21), .buildSlice 1 [[(.bool false)]] [(0, (.tmp 20))], none⟩,
⟨(some 22), .append 1 1 (.tmp 17) (.tmp 21), none⟩,
⟨(some 5), .mov (.tmp 22), none⟩])))
(.reg [⟨(some 23), .bin .add (.tmp 13) (.const (.int .i64 1)), none⟩,
⟨(some 13), .mov (.tmp 23), none⟩])))))))
(.seq (.reg [⟨(some 24), .mov (.tmp 5), none⟩,
⟨(some 4), .mov (.tmp 24), none⟩])
(.ret)))),
[.tmp 4]⟩
/-- thrum/sign.Press$1 -/
def c190 : Func1 := ⟨1,
.seq (.reg [⟨(some 2), .mov (.const (.bool false)), none⟩])
(.seq (.reg [⟨(some 3), .mov (.tmp 0), none⟩,
⟨(some 4), .bin .lss (.tmp 3) (.const (.int .i64 0)), none⟩,
⟨(some 2), .mov (.tmp 4), none⟩])
(.ret)),
[.tmp 2]⟩
/-- thrum/sign.each[bool,int64] -/
def c191 : Func1 := ⟨2,
.seq (.reg [⟨(some 4), .mov (.const (.lst [] true)), none⟩])
(.seq (.reg [⟨(some 8), .mov (.tmp 0), none⟩,
⟨(some 9), .len (.tmp 8), none⟩,
⟨(some 10), .mkSlice 1 8 [(.int .i64 0)] (.const (.int .i64 0)) (.tmp 9), none⟩,
⟨(some 5), .mov (.tmp 10), none⟩])
(.seq (.seq (.reg [⟨(some 11), .mov (.tmp 0), none⟩,
⟨(some 12), .len (.tmp 11), none⟩,
⟨(some 13), .mov (.const (.int .i64 0)), none⟩])
(.block 0
(.loop [1, 5, 11, 12, 13]
(.seq (.reg [⟨(some 14), .bin .lss (.tmp 13) (.tmp 12), none⟩])
(.seq (.cond (.tmp 14)
(.skip)
(.exit 0))
(.seq (.block 1
(.seq (.reg [⟨(some 15), .indexAddr 1 (.tmp 11) (.tmp 13), none⟩,
⟨(some 16), .load false 1 (.tmp 15), none⟩,
⟨(some 7), .mov (.tmp 16), none⟩])
(.reg [⟨(some 17), .mov (.tmp 5), none⟩,
⟨(some 18), .mov (.tmp 1), none⟩,
⟨(some 19), .mov (.tmp 7), none⟩,
⟨(some 20), .dyn (.tmp 18) [(.tmp 19)] .auto, none⟩,
⟨(some 21), .buildSlice 1 [[(.int .i64 0)]] [(0, (.tmp 20))], none⟩,
⟨(some 22), .append 1 8 (.tmp 17) (.tmp 21), none⟩,
⟨(some 5), .mov (.tmp 22), none⟩])))
(.reg [⟨(some 23), .bin .add (.tmp 13) (.const (.int .i64 1)), none⟩,
⟨(some 13), .mov (.tmp 23), none⟩])))))))
(.seq (.reg [⟨(some 24), .mov (.tmp 5), none⟩,
⟨(some 4), .mov (.tmp 24), none⟩])
(.ret)))),
[.tmp 4]⟩
/-- thrum/sign.Loosen$1 -/
def c192 : Func1 := ⟨2,
.seq (.reg [⟨(some 3), .mov (.const (.int .i64 0)), none⟩])
(.seq (.seq (.reg [⟨(some 4), .mov (.tmp 0), none⟩])
(.cond (.tmp 4)
(.seq (.reg [⟨(some 5), .fieldAddr 4 (.tmp 1), none⟩,
⟨(some 6), .load false 1 (.tmp 5), none⟩,
⟨(some 7), .un .neg (.tmp 6), none⟩,
⟨(some 3), .mov (.tmp 7), none⟩])
(.ret))
(.skip)))
(.seq (.reg [⟨(some 8), .fieldAddr 4 (.tmp 1), none⟩,
⟨(some 9), .load false 1 (.tmp 8), none⟩,
⟨(some 3), .mov (.tmp 9), none⟩])
(.ret))),
[.tmp 3]⟩
/-- container/heap.up -/
def c193 : Func1 := ⟨2,
.block 0
(.loop [0, 1]
(.block 1
(.seq (.reg [⟨(some 5), .mov (.tmp 1), none⟩,
⟨(some 6), .bin .sub (.tmp 5) (.const (.int .i64 1)), none⟩,
⟨(some 7), .bin .quo (.tmp 6) (.const (.int .i64 2)), none⟩,
⟨(some 4), .mov (.tmp 7), none⟩])
(.seq (.seq (.reg [⟨(some 8), .mov (.tmp 4), none⟩,
⟨(some 9), .mov (.tmp 1), none⟩,
⟨(some 10), .bin .eql (.tmp 8) (.tmp 9), none⟩,
⟨(some 11), .mov (.tmp 10), none⟩,
⟨(some 12), .mov (.tmp 0), (some (11, false))⟩,
⟨(some 13), .mov (.tmp 1), (some (11, false))⟩,
⟨(some 14), .mov (.tmp 4), (some (11, false))⟩,
⟨(some 15), .invoke (.tmp 12) [(137, 350, (.deref false 1)), (139, 350, .plain)] [(.tmp 13), (.tmp 14)] .auto, (some (11, false))⟩,
⟨(some 16), .un .not (.tmp 15), (some (11, false))⟩,
⟨(some 17), .pick (.tmp 11) (.const (.bool true)) (.tmp 16), none⟩])
(.cond (.tmp 17)
(.exit 0)
(.skip)))
(.seq (.reg [⟨(some 18), .mov (.tmp 0), none⟩,
⟨(some 19), .mov (.tmp 4), none⟩,
⟨(some 20), .mov (.tmp 1), none⟩,
⟨(some 21), .invoke (.tmp 18) [(137, 353, (.deref false 1)), (139, 353, .plain), (309, 427, .plain)] [(.tmp 19), (.tmp 20)] .shared, none⟩])
(.reg [⟨(some 22), .mov (.tmp 4), none⟩,
⟨(some 1), .mov (.tmp 22), none⟩])))))),
[]⟩
/-- container/heap.down -/
def c194 : Func1 := ⟨3,
.seq (.reg [⟨(some 6), .mov (.const (.bool false)), none⟩])
(.seq (.reg [⟨(some 11), .mov (.tmp 1), none⟩,
⟨(some 7), .mov (.tmp 11), none⟩])
(.seq (.block 0
(.loop [0, 1, 2, 7]
(.block 1
(.seq (.reg [⟨(some 12), .mov (.tmp 7), none⟩,
⟨(some 13), .bin .mul (.const (.int .i64 2)) (.tmp 12), none⟩,
⟨(some 14), .bin .add (.tmp 13) (.const (.int .i64 1)), none⟩,
⟨(some 8), .mov (.tmp 14), none⟩])
(.seq (.seq (.reg [⟨(some 15), .mov (.tmp 8), none⟩,
⟨(some 16), .mov (.tmp 2), none⟩,
⟨(some 17), .bin .geq (.tmp 15) (.tmp 16), none⟩,
⟨(some 18), .mov (.tmp 17), none⟩,
⟨(some 19), .mov (.tmp 8), (some (18, false))⟩,
⟨(some 20), .bin .lss (.tmp 19) (.const (.int .i64 0)), (some (18, false))⟩,
⟨(some 21), .pick (.tmp 18) (.const (.bool true)) (.tmp 20), none⟩])
(.cond (.tmp 21)
(.exit 0)
(.skip)))
(.seq (.reg [⟨(some 22), .mov (.tmp 8), none⟩,
⟨(some 9), .mov (.tmp 22), none⟩])
(.seq (.seq (.reg [⟨(some 23), .mov (.tmp 8), none⟩,
⟨(some 24), .bin .add (.tmp 23) (.const (.int .i64 1)), none⟩,
⟨(some 10), .mov (.tmp 24), none⟩])
(.seq (.reg [⟨(some 25), .mov (.tmp 10), none⟩,
⟨(some 26), .mov (.tmp 2), none⟩,
⟨(some 27), .bin .lss (.tmp 25) (.tmp 26), none⟩,
⟨(some 28), .mov (.tmp 27), none⟩,
⟨(some 29), .mov (.tmp 0), (some (28, true))⟩,
⟨(some 30), .mov (.tmp 10), (some (28, true))⟩,
⟨(some 31), .mov (.tmp 8), (some (28, true))⟩,
⟨(some 32), .invoke (.tmp 29) [(137, 350, (.deref false 1)), (139, 350, .plain)] [(.tmp 30), (.tmp 31)] .auto, (some (28, true))⟩,
⟨(some 33), .pick (.tmp 28) (.tmp 32) (.const (.bool false)), none⟩])
(.cond (.tmp 33)
(.reg [⟨(some 34), .mov (.tmp 10), none⟩,
⟨(some 9), .mov (.tmp 34), none⟩])
(.skip))))
(.seq (.seq (.reg [⟨(some 35), .mov (.tmp 0), none⟩,
⟨(some 36), .mov (.tmp 9), none⟩,
⟨(some 37), .mov (.tmp 7), none⟩,
⟨(some 38), .invoke (.tmp 35) [(137, 350, (.deref false 1)), (139, 350, .plain)] [(.tmp 36), (.tmp 37)] .auto, none⟩,
⟨(some 39), .un .not (.tmp 38), none⟩])
(.cond (.tmp 39)
(.exit 0)
(.skip)))
(.seq (.reg [⟨(some 40), .mov (.tmp 0), none⟩,
⟨(some 41), .mov (.tmp 7), none⟩,
⟨(some 42), .mov (.tmp 9), none⟩,
⟨(some 43), .invoke (.tmp 40) [(137, 353, (.deref false 1)), (139, 353, .plain), (309, 427, .plain)] [(.tmp 41), (.tmp 42)] .shared, none⟩])
(.reg [⟨(some 44), .mov (.tmp 9), none⟩,
⟨(some 7), .mov (.tmp 44), none⟩]))))))))))
(.seq (.reg [⟨(some 45), .mov (.tmp 7), none⟩,
⟨(some 46), .mov (.tmp 1), none⟩,
⟨(some 47), .bin .gtr (.tmp 45) (.tmp 46), none⟩,
⟨(some 6), .mov (.tmp 47), none⟩])
(.ret)))),
[.tmp 6]⟩
/-- thrum/index.measure -/
def c208 : Func1 := ⟨1,
.seq (.reg [⟨(some 2), .mov (.const (.bool false)), none⟩])
(.seq (.reg [⟨(some 3), .mov (.tmp 0), none⟩,
⟨(some 4), .bin .gtr (.tmp 3) (.const (.int .i64 0)), none⟩,
⟨(some 5), .mov (.tmp 4), none⟩,
⟨(some 6), .mov (.tmp 0), (some (5, true))⟩,
⟨(some 7), .bin .leq (.tmp 6) (.const (.int .i64 4096)), (some (5, true))⟩,
⟨(some 8), .pick (.tmp 5) (.tmp 7) (.const (.bool false)), none⟩,
⟨(some 2), .mov (.tmp 8), none⟩])
(.ret)),
[.tmp 2]⟩
/-- slices.IndexFunc[[]uint64,uint64] -/
def c209 : Func1 := ⟨2,
.seq (.reg [⟨(some 4), .mov (.const (.int .i64 0)), none⟩])
(.seq (.seq (.reg [⟨(some 6), .mov (.tmp 0), none⟩,
⟨(some 7), .len (.tmp 6), none⟩,
⟨(some 8), .mov (.const (.int .i64 0)), none⟩])
(.block 0
(.loop [0, 1, 7, 8]
(.seq (.reg [⟨(some 9), .bin .lss (.tmp 8) (.tmp 7), none⟩])
(.seq (.cond (.tmp 9)
(.skip)
(.exit 0))
(.seq (.block 1
(.seq (.reg [⟨(some 10), .mov (.tmp 8), none⟩,
⟨(some 5), .mov (.tmp 10), none⟩])
(.seq (.reg [⟨(some 11), .mov (.tmp 1), none⟩,
⟨(some 12), .mov (.tmp 0), none⟩,
⟨(some 13), .mov (.tmp 5), none⟩,
⟨(some 14), .indexAddr 1 (.tmp 12) (.tmp 13), none⟩,
⟨(some 15), .load false 1 (.tmp 14), none⟩,
⟨(some 16), .dyn (.tmp 11) [(.tmp 15)] .auto, none⟩])
(.cond (.tmp 16)
(.seq (.reg [⟨(some 17), .mov (.tmp 5), none⟩,
⟨(some 4), .mov (.tmp 17), none⟩])
(.ret))
(.skip)))))
(.reg [⟨(some 18), .bin .add (.tmp 8) (.const (.int .i64 1)), none⟩,
⟨(some 8), .mov (.tmp 18), none⟩])))))))
(.seq (.reg [⟨(some 4), .mov (.const (.int .i64 (-1))), none⟩])
(.ret))),
[.tmp 4]⟩
/-- thrum/draw.over -/
def c211 : Func1 := ⟨2,
.seq (.reg [⟨(some 4), .mov (.const (.int .u64 0)), none⟩])
(.seq (.reg [⟨(some 8), .mov (.tmp 0), none⟩,
⟨(some 5), .mov (.tmp 8), none⟩])
(.seq (.seq (.reg [⟨(some 9), .mov (.tmp 1), none⟩,
⟨(some 10), .len (.tmp 9), none⟩,
⟨(some 11), .mov (.const (.int .i64 0)), none⟩])
(.block 0
(.loop [5, 9, 10, 11]
(.seq (.reg [⟨(some 12), .bin .lss (.tmp 11) (.tmp 10), none⟩])
(.seq (.cond (.tmp 12)
(.skip)
(.exit 0))
(.seq (.block 1
(.seq (.reg [⟨(some 13), .indexAddr 1 (.tmp 9) (.tmp 11), none⟩,
⟨(some 14), .load false 1 (.tmp 13), none⟩,
⟨(some 7), .mov (.tmp 14), none⟩])
(.reg [⟨(some 15), .mov (.tmp 5), none⟩,
⟨(some 16), .mov (.tmp 7), none⟩,
⟨(some 17), .call 212 [(.tmp 15), (.tmp 16)] .auto, none⟩,
⟨(some 5), .mov (.tmp 17), none⟩])))
(.reg [⟨(some 18), .bin .add (.tmp 11) (.const (.int .i64 1)), none⟩,
⟨(some 11), .mov (.tmp 18), none⟩])))))))
(.seq (.reg [⟨(some 19), .mov (.tmp 5), none⟩,
⟨(some 4), .mov (.tmp 19), none⟩])
(.ret)))),
[.tmp 4]⟩
/-- (thrum/draw.stir).with -/
def c212 : Func1 := ⟨2,
.seq (.reg [⟨(some 4), .mov (.const (.int .u64 0)), none⟩])
(.seq (.reg [⟨(some 5), .mov (.tmp 0), none⟩,
⟨(some 6), .mov (.tmp 1), none⟩,
⟨(some 7), .conv .u64 (.tmp 6), none⟩,
⟨(some 8), .bin .xor (.tmp 5) (.tmp 7), none⟩,
⟨(some 9), .bin .mul (.tmp 8) (.const (.int .u64 11400714819323198485)), none⟩,
⟨(some 0), .mov (.tmp 9), none⟩])
(.seq (.reg [⟨(some 10), .mov (.tmp 0), none⟩,
⟨(some 11), .mov (.tmp 0), none⟩,
⟨(some 12), .bin .shr (.tmp 11) (.const (.int .u64 29)), none⟩,
⟨(some 13), .bin .xor (.tmp 10) (.tmp 12), none⟩,
⟨(some 4), .mov (.tmp 13), none⟩])
(.ret))),
[.tmp 4]⟩
/-- (thrum/draw.stir).end -/
def c213 : Func1 := ⟨1,
.seq (.reg [⟨(some 2), .mov (.const (.int .u64 0)), none⟩])
(.seq (.reg [⟨(some 3), .mov (.tmp 0), none⟩,
⟨(some 4), .bin .mul (.tmp 3) (.const (.int .u64 13787848793156543929)), none⟩,
⟨(some 0), .mov (.tmp 4), none⟩])
(.seq (.reg [⟨(some 5), .mov (.tmp 0), none⟩,
⟨(some 6), .mov (.tmp 0), none⟩,
⟨(some 7), .bin .shr (.tmp 6) (.const (.int .u64 32)), none⟩,
⟨(some 8), .bin .xor (.tmp 5) (.tmp 7), none⟩,
⟨(some 2), .mov (.tmp 8), none⟩])
(.ret))),
[.tmp 2]⟩
/-- thrum/thrumref08.Below -/
def c214 : Func1 := ⟨3,
.seq (.reg [⟨(some 6), .mov (.const (.int .u64 0)), none⟩,
⟨(some 7), .mov (.const (.int .i64 0)), none⟩])
(.seq (.seq (.reg [⟨(some 8), .mov (.tmp 0), none⟩,
⟨(some 9), .bin .eql (.tmp 8) (.const (.int .u64 0)), none⟩])
(.cond (.tmp 9)
(.seq (.reg [⟨(some 6), .mov (.const (.int .u64 0)), none⟩,
⟨(some 7), .mov (.const (.int .i64 1)), none⟩])
(.ret))
(.skip)))
(.seq (.reg [⟨(some 10), .mov (.tmp 1), none⟩,
⟨(some 11), .mov (.tmp 2), none⟩,
⟨(some 12), .call 252 [(.tmp 10), (.tmp 11)] .auto, none⟩,
⟨(some 13), .mov (.tmp 0), none⟩,
⟨(some 14), .bin .rem (.tmp 12) (.tmp 13), none⟩,
⟨(some 6), .mov (.tmp 14), none⟩,
⟨(some 7), .mov (.const (.int .i64 0)), none⟩])
(.ret))),
[.tmp 6, .tmp 7]⟩
/-- thrum/fix.Abs -/
def c230 : Func1 := ⟨1,
.seq (.reg [⟨(some 2), .mov (.const (.int .i64 0)), none⟩,
⟨(some 3), .mov (.const (.int .i64 0)), none⟩])
(.seq (.seq (.reg [⟨(some 4), .mov (.tmp 0), none⟩,
⟨(some 5), .bin .geq (.tmp 4) (.const (.int .i64 0)), none⟩])
(.cond (.tmp 5)
(.seq (.reg [⟨(some 6), .mov (.tmp 0), none⟩,
⟨(some 2), .mov (.tmp 6), none⟩,
⟨(some 3), .mov (.const (.int .i64 0)), none⟩])
(.ret))
(.skip)))
(.seq (.reg [⟨(some 7), .mov (.tmp 0), none⟩,
⟨(some 8), .call 265 [(.tmp 7)] .thaw, none⟩,
⟨(some 9), .extract (.tmp 8) 0, none⟩,
⟨(some 10), .extract (.tmp 8) 1, none⟩,
⟨(some 2), .mov (.tmp 9), none⟩,
⟨(some 3), .mov (.tmp 10), none⟩])
(.ret))),
[.tmp 2, .tmp 3]⟩
/-- thrum/vec.Size -/
def c235 : Func1 := ⟨1,
.seq (.reg [⟨(some 1), .box 1 (.tmp 0), none⟩,
⟨(some 2), .mov (.const (.int .i64 0)), none⟩,
⟨(some 3), .mov (.const (.int .i64 0)), none⟩])
(.seq (.seq (.reg [⟨(some 5), .load false 1 (.tmp 1), none⟩,
⟨(some 6), .call 51 [(.tmp 5)] .thaw, none⟩,
⟨(some 4), .mov (.tmp 6), none⟩])
(.seq (.reg [⟨(some 7), .mov (.tmp 4), none⟩,
⟨(some 8), .bin .neq (.tmp 7) (.const (.int .i64 0)), none⟩])
(.cond (.tmp 8)
(.seq (.reg [⟨(some 9), .mov (.tmp 4), none⟩,
⟨(some 2), .mov (.const (.int .i64 0)), none⟩,
⟨(some 3), .mov (.tmp 9), none⟩])
(.ret))
(.skip))))
(.seq (.reg [⟨(some 10), .load false 1 (.tmp 1), none⟩,
⟨(some 11), .len (.tmp 10), none⟩,
⟨(some 12), .mkFunc 269 [] [(.tmp 1)], none⟩,
⟨(some 13), .call 268 [(.tmp 11), (.tmp 12)] .thaw, none⟩,
⟨(some 14), .extract (.tmp 13) 0, none⟩,
⟨(some 15), .extract (.tmp 13) 1, none⟩,
⟨(some 2), .mov (.tmp 14), none⟩,
⟨(some 3), .mov (.tmp 15), none⟩])
(.ret))),
[.tmp 2, .tmp 3]⟩
/-- thrum/thrumref08.At -/
def c252 : Func1 := ⟨2,
.seq (.reg [⟨(some 4), .mov (.const (.int .u64 0)), none⟩])
(.seq (.reg [⟨(some 8), .mov (.tmp 0), none⟩,
⟨(some 5), .mov (.tmp 8), none⟩])
(.seq (.seq (.reg [⟨(some 9), .mov (.tmp 1), none⟩,
⟨(some 10), .len (.tmp 9), none⟩,
⟨(some 11), .mov (.const (.int .i64 0)), none⟩])
(.block 0
(.loop [5, 9, 10, 11]
(.seq (.reg [⟨(some 12), .bin .lss (.tmp 11) (.tmp 10), none⟩])
(.seq (.cond (.tmp 12)
(.skip)
(.exit 0))
(.seq (.block 1
(.seq (.reg [⟨(some 13), .indexAddr 1 (.tmp 9) (.tmp 11), none⟩,
⟨(some 14), .load false 1 (.tmp 13), none⟩,
⟨(some 7), .mov (.tmp 14), none⟩])
(.seq (.reg [⟨(some 15), .mov (.tmp 5), none⟩,
⟨(some 16), .mov (.tmp 7), none⟩,
⟨(some 17), .conv .u64 (.tmp 16), none⟩,
⟨(some 18), .bin .xor (.tmp 15) (.tmp 17), none⟩,
⟨(some 5), .mov (.tmp 18), none⟩])
(.seq (.reg [⟨(some 19), .mov (.tmp 5), none⟩,
⟨(some 20), .bin .mul (.tmp 19) (.const (.int .u64 11400714819323198485)), none⟩,
⟨(some 5), .mov (.tmp 20), none⟩])
(.reg [⟨(some 21), .mov (.tmp 5), none⟩,
⟨(some 22), .mov (.tmp 5), none⟩,
⟨(some 23), .bin .shr (.tmp 22) (.const (.int .u64 29)), none⟩,
⟨(some 24), .bin .xor (.tmp 21) (.tmp 23), none⟩,
⟨(some 5), .mov (.tmp 24), none⟩])))))
(.reg [⟨(some 25), .bin .add (.tmp 11) (.const (.int .i64 1)), none⟩,
⟨(some 11), .mov (.tmp 25), none⟩])))))))
(.seq (.reg [⟨(some 26), .mov (.tmp 5), none⟩,
⟨(some 27), .bin .mul (.tmp 26) (.const (.int .u64 13787848793156543929)), none⟩,
⟨(some 5), .mov (.tmp 27), none⟩])
(.seq (.reg [⟨(some 28), .mov (.tmp 5), none⟩,
⟨(some 29), .mov (.tmp 5), none⟩,
⟨(some 30), .bin .shr (.tmp 29) (.const (.int .u64 32)), none⟩,
⟨(some 31), .bin .xor (.tmp 28) (.tmp 30), none⟩,
⟨(some 4), .mov (.tmp 31), none⟩])
(.ret))))),
[.tmp 4]⟩
/-- thrum/fix.Neg -/
def c265 : Func1 := ⟨1,
.seq (.reg [⟨(some 2), .mov (.const (.int .i64 0)), none⟩,
⟨(some 3), .mov (.const (.int .i64 0)), none⟩])
(.seq (.reg [⟨(some 4), .mov (.tmp 0), none⟩,
⟨(some 5), .call 165 [(.const (.int .i64 0)), (.tmp 4)] .thaw, none⟩,
⟨(some 6), .extract (.tmp 5) 0, none⟩,
⟨(some 7), .extract (.tmp 5) 1, none⟩,
⟨(some 2), .mov (.tmp 6), none⟩,
⟨(some 3), .mov (.tmp 7), none⟩])
(.ret)),
[.tmp 2, .tmp 3]⟩
/-- thrum/vec.total -/
def c268 : Func1 := ⟨2,
.seq (.reg [⟨(some 4), .mov (.const (.int .i64 0)), none⟩,
⟨(some 5), .mov (.const (.int .i64 0)), none⟩])
(.seq (.seq (.reg [⟨(some 9), .mov (.tmp 0), none⟩,
⟨(some 10), .mov (.const (.int .i64 0)), none⟩])
(.block 0
(.loop [1, 4, 9, 10]
(.seq (.reg [⟨(some 11), .bin .lss (.tmp 10) (.tmp 9), none⟩])
(.seq (.cond (.tmp 11)
(.skip)
(.exit 0))
(.seq (.block 1
(.seq (.reg [⟨(some 12), .mov (.tmp 10), none⟩,
⟨(some 6), .mov (.tmp 12), none⟩])
(.seq (.reg [⟨(some 14), .mov (.tmp 1), none⟩,
⟨(some 15), .mov (.tmp 6), none⟩,
⟨(some 16), .dyn (.tmp 14) [(.tmp 15)] .thaw, none⟩,
⟨(some 13), .mov (.tmp 16), none⟩,
⟨(some 17), .extract (.tmp 13) 0, none⟩,
⟨(some 18), .extract (.tmp 13) 1, none⟩,
⟨(some 7), .mov (.tmp 17), none⟩,
⟨(some 8), .mov (.tmp 18), none⟩])
(.seq (.seq (.reg [⟨(some 19), .mov (.tmp 8), none⟩,
⟨(some 20), .bin .eql (.tmp 19) (.const (.int .i64 0)), none⟩])
(.cond (.tmp 20)
(.reg [⟨(some 22), .mov (.tmp 4), none⟩,
⟨(some 23), .mov (.tmp 7), none⟩,
⟨(some 24), .call 96 [(.tmp 22), (.tmp 23)] .thaw, none⟩,
⟨(some 21), .mov (.tmp 24), none⟩,
⟨(some 25), .extract (.tmp 21) 0, none⟩,
⟨(some 26), .extract (.tmp 21) 1, none⟩,
⟨(some 4), .mov (.tmp 25), none⟩,
⟨(some 8), .mov (.tmp 26), none⟩])
(.skip)))
(.seq (.reg [⟨(some 27), .mov (.tmp 8), none⟩,
⟨(some 28), .bin .neq (.tmp 27) (.const (.int .i64 0)), none⟩])
(.cond (.tmp 28)
(.seq (.reg [⟨(some 29), .mov (.tmp 8), none⟩,
⟨(some 4), .mov (.const (.int .i64 0)), none⟩,
⟨(some 5), .mov (.tmp 29), none⟩])
(.ret))
(.skip)))))))
(.reg [⟨(some 30), .bin .add (.tmp 10) (.const (.int .i64 1)), none⟩,
⟨(some 10), .mov (.tmp 30), none⟩])))))))
(.seq (.reg [⟨(some 31), .mov (.tmp 4), none⟩,
⟨(some 4), .mov (.tmp 31), none⟩,
⟨(some 5), .mov (.const (.int .i64 0)), none⟩])
(.ret))),
[.tmp 4, .tmp 5]⟩
/-- thrum/vec.Size$1 -/
def c269 : Func1 := ⟨2,
.seq (.reg [⟨(some 3), .mov (.const (.int .i64 0)), none⟩,
⟨(some 4), .mov (.const (.int .i64 0)), none⟩])
(.seq (.reg [⟨(some 5), .load false 1 (.tmp 1), none⟩,
⟨(some 6), .mov (.tmp 0), none⟩,
⟨(some 7), .indexAddr 1 (.tmp 5) (.tmp 6), none⟩,
⟨(some 8), .load false 1 (.tmp 7), none⟩,
⟨(some 9), .call 230 [(.tmp 8)] .thaw, none⟩,
⟨(some 10), .extract (.tmp 9) 0, none⟩,
⟨(some 11), .extract (.tmp 9) 1, none⟩,
⟨(some 3), .mov (.tmp 10), none⟩,
⟨(some 4), .mov (.tmp 11), none⟩])
(.ret)),
[.tmp 3, .tmp 4]⟩
/-- cmp.isNaN[int] -/
def c275 : Func1 := ⟨1,
.seq (.reg [⟨(some 2), .mov (.const (.bool false)), none⟩])
(.seq (.reg [⟨(some 3), .mov (.tmp 0), none⟩,
⟨(some 4), .mov (.tmp 0), none⟩,
⟨(some 5), .bin .neq (.tmp 3) (.tmp 4), none⟩,
⟨(some 2), .mov (.tmp 5), none⟩])
(.ret)),
[.tmp 2]⟩
/-- (thrum/topk.best).Less -/
def c350 : Func1 := ⟨3,
.seq (.reg [⟨(some 6), .mov (.const (.bool false)), none⟩])
(.seq (.regd [⟨(some 7), .mov (.tmp 0), none⟩,
⟨(some 8), .mov (.tmp 1), none⟩,
⟨(some 9), .indexAddr 2 (.tmp 7) (.tmp 8), none⟩,
⟨(some 10), .load true 2 (.tmp 9), none⟩,
⟨(some 11), .mov (.tmp 0), none⟩,
⟨(some 12), .mov (.tmp 2), none⟩,
⟨(some 13), .indexAddr 2 (.tmp 11) (.tmp 12), none⟩,
⟨(some 14), .load true 2 (.tmp 13), none⟩,
⟨(some 15), .call 354 [(.tmp 10), (.tmp 14)] .auto, none⟩,
⟨(some 16), .bin .gtr (.tmp 15) (.const (.int .i64 0)), none⟩,
⟨(some 6), .mov (.tmp 16), none⟩] [])
(.ret)),
[.tmp 6]⟩
/-- (*thrum/topk.best).Pop -/
def c351 : Func1 := ⟨1,
.seq (.reg [⟨(some 2), .mov (.const .nilif), none⟩])
(.seq (.reg [⟨(some 4), .mov (.tmp 0), none⟩,
⟨(some 5), .nilCheck (.tmp 4), none⟩,
⟨(some 6), .load false 1 (.tmp 5), none⟩,
⟨(some 3), .mov (.tmp 6), none⟩])
(.seq (.reg [⟨(some 7), .mov (.tmp 0), none⟩,
⟨(some 8), .mov (.tmp 3), none⟩,
⟨(some 9), .mov (.tmp 3), none⟩,
⟨(some 10), .len (.tmp 9), none⟩,
⟨(some 11), .bin .sub (.tmp 10) (.const (.int .i64 1)), none⟩,
⟨(some 12), .slice 2 (.tmp 8) none (some (.tmp 11)) none, none⟩,
⟨(some 13), .nilCheck (.tmp 7), none⟩,
⟨none, .store 1 (.tmp 13) (.tmp 12), none⟩])
(.seq (.reg [⟨(some 14), .mov (.tmp 3), none⟩,
⟨(some 15), .mov (.tmp 3), none⟩,
⟨(some 16), .len (.tmp 15), none⟩,
⟨(some 17), .bin .sub (.tmp 16) (.const (.int .i64 1)), none⟩,
⟨(some 18), .indexAddr 2 (.tmp 14) (.tmp 17), none⟩,
⟨(some 19), .load true 2 (.tmp 18), none⟩,
⟨(some 20), .mkIface 142 (.tmp 19), none⟩,
⟨(some 2), .mov (.tmp 20), none⟩])
(.ret)))),
[.tmp 2]⟩
/-- (*thrum/topk.best).Push -/
def c352 : Func1 := ⟨2,
.regd [⟨(some 4), .mov (.tmp 0), none⟩,
⟨(some 5), .mov (.tmp 0), none⟩,
⟨(some 6), .nilCheck (.tmp 5), none⟩,
⟨(some 7), .load false 1 (.tmp 6), none⟩,
⟨(some 8), .mov (.tmp 1), none⟩,
⟨(some 9), .typeAssert 142 (.tmp 8), none⟩,
⟨(some 10), .buildSlice 2 [[(.int .i64 0), (.int .u64 0)]] [(0, (.tmp 9))], none⟩,
⟨(some 11), .append 2 16 (.tmp 7) (.tmp 10), none⟩,
⟨(some 12), .nilCheck (.tmp 4), none⟩,
⟨none, .store 1 (.tmp 12) (.tmp 11), none⟩] [(3, 6)],
[]⟩
/-- (thrum/topk.best).Swap -/
def c353 : Func1 := ⟨3,
.regd [⟨(some 6), .mov (.tmp 0), none⟩,
⟨(some 7), .mov (.tmp 1), none⟩,
⟨(some 8), .mov (.tmp 0), none⟩,
⟨(some 9), .mov (.tmp 2), none⟩,
⟨(some 10), .mov (.tmp 0), none⟩,
⟨(some 11), .mov (.tmp 2), none⟩,
⟨(some 12), .indexAddr 2 (.tmp 10) (.tmp 11), none⟩,
⟨(some 13), .load true 2 (.tmp 12), none⟩,
⟨(some 14), .mov (.tmp 0), none⟩,
⟨(some 15), .mov (.tmp 1), none⟩,
⟨(some 16), .indexAddr 2 (.tmp 14) (.tmp 15), none⟩,
⟨(some 17), .load true 2 (.tmp 16), none⟩,
⟨(some 18), .indexAddr 2 (.tmp 6) (.tmp 7), none⟩,
⟨none, .store 2 (.tmp 18) (.tmp 13), none⟩,
⟨(some 19), .indexAddr 2 (.tmp 8) (.tmp 9), none⟩,
⟨none, .store 2 (.tmp 19) (.tmp 17), none⟩] [],
[]⟩
/-- (thrum/topk.one).compare -/
def c354 : Func1 := ⟨2,
.seq (.reg [⟨(some 2), .box 2 (.tmp 0), none⟩,
⟨(some 3), .box 2 (.tmp 1), none⟩,
⟨(some 4), .mov (.const (.int .i64 0)), none⟩])
(.seq (.regd [⟨(some 5), .fieldAddr 1 (.tmp 3), none⟩,
⟨(some 6), .load false 1 (.tmp 5), none⟩,
⟨(some 7), .fieldAddr 1 (.tmp 2), none⟩,
⟨(some 8), .load false 1 (.tmp 7), none⟩,
⟨(some 9), .call 356 [(.tmp 6), (.tmp 8)] .auto, none⟩,
⟨(some 10), .fieldAddr 0 (.tmp 2), none⟩,
⟨(some 11), .load false 1 (.tmp 10), none⟩,
⟨(some 12), .fieldAddr 0 (.tmp 3), none⟩,
⟨(some 13), .load false 1 (.tmp 12), none⟩,
⟨(some 14), .call 357 [(.tmp 11), (.tmp 13)] .auto, none⟩,
⟨(some 15), .buildSlice 1 [[(.int .i64 0)], [(.int .i64 0)]] [(0, (.tmp 9)), (1, (.tmp 14))], none⟩,
⟨(some 16), .call 355 [(.tmp 15)] .auto, none⟩,
⟨(some 4), .mov (.tmp 16), none⟩] [(4, 6), (4, 8)])
(.ret)),
[.tmp 4]⟩
/-- cmp.Or[int] -/
def c355 : Func1 := ⟨1,
.seq (.reg [⟨(some 2), .mov (.const (.int .i64 0)), none⟩])
(.seq (.reg [⟨(some 3), .mov (.const (.int .i64 0)), none⟩])
(.seq (.seq (.reg [⟨(some 6), .mov (.tmp 0), none⟩,
⟨(some 7), .len (.tmp 6), none⟩,
⟨(some 8), .mov (.const (.int .i64 0)), none⟩])
(.block 0
(.loop [3, 6, 7, 8]
(.seq (.reg [⟨(some 9), .bin .lss (.tmp 8) (.tmp 7), none⟩])
(.seq (.cond (.tmp 9)
(.skip)
(.exit 0))
(.seq (.block 1
(.seq (.reg [⟨(some 10), .indexAddr 1 (.tmp 6) (.tmp 8), none⟩,
⟨(some 11), .load false 1 (.tmp 10), none⟩,
⟨(some 5), .mov (.tmp 11), none⟩])
(.seq (.reg [⟨(some 12), .mov (.tmp 5), none⟩,
⟨(some 13), .mov (.tmp 3), none⟩,
⟨(some 14), .bin .neq (.tmp 12) (.tmp 13), none⟩])
(.cond (.tmp 14)
(.seq (.reg [⟨(some 15), .mov (.tmp 5), none⟩,
⟨(some 2), .mov (.tmp 15), none⟩])
(.ret))
(.skip)))))
(.reg [⟨(some 16), .bin .add (.tmp 8) (.const (.int .i64 1)), none⟩,
⟨(some 8), .mov (.tmp 16), none⟩])))))))
(.seq (.reg [⟨(some 17), .mov (.tmp 3), none⟩,
⟨(some 2), .mov (.tmp 17), none⟩])
(.ret)))),
[.tmp 2]⟩
/-- cmp.Compare[uint64] -/
def c356 : Func1 := ⟨2,
.seq (.reg [⟨(some 4), .mov (.const (.int .i64 0)), none⟩])
(.seq (.reg [⟨(some 7), .mov (.tmp 0), none⟩,
⟨(some 8), .call 358 [(.tmp 7)] .auto, none⟩,
⟨(some 5), .mov (.tmp 8), none⟩])
(.seq (.reg [⟨(some 9), .mov (.tmp 1), none⟩,
⟨(some 10), .call 358 [(.tmp 9)] .auto, none⟩,
⟨(some 6), .mov (.tmp 10), none⟩])
(.seq (.seq (.reg [⟨(some 11), .mov (.tmp 5), none⟩])
(.cond (.tmp 11)
(.seq (.seq (.reg [⟨(some 12), .mov (.tmp 6), none⟩])
(.cond (.tmp 12)
(.seq (.reg [⟨(some 4), .mov (.const (.int .i64 0)), none⟩])
(.ret))
(.skip)))
(.seq (.reg [⟨(some 4), .mov (.const (.int .i64 (-1))), none⟩])
(.ret)))
(.skip)))
(.seq (.seq (.reg [⟨(some 13), .mov (.tmp 6), none⟩])
(.cond (.tmp 13)
(.seq (.reg [⟨(some 4), .mov (.const (.int .i64 1)), none⟩])
(.ret))
(.skip)))
(.seq (.seq (.reg [⟨(some 14), .mov (.tmp 0), none⟩,
⟨(some 15), .mov (.tmp 1), none⟩,
⟨(some 16), .bin .lss (.tmp 14) (.tmp 15), none⟩])
(.cond (.tmp 16)
(.seq (.reg [⟨(some 4), .mov (.const (.int .i64 (-1))), none⟩])
(.ret))
(.skip)))
(.seq (.seq (.reg [⟨(some 17), .mov (.tmp 0), none⟩,
⟨(some 18), .mov (.tmp 1), none⟩,
⟨(some 19), .bin .gtr (.tmp 17) (.tmp 18), none⟩])
(.cond (.tmp 19)
(.seq (.reg [⟨(some 4), .mov (.const (.int .i64 1)), none⟩])
(.ret))
(.skip)))
(.seq (.reg [⟨(some 4), .mov (.const (.int .i64 0)), none⟩])
(.ret)))))))),
[.tmp 4]⟩
/-- cmp.Compare[int] -/
def c357 : Func1 := ⟨2,
.seq (.reg [⟨(some 4), .mov (.const (.int .i64 0)), none⟩])
(.seq (.reg [⟨(some 7), .mov (.tmp 0), none⟩,
⟨(some 8), .call 275 [(.tmp 7)] .auto, none⟩,
⟨(some 5), .mov (.tmp 8), none⟩])
(.seq (.reg [⟨(some 9), .mov (.tmp 1), none⟩,
⟨(some 10), .call 275 [(.tmp 9)] .auto, none⟩,
⟨(some 6), .mov (.tmp 10), none⟩])
(.seq (.seq (.reg [⟨(some 11), .mov (.tmp 5), none⟩])
(.cond (.tmp 11)
(.seq (.seq (.reg [⟨(some 12), .mov (.tmp 6), none⟩])
(.cond (.tmp 12)
(.seq (.reg [⟨(some 4), .mov (.const (.int .i64 0)), none⟩])
(.ret))
(.skip)))
(.seq (.reg [⟨(some 4), .mov (.const (.int .i64 (-1))), none⟩])
(.ret)))
(.skip)))
(.seq (.seq (.reg [⟨(some 13), .mov (.tmp 6), none⟩])
(.cond (.tmp 13)
(.seq (.reg [⟨(some 4), .mov (.const (.int .i64 1)), none⟩])
(.ret))
(.skip)))
(.seq (.seq (.reg [⟨(some 14), .mov (.tmp 0), none⟩,
⟨(some 15), .mov (.tmp 1), none⟩,
⟨(some 16), .bin .lss (.tmp 14) (.tmp 15), none⟩])
(.cond (.tmp 16)
(.seq (.reg [⟨(some 4), .mov (.const (.int .i64 (-1))), none⟩])
(.ret))
(.skip)))
(.seq (.seq (.reg [⟨(some 17), .mov (.tmp 0), none⟩,
⟨(some 18), .mov (.tmp 1), none⟩,
⟨(some 19), .bin .gtr (.tmp 17) (.tmp 18), none⟩])
(.cond (.tmp 19)
(.seq (.reg [⟨(some 4), .mov (.const (.int .i64 1)), none⟩])
(.ret))
(.skip)))
(.seq (.reg [⟨(some 4), .mov (.const (.int .i64 0)), none⟩])
(.ret)))))))),
[.tmp 4]⟩
/-- cmp.isNaN[uint64] -/
def c358 : Func1 := ⟨1,
.seq (.reg [⟨(some 2), .mov (.const (.bool false)), none⟩])
(.seq (.reg [⟨(some 3), .mov (.tmp 0), none⟩,
⟨(some 4), .mov (.tmp 0), none⟩,
⟨(some 5), .bin .neq (.tmp 3) (.tmp 4), none⟩,
⟨(some 2), .mov (.tmp 5), none⟩])
(.ret)),
[.tmp 2]⟩
/-- (thrum/model.straight).dim -/
def c359 : Func1 := ⟨1,
.seq (.reg [⟨(some 1), .box 5 (.tmp 0), none⟩,
⟨(some 2), .mov (.const (.int .i64 0)), none⟩,
⟨(some 3), .mov (.const (.int .i64 0)), none⟩])
(.seq (.reg [⟨(some 4), .fieldAddr 0 (.tmp 1), none⟩,
⟨(some 5), .fieldAddr 1 (.tmp 4), none⟩,
⟨(some 6), .load false 1 (.tmp 5), none⟩,
⟨(some 7), .call 363 [(.tmp 6)] .thaw, none⟩,
⟨(some 8), .extract (.tmp 7) 0, none⟩,
⟨(some 9), .extract (.tmp 7) 1, none⟩,
⟨(some 2), .mov (.tmp 8), none⟩,
⟨(some 3), .mov (.tmp 9), none⟩])
(.ret)),
[.tmp 2, .tmp 3]⟩
/-- (thrum/model.straight).fits -/
def c360 : Func1 := ⟨3,
.seq (.reg [⟨(some 3), .box 5 (.tmp 0), none⟩,
⟨(some 6), .mov (.const (.int .i64 0)), none⟩])
(.seq (.reg [⟨(some 7), .fieldAddr 0 (.tmp 3), none⟩,
⟨(some 8), .fieldAddr 1 (.tmp 7), none⟩,
⟨(some 9), .load false 1 (.tmp 8), none⟩,
⟨(some 10), .mov (.tmp 1), none⟩,
⟨(some 11), .mov (.tmp 2), none⟩,
⟨(some 12), .call 364 [(.tmp 9), (.tmp 10), (.tmp 11)] .thaw, none⟩,
⟨(some 6), .mov (.tmp 12), none⟩])
(.ret)),
[.tmp 6]⟩
/-- thrum/linear.Dim -/
def c363 : Func1 := ⟨1,
.seq (.reg [⟨(some 2), .mov (.const (.int .i64 0)), none⟩,
⟨(some 3), .mov (.const (.int .i64 0)), none⟩])
(.seq (.seq (.reg [⟨(some 4), .mov (.tmp 0), none⟩,
⟨(some 5), .bin .lss (.tmp 4) (.const (.int .i64 1)), none⟩,
⟨(some 6), .mov (.tmp 5), none⟩,
⟨(some 7), .mov (.tmp 0), (some (6, false))⟩,
⟨(some 8), .bin .gtr (.tmp 7) (.const (.int .i64 16)), (some (6, false))⟩,
⟨(some 9), .pick (.tmp 6) (.const (.bool true)) (.tmp 8), none⟩])
(.cond (.tmp 9)
(.seq (.reg [⟨(some 2), .mov (.const (.int .i64 0)), none⟩,
⟨(some 3), .mov (.const (.int .i64 1)), none⟩])
(.ret))
(.skip)))
(.seq (.reg [⟨(some 10), .mov (.tmp 0), none⟩,
⟨(some 11), .bin .add (.tmp 10) (.const (.int .i64 1)), none⟩,
⟨(some 2), .mov (.tmp 11), none⟩,
⟨(some 3), .mov (.const (.int .i64 0)), none⟩])
(.ret))),
[.tmp 2, .tmp 3]⟩
/-- thrum/linear.Check -/
def c364 : Func1 := ⟨3,
.seq (.reg [⟨(some 6), .mov (.const (.int .i64 0)), none⟩])
(.seq (.reg [⟨(some 13), .mov (.tmp 0), none⟩,
⟨(some 14), .call 363 [(.tmp 13)] .thaw, none⟩,
⟨(some 12), .mov (.tmp 14), none⟩,
⟨(some 15), .extract (.tmp 12) 0, none⟩,
⟨(some 16), .extract (.tmp 12) 1, none⟩,
⟨(some 7), .mov (.tmp 15), none⟩,
⟨(some 8), .mov (.tmp 16), none⟩])
(.seq (.seq (.reg [⟨(some 17), .mov (.tmp 8), none⟩,
⟨(some 18), .bin .neq (.tmp 17) (.const (.int .i64 0)), none⟩])
(.cond (.tmp 18)
(.seq (.reg [⟨(some 19), .mov (.tmp 8), none⟩,
⟨(some 6), .mov (.tmp 19), none⟩])
(.ret))
(.skip)))
(.seq (.reg [⟨(some 20), .mov (.tmp 1), none⟩,
⟨(some 21), .len (.tmp 20), none⟩,
⟨(some 22), .mov (.tmp 7), none⟩,
⟨(some 23), .bin .eql (.tmp 21) (.tmp 22), none⟩,
⟨(some 9), .mov (.tmp 23), none⟩])
(.seq (.seq (.reg [⟨(some 24), .mov (.tmp 2), none⟩,
⟨(some 25), .len (.tmp 24), none⟩,
⟨(some 26), .mov (.const (.int .i64 0)), none⟩])
(.block 0
(.loop [0, 2, 9, 24, 25, 26]
(.seq (.reg [⟨(some 27), .bin .lss (.tmp 26) (.tmp 25), none⟩])
(.seq (.cond (.tmp 27)
(.skip)
(.exit 0))
(.seq (.block 1
(.seq (.reg [⟨(some 28), .indexAddr 2 (.tmp 24) (.tmp 26), none⟩,
⟨(some 29), .load true 2 (.tmp 28), none⟩,
⟨(some 11), .box 2 (.const (.agg [(.lst [] true), (.int .i64 0)])), none⟩,
⟨none, .store 2 (.tmp 11) (.tmp 29), none⟩])
(.reg [⟨(some 30), .mov (.tmp 9), none⟩,
⟨(some 31), .mov (.tmp 30), none⟩,
⟨(some 32), .fieldAddr 0 (.tmp 11), (some (31, true))⟩,
⟨(some 33), .load false 1 (.tmp 32), (some (31, true))⟩,
⟨(some 34), .len (.tmp 33), (some (31, true))⟩,
⟨(some 35), .mov (.tmp 0), (some (31, true))⟩,
⟨(some 36), .bin .eql (.tmp 34) (.tmp 35), (some (31, true))⟩,
⟨(some 37), .pick (.tmp 31) (.tmp 36) (.const (.bool false)), none⟩,
⟨(some 9), .mov (.tmp 37), none⟩])))
(.reg [⟨(some 38), .bin .add (.tmp 26) (.const (.int .i64 1)), none⟩,
⟨(some 26), .mov (.tmp 38), none⟩])))))))
(.seq (.block 2
(.seq (.reg [⟨(some 40), .mov (.tmp 9), none⟩,
⟨(some 41), .un .not (.tmp 40), none⟩,
⟨(some 39), .mov (.tmp 41), none⟩])
(.cond (.tmp 39)
(.seq (.reg [⟨(some 6), .mov (.const (.int .i64 4)), none⟩])
(.ret))
(.seq (.reg [⟨(some 43), .mov (.tmp 2), none⟩,
⟨(some 44), .len (.tmp 43), none⟩,
⟨(some 45), .bin .eql (.tmp 44) (.const (.int .i64 0)), none⟩,
⟨(some 46), .mov (.tmp 45), none⟩,
⟨(some 47), .mov (.tmp 2), (some (46, false))⟩,
⟨(some 48), .len (.tmp 47), (some (46, false))⟩,
⟨(some 49), .bin .gtr (.tmp 48) (.const (.int .i64 64)), (some (46, false))⟩,
⟨(some 50), .pick (.tmp 46) (.const (.bool true)) (.tmp 49), none⟩,
⟨(some 42), .mov (.tmp 50), none⟩])
(.cond (.tmp 42)
(.seq (.reg [⟨(some 6), .mov (.const (.int .i64 1)), none⟩])
(.ret))
(.skip))))))
(.seq (.reg [⟨(some 6), .mov (.const (.int .i64 0)), none⟩])
(.ret))))))),
[.tmp 6]⟩
/-- (thrum/model.classes).dim -/
def c385 : Func1 := ⟨1,
.seq (.reg [⟨(some 1), .box 5 (.tmp 0), none⟩,
⟨(some 2), .mov (.const (.int .i64 0)), none⟩,
⟨(some 3), .mov (.const (.int .i64 0)), none⟩])
(.seq (.reg [⟨(some 4), .fieldAddr 0 (.tmp 1), none⟩,
⟨(some 5), .fieldAddr 1 (.tmp 4), none⟩,
⟨(some 6), .load false 1 (.tmp 5), none⟩,
⟨(some 7), .fieldAddr 0 (.tmp 1), none⟩,
⟨(some 8), .fieldAddr 2 (.tmp 7), none⟩,
⟨(some 9), .load false 1 (.tmp 8), none⟩,
⟨(some 10), .call 389 [(.tmp 6), (.tmp 9)] .thaw, none⟩,
⟨(some 11), .extract (.tmp 10) 0, none⟩,
⟨(some 12), .extract (.tmp 10) 1, none⟩,
⟨(some 2), .mov (.tmp 11), none⟩,
⟨(some 3), .mov (.tmp 12), none⟩])
(.ret)),
[.tmp 2, .tmp 3]⟩
/-- (thrum/model.classes).fits -/
def c386 : Func1 := ⟨3,
.seq (.reg [⟨(some 3), .box 5 (.tmp 0), none⟩,
⟨(some 6), .mov (.const (.int .i64 0)), none⟩])
(.seq (.reg [⟨(some 7), .fieldAddr 0 (.tmp 3), none⟩,
⟨(some 8), .fieldAddr 1 (.tmp 7), none⟩,
⟨(some 9), .load false 1 (.tmp 8), none⟩,
⟨(some 10), .fieldAddr 0 (.tmp 3), none⟩,
⟨(some 11), .fieldAddr 2 (.tmp 10), none⟩,
⟨(some 12), .load false 1 (.tmp 11), none⟩,
⟨(some 13), .mov (.tmp 1), none⟩,
⟨(some 14), .mov (.tmp 2), none⟩,
⟨(some 15), .call 390 [(.tmp 9), (.tmp 12), (.tmp 13), (.tmp 14)] .thaw, none⟩,
⟨(some 6), .mov (.tmp 15), none⟩])
(.ret)),
[.tmp 6]⟩
/-- thrum/soft.Dim -/
def c389 : Func1 := ⟨2,
.seq (.reg [⟨(some 4), .mov (.const (.int .i64 0)), none⟩,
⟨(some 5), .mov (.const (.int .i64 0)), none⟩])
(.seq (.reg [⟨(some 9), .mov (.tmp 0), none⟩,
⟨(some 10), .call 363 [(.tmp 9)] .auto, none⟩,
⟨(some 8), .mov (.tmp 10), none⟩,
⟨(some 11), .extract (.tmp 8) 0, none⟩,
⟨(some 12), .extract (.tmp 8) 1, none⟩,
⟨(some 6), .mov (.tmp 11), none⟩,
⟨(some 7), .mov (.tmp 12), none⟩])
(.seq (.seq (.reg [⟨(some 13), .mov (.tmp 7), none⟩,
⟨(some 14), .bin .neq (.tmp 13) (.const (.int .i64 0)), none⟩,
⟨(some 15), .mov (.tmp 14), none⟩,
⟨(some 16), .mov (.tmp 1), (some (15, false))⟩,
⟨(some 17), .call 392 [(.tmp 16)] .auto, (some (15, false))⟩,
⟨(some 18), .un .not (.tmp 17), (some (15, false))⟩,
⟨(some 19), .pick (.tmp 15) (.const (.bool true)) (.tmp 18), none⟩])
(.cond (.tmp 19)
(.seq (.reg [⟨(some 4), .mov (.const (.int .i64 0)), none⟩,
⟨(some 5), .mov (.const (.int .i64 1)), none⟩])
(.ret))
(.skip)))
(.seq (.reg [⟨(some 20), .mov (.tmp 6), none⟩,
⟨(some 21), .mov (.tmp 1), none⟩,
⟨(some 22), .bin .mul (.tmp 20) (.tmp 21), none⟩,
⟨(some 4), .mov (.tmp 22), none⟩,
⟨(some 5), .mov (.const (.int .i64 0)), none⟩])
(.ret)))),
[.tmp 4, .tmp 5]⟩
/-- thrum/soft.Check -/
def c390 : Func1 := ⟨4,
.seq (.reg [⟨(some 4), .box 1 (.tmp 0), none⟩,
⟨(some 5), .box 1 (.tmp 1), none⟩,
⟨(some 8), .mov (.const (.int .i64 0)), none⟩])
(.seq (.reg [⟨(some 12), .load false 1 (.tmp 4), none⟩,
⟨(some 13), .load false 1 (.tmp 5), none⟩,
⟨(some 14), .call 389 [(.tmp 12), (.tmp 13)] .thaw, none⟩,
⟨(some 11), .mov (.tmp 14), none⟩,
⟨(some 15), .extract (.tmp 11) 0, none⟩,
⟨(some 16), .extract (.tmp 11) 1, none⟩,
⟨(some 9), .mov (.tmp 15), none⟩,
⟨(some 10), .mov (.tmp 16), none⟩])
(.seq (.block 0
(.seq (.reg [⟨(some 18), .mov (.tmp 10), none⟩,
⟨(some 19), .bin .neq (.tmp 18) (.const (.int .i64 0)), none⟩,
⟨(some 17), .mov (.tmp 19), none⟩])
(.cond (.tmp 17)
(.seq (.reg [⟨(some 20), .mov (.tmp 10), none⟩,
⟨(some 8), .mov (.tmp 20), none⟩])
(.ret))
(.seq (.reg [⟨(some 22), .mov (.tmp 2), none⟩,
⟨(some 23), .len (.tmp 22), none⟩,
⟨(some 24), .mov (.tmp 9), none⟩,
⟨(some 25), .bin .neq (.tmp 23) (.tmp 24), none⟩,
⟨(some 26), .mov (.tmp 25), none⟩,
⟨(some 27), .mov (.tmp 3), (some (26, false))⟩,
⟨(some 28), .mkFunc 393 [] [(.tmp 4)], (some (26, false))⟩,
⟨(some 29), .call 74 [(.tmp 27), (.tmp 28)] .auto, (some (26, false))⟩,
⟨(some 30), .pick (.tmp 26) (.const (.bool true)) (.tmp 29), none⟩,
⟨(some 21), .mov (.tmp 30), none⟩])
(.cond (.tmp 21)
(.seq (.reg [⟨(some 8), .mov (.const (.int .i64 4)), none⟩])
(.ret))
(.seq (.reg [⟨(some 32), .mov (.tmp 3), none⟩,
⟨(some 33), .len (.tmp 32), none⟩,
⟨(some 34), .bin .eql (.tmp 33) (.const (.int .i64 0)), none⟩,
⟨(some 35), .mov (.tmp 34), none⟩,
⟨(some 36), .mov (.tmp 3), (some (35, false))⟩,
⟨(some 37), .len (.tmp 36), (some (35, false))⟩,
⟨(some 38), .bin .gtr (.tmp 37) (.const (.int .i64 64)), (some (35, false))⟩,
⟨(some 39), .pick (.tmp 35) (.const (.bool true)) (.tmp 38), none⟩,
⟨(some 40), .mov (.tmp 39), none⟩,
⟨(some 41), .mov (.tmp 3), (some (40, false))⟩,
⟨(some 42), .mkFunc 394 [] [(.tmp 5)], (some (40, false))⟩,
⟨(some 43), .call 74 [(.tmp 41), (.tmp 42)] .auto, (some (40, false))⟩,
⟨(some 44), .pick (.tmp 40) (.const (.bool true)) (.tmp 43), none⟩,
⟨(some 31), .mov (.tmp 44), none⟩])
(.cond (.tmp 31)
(.seq (.reg [⟨(some 8), .mov (.const (.int .i64 1)), none⟩])
(.ret))
(.skip))))))))
(.seq (.reg [⟨(some 8), .mov (.const (.int .i64 0)), none⟩])
(.ret)))),
[.tmp 8]⟩
/-- thrum/soft.classes -/
def c392 : Func1 := ⟨1,
.seq (.reg [⟨(some 2), .mov (.const (.bool false)), none⟩])
(.seq (.reg [⟨(some 3), .mov (.tmp 0), none⟩,
⟨(some 4), .bin .gtr (.tmp 3) (.const (.int .i64 1)), none⟩,
⟨(some 5), .mov (.tmp 4), none⟩,
⟨(some 6), .mov (.tmp 0), (some (5, true))⟩,
⟨(some 7), .bin .leq (.tmp 6) (.const (.int .i64 8)), (some (5, true))⟩,
⟨(some 8), .pick (.tmp 5) (.tmp 7) (.const (.bool false)), none⟩,
⟨(some 2), .mov (.tmp 8), none⟩])
(.ret)),
[.tmp 2]⟩
/-- thrum/soft.Check$1 -/
def c393 : Func1 := ⟨2,
.seq (.reg [⟨(some 2), .box 2 (.tmp 0), none⟩,
⟨(some 3), .mov (.const (.bool false)), none⟩])
(.seq (.reg [⟨(some 4), .fieldAddr 0 (.tmp 2), none⟩,
⟨(some 5), .load false 1 (.tmp 4), none⟩,
⟨(some 6), .len (.tmp 5), none⟩,
⟨(some 7), .load false 1 (.tmp 1), none⟩,
⟨(some 8), .bin .neq (.tmp 6) (.tmp 7), none⟩,
⟨(some 3), .mov (.tmp 8), none⟩])
(.ret)),
[.tmp 3]⟩
/-- thrum/soft.Check$2 -/
def c394 : Func1 := ⟨2,
.seq (.reg [⟨(some 2), .box 2 (.tmp 0), none⟩,
⟨(some 3), .mov (.const (.bool false)), none⟩])
(.seq (.reg [⟨(some 4), .fieldAddr 1 (.tmp 2), none⟩,
⟨(some 5), .load false 1 (.tmp 4), none⟩,
⟨(some 6), .bin .lss (.tmp 5) (.const (.int .i64 0)), none⟩,
⟨(some 7), .mov (.tmp 6), none⟩,
⟨(some 8), .fieldAddr 1 (.tmp 2), (some (7, false))⟩,
⟨(some 9), .load false 1 (.tmp 8), (some (7, false))⟩,
⟨(some 10), .load false 1 (.tmp 1), (some (7, false))⟩,
⟨(some 11), .bin .geq (.tmp 9) (.tmp 10), (some (7, false))⟩,
⟨(some 12), .pick (.tmp 7) (.const (.bool true)) (.tmp 11), none⟩,
⟨(some 3), .mov (.tmp 12), none⟩])
(.ret)),
[.tmp 3]⟩
/-- (thrum/model.layers).dim -/
def c412 : Func1 := ⟨1,
.seq (.reg [⟨(some 1), .box 5 (.tmp 0), none⟩,
⟨(some 2), .mov (.const (.int .i64 0)), none⟩,
⟨(some 3), .mov (.const (.int .i64 0)), none⟩])
(.seq (.reg [⟨(some 4), .fieldAddr 0 (.tmp 1), none⟩,
⟨(some 5), .fieldAddr 1 (.tmp 4), none⟩,
⟨(some 6), .load false 1 (.tmp 5), none⟩,
⟨(some 7), .fieldAddr 0 (.tmp 1), none⟩,
⟨(some 8), .fieldAddr 3 (.tmp 7), none⟩,
⟨(some 9), .load false 1 (.tmp 8), none⟩,
⟨(some 10), .call 416 [(.tmp 6), (.tmp 9)] .thaw, none⟩,
⟨(some 11), .extract (.tmp 10) 0, none⟩,
⟨(some 12), .extract (.tmp 10) 1, none⟩,
⟨(some 2), .mov (.tmp 11), none⟩,
⟨(some 3), .mov (.tmp 12), none⟩])
(.ret)),
[.tmp 2, .tmp 3]⟩
/-- (thrum/model.layers).fits -/
def c413 : Func1 := ⟨3,
.seq (.reg [⟨(some 3), .box 5 (.tmp 0), none⟩,
⟨(some 6), .mov (.const (.int .i64 0)), none⟩])
(.seq (.reg [⟨(some 7), .fieldAddr 0 (.tmp 3), none⟩,
⟨(some 8), .fieldAddr 1 (.tmp 7), none⟩,
⟨(some 9), .load false 1 (.tmp 8), none⟩,
⟨(some 10), .fieldAddr 0 (.tmp 3), none⟩,
⟨(some 11), .fieldAddr 3 (.tmp 10), none⟩,
⟨(some 12), .load false 1 (.tmp 11), none⟩,
⟨(some 13), .mov (.tmp 1), none⟩,
⟨(some 14), .mov (.tmp 2), none⟩,
⟨(some 15), .call 417 [(.tmp 9), (.tmp 12), (.tmp 13), (.tmp 14)] .thaw, none⟩,
⟨(some 6), .mov (.tmp 15), none⟩])
(.ret)),
[.tmp 6]⟩
/-- thrum/mlp.Dim -/
def c416 : Func1 := ⟨2,
.seq (.reg [⟨(some 4), .mov (.const (.int .i64 0)), none⟩,
⟨(some 5), .mov (.const (.int .i64 0)), none⟩])
(.seq (.reg [⟨(some 9), .mov (.tmp 0), none⟩,
⟨(some 10), .call 363 [(.tmp 9)] .auto, none⟩,
⟨(some 8), .mov (.tmp 10), none⟩,
⟨(some 11), .extract (.tmp 8) 0, none⟩,
⟨(some 12), .extract (.tmp 8) 1, none⟩,
⟨(some 6), .mov (.tmp 11), none⟩,
⟨(some 7), .mov (.tmp 12), none⟩])
(.seq (.seq (.reg [⟨(some 13), .mov (.tmp 7), none⟩,
⟨(some 14), .bin .neq (.tmp 13) (.const (.int .i64 0)), none⟩,
⟨(some 15), .mov (.tmp 14), none⟩,
⟨(some 16), .mov (.tmp 1), (some (15, false))⟩,
⟨(some 17), .call 419 [(.tmp 16)] .auto, (some (15, false))⟩,
⟨(some 18), .un .not (.tmp 17), (some (15, false))⟩,
⟨(some 19), .pick (.tmp 15) (.const (.bool true)) (.tmp 18), none⟩])
(.cond (.tmp 19)
(.seq (.reg [⟨(some 4), .mov (.const (.int .i64 0)), none⟩,
⟨(some 5), .mov (.const (.int .i64 1)), none⟩])
(.ret))
(.skip)))
(.seq (.reg [⟨(some 20), .mov (.tmp 1), none⟩,
⟨(some 21), .mov (.tmp 6), none⟩,
⟨(some 22), .bin .mul (.tmp 20) (.tmp 21), none⟩,
⟨(some 23), .mov (.tmp 1), none⟩,
⟨(some 24), .bin .add (.tmp 22) (.tmp 23), none⟩,
⟨(some 25), .bin .add (.tmp 24) (.const (.int .i64 1)), none⟩,
⟨(some 4), .mov (.tmp 25), none⟩,
⟨(some 5), .mov (.const (.int .i64 0)), none⟩])
(.ret)))),
[.tmp 4, .tmp 5]⟩
/-- thrum/mlp.Check -/
def c417 : Func1 := ⟨4,
.seq (.reg [⟨(some 4), .box 1 (.tmp 0), none⟩,
⟨(some 8), .mov (.const (.int .i64 0)), none⟩])
(.seq (.reg [⟨(some 12), .load false 1 (.tmp 4), none⟩,
⟨(some 13), .mov (.tmp 1), none⟩,
⟨(some 14), .call 416 [(.tmp 12), (.tmp 13)] .thaw, none⟩,
⟨(some 11), .mov (.tmp 14), none⟩,
⟨(some 15), .extract (.tmp 11) 0, none⟩,
⟨(some 16), .extract (.tmp 11) 1, none⟩,
⟨(some 9), .mov (.tmp 15), none⟩,
⟨(some 10), .mov (.tmp 16), none⟩])
(.seq (.block 0
(.seq (.reg [⟨(some 18), .mov (.tmp 10), none⟩,
⟨(some 19), .bin .neq (.tmp 18) (.const (.int .i64 0)), none⟩,
⟨(some 17), .mov (.tmp 19), none⟩])
(.cond (.tmp 17)
(.seq (.reg [⟨(some 20), .mov (.tmp 10), none⟩,
⟨(some 8), .mov (.tmp 20), none⟩])
(.ret))
(.seq (.reg [⟨(some 22), .mov (.tmp 2), none⟩,
⟨(some 23), .len (.tmp 22), none⟩,
⟨(some 24), .mov (.tmp 9), none⟩,
⟨(some 25), .bin .neq (.tmp 23) (.tmp 24), none⟩,
⟨(some 26), .mov (.tmp 25), none⟩,
⟨(some 27), .mov (.tmp 3), (some (26, false))⟩,
⟨(some 28), .mkFunc 420 [] [(.tmp 4)], (some (26, false))⟩,
⟨(some 29), .call 74 [(.tmp 27), (.tmp 28)] .auto, (some (26, false))⟩,
⟨(some 30), .pick (.tmp 26) (.const (.bool true)) (.tmp 29), none⟩,
⟨(some 21), .mov (.tmp 30), none⟩])
(.cond (.tmp 21)
(.seq (.reg [⟨(some 8), .mov (.const (.int .i64 4)), none⟩])
(.ret))
(.seq (.reg [⟨(some 32), .mov (.tmp 3), none⟩,
⟨(some 33), .len (.tmp 32), none⟩,
⟨(some 34), .bin .eql (.tmp 33) (.const (.int .i64 0)), none⟩,
⟨(some 35), .mov (.tmp 34), none⟩,
⟨(some 36), .mov (.tmp 3), (some (35, false))⟩,
⟨(some 37), .len (.tmp 36), (some (35, false))⟩,
⟨(some 38), .bin .gtr (.tmp 37) (.const (.int .i64 64)), (some (35, false))⟩,
⟨(some 39), .pick (.tmp 35) (.const (.bool true)) (.tmp 38), none⟩,
⟨(some 31), .mov (.tmp 39), none⟩])
(.cond (.tmp 31)
(.seq (.reg [⟨(some 8), .mov (.const (.int .i64 1)), none⟩])
(.ret))
(.skip))))))))
(.seq (.reg [⟨(some 8), .mov (.const (.int .i64 0)), none⟩])
(.ret)))),
[.tmp 8]⟩
/-- thrum/mlp.hides -/
def c419 : Func1 := ⟨1,
.seq (.reg [⟨(some 2), .mov (.const (.bool false)), none⟩])
(.seq (.reg [⟨(some 3), .mov (.tmp 0), none⟩,
⟨(some 4), .bin .gtr (.tmp 3) (.const (.int .i64 0)), none⟩,
⟨(some 5), .mov (.tmp 4), none⟩,
⟨(some 6), .mov (.tmp 0), (some (5, true))⟩,
⟨(some 7), .bin .leq (.tmp 6) (.const (.int .i64 8)), (some (5, true))⟩,
⟨(some 8), .pick (.tmp 5) (.tmp 7) (.const (.bool false)), none⟩,
⟨(some 2), .mov (.tmp 8), none⟩])
(.ret)),
[.tmp 2]⟩
/-- thrum/mlp.Check$1 -/
def c420 : Func1 := ⟨2,
.seq (.reg [⟨(some 2), .box 2 (.tmp 0), none⟩,
⟨(some 3), .mov (.const (.bool false)), none⟩])
(.seq (.reg [⟨(some 4), .fieldAddr 0 (.tmp 2), none⟩,
⟨(some 5), .load false 1 (.tmp 4), none⟩,
⟨(some 6), .len (.tmp 5), none⟩,
⟨(some 7), .load false 1 (.tmp 1), none⟩,
⟨(some 8), .bin .neq (.tmp 6) (.tmp 7), none⟩,
⟨(some 3), .mov (.tmp 8), none⟩])
(.ret)),
[.tmp 3]⟩
end Go.Abs
