/- The abstract machine's code of the functions of group B, printed by program. -/
import Derived.Test.YtflfnkdhmcfjlaaMach
namespace Go.Am
/- estovers/waitgraph.Resources -/
noncomputable def c29 : Fn := ⟨1, 8768, 2, true, [.t 2],
 .seq (.reg [
   ⟨.x 1, .box, [.t 0], none⟩,
   ⟨.e 2, .mv, [.k (.int .i64 0)], none⟩] [] [1]) (
 .seq (.seq (.reg [
   ⟨.e 3, .ld true 3, [.b 1], none⟩,
   ⟨.e 4, .call 49, [.t 3], none⟩,
   ⟨.e 5, .bin .neq, [.t 4, .k (.int .i64 0)], none⟩] [5] [1]) (
 .cond (.t 5)
  (.seq (.reg [
     ⟨.e 2, .mv, [.k (.int .i64 0)], none⟩] [2] []) (
   .ret))
  (.skip))) (
 .seq (.reg [
   ⟨.a 6, .fa 0, [.b 1], none⟩,
   ⟨.e 7, .ld false 1, [.a 6], none⟩,
   ⟨.e 8, .len false, [.t 7], none⟩,
   ⟨.a 9, .fa 1, [.b 1], none⟩,
   ⟨.e 10, .ld false 1, [.a 9], none⟩,
   ⟨.e 11, .len false, [.t 10], none⟩,
   ⟨.e 12, .bin .add, [.t 8, .t 11], none⟩,
   ⟨.a 13, .fa 2, [.b 1], none⟩,
   ⟨.e 14, .ld false 1, [.a 13], none⟩,
   ⟨.e 15, .len false, [.t 14], none⟩,
   ⟨.e 16, .bin .add, [.t 12, .t 15], none⟩,
   ⟨.e 2, .mv, [.t 16], none⟩] [2] []) (
 .ret)))⟩
/- estovers/estoversref42.Resources -/
noncomputable def c30 : Fn := ⟨1, 8768, 2, true, [.t 2],
 .seq (.reg [
   ⟨.x 1, .box, [.t 0], none⟩,
   ⟨.e 2, .mv, [.k (.int .i64 0)], none⟩] [] [1]) (
 .seq (.seq (.reg [
   ⟨.e 3, .ld true 3, [.b 1], none⟩,
   ⟨.e 4, .call 91, [.t 3], none⟩,
   ⟨.e 5, .bin .neq, [.t 4, .k (.int .i64 0)], none⟩] [5] [1]) (
 .cond (.t 5)
  (.seq (.reg [
     ⟨.e 2, .mv, [.k (.int .i64 0)], none⟩] [2] []) (
   .ret))
  (.skip))) (
 .seq (.reg [
   ⟨.a 6, .fa 0, [.b 1], none⟩,
   ⟨.e 7, .ld false 1, [.a 6], none⟩,
   ⟨.e 8, .len false, [.t 7], none⟩,
   ⟨.a 9, .fa 1, [.b 1], none⟩,
   ⟨.e 10, .ld false 1, [.a 9], none⟩,
   ⟨.e 11, .len false, [.t 10], none⟩,
   ⟨.e 12, .bin .add, [.t 8, .t 11], none⟩,
   ⟨.a 13, .fa 2, [.b 1], none⟩,
   ⟨.e 14, .ld false 1, [.a 13], none⟩,
   ⟨.e 15, .len false, [.t 14], none⟩,
   ⟨.e 16, .bin .add, [.t 12, .t 15], none⟩,
   ⟨.e 2, .mv, [.t 16], none⟩] [2] []) (
 .ret)))⟩
/- estovers/waitgraph.Demand -/
noncomputable def c31 : Fn := ⟨3, 262144, 8, true, [.t 6],
 .seq (.reg [
   ⟨.x 3, .box, [.t 0], none⟩,
   ⟨.e 6, .mv, [.k (.int .i64 0)], none⟩] [1, 2] [3]) (
 .seq (.seq (.reg [
   ⟨.e 9, .ld true 3, [.b 3], none⟩,
   ⟨.e 10, .call 49, [.t 9], none⟩,
   ⟨.e 11, .bin .neq, [.t 10, .k (.int .i64 0)], none⟩,
   ⟨.e 12, .mv, [.t 11], none⟩,
   ⟨.e 13, .mv, [.t 1], some (12, false)⟩,
   ⟨.e 14, .bin .lss, [.t 13, .k (.int .i64 0)], some (12, false)⟩,
   ⟨.e 15, .pick, [.t 12, .k (.bool true), .t 14], none⟩,
   ⟨.e 16, .mv, [.t 15], none⟩,
   ⟨.e 17, .mv, [.t 1], some (16, false)⟩,
   ⟨.a 18, .fa 0, [.b 3], some (16, false)⟩,
   ⟨.e 19, .ld false 1, [.a 18], some (16, false)⟩,
   ⟨.e 20, .len false, [.t 19], some (16, false)⟩,
   ⟨.e 21, .bin .geq, [.t 17, .t 20], some (16, false)⟩,
   ⟨.e 22, .pick, [.t 16, .k (.bool true), .t 21], none⟩] [1, 2, 22] [3]) (
 .cond (.t 22)
  (.seq (.reg [
     ⟨.e 6, .mv, [.k (.int .i64 (-1))], none⟩] [6] []) (
   .ret))
  (.skip))) (
 .seq (.reg [
   ⟨.e 24, .ld true 3, [.b 3], none⟩,
   ⟨.e 25, .mv, [.t 1], none⟩,
   ⟨.e 26, .call 92, [.t 24, .t 25], none⟩,
   ⟨.e 23, .mv, [.t 26], none⟩,
   ⟨.e 27, .ext 0, [.t 23], none⟩,
   ⟨.e 28, .ext 1, [.t 23], none⟩,
   ⟨.e 7, .mv, [.t 27], none⟩,
   ⟨.e 8, .mv, [.t 28], none⟩] [2, 7, 8] []) (
 .seq (.seq (.reg [
   ⟨.e 29, .mv, [.t 2], none⟩] [7, 8, 29] []) (
 .cond (.t 29)
  (.seq (.reg [
     ⟨.e 30, .mv, [.t 8], none⟩,
     ⟨.e 6, .mv, [.t 30], none⟩] [6] []) (
   .ret))
  (.skip))) (
 .seq (.reg [
   ⟨.e 31, .mv, [.t 7], none⟩,
   ⟨.e 6, .mv, [.t 31], none⟩] [6] []) (
 .ret)))))⟩
/- estovers/estoversref42.Demand -/
noncomputable def L32_1 : AC := .loop [1, 2, 7, 8, 10, 11] [3, 9] (
 .seq (.seq (.reg [
   ⟨.e 38, .mv, [.t 11], none⟩,
   ⟨.a 39, .fa 3, [.b 9], none⟩,
   ⟨.e 40, .ld false 1, [.a 39], none⟩,
   ⟨.e 41, .len false, [.t 40], none⟩,
   ⟨.e 42, .bin .leq, [.t 38, .t 41], none⟩] [1, 2, 7, 8, 10, 11, 42] [3, 9]) (
 .cond (.t 42)
  (.skip)
  (.exit 2))) (
 .seq (.block 3 (
  .reg [
    ⟨.e 45, .mv, [.t 10], none⟩,
    ⟨.e 46, .ld true 4, [.b 9], none⟩,
    ⟨.e 47, .mv, [.t 1], none⟩,
    ⟨.e 48, .mv, [.t 11], none⟩,
    ⟨.e 49, .mv, [.t 2], none⟩,
    ⟨.e 50, .call 93, [.t 46, .t 47, .t 48, .t 49], none⟩,
    ⟨.e 51, .mx, [.t 45, .t 50], none⟩,
    ⟨.e 10, .mv, [.t 51], none⟩] [1, 2, 7, 8, 10, 11] [3, 9])) (
 .reg [
   ⟨.e 43, .mv, [.t 11], none⟩,
   ⟨.e 44, .bin .add, [.t 43, .k (.int .i64 1)], none⟩,
   ⟨.e 11, .mv, [.t 44], none⟩] [1, 2, 7, 8, 10, 11] [3, 9])))
noncomputable def L32_2 : AC := .loop [1, 2, 7, 8] [3] (
 .seq (.seq (.reg [
   ⟨.e 26, .mv, [.t 8], none⟩,
   ⟨.a 27, .fa 2, [.b 3], none⟩,
   ⟨.e 28, .ld false 1, [.a 27], none⟩,
   ⟨.e 29, .len false, [.t 28], none⟩,
   ⟨.e 30, .bin .lss, [.t 26, .t 29], none⟩] [1, 2, 7, 8, 30] [3]) (
 .cond (.t 30)
  (.skip)
  (.exit 0))) (
 .seq (.block 1 (
  .seq (.reg [
    ⟨.a 33, .fa 2, [.b 3], none⟩,
    ⟨.e 34, .ld false 1, [.a 33], none⟩,
    ⟨.e 35, .mv, [.t 8], none⟩,
    ⟨.a 36, .ia 4, [.t 34, .t 35], none⟩,
    ⟨.e 37, .ld true 4, [.a 36], none⟩,
    ⟨.x 9, .box, [.k (.agg [(.str []), (.int .i64 0), (.bool false), .nil])], none⟩,
    ⟨.n, .st 4, [.b 9, .t 37], none⟩] [1, 2, 7, 8] [3, 9]) (
  .seq (.reg [
    ⟨.e 10, .mv, [.k (.int .i64 0)], none⟩] [1, 2, 7, 8, 10] [3, 9]) (
  .seq (.seq (.reg [
    ⟨.e 11, .mv, [.k (.int .i64 0)], none⟩] [1, 2, 7, 8, 10, 11] [3, 9]) (
  .block 2 (
   L32_1))) (
  .reg [
    ⟨.e 52, .mv, [.t 7], none⟩,
    ⟨.a 53, .fa 1, [.b 9], none⟩,
    ⟨.e 54, .ld false 1, [.a 53], none⟩,
    ⟨.e 55, .mv, [.t 10], none⟩,
    ⟨.e 56, .bin .mul, [.t 54, .t 55], none⟩,
    ⟨.e 57, .bin .add, [.t 52, .t 56], none⟩,
    ⟨.e 7, .mv, [.t 57], none⟩] [1, 2, 7, 8] [3]))))) (
 .reg [
   ⟨.e 31, .mv, [.t 8], none⟩,
   ⟨.e 32, .bin .add, [.t 31, .k (.int .i64 1)], none⟩,
   ⟨.e 8, .mv, [.t 32], none⟩] [1, 2, 7, 8] [3])))
noncomputable def c32 : Fn := ⟨3, 9007826456281088, 520, true, [.t 6],
 .seq (.reg [
   ⟨.x 3, .box, [.t 0], none⟩,
   ⟨.e 6, .mv, [.k (.int .i64 0)], none⟩] [1, 2] [3]) (
 .seq (.seq (.reg [
   ⟨.e 12, .ld true 3, [.b 3], none⟩,
   ⟨.e 13, .call 91, [.t 12], none⟩,
   ⟨.e 14, .bin .neq, [.t 13, .k (.int .i64 0)], none⟩,
   ⟨.e 15, .mv, [.t 14], none⟩,
   ⟨.e 16, .mv, [.t 1], some (15, false)⟩,
   ⟨.e 17, .bin .lss, [.t 16, .k (.int .i64 0)], some (15, false)⟩,
   ⟨.e 18, .pick, [.t 15, .k (.bool true), .t 17], none⟩,
   ⟨.e 19, .mv, [.t 18], none⟩,
   ⟨.e 20, .mv, [.t 1], some (19, false)⟩,
   ⟨.a 21, .fa 0, [.b 3], some (19, false)⟩,
   ⟨.e 22, .ld false 1, [.a 21], some (19, false)⟩,
   ⟨.e 23, .len false, [.t 22], some (19, false)⟩,
   ⟨.e 24, .bin .geq, [.t 20, .t 23], some (19, false)⟩,
   ⟨.e 25, .pick, [.t 19, .k (.bool true), .t 24], none⟩] [1, 2, 25] [3]) (
 .cond (.t 25)
  (.seq (.reg [
     ⟨.e 6, .mv, [.k (.int .i64 (-1))], none⟩] [6] []) (
   .ret))
  (.skip))) (
 .seq (.reg [
   ⟨.e 7, .mv, [.k (.int .i64 0)], none⟩] [1, 2, 7] [3]) (
 .seq (.seq (.reg [
   ⟨.e 8, .mv, [.k (.int .i64 0)], none⟩] [1, 2, 7, 8] [3]) (
 .block 0 (
  L32_2))) (
 .seq (.reg [
   ⟨.e 58, .mv, [.t 7], none⟩,
   ⟨.e 6, .mv, [.t 58], none⟩] [6] []) (
 .ret)))))⟩
/- estovers/waitgraph.Waits -/
noncomputable def c33 : Fn := ⟨3, 21031515389952, 8, true, [.t 6],
 .seq (.reg [
   ⟨.x 3, .box, [.t 0], none⟩,
   ⟨.e 6, .mv, [.k (.bool false)], none⟩] [1, 2] [3]) (
 .seq (.seq (.reg [
   ⟨.e 7, .ld true 3, [.b 3], none⟩,
   ⟨.e 8, .call 49, [.t 7], none⟩,
   ⟨.e 9, .bin .neq, [.t 8, .k (.int .i64 0)], none⟩,
   ⟨.e 10, .mv, [.t 9], none⟩,
   ⟨.e 11, .mv, [.t 1], some (10, false)⟩,
   ⟨.e 12, .bin .lss, [.t 11, .k (.int .i64 0)], some (10, false)⟩,
   ⟨.e 13, .pick, [.t 10, .k (.bool true), .t 12], none⟩,
   ⟨.e 14, .mv, [.t 13], none⟩,
   ⟨.e 15, .mv, [.t 1], some (14, false)⟩,
   ⟨.a 16, .fa 2, [.b 3], some (14, false)⟩,
   ⟨.e 17, .ld false 1, [.a 16], some (14, false)⟩,
   ⟨.e 18, .len false, [.t 17], some (14, false)⟩,
   ⟨.e 19, .bin .geq, [.t 15, .t 18], some (14, false)⟩,
   ⟨.e 20, .pick, [.t 14, .k (.bool true), .t 19], none⟩,
   ⟨.e 21, .mv, [.t 20], none⟩,
   ⟨.e 22, .mv, [.t 2], some (21, false)⟩,
   ⟨.e 23, .bin .lss, [.t 22, .k (.int .i64 0)], some (21, false)⟩,
   ⟨.e 24, .pick, [.t 21, .k (.bool true), .t 23], none⟩,
   ⟨.e 25, .mv, [.t 24], none⟩,
   ⟨.e 26, .mv, [.t 2], some (25, false)⟩,
   ⟨.a 27, .fa 2, [.b 3], some (25, false)⟩,
   ⟨.e 28, .ld false 1, [.a 27], some (25, false)⟩,
   ⟨.e 29, .mv, [.t 1], some (25, false)⟩,
   ⟨.a 30, .ia 4, [.t 28, .t 29], some (25, false)⟩,
   ⟨.a 31, .fa 3, [.a 30], some (25, false)⟩,
   ⟨.e 32, .ld false 1, [.a 31], some (25, false)⟩,
   ⟨.e 33, .len false, [.t 32], some (25, false)⟩,
   ⟨.e 34, .bin .geq, [.t 26, .t 33], some (25, false)⟩,
   ⟨.e 35, .pick, [.t 25, .k (.bool true), .t 34], none⟩] [1, 2, 35] [3]) (
 .cond (.t 35)
  (.seq (.reg [
     ⟨.e 6, .mv, [.k (.bool false)], none⟩] [6] []) (
   .ret))
  (.skip))) (
 .seq (.dreg [
   ⟨.e 36, .ld true 3, [.b 3], none⟩,
   ⟨.a 37, .fa 2, [.b 3], none⟩,
   ⟨.e 38, .ld false 1, [.a 37], none⟩,
   ⟨.e 39, .mv, [.t 1], none⟩,
   ⟨.a 40, .ia 4, [.t 38, .t 39], none⟩,
   ⟨.a 41, .fa 3, [.a 40], none⟩,
   ⟨.e 42, .ld false 1, [.a 41], none⟩,
   ⟨.e 43, .mv, [.t 2], none⟩,
   ⟨.a 44, .ia 4, [.t 42, .t 43], none⟩,
   ⟨.e 45, .ld true 4, [.a 44], none⟩,
   ⟨.e 46, .call 94, [.t 36, .t 45], none⟩,
   ⟨.e 6, .mv, [.t 46], none⟩] [] [6] []) (
 .ret)))⟩
/- estovers/estoversref42.Waits -/
noncomputable def c34 : Fn := ⟨3, 304966969670542426112, 136, true, [.t 6],
 .seq (.reg [
   ⟨.x 3, .box, [.t 0], none⟩,
   ⟨.e 6, .mv, [.k (.bool false)], none⟩] [1, 2] [3]) (
 .seq (.seq (.reg [
   ⟨.e 8, .ld true 3, [.b 3], none⟩,
   ⟨.e 9, .call 91, [.t 8], none⟩,
   ⟨.e 10, .bin .neq, [.t 9, .k (.int .i64 0)], none⟩,
   ⟨.e 11, .mv, [.t 10], none⟩,
   ⟨.e 12, .mv, [.t 1], some (11, false)⟩,
   ⟨.e 13, .bin .lss, [.t 12, .k (.int .i64 0)], some (11, false)⟩,
   ⟨.e 14, .pick, [.t 11, .k (.bool true), .t 13], none⟩,
   ⟨.e 15, .mv, [.t 14], none⟩,
   ⟨.e 16, .mv, [.t 1], some (15, false)⟩,
   ⟨.a 17, .fa 2, [.b 3], some (15, false)⟩,
   ⟨.e 18, .ld false 1, [.a 17], some (15, false)⟩,
   ⟨.e 19, .len false, [.t 18], some (15, false)⟩,
   ⟨.e 20, .bin .geq, [.t 16, .t 19], some (15, false)⟩,
   ⟨.e 21, .pick, [.t 15, .k (.bool true), .t 20], none⟩,
   ⟨.e 22, .mv, [.t 21], none⟩,
   ⟨.e 23, .mv, [.t 2], some (22, false)⟩,
   ⟨.e 24, .bin .lss, [.t 23, .k (.int .i64 0)], some (22, false)⟩,
   ⟨.e 25, .pick, [.t 22, .k (.bool true), .t 24], none⟩,
   ⟨.e 26, .mv, [.t 25], none⟩,
   ⟨.e 27, .mv, [.t 2], some (26, false)⟩,
   ⟨.a 28, .fa 2, [.b 3], some (26, false)⟩,
   ⟨.e 29, .ld false 1, [.a 28], some (26, false)⟩,
   ⟨.e 30, .mv, [.t 1], some (26, false)⟩,
   ⟨.a 31, .ia 4, [.t 29, .t 30], some (26, false)⟩,
   ⟨.a 32, .fa 3, [.a 31], some (26, false)⟩,
   ⟨.e 33, .ld false 1, [.a 32], some (26, false)⟩,
   ⟨.e 34, .len false, [.t 33], some (26, false)⟩,
   ⟨.e 35, .bin .geq, [.t 27, .t 34], some (26, false)⟩,
   ⟨.e 36, .pick, [.t 26, .k (.bool true), .t 35], none⟩] [1, 2, 36] [3]) (
 .cond (.t 36)
  (.seq (.reg [
     ⟨.e 6, .mv, [.k (.bool false)], none⟩] [6] []) (
   .ret))
  (.skip))) (
 .seq (.reg [
   ⟨.a 37, .fa 2, [.b 3], none⟩,
   ⟨.e 38, .ld false 1, [.a 37], none⟩,
   ⟨.e 39, .mv, [.t 1], none⟩,
   ⟨.a 40, .ia 4, [.t 38, .t 39], none⟩,
   ⟨.a 41, .fa 3, [.a 40], none⟩,
   ⟨.e 42, .ld false 1, [.a 41], none⟩,
   ⟨.e 43, .mv, [.t 2], none⟩,
   ⟨.a 44, .ia 4, [.t 42, .t 43], none⟩,
   ⟨.e 45, .ld true 4, [.a 44], none⟩,
   ⟨.x 7, .box, [.k (.agg [(.int .i64 0), (.int .i64 0), (.int .i64 0), (.bool false)])], none⟩,
   ⟨.n, .st 4, [.b 7, .t 45], none⟩] [] [3, 7]) (
 .seq (.seq (.reg [
   ⟨.a 46, .fa 0, [.b 7], none⟩,
   ⟨.e 47, .ld false 1, [.a 46], none⟩,
   ⟨.e 48, .bin .eql, [.t 47, .k (.int .i64 3)], none⟩,
   ⟨.e 49, .mv, [.t 48], none⟩,
   ⟨.a 50, .fa 0, [.b 7], some (49, false)⟩,
   ⟨.e 51, .ld false 1, [.a 50], some (49, false)⟩,
   ⟨.e 52, .bin .eql, [.t 51, .k (.int .i64 5)], some (49, false)⟩,
   ⟨.e 53, .pick, [.t 49, .k (.bool true), .t 52], none⟩] [53] [3, 7]) (
 .cond (.t 53)
  (.seq (.reg [
     ⟨.e 6, .mv, [.k (.bool true)], none⟩] [6] []) (
   .ret))
  (.skip))) (
 .seq (.seq (.reg [
   ⟨.a 54, .fa 0, [.b 7], none⟩,
   ⟨.e 55, .ld false 1, [.a 54], none⟩,
   ⟨.e 56, .bin .neq, [.t 55, .k (.int .i64 1)], none⟩,
   ⟨.e 57, .mv, [.t 56], none⟩,
   ⟨.e 58, .ld true 3, [.b 3], some (57, false)⟩,
   ⟨.a 59, .fa 1, [.b 7], some (57, false)⟩,
   ⟨.e 60, .ld false 1, [.a 59], some (57, false)⟩,
   ⟨.e 61, .call 95, [.t 58, .t 60], some (57, false)⟩,
   ⟨.e 62, .pick, [.t 57, .k (.bool true), .t 61], none⟩] [62] [3, 7]) (
 .cond (.t 62)
  (.seq (.reg [
     ⟨.e 6, .mv, [.k (.bool false)], none⟩] [6] []) (
   .ret))
  (.skip))) (
 .seq (.reg [
   ⟨.a 63, .fa 3, [.b 7], none⟩,
   ⟨.e 64, .ld false 1, [.a 63], none⟩,
   ⟨.e 65, .not, [.t 64], none⟩,
   ⟨.e 66, .mv, [.t 65], none⟩,
   ⟨.e 67, .ld true 3, [.b 3], some (66, false)⟩,
   ⟨.a 68, .fa 1, [.b 7], some (66, false)⟩,
   ⟨.e 69, .ld false 1, [.a 68], some (66, false)⟩,
   ⟨.e 70, .call 96, [.t 67, .t 69], some (66, false)⟩,
   ⟨.e 71, .not, [.t 70], some (66, false)⟩,
   ⟨.e 72, .pick, [.t 66, .k (.bool true), .t 71], none⟩,
   ⟨.e 6, .mv, [.t 72], none⟩] [6] []) (
 .ret))))))⟩
/- estovers/waitgraph.Edges -/
noncomputable def L35_1 : AC := .loop [5, 6, 7, 8, 10, 22, 23, 31, 32, 33, 48, 49, 50] [1] (
 .seq (.reg [
   ⟨.e 51, .bin .lss, [.t 50, .t 49], none⟩] [5, 6, 7, 8, 10, 22, 23, 31, 32, 33, 48, 49, 50, 51] [1]) (
 .seq (.cond (.t 51)
  (.skip)
  (.exit 4)) (
 .seq (.block 5 (
  .seq (.reg [
    ⟨.a 52, .ia 1, [.t 48, .t 50], none⟩,
    ⟨.e 53, .ld false 1, [.a 52], none⟩,
    ⟨.e 12, .mv, [.t 53], none⟩] [5, 6, 7, 8, 10, 12, 22, 23, 31, 32, 33, 48, 49, 50] [1]) (
  .seq (.reg [
    ⟨.e 54, .mv, [.t 12], none⟩,
    ⟨.e 55, .mv, [.t 10], none⟩,
    ⟨.e 56, .bld [(.int .i64 0), (.int .i64 0)] [(0, 1), (1, 1)], [.t 54, .t 55], none⟩,
    ⟨.x 13, .box, [.k (.agg [(.int .i64 0), (.int .i64 0)])], none⟩,
    ⟨.n, .st 2, [.b 13, .t 56], none⟩] [5, 6, 7, 8, 10, 12, 22, 23, 31, 32, 33, 48, 49, 50] [1, 13]) (
  .seq (.reg [
    ⟨.e 57, .mv, [.t 6], none⟩,
    ⟨.e 58, .ld true 2, [.b 13], none⟩,
    ⟨.e 59, .look true false (.bool false), [.t 57, .t 58], none⟩,
    ⟨.e 60, .not, [.t 59], none⟩] [5, 6, 7, 8, 10, 12, 22, 23, 31, 32, 33, 48, 49, 50, 60] [1, 13]) (
  .cond (.t 60)
   (.seq (.reg [
      ⟨.e 61, .mv, [.t 6], none⟩,
      ⟨.e 62, .ld true 2, [.b 13], none⟩,
      ⟨.n, .upd true, [.t 61, .t 62, .k (.bool true)], none⟩] [5, 6, 7, 8, 10, 12, 22, 23, 31, 32, 33, 48, 49, 50] [1]) (
    .reg [
      ⟨.e 63, .mv, [.t 5], none⟩,
      ⟨.e 64, .mv, [.t 12], none⟩,
      ⟨.e 65, .mv, [.t 10], none⟩,
      ⟨.e 66, .mv, [.t 7], none⟩,
      ⟨.e 67, .mv, [.t 8], none⟩,
      ⟨.e 68, .bld [(.int .i64 0), (.int .i64 0), (.int .i64 0), (.int .i64 0)] [(0, 1), (1, 1), (2, 1), (3, 1)], [.t 64, .t 65, .t 66, .t 67], none⟩,
      ⟨.e 69, .lit 4 1 (.agg [(.int .i64 0), (.int .i64 0), (.int .i64 0), (.int .i64 0)]) [0], [.t 68], none⟩,
      ⟨.e 70, .app 4, [.t 63, .t 69], none⟩,
      ⟨.e 5, .mv, [.t 70], none⟩] [5, 6, 7, 8, 10, 22, 23, 31, 32, 33, 48, 49, 50] [1]))
   (.skip)))))) (
 .reg [
   ⟨.e 71, .bin .add, [.t 50, .k (.int .i64 1)], none⟩,
   ⟨.e 50, .mv, [.t 71], none⟩] [5, 6, 7, 8, 10, 22, 23, 31, 32, 33, 48, 49, 50] [1]))))
noncomputable def L35_2 : AC := .loop [5, 6, 7, 22, 23, 31, 32, 33] [1] (
 .seq (.reg [
   ⟨.e 34, .bin .lss, [.t 33, .t 32], none⟩] [5, 6, 7, 22, 23, 31, 32, 33, 34] [1]) (
 .seq (.cond (.t 34)
  (.skip)
  (.exit 2)) (
 .seq (.block 3 (
  .seq (.reg [
    ⟨.e 35, .mv, [.t 33], none⟩,
    ⟨.a 36, .ia 4, [.t 31, .t 33], none⟩,
    ⟨.e 37, .ld true 4, [.a 36], none⟩,
    ⟨.x 9, .box, [.k (.agg [(.int .i64 0), (.int .i64 0), (.int .i64 0), (.bool false)])], none⟩,
    ⟨.e 8, .mv, [.t 35], none⟩,
    ⟨.n, .st 4, [.b 9, .t 37], none⟩] [5, 6, 7, 8, 22, 23, 31, 32, 33] [1, 9]) (
  .seq (.seq (.reg [
    ⟨.e 38, .ld true 3, [.b 1], none⟩,
    ⟨.e 39, .ld true 4, [.b 9], none⟩,
    ⟨.e 40, .call 94, [.t 38, .t 39], none⟩,
    ⟨.e 41, .not, [.t 40], none⟩] [5, 6, 7, 8, 22, 23, 31, 32, 33, 41] [1, 9]) (
  .cond (.t 41)
   (.exit 3)
   (.skip))) (
  .seq (.reg [
    ⟨.e 42, .ld true 3, [.b 1], none⟩,
    ⟨.e 43, .ld true 4, [.b 9], none⟩,
    ⟨.e 44, .call 97, [.t 42, .t 43], none⟩,
    ⟨.e 10, .mv, [.t 44], none⟩] [5, 6, 7, 8, 10, 22, 23, 31, 32, 33] [1]) (
  .seq (.reg [
    ⟨.e 45, .ld true 3, [.b 1], none⟩,
    ⟨.e 46, .mv, [.t 7], none⟩,
    ⟨.e 47, .mv, [.t 8], none⟩,
    ⟨.e 48, .call 98, [.t 45, .t 46, .t 47], none⟩,
    ⟨.e 49, .len false, [.t 48], none⟩,
    ⟨.e 50, .mv, [.k (.int .i64 0)], none⟩] [5, 6, 7, 8, 10, 22, 23, 31, 32, 33, 48, 49, 50] [1]) (
  .block 4 (
   L35_1))))))) (
 .reg [
   ⟨.e 72, .bin .add, [.t 33, .k (.int .i64 1)], none⟩,
   ⟨.e 33, .mv, [.t 72], none⟩] [5, 6, 7, 22, 23, 31, 32, 33] [1]))))
noncomputable def L35_3 : AC := .loop [5, 6, 22, 23] [1] (
 .seq (.reg [
   ⟨.e 24, .bin .lss, [.t 23, .t 22], none⟩] [5, 6, 22, 23, 24] [1]) (
 .seq (.cond (.t 24)
  (.skip)
  (.exit 0)) (
 .seq (.block 1 (
  .seq (.reg [
    ⟨.e 25, .mv, [.t 23], none⟩,
    ⟨.e 7, .mv, [.t 25], none⟩] [5, 6, 7, 22, 23] [1]) (
  .seq (.reg [
    ⟨.a 26, .fa 2, [.b 1], none⟩,
    ⟨.e 27, .ld false 1, [.a 26], none⟩,
    ⟨.e 28, .mv, [.t 7], none⟩,
    ⟨.a 29, .ia 4, [.t 27, .t 28], none⟩,
    ⟨.a 30, .fa 3, [.a 29], none⟩,
    ⟨.e 31, .ld false 1, [.a 30], none⟩,
    ⟨.e 32, .len false, [.t 31], none⟩,
    ⟨.e 33, .mv, [.k (.int .i64 0)], none⟩] [5, 6, 7, 22, 23, 31, 32, 33] [1]) (
  .block 2 (
   L35_2))))) (
 .reg [
   ⟨.e 73, .bin .add, [.t 23, .k (.int .i64 1)], none⟩,
   ⟨.e 23, .mv, [.t 73], none⟩] [5, 6, 22, 23] [1]))))
noncomputable def c35 : Fn := ⟨1, 4503670025617408, 8706, true, [.t 2, .t 3],
 .seq (.reg [
   ⟨.x 1, .box, [.t 0], none⟩,
   ⟨.e 2, .mv, [.k .nil], none⟩,
   ⟨.e 3, .mv, [.k (.int .i64 0)], none⟩] [] [1]) (
 .seq (.seq (.reg [
   ⟨.e 14, .ld true 3, [.b 1], none⟩,
   ⟨.e 15, .call 49, [.t 14], none⟩,
   ⟨.e 4, .mv, [.t 15], none⟩] [4] [1]) (
 .seq (.reg [
   ⟨.e 16, .mv, [.t 4], none⟩,
   ⟨.e 17, .bin .neq, [.t 16, .k (.int .i64 0)], none⟩] [4, 17] [1]) (
 .cond (.t 17)
  (.seq (.reg [
     ⟨.e 18, .mv, [.t 4], none⟩,
     ⟨.e 2, .mv, [.k .nil], none⟩,
     ⟨.e 3, .mv, [.t 18], none⟩] [2, 3] []) (
   .ret))
  (.skip)))) (
 .seq (.reg [
   ⟨.e 5, .mv, [.k .nil], none⟩] [5] [1]) (
 .seq (.reg [
   ⟨.e 19, .mkm, [], none⟩,
   ⟨.e 6, .mv, [.t 19], none⟩] [5, 6] [1]) (
 .seq (.seq (.reg [
   ⟨.a 20, .fa 2, [.b 1], none⟩,
   ⟨.e 21, .ld false 1, [.a 20], none⟩,
   ⟨.e 22, .len false, [.t 21], none⟩,
   ⟨.e 23, .mv, [.k (.int .i64 0)], none⟩] [5, 6, 22, 23] [1]) (
 .block 0 (
  L35_3))) (
 .seq (.reg [
   ⟨.e 74, .mv, [.t 5], none⟩,
   ⟨.e 2, .mv, [.t 74], none⟩,
   ⟨.e 3, .mv, [.k (.int .i64 0)], none⟩] [2, 3] []) (
 .ret))))))⟩
/- estovers/estoversref42.Edges -/
noncomputable def L36_1 : AC := .loop [5, 6, 7, 8, 9, 10] [1] (
 .seq (.seq (.reg [
   ⟨.e 54, .mv, [.t 10], none⟩,
   ⟨.e 55, .mv, [.t 8], none⟩,
   ⟨.e 56, .len false, [.t 55], none⟩,
   ⟨.e 57, .bin .lss, [.t 54, .t 56], none⟩] [5, 6, 7, 8, 9, 10, 57] [1]) (
 .cond (.t 57)
  (.skip)
  (.exit 4))) (
 .seq (.block 5 (
  .reg [
    ⟨.e 60, .mv, [.t 5], none⟩,
    ⟨.e 61, .mv, [.t 8], none⟩,
    ⟨.e 62, .mv, [.t 10], none⟩,
    ⟨.a 63, .ia 1, [.t 61, .t 62], none⟩,
    ⟨.e 64, .ld false 1, [.a 63], none⟩,
    ⟨.e 65, .mv, [.t 9], none⟩,
    ⟨.e 66, .mv, [.t 6], none⟩,
    ⟨.e 67, .mv, [.t 7], none⟩,
    ⟨.e 68, .bld [(.int .i64 0), (.int .i64 0), (.int .i64 0), (.int .i64 0)] [(0, 1), (1, 1), (2, 1), (3, 1)], [.t 64, .t 65, .t 66, .t 67], none⟩,
    ⟨.e 69, .call 101, [.t 60, .t 68], none⟩,
    ⟨.e 5, .mv, [.t 69], none⟩] [5, 6, 7, 8, 9, 10] [1])) (
 .reg [
   ⟨.e 58, .mv, [.t 10], none⟩,
   ⟨.e 59, .bin .add, [.t 58, .k (.int .i64 1)], none⟩,
   ⟨.e 10, .mv, [.t 59], none⟩] [5, 6, 7, 8, 9, 10] [1])))
noncomputable def L36_2 : AC := .loop [5, 6, 7] [1] (
 .seq (.seq (.reg [
   ⟨.e 23, .mv, [.t 7], none⟩,
   ⟨.a 24, .fa 2, [.b 1], none⟩,
   ⟨.e 25, .ld false 1, [.a 24], none⟩,
   ⟨.e 26, .mv, [.t 6], none⟩,
   ⟨.a 27, .ia 4, [.t 25, .t 26], none⟩,
   ⟨.a 28, .fa 3, [.a 27], none⟩,
   ⟨.e 29, .ld false 1, [.a 28], none⟩,
   ⟨.e 30, .len false, [.t 29], none⟩,
   ⟨.e 31, .bin .lss, [.t 23, .t 30], none⟩] [5, 6, 7, 31] [1]) (
 .cond (.t 31)
  (.skip)
  (.exit 2))) (
 .seq (.block 3 (
  .seq (.seq (.reg [
    ⟨.e 34, .ld true 3, [.b 1], none⟩,
    ⟨.e 35, .mv, [.t 6], none⟩,
    ⟨.e 36, .mv, [.t 7], none⟩,
    ⟨.e 37, .call 34, [.t 34, .t 35, .t 36], none⟩,
    ⟨.e 38, .not, [.t 37], none⟩] [5, 6, 7, 38] [1]) (
  .cond (.t 38)
   (.exit 3)
   (.skip))) (
  .seq (.reg [
    ⟨.e 39, .ld true 3, [.b 1], none⟩,
    ⟨.e 40, .mv, [.t 6], none⟩,
    ⟨.e 41, .mv, [.t 7], none⟩,
    ⟨.e 42, .call 99, [.t 39, .t 40, .t 41], none⟩,
    ⟨.e 8, .mv, [.t 42], none⟩] [5, 6, 7, 8] [1]) (
  .seq (.dreg [
    ⟨.e 43, .ld true 3, [.b 1], none⟩,
    ⟨.a 44, .fa 2, [.b 1], none⟩,
    ⟨.e 45, .ld false 1, [.a 44], none⟩,
    ⟨.e 46, .mv, [.t 6], none⟩,
    ⟨.a 47, .ia 4, [.t 45, .t 46], none⟩,
    ⟨.a 48, .fa 3, [.a 47], none⟩,
    ⟨.e 49, .ld false 1, [.a 48], none⟩,
    ⟨.e 50, .mv, [.t 7], none⟩,
    ⟨.a 51, .ia 4, [.t 49, .t 50], none⟩,
    ⟨.e 52, .ld true 4, [.a 51], none⟩,
    ⟨.e 53, .call 100, [.t 43, .t 52], none⟩,
    ⟨.e 9, .mv, [.t 53], none⟩] [] [5, 6, 7, 8, 9] [1]) (
  .seq (.reg [
    ⟨.e 10, .mv, [.k (.int .i64 0)], none⟩] [5, 6, 7, 8, 9, 10] [1]) (
  .block 4 (
   L36_1))))))) (
 .reg [
   ⟨.e 32, .mv, [.t 7], none⟩,
   ⟨.e 33, .bin .add, [.t 32, .k (.int .i64 1)], none⟩,
   ⟨.e 7, .mv, [.t 33], none⟩] [5, 6, 7] [1])))
noncomputable def L36_3 : AC := .loop [5, 6] [1] (
 .seq (.seq (.reg [
   ⟨.e 16, .mv, [.t 6], none⟩,
   ⟨.a 17, .fa 2, [.b 1], none⟩,
   ⟨.e 18, .ld false 1, [.a 17], none⟩,
   ⟨.e 19, .len false, [.t 18], none⟩,
   ⟨.e 20, .bin .lss, [.t 16, .t 19], none⟩] [5, 6, 20] [1]) (
 .cond (.t 20)
  (.skip)
  (.exit 0))) (
 .seq (.block 1 (
  .seq (.reg [
    ⟨.e 7, .mv, [.k (.int .i64 0)], none⟩] [5, 6, 7] [1]) (
  .block 2 (
   L36_2)))) (
 .reg [
   ⟨.e 21, .mv, [.t 6], none⟩,
   ⟨.e 22, .bin .add, [.t 21, .k (.int .i64 1)], none⟩,
   ⟨.e 6, .mv, [.t 22], none⟩] [5, 6] [1])))
noncomputable def c36 : Fn := ⟨1, 9226063641739132928, 2, true, [.t 2, .t 3],
 .seq (.reg [
   ⟨.x 1, .box, [.t 0], none⟩,
   ⟨.e 2, .mv, [.k .nil], none⟩,
   ⟨.e 3, .mv, [.k (.int .i64 0)], none⟩] [] [1]) (
 .seq (.reg [
   ⟨.e 11, .ld true 3, [.b 1], none⟩,
   ⟨.e 12, .call 91, [.t 11], none⟩,
   ⟨.e 4, .mv, [.t 12], none⟩] [4] [1]) (
 .seq (.seq (.reg [
   ⟨.e 13, .mv, [.t 4], none⟩,
   ⟨.e 14, .bin .neq, [.t 13, .k (.int .i64 0)], none⟩] [4, 14] [1]) (
 .cond (.t 14)
  (.seq (.reg [
     ⟨.e 15, .mv, [.t 4], none⟩,
     ⟨.e 2, .mv, [.k .nil], none⟩,
     ⟨.e 3, .mv, [.t 15], none⟩] [2, 3] []) (
   .ret))
  (.skip))) (
 .seq (.reg [
   ⟨.e 5, .mv, [.k .nil], none⟩] [5] [1]) (
 .seq (.seq (.reg [
   ⟨.e 6, .mv, [.k (.int .i64 0)], none⟩] [5, 6] [1]) (
 .block 0 (
  L36_3))) (
 .seq (.reg [
   ⟨.e 70, .mv, [.t 5], none⟩,
   ⟨.e 2, .mv, [.t 70], none⟩,
   ⟨.e 3, .mv, [.k (.int .i64 0)], none⟩] [2, 3] []) (
 .ret))))))⟩
/- estovers/estoversref42.SameEdges -/
noncomputable def L37_1 : AC := .loop [0, 1, 5] [] (
 .seq (.seq (.reg [
   ⟨.e 11, .mv, [.t 5], none⟩,
   ⟨.e 12, .mv, [.t 0], none⟩,
   ⟨.e 13, .len false, [.t 12], none⟩,
   ⟨.e 14, .bin .lss, [.t 11, .t 13], none⟩] [0, 1, 5, 14] []) (
 .cond (.t 14)
  (.skip)
  (.exit 0))) (
 .seq (.block 1 (
  .seq (.dreg [
    ⟨.e 17, .mv, [.t 0], none⟩,
    ⟨.e 18, .mv, [.t 5], none⟩,
    ⟨.a 19, .ia 4, [.t 17, .t 18], none⟩,
    ⟨.e 20, .ld true 4, [.a 19], none⟩,
    ⟨.e 21, .mv, [.t 1], none⟩,
    ⟨.e 22, .mv, [.t 5], none⟩,
    ⟨.a 23, .ia 4, [.t 21, .t 22], none⟩,
    ⟨.e 24, .ld true 4, [.a 23], none⟩,
    ⟨.e 25, .aq true [0, 0, 0, 0], [.t 20, .t 24], none⟩] [] [0, 1, 5, 25] []) (
  .cond (.t 25)
   (.seq (.reg [
      ⟨.e 4, .mv, [.k (.bool false)], none⟩] [4] []) (
    .ret))
   (.skip)))) (
 .reg [
   ⟨.e 15, .mv, [.t 5], none⟩,
   ⟨.e 16, .bin .add, [.t 15, .k (.int .i64 1)], none⟩,
   ⟨.e 5, .mv, [.t 16], none⟩] [0, 1, 5] [])))
noncomputable def c37 : Fn := ⟨2, 8912896, 0, true, [.t 4],
 .seq (.reg [
   ⟨.e 4, .mv, [.k (.bool false)], none⟩] [0, 1] []) (
 .seq (.seq (.reg [
   ⟨.e 6, .mv, [.t 0], none⟩,
   ⟨.e 7, .len false, [.t 6], none⟩,
   ⟨.e 8, .mv, [.t 1], none⟩,
   ⟨.e 9, .len false, [.t 8], none⟩,
   ⟨.e 10, .bin .neq, [.t 7, .t 9], none⟩] [0, 1, 10] []) (
 .cond (.t 10)
  (.seq (.reg [
     ⟨.e 4, .mv, [.k (.bool false)], none⟩] [4] []) (
   .ret))
  (.skip))) (
 .seq (.seq (.reg [
   ⟨.e 5, .mv, [.k (.int .i64 0)], none⟩] [0, 1, 5] []) (
 .block 0 (
  L37_1))) (
 .seq (.reg [
   ⟨.e 4, .mv, [.k (.bool true)], none⟩] [4] []) (
 .ret))))⟩
/- estovers/estoversref42.Same -/
noncomputable def L45_1 : AC := .loop [0, 1, 5] [] (
 .seq (.seq (.reg [
   ⟨.e 11, .mv, [.t 5], none⟩,
   ⟨.e 12, .mv, [.t 0], none⟩,
   ⟨.e 13, .len false, [.t 12], none⟩,
   ⟨.e 14, .bin .lss, [.t 11, .t 13], none⟩] [0, 1, 5, 14] []) (
 .cond (.t 14)
  (.skip)
  (.exit 0))) (
 .seq (.block 1 (
  .seq (.dreg [
    ⟨.e 17, .mv, [.t 0], none⟩,
    ⟨.e 18, .mv, [.t 5], none⟩,
    ⟨.a 19, .ia 1, [.t 17, .t 18], none⟩,
    ⟨.e 20, .ld false 1, [.a 19], none⟩,
    ⟨.e 21, .mv, [.t 1], none⟩,
    ⟨.e 22, .mv, [.t 5], none⟩,
    ⟨.a 23, .ia 1, [.t 21, .t 22], none⟩,
    ⟨.e 24, .ld false 1, [.a 23], none⟩,
    ⟨.e 25, .bin .neq, [.t 20, .t 24], none⟩] [] [0, 1, 5, 25] []) (
  .cond (.t 25)
   (.seq (.reg [
      ⟨.e 4, .mv, [.k (.bool false)], none⟩] [4] []) (
    .ret))
   (.skip)))) (
 .reg [
   ⟨.e 15, .mv, [.t 5], none⟩,
   ⟨.e 16, .bin .add, [.t 15, .k (.int .i64 1)], none⟩,
   ⟨.e 5, .mv, [.t 16], none⟩] [0, 1, 5] [])))
noncomputable def c45 : Fn := ⟨2, 8912896, 0, true, [.t 4],
 .seq (.reg [
   ⟨.e 4, .mv, [.k (.bool false)], none⟩] [0, 1] []) (
 .seq (.seq (.reg [
   ⟨.e 6, .mv, [.t 0], none⟩,
   ⟨.e 7, .len false, [.t 6], none⟩,
   ⟨.e 8, .mv, [.t 1], none⟩,
   ⟨.e 9, .len false, [.t 8], none⟩,
   ⟨.e 10, .bin .neq, [.t 7, .t 9], none⟩] [0, 1, 10] []) (
 .cond (.t 10)
  (.seq (.reg [
     ⟨.e 4, .mv, [.k (.bool false)], none⟩] [4] []) (
   .ret))
  (.skip))) (
 .seq (.seq (.reg [
   ⟨.e 5, .mv, [.k (.int .i64 0)], none⟩] [0, 1, 5] []) (
 .block 0 (
  L45_1))) (
 .seq (.reg [
   ⟨.e 4, .mv, [.k (.bool true)], none⟩] [4] []) (
 .ret))))⟩
/- estovers/waitgraph.demand -/
noncomputable def L92_1 : AC := .loop [1, 6, 7, 13, 14, 15] [] (
 .seq (.reg [
   ⟨.e 16, .bin .lss, [.t 15, .t 14], none⟩] [1, 6, 7, 13, 14, 15, 16] []) (
 .seq (.cond (.t 16)
  (.skip)
  (.exit 0)) (
 .seq (.block 1 (
  .seq (.reg [
    ⟨.a 17, .ia 4, [.t 13, .t 15], none⟩,
    ⟨.e 18, .ld true 4, [.a 17], none⟩,
    ⟨.x 9, .box, [.k (.agg [(.str []), (.int .i64 0), (.bool false), .nil])], none⟩,
    ⟨.n, .st 4, [.b 9, .t 18], none⟩] [1, 6, 7, 13, 14, 15] [9]) (
  .seq (.reg [
    ⟨.e 20, .ld true 4, [.b 9], none⟩,
    ⟨.e 21, .mv, [.t 1], none⟩,
    ⟨.e 22, .call 148, [.t 20, .t 21], none⟩,
    ⟨.e 19, .mv, [.t 22], none⟩,
    ⟨.e 23, .ext 0, [.t 19], none⟩,
    ⟨.e 24, .ext 1, [.t 19], none⟩,
    ⟨.e 10, .mv, [.t 23], none⟩,
    ⟨.e 11, .mv, [.t 24], none⟩] [1, 6, 7, 10, 11, 13, 14, 15] [9]) (
  .seq (.reg [
    ⟨.e 25, .mv, [.t 6], none⟩,
    ⟨.a 26, .fa 1, [.b 9], none⟩,
    ⟨.e 27, .ld false 1, [.a 26], none⟩,
    ⟨.e 28, .mv, [.t 10], none⟩,
    ⟨.e 29, .bin .mul, [.t 27, .t 28], none⟩,
    ⟨.e 30, .bin .add, [.t 25, .t 29], none⟩,
    ⟨.e 6, .mv, [.t 30], none⟩] [1, 6, 7, 11, 13, 14, 15] [9]) (
  .reg [
    ⟨.e 31, .mv, [.t 7], none⟩,
    ⟨.a 32, .fa 1, [.b 9], none⟩,
    ⟨.e 33, .ld false 1, [.a 32], none⟩,
    ⟨.e 34, .mv, [.t 11], none⟩,
    ⟨.e 35, .bin .mul, [.t 33, .t 34], none⟩,
    ⟨.e 36, .bin .add, [.t 31, .t 35], none⟩,
    ⟨.e 7, .mv, [.t 36], none⟩] [1, 6, 7, 13, 14, 15] []))))) (
 .reg [
   ⟨.e 37, .bin .add, [.t 15, .k (.int .i64 1)], none⟩,
   ⟨.e 15, .mv, [.t 37], none⟩] [1, 6, 7, 13, 14, 15] []))))
noncomputable def c92 : Fn := ⟨2, 4362211328, 516, true, [.t 4, .t 5],
 .seq (.reg [
   ⟨.x 2, .box, [.t 0], none⟩,
   ⟨.e 4, .mv, [.k (.int .i64 0)], none⟩,
   ⟨.e 5, .mv, [.k (.int .i64 0)], none⟩] [1] [2]) (
 .seq (.reg [
   ⟨.e 6, .mv, [.k (.int .i64 0)], none⟩,
   ⟨.e 7, .mv, [.k (.int .i64 0)], none⟩] [1, 6, 7] [2]) (
 .seq (.seq (.reg [
   ⟨.a 12, .fa 2, [.b 2], none⟩,
   ⟨.e 13, .ld false 1, [.a 12], none⟩,
   ⟨.e 14, .len false, [.t 13], none⟩,
   ⟨.e 15, .mv, [.k (.int .i64 0)], none⟩] [1, 6, 7, 13, 14, 15] []) (
 .block 0 (
  L92_1))) (
 .seq (.reg [
   ⟨.e 38, .mv, [.t 6], none⟩,
   ⟨.e 39, .mv, [.t 7], none⟩,
   ⟨.e 4, .mv, [.t 38], none⟩,
   ⟨.e 5, .mv, [.t 39], none⟩] [4, 5] []) (
 .ret))))⟩
/- estovers/estoversref42.Units -/
noncomputable def L93_1 : AC := .loop [1, 2, 3, 9, 10, 11] [4] (
 .seq (.seq (.reg [
   ⟨.e 13, .mv, [.t 11], none⟩,
   ⟨.e 14, .mv, [.t 2], none⟩,
   ⟨.e 15, .bin .lss, [.t 13, .t 14], none⟩] [1, 2, 3, 9, 10, 11, 15] [4]) (
 .cond (.t 15)
  (.skip)
  (.exit 0))) (
 .seq (.block 1 (
  .seq (.reg [
    ⟨.a 18, .fa 3, [.b 4], none⟩,
    ⟨.e 19, .ld false 1, [.a 18], none⟩,
    ⟨.e 20, .mv, [.t 11], none⟩,
    ⟨.a 21, .ia 4, [.t 19, .t 20], none⟩,
    ⟨.e 22, .ld true 4, [.a 21], none⟩,
    ⟨.x 12, .box, [.k (.agg [(.int .i64 0), (.int .i64 0), (.int .i64 0), (.bool false)])], none⟩,
    ⟨.n, .st 4, [.b 12, .t 22], none⟩] [1, 2, 3, 9, 10, 11] [4, 12]) (
  .seq (.seq (.reg [
    ⟨.a 23, .fa 1, [.b 12], none⟩,
    ⟨.e 24, .ld false 1, [.a 23], none⟩,
    ⟨.e 25, .mv, [.t 1], none⟩,
    ⟨.e 26, .bin .neq, [.t 24, .t 25], none⟩] [1, 2, 3, 9, 10, 11, 26] [4, 12]) (
  .cond (.t 26)
   (.exit 1)
   (.skip))) (
  .seq (.seq (.reg [
    ⟨.a 27, .fa 0, [.b 12], none⟩,
    ⟨.e 28, .ld false 1, [.a 27], none⟩,
    ⟨.e 29, .bin .eql, [.t 28, .k (.int .i64 1)], none⟩] [1, 2, 3, 9, 10, 11, 29] [4, 12]) (
  .cond (.t 29)
   (.seq (.reg [
      ⟨.e 30, .mv, [.t 9], none⟩,
      ⟨.a 31, .fa 2, [.b 12], none⟩,
      ⟨.e 32, .ld false 1, [.a 31], none⟩,
      ⟨.e 33, .bin .add, [.t 30, .t 32], none⟩,
      ⟨.e 9, .mv, [.t 33], none⟩] [1, 2, 3, 9, 10, 11] [4, 12]) (
    .seq (.reg [
      ⟨.a 34, .fa 3, [.b 12], none⟩,
      ⟨.e 35, .ld false 1, [.a 34], none⟩] [1, 2, 3, 9, 10, 11, 35] [4, 12]) (
    .cond (.t 35)
     (.reg [
        ⟨.e 36, .mv, [.t 10], none⟩,
        ⟨.a 37, .fa 2, [.b 12], none⟩,
        ⟨.e 38, .ld false 1, [.a 37], none⟩,
        ⟨.e 39, .bin .add, [.t 36, .t 38], none⟩,
        ⟨.e 10, .mv, [.t 39], none⟩] [1, 2, 3, 9, 10, 11] [4, 12])
     (.skip))))
   (.skip))) (
  .seq (.reg [
    ⟨.a 40, .fa 0, [.b 12], none⟩,
    ⟨.e 41, .ld false 1, [.a 40], none⟩,
    ⟨.e 42, .bin .eql, [.t 41, .k (.int .i64 2)], none⟩] [1, 2, 3, 9, 10, 11, 42] [4, 12]) (
  .cond (.t 42)
   (.seq (.reg [
      ⟨.e 43, .mv, [.t 9], none⟩,
      ⟨.a 44, .fa 2, [.b 12], none⟩,
      ⟨.e 45, .ld false 1, [.a 44], none⟩,
      ⟨.e 46, .bin .sub, [.t 43, .t 45], none⟩,
      ⟨.e 9, .mv, [.t 46], none⟩] [1, 2, 3, 9, 10, 11] [4, 12]) (
    .reg [
      ⟨.e 47, .mv, [.t 10], none⟩,
      ⟨.a 48, .fa 2, [.b 12], none⟩,
      ⟨.e 49, .ld false 1, [.a 48], none⟩,
      ⟨.e 50, .bin .sub, [.t 47, .t 49], none⟩,
      ⟨.e 51, .mx, [.t 50, .k (.int .i64 0)], none⟩,
      ⟨.e 10, .mv, [.t 51], none⟩] [1, 2, 3, 9, 10, 11] [4]))
   (.skip))))))) (
 .reg [
   ⟨.e 16, .mv, [.t 11], none⟩,
   ⟨.e 17, .bin .add, [.t 16, .k (.int .i64 1)], none⟩,
   ⟨.e 11, .mv, [.t 17], none⟩] [1, 2, 3, 9, 10, 11] [4])))
noncomputable def c93 : Fn := ⟨4, 300323585654784, 4112, true, [.t 8],
 .seq (.reg [
   ⟨.x 4, .box, [.t 0], none⟩,
   ⟨.e 8, .mv, [.k (.int .i64 0)], none⟩] [1, 2, 3] [4]) (
 .seq (.reg [
   ⟨.e 9, .mv, [.k (.int .i64 0)], none⟩,
   ⟨.e 10, .mv, [.k (.int .i64 0)], none⟩] [1, 2, 3, 9, 10] [4]) (
 .seq (.seq (.reg [
   ⟨.e 11, .mv, [.k (.int .i64 0)], none⟩] [1, 2, 3, 9, 10, 11] [4]) (
 .block 0 (
  L93_1))) (
 .seq (.seq (.reg [
   ⟨.e 52, .mv, [.t 3], none⟩] [9, 10, 52] []) (
 .cond (.t 52)
  (.seq (.reg [
     ⟨.e 53, .mv, [.t 10], none⟩,
     ⟨.e 8, .mv, [.t 53], none⟩] [8] []) (
   .ret))
  (.skip))) (
 .seq (.reg [
   ⟨.e 54, .mv, [.t 9], none⟩,
   ⟨.e 8, .mv, [.t 54], none⟩] [8] []) (
 .ret)))))⟩
/- estovers/waitgraph.waits -/
noncomputable def c94 : Fn := ⟨2, 1171003670784, 140, true, [.t 4],
 .seq (.reg [
   ⟨.x 2, .box, [.t 0], none⟩,
   ⟨.x 3, .box, [.t 1], none⟩,
   ⟨.e 4, .mv, [.k (.bool false)], none⟩] [] [2, 3]) (
 .seq (.seq (.reg [
   ⟨.a 8, .fa 0, [.b 3], none⟩,
   ⟨.e 9, .ld false 1, [.a 8], none⟩] [9] [2, 3]) (
 .block 0 (
  .seq (.seq (.reg [
    ⟨.e 11, .bin .eql, [.t 9, .k (.int .i64 3)], none⟩,
    ⟨.e 10, .mv, [.t 11], none⟩] [9, 10] [2, 3]) (
  .cond (.t 10)
   (.skip)
   (.reg [
      ⟨.e 12, .bin .eql, [.t 9, .k (.int .i64 5)], none⟩,
      ⟨.e 10, .mv, [.t 12], none⟩] [9, 10] [2, 3]))) (
  .cond (.t 10)
   (.seq (.reg [
      ⟨.e 4, .mv, [.k (.bool true)], none⟩] [4] []) (
    .ret))
   (.seq (.reg [
      ⟨.e 14, .bin .eql, [.t 9, .k (.int .i64 1)], none⟩,
      ⟨.e 13, .mv, [.t 14], none⟩] [13] [2, 3]) (
    .cond (.t 13)
     (.seq (.reg [
        ⟨.e 16, .ld true 3, [.b 2], none⟩,
        ⟨.a 17, .fa 1, [.b 3], none⟩,
        ⟨.e 18, .ld false 1, [.a 17], none⟩,
        ⟨.e 19, .call 92, [.t 16, .t 18], none⟩,
        ⟨.e 15, .mv, [.t 19], none⟩,
        ⟨.e 20, .ext 0, [.t 15], none⟩,
        ⟨.e 21, .ext 1, [.t 15], none⟩,
        ⟨.e 5, .mv, [.t 20], none⟩,
        ⟨.e 6, .mv, [.t 21], none⟩] [5, 6] [2, 3]) (
      .seq (.reg [
        ⟨.a 22, .fa 0, [.b 2], none⟩,
        ⟨.e 23, .ld false 1, [.a 22], none⟩,
        ⟨.a 24, .fa 1, [.b 3], none⟩,
        ⟨.e 25, .ld false 1, [.a 24], none⟩,
        ⟨.a 26, .ia 3, [.t 23, .t 25], none⟩,
        ⟨.e 27, .ld true 3, [.a 26], none⟩,
        ⟨.x 7, .box, [.k (.agg [(.str []), (.int .i64 0), (.int .i64 0)])], none⟩,
        ⟨.n, .st 3, [.b 7, .t 27], none⟩] [5, 6] [3, 7]) (
      .seq (.reg [
        ⟨.e 28, .mv, [.t 5], none⟩,
        ⟨.a 29, .fa 1, [.b 7], none⟩,
        ⟨.e 30, .ld false 1, [.a 29], none⟩,
        ⟨.a 31, .fa 2, [.b 7], none⟩,
        ⟨.e 32, .ld false 1, [.a 31], none⟩,
        ⟨.e 33, .bin .sub, [.t 30, .t 32], none⟩,
        ⟨.e 34, .bin .gtr, [.t 28, .t 33], none⟩,
        ⟨.e 35, .mv, [.t 34], none⟩,
        ⟨.a 36, .fa 3, [.b 3], some (35, true)⟩,
        ⟨.e 37, .ld false 1, [.a 36], some (35, true)⟩,
        ⟨.e 38, .mv, [.t 37], some (35, true)⟩,
        ⟨.e 39, .mv, [.t 6], some (38, true)⟩,
        ⟨.a 40, .fa 2, [.b 7], some (38, true)⟩,
        ⟨.e 41, .ld false 1, [.a 40], some (38, true)⟩,
        ⟨.e 42, .bin .leq, [.t 39, .t 41], some (38, true)⟩,
        ⟨.e 43, .pick, [.t 38, .t 42, .k (.bool false)], some (35, true)⟩,
        ⟨.e 44, .not, [.t 43], some (35, true)⟩,
        ⟨.e 45, .pick, [.t 35, .t 44, .k (.bool false)], none⟩,
        ⟨.e 4, .mv, [.t 45], none⟩] [4] []) (
      .ret))))
     (.skip))))))) (
 .seq (.reg [
   ⟨.e 4, .mv, [.k (.bool false)], none⟩] [4] []) (
 .ret)))⟩
/- estovers/estoversref42.ample -/
noncomputable def c95 : Fn := ⟨2, 416000, 4, true, [.t 4],
 .seq (.reg [
   ⟨.x 2, .box, [.t 0], none⟩,
   ⟨.e 4, .mv, [.k (.bool false)], none⟩] [1] [2]) (
 .seq (.dreg [
   ⟨.e 5, .ld true 3, [.b 2], none⟩,
   ⟨.e 6, .mv, [.t 1], none⟩,
   ⟨.e 7, .call 32, [.t 5, .t 6, .k (.bool false)], none⟩,
   ⟨.a 8, .fa 0, [.b 2], none⟩,
   ⟨.e 9, .ld false 1, [.a 8], none⟩,
   ⟨.e 10, .mv, [.t 1], none⟩,
   ⟨.a 11, .ia 3, [.t 9, .t 10], none⟩,
   ⟨.a 12, .fa 1, [.a 11], none⟩,
   ⟨.e 13, .ld false 1, [.a 12], none⟩,
   ⟨.a 14, .fa 0, [.b 2], none⟩,
   ⟨.e 15, .ld false 1, [.a 14], none⟩,
   ⟨.e 16, .mv, [.t 1], none⟩,
   ⟨.a 17, .ia 3, [.t 15, .t 16], none⟩,
   ⟨.a 18, .fa 2, [.a 17], none⟩,
   ⟨.e 19, .ld false 1, [.a 18], none⟩,
   ⟨.e 20, .bin .sub, [.t 13, .t 19], none⟩,
   ⟨.e 21, .bin .leq, [.t 7, .t 20], none⟩,
   ⟨.e 4, .mv, [.t 21], none⟩] [] [4] []) (
 .ret))⟩
/- estovers/estoversref42.safe -/
noncomputable def c96 : Fn := ⟨2, 6400, 4, true, [.t 4],
 .seq (.reg [
   ⟨.x 2, .box, [.t 0], none⟩,
   ⟨.e 4, .mv, [.k (.bool false)], none⟩] [1] [2]) (
 .seq (.dreg [
   ⟨.e 5, .ld true 3, [.b 2], none⟩,
   ⟨.e 6, .mv, [.t 1], none⟩,
   ⟨.e 7, .call 32, [.t 5, .t 6, .k (.bool true)], none⟩,
   ⟨.a 8, .fa 0, [.b 2], none⟩,
   ⟨.e 9, .ld false 1, [.a 8], none⟩,
   ⟨.e 10, .mv, [.t 1], none⟩,
   ⟨.a 11, .ia 3, [.t 9, .t 10], none⟩,
   ⟨.a 12, .fa 2, [.a 11], none⟩,
   ⟨.e 13, .ld false 1, [.a 12], none⟩,
   ⟨.e 14, .bin .leq, [.t 7, .t 13], none⟩,
   ⟨.e 4, .mv, [.t 14], none⟩] [] [4] []) (
 .ret))⟩
/- estovers/waitgraph.resource -/
noncomputable def c97 : Fn := ⟨2, 152179232, 12, true, [.t 4],
 .seq (.reg [
   ⟨.x 2, .box, [.t 0], none⟩,
   ⟨.x 3, .box, [.t 1], none⟩,
   ⟨.e 4, .mv, [.k (.int .i64 0)], none⟩] [] [2, 3]) (
 .seq (.seq (.reg [
   ⟨.a 5, .fa 0, [.b 3], none⟩,
   ⟨.e 6, .ld false 1, [.a 5], none⟩] [6] [2, 3]) (
 .block 0 (
  .seq (.reg [
    ⟨.e 8, .bin .eql, [.t 6, .k (.int .i64 3)], none⟩,
    ⟨.e 7, .mv, [.t 8], none⟩] [6, 7] [2, 3]) (
  .cond (.t 7)
   (.seq (.reg [
      ⟨.a 9, .fa 0, [.b 2], none⟩,
      ⟨.e 10, .ld false 1, [.a 9], none⟩,
      ⟨.e 11, .len false, [.t 10], none⟩,
      ⟨.a 12, .fa 1, [.b 3], none⟩,
      ⟨.e 13, .ld false 1, [.a 12], none⟩,
      ⟨.e 14, .bin .add, [.t 11, .t 13], none⟩,
      ⟨.e 4, .mv, [.t 14], none⟩] [4] []) (
    .ret))
   (.seq (.reg [
      ⟨.e 16, .bin .eql, [.t 6, .k (.int .i64 5)], none⟩,
      ⟨.e 15, .mv, [.t 16], none⟩] [15] [2, 3]) (
    .cond (.t 15)
     (.seq (.reg [
        ⟨.a 17, .fa 0, [.b 2], none⟩,
        ⟨.e 18, .ld false 1, [.a 17], none⟩,
        ⟨.e 19, .len false, [.t 18], none⟩,
        ⟨.a 20, .fa 1, [.b 2], none⟩,
        ⟨.e 21, .ld false 1, [.a 20], none⟩,
        ⟨.e 22, .len false, [.t 21], none⟩,
        ⟨.e 23, .bin .add, [.t 19, .t 22], none⟩,
        ⟨.a 24, .fa 1, [.b 3], none⟩,
        ⟨.e 25, .ld false 1, [.a 24], none⟩,
        ⟨.e 26, .bin .add, [.t 23, .t 25], none⟩,
        ⟨.e 4, .mv, [.t 26], none⟩] [4] []) (
      .ret))
     (.skip))))))) (
 .seq (.reg [
   ⟨.a 27, .fa 1, [.b 3], none⟩,
   ⟨.e 28, .ld false 1, [.a 27], none⟩,
   ⟨.e 4, .mv, [.t 28], none⟩] [4] []) (
 .ret)))⟩
/- estovers/waitgraph.holdings -/
noncomputable def L98_1 : AC := .loop [1, 8, 10, 23, 24, 25] [3] (
 .seq (.reg [
   ⟨.e 26, .bin .lss, [.t 25, .t 24], none⟩] [1, 8, 10, 23, 24, 25, 26] [3]) (
 .seq (.cond (.t 26)
  (.skip)
  (.exit 0)) (
 .seq (.block 1 (
  .seq (.reg [
    ⟨.e 27, .mv, [.t 25], none⟩,
    ⟨.a 28, .ia 1, [.t 23, .t 25], none⟩,
    ⟨.e 29, .ld false 1, [.a 28], none⟩,
    ⟨.e 11, .mv, [.t 27], none⟩,
    ⟨.e 12, .mv, [.t 29], none⟩] [1, 8, 10, 11, 12, 23, 24, 25] [3]) (
  .seq (.reg [
    ⟨.e 30, .mv, [.t 12], none⟩,
    ⟨.e 31, .bin .gtr, [.t 30, .k (.int .i64 0)], none⟩] [1, 8, 10, 11, 23, 24, 25, 31] [3]) (
  .cond (.t 31)
   (.reg [
      ⟨.e 32, .mv, [.t 10], none⟩,
      ⟨.e 33, .mv, [.t 11], none⟩,
      ⟨.e 34, .lit 1 1 (.int .i64 0) [0], [.t 33], none⟩,
      ⟨.e 35, .app 1, [.t 32, .t 34], none⟩,
      ⟨.e 10, .mv, [.t 35], none⟩] [1, 8, 10, 23, 24, 25] [3])
   (.skip))))) (
 .reg [
   ⟨.e 36, .bin .add, [.t 25, .k (.int .i64 1)], none⟩,
   ⟨.e 25, .mv, [.t 36], none⟩] [1, 8, 10, 23, 24, 25] [3]))))
noncomputable def L98_2 : AC := .loop [1, 10, 37, 38, 39] [3] (
 .seq (.reg [
   ⟨.e 40, .bin .lss, [.t 39, .t 38], none⟩] [1, 10, 37, 38, 39, 40] [3]) (
 .seq (.cond (.t 40)
  (.skip)
  (.exit 2)) (
 .seq (.block 3 (
  .seq (.reg [
    ⟨.e 41, .mv, [.t 39], none⟩,
    ⟨.a 42, .ia 1, [.t 37, .t 39], none⟩,
    ⟨.e 43, .ld false 1, [.a 42], none⟩,
    ⟨.e 13, .mv, [.t 41], none⟩,
    ⟨.e 14, .mv, [.t 43], none⟩] [1, 10, 13, 14, 37, 38, 39] [3]) (
  .seq (.reg [
    ⟨.e 44, .mv, [.t 14], none⟩] [1, 10, 13, 37, 38, 39, 44] [3]) (
  .cond (.t 44)
   (.reg [
      ⟨.e 45, .mv, [.t 10], none⟩,
      ⟨.a 46, .fa 0, [.b 3], none⟩,
      ⟨.e 47, .ld false 1, [.a 46], none⟩,
      ⟨.e 48, .len false, [.t 47], none⟩,
      ⟨.e 49, .mv, [.t 13], none⟩,
      ⟨.e 50, .bin .add, [.t 48, .t 49], none⟩,
      ⟨.e 51, .lit 1 1 (.int .i64 0) [0], [.t 50], none⟩,
      ⟨.e 52, .app 1, [.t 45, .t 51], none⟩,
      ⟨.e 10, .mv, [.t 52], none⟩] [1, 10, 37, 38, 39] [3])
   (.skip))))) (
 .reg [
   ⟨.e 53, .bin .add, [.t 39, .k (.int .i64 1)], none⟩,
   ⟨.e 39, .mv, [.t 53], none⟩] [1, 10, 37, 38, 39] [3]))))
noncomputable def c98 : Fn := ⟨3, 21203021812719419392, 8, true, [.t 6],
 .seq (.reg [
   ⟨.x 3, .box, [.t 0], none⟩,
   ⟨.e 6, .mv, [.k .nil], none⟩] [1, 2] [3]) (
 .seq (.reg [
   ⟨.e 16, .ld true 3, [.b 3], none⟩,
   ⟨.e 17, .mv, [.t 1], none⟩,
   ⟨.e 18, .mv, [.t 2], none⟩,
   ⟨.e 19, .call 54, [.t 16, .t 17, .t 18], none⟩,
   ⟨.e 15, .mv, [.t 19], none⟩,
   ⟨.e 20, .ext 0, [.t 15], none⟩,
   ⟨.e 21, .ext 1, [.t 15], none⟩,
   ⟨.e 22, .ext 2, [.t 15], none⟩,
   ⟨.e 7, .mv, [.t 20], none⟩,
   ⟨.e 8, .mv, [.t 21], none⟩,
   ⟨.e 9, .mv, [.t 22], none⟩] [1, 7, 8] [3]) (
 .seq (.reg [
   ⟨.e 10, .mv, [.k .nil], none⟩] [1, 7, 8, 10] [3]) (
 .seq (.seq (.reg [
   ⟨.e 23, .mv, [.t 7], none⟩,
   ⟨.e 24, .len false, [.t 23], none⟩,
   ⟨.e 25, .mv, [.k (.int .i64 0)], none⟩] [1, 8, 10, 23, 24, 25] [3]) (
 .block 0 (
  L98_1))) (
 .seq (.seq (.reg [
   ⟨.e 37, .mv, [.t 8], none⟩,
   ⟨.e 38, .len false, [.t 37], none⟩,
   ⟨.e 39, .mv, [.k (.int .i64 0)], none⟩] [1, 10, 37, 38, 39] [3]) (
 .block 2 (
  L98_2))) (
 .seq (.seq (.reg [
   ⟨.a 54, .fa 2, [.b 3], none⟩,
   ⟨.e 55, .ld false 1, [.a 54], none⟩,
   ⟨.e 56, .mv, [.t 1], none⟩,
   ⟨.a 57, .ia 4, [.t 55, .t 56], none⟩,
   ⟨.a 58, .fa 2, [.a 57], none⟩,
   ⟨.e 59, .ld false 1, [.a 58], none⟩] [1, 10, 59] [3]) (
 .cond (.t 59)
  (.reg [
     ⟨.e 60, .mv, [.t 10], none⟩,
     ⟨.a 61, .fa 0, [.b 3], none⟩,
     ⟨.e 62, .ld false 1, [.a 61], none⟩,
     ⟨.e 63, .len false, [.t 62], none⟩,
     ⟨.a 64, .fa 1, [.b 3], none⟩,
     ⟨.e 65, .ld false 1, [.a 64], none⟩,
     ⟨.e 66, .len false, [.t 65], none⟩,
     ⟨.e 67, .bin .add, [.t 63, .t 66], none⟩,
     ⟨.e 68, .mv, [.t 1], none⟩,
     ⟨.e 69, .bin .add, [.t 67, .t 68], none⟩,
     ⟨.e 70, .lit 1 1 (.int .i64 0) [0], [.t 69], none⟩,
     ⟨.e 71, .app 1, [.t 60, .t 70], none⟩,
     ⟨.e 10, .mv, [.t 71], none⟩] [10] [])
  (.skip))) (
 .seq (.reg [
   ⟨.e 72, .mv, [.t 10], none⟩,
   ⟨.e 6, .mv, [.t 72], none⟩] [6] []) (
 .ret)))))))⟩
/- estovers/estoversref42.Holdings -/
noncomputable def L99_1 : AC := .loop [1, 2, 7, 9] [3, 8] (
 .seq (.seq (.reg [
   ⟨.e 19, .mv, [.t 9], none⟩,
   ⟨.a 20, .fa 0, [.b 3], none⟩,
   ⟨.e 21, .ld false 1, [.a 20], none⟩,
   ⟨.e 22, .len false, [.t 21], none⟩,
   ⟨.e 23, .bin .lss, [.t 19, .t 22], none⟩] [1, 2, 7, 9, 23] [3, 8]) (
 .cond (.t 23)
  (.skip)
  (.exit 0))) (
 .seq (.block 1 (
  .seq (.reg [
    ⟨.e 26, .ld true 4, [.b 8], none⟩,
    ⟨.e 27, .mv, [.t 9], none⟩,
    ⟨.e 28, .mv, [.t 2], none⟩,
    ⟨.e 29, .call 93, [.t 26, .t 27, .t 28, .k (.bool false)], none⟩,
    ⟨.e 30, .bin .gtr, [.t 29, .k (.int .i64 0)], none⟩] [1, 2, 7, 9, 30] [3, 8]) (
  .cond (.t 30)
   (.reg [
      ⟨.e 31, .mv, [.t 7], none⟩,
      ⟨.e 32, .mv, [.t 9], none⟩,
      ⟨.e 33, .lit 1 1 (.int .i64 0) [0], [.t 32], none⟩,
      ⟨.e 34, .app 1, [.t 31, .t 33], none⟩,
      ⟨.e 7, .mv, [.t 34], none⟩] [1, 2, 7, 9] [3, 8])
   (.skip)))) (
 .reg [
   ⟨.e 24, .mv, [.t 9], none⟩,
   ⟨.e 25, .bin .add, [.t 24, .k (.int .i64 1)], none⟩,
   ⟨.e 9, .mv, [.t 25], none⟩] [1, 2, 7, 9] [3, 8])))
noncomputable def L99_2 : AC := .loop [1, 7, 11, 13] [3, 8] (
 .seq (.seq (.reg [
   ⟨.e 43, .mv, [.t 13], none⟩,
   ⟨.e 44, .mv, [.t 11], none⟩,
   ⟨.e 45, .len false, [.t 44], none⟩,
   ⟨.e 46, .bin .lss, [.t 43, .t 45], none⟩] [1, 7, 11, 13, 46] [3, 8]) (
 .cond (.t 46)
  (.skip)
  (.exit 2))) (
 .seq (.block 3 (
  .seq (.reg [
    ⟨.e 49, .mv, [.t 11], none⟩,
    ⟨.e 50, .mv, [.t 13], none⟩,
    ⟨.a 51, .ia 1, [.t 49, .t 50], none⟩,
    ⟨.e 52, .ld false 1, [.a 51], none⟩] [1, 7, 11, 13, 52] [3, 8]) (
  .cond (.t 52)
   (.reg [
      ⟨.e 53, .mv, [.t 7], none⟩,
      ⟨.a 54, .fa 0, [.b 3], none⟩,
      ⟨.e 55, .ld false 1, [.a 54], none⟩,
      ⟨.e 56, .len false, [.t 55], none⟩,
      ⟨.e 57, .mv, [.t 13], none⟩,
      ⟨.e 58, .bin .add, [.t 56, .t 57], none⟩,
      ⟨.e 59, .lit 1 1 (.int .i64 0) [0], [.t 58], none⟩,
      ⟨.e 60, .app 1, [.t 53, .t 59], none⟩,
      ⟨.e 7, .mv, [.t 60], none⟩] [1, 7, 11, 13] [3, 8])
   (.skip)))) (
 .reg [
   ⟨.e 47, .mv, [.t 13], none⟩,
   ⟨.e 48, .bin .add, [.t 47, .k (.int .i64 1)], none⟩,
   ⟨.e 13, .mv, [.t 48], none⟩] [1, 7, 11, 13] [3, 8])))
noncomputable def c99 : Fn := ⟨3, 168346805870924021760, 264, true, [.t 6],
 .seq (.reg [
   ⟨.x 3, .box, [.t 0], none⟩,
   ⟨.e 6, .mv, [.k .nil], none⟩] [1, 2] [3]) (
 .seq (.reg [
   ⟨.e 7, .mv, [.k .nil], none⟩] [1, 2, 7] [3]) (
 .seq (.reg [
   ⟨.a 14, .fa 2, [.b 3], none⟩,
   ⟨.e 15, .ld false 1, [.a 14], none⟩,
   ⟨.e 16, .mv, [.t 1], none⟩,
   ⟨.a 17, .ia 4, [.t 15, .t 16], none⟩,
   ⟨.e 18, .ld true 4, [.a 17], none⟩,
   ⟨.x 8, .box, [.k (.agg [(.str []), (.int .i64 0), (.bool false), .nil])], none⟩,
   ⟨.n, .st 4, [.b 8, .t 18], none⟩] [1, 2, 7] [3, 8]) (
 .seq (.seq (.reg [
   ⟨.e 9, .mv, [.k (.int .i64 0)], none⟩] [1, 2, 7, 9] [3, 8]) (
 .block 0 (
  L99_1))) (
 .seq (.reg [
   ⟨.e 36, .ld true 3, [.b 3], none⟩,
   ⟨.e 37, .mv, [.t 1], none⟩,
   ⟨.e 38, .mv, [.t 2], none⟩,
   ⟨.e 39, .call 149, [.t 36, .t 37, .t 38], none⟩,
   ⟨.e 35, .mv, [.t 39], none⟩,
   ⟨.e 40, .ext 0, [.t 35], none⟩,
   ⟨.e 41, .ext 1, [.t 35], none⟩,
   ⟨.e 42, .ext 2, [.t 35], none⟩,
   ⟨.e 10, .mv, [.t 40], none⟩,
   ⟨.e 11, .mv, [.t 41], none⟩,
   ⟨.e 12, .mv, [.t 42], none⟩] [1, 7, 11] [3, 8]) (
 .seq (.seq (.reg [
   ⟨.e 13, .mv, [.k (.int .i64 0)], none⟩] [1, 7, 11, 13] [3, 8]) (
 .block 2 (
  L99_2))) (
 .seq (.seq (.reg [
   ⟨.a 61, .fa 2, [.b 8], none⟩,
   ⟨.e 62, .ld false 1, [.a 61], none⟩] [1, 7, 62] [3]) (
 .cond (.t 62)
  (.reg [
     ⟨.e 63, .mv, [.t 7], none⟩,
     ⟨.a 64, .fa 0, [.b 3], none⟩,
     ⟨.e 65, .ld false 1, [.a 64], none⟩,
     ⟨.e 66, .len false, [.t 65], none⟩,
     ⟨.a 67, .fa 1, [.b 3], none⟩,
     ⟨.e 68, .ld false 1, [.a 67], none⟩,
     ⟨.e 69, .len false, [.t 68], none⟩,
     ⟨.e 70, .bin .add, [.t 66, .t 69], none⟩,
     ⟨.e 71, .mv, [.t 1], none⟩,
     ⟨.e 72, .bin .add, [.t 70, .t 71], none⟩,
     ⟨.e 73, .lit 1 1 (.int .i64 0) [0], [.t 72], none⟩,
     ⟨.e 74, .app 1, [.t 63, .t 73], none⟩,
     ⟨.e 7, .mv, [.t 74], none⟩] [7] [])
  (.skip))) (
 .seq (.reg [
   ⟨.e 75, .mv, [.t 7], none⟩,
   ⟨.e 6, .mv, [.t 75], none⟩] [6] []) (
 .ret))))))))⟩
/- estovers/estoversref42.Target -/
noncomputable def c100 : Fn := ⟨2, 152193312, 12, true, [.t 4],
 .seq (.reg [
   ⟨.x 2, .box, [.t 0], none⟩,
   ⟨.x 3, .box, [.t 1], none⟩,
   ⟨.e 4, .mv, [.k (.int .i64 0)], none⟩] [] [2, 3]) (
 .seq (.seq (.reg [
   ⟨.a 5, .fa 0, [.b 3], none⟩,
   ⟨.e 6, .ld false 1, [.a 5], none⟩,
   ⟨.e 7, .bin .eql, [.t 6, .k (.int .i64 3)], none⟩] [7] [2, 3]) (
 .cond (.t 7)
  (.seq (.reg [
     ⟨.a 8, .fa 0, [.b 2], none⟩,
     ⟨.e 9, .ld false 1, [.a 8], none⟩,
     ⟨.e 10, .len false, [.t 9], none⟩,
     ⟨.a 11, .fa 1, [.b 3], none⟩,
     ⟨.e 12, .ld false 1, [.a 11], none⟩,
     ⟨.e 13, .bin .add, [.t 10, .t 12], none⟩,
     ⟨.e 4, .mv, [.t 13], none⟩] [4] []) (
   .ret))
  (.skip))) (
 .seq (.seq (.reg [
   ⟨.a 14, .fa 0, [.b 3], none⟩,
   ⟨.e 15, .ld false 1, [.a 14], none⟩,
   ⟨.e 16, .bin .eql, [.t 15, .k (.int .i64 5)], none⟩] [16] [2, 3]) (
 .cond (.t 16)
  (.seq (.reg [
     ⟨.a 17, .fa 0, [.b 2], none⟩,
     ⟨.e 18, .ld false 1, [.a 17], none⟩,
     ⟨.e 19, .len false, [.t 18], none⟩,
     ⟨.a 20, .fa 1, [.b 2], none⟩,
     ⟨.e 21, .ld false 1, [.a 20], none⟩,
     ⟨.e 22, .len false, [.t 21], none⟩,
     ⟨.e 23, .bin .add, [.t 19, .t 22], none⟩,
     ⟨.a 24, .fa 1, [.b 3], none⟩,
     ⟨.e 25, .ld false 1, [.a 24], none⟩,
     ⟨.e 26, .bin .add, [.t 23, .t 25], none⟩,
     ⟨.e 4, .mv, [.t 26], none⟩] [4] []) (
   .ret))
  (.skip))) (
 .seq (.reg [
   ⟨.a 27, .fa 1, [.b 3], none⟩,
   ⟨.e 28, .ld false 1, [.a 27], none⟩,
   ⟨.e 4, .mv, [.t 28], none⟩] [4] []) (
 .ret))))⟩
/- estovers/estoversref42.add -/
noncomputable def L101_1 : AC := .loop [0, 5] [3] (
 .seq (.seq (.reg [
   ⟨.e 6, .mv, [.t 5], none⟩,
   ⟨.e 7, .mv, [.t 0], none⟩,
   ⟨.e 8, .len false, [.t 7], none⟩,
   ⟨.e 9, .bin .lss, [.t 6, .t 8], none⟩] [0, 5, 9] [3]) (
 .cond (.t 9)
  (.skip)
  (.exit 0))) (
 .seq (.block 1 (
  .seq (.dreg [
    ⟨.e 12, .mv, [.t 0], none⟩,
    ⟨.e 13, .mv, [.t 5], none⟩,
    ⟨.a 14, .ia 4, [.t 12, .t 13], none⟩,
    ⟨.a 15, .fa 0, [.a 14], none⟩,
    ⟨.e 16, .ld false 1, [.a 15], none⟩,
    ⟨.a 17, .fa 0, [.b 3], none⟩,
    ⟨.e 18, .ld false 1, [.a 17], none⟩,
    ⟨.e 19, .bin .eql, [.t 16, .t 18], none⟩,
    ⟨.e 20, .mv, [.t 19], none⟩,
    ⟨.e 21, .mv, [.t 0], some (20, true)⟩,
    ⟨.e 22, .mv, [.t 5], some (20, true)⟩,
    ⟨.a 23, .ia 4, [.t 21, .t 22], some (20, true)⟩,
    ⟨.a 24, .fa 1, [.a 23], some (20, true)⟩,
    ⟨.e 25, .ld false 1, [.a 24], some (20, true)⟩,
    ⟨.a 26, .fa 1, [.b 3], some (20, true)⟩,
    ⟨.e 27, .ld false 1, [.a 26], some (20, true)⟩,
    ⟨.e 28, .bin .eql, [.t 25, .t 27], some (20, true)⟩,
    ⟨.e 29, .pick, [.t 20, .t 28, .k (.bool false)], none⟩] [] [0, 5, 29] [3]) (
  .cond (.t 29)
   (.seq (.reg [
      ⟨.e 30, .mv, [.t 0], none⟩,
      ⟨.e 4, .mv, [.t 30], none⟩] [4] []) (
    .ret))
   (.skip)))) (
 .reg [
   ⟨.e 10, .mv, [.t 5], none⟩,
   ⟨.e 11, .bin .add, [.t 10, .k (.int .i64 1)], none⟩,
   ⟨.e 5, .mv, [.t 11], none⟩] [0, 5] [3])))
noncomputable def c101 : Fn := ⟨2, 92454912, 8, false, [.t 4],
 .seq (.reg [
   ⟨.x 3, .box, [.t 1], none⟩,
   ⟨.e 4, .mv, [.k .nil], none⟩] [0] [3]) (
 .seq (.seq (.reg [
   ⟨.e 5, .mv, [.k (.int .i64 0)], none⟩] [0, 5] [3]) (
 .block 0 (
  L101_1))) (
 .seq (.reg [
   ⟨.e 31, .mv, [.t 0], none⟩,
   ⟨.e 32, .ld true 4, [.b 3], none⟩,
   ⟨.e 33, .lit 4 1 (.agg [(.int .i64 0), (.int .i64 0), (.int .i64 0), (.int .i64 0)]) [0], [.t 32], none⟩,
   ⟨.e 34, .app 4, [.t 31, .t 33], none⟩,
   ⟨.e 4, .mv, [.t 34], none⟩] [4] []) (
 .ret)))⟩
/- estovers/waitgraph.peak -/
noncomputable def L148_1 : AC := .loop [1, 6, 7, 8, 9, 13, 14, 15] [] (
 .seq (.reg [
   ⟨.e 16, .bin .lss, [.t 15, .t 14], none⟩] [1, 6, 7, 8, 9, 13, 14, 15, 16] []) (
 .seq (.cond (.t 16)
  (.skip)
  (.exit 0)) (
 .seq (.block 1 (
  .seq (.reg [
    ⟨.a 17, .ia 4, [.t 13, .t 15], none⟩,
    ⟨.e 18, .ld true 4, [.a 17], none⟩,
    ⟨.x 11, .box, [.k (.agg [(.int .i64 0), (.int .i64 0), (.int .i64 0), (.bool false)])], none⟩,
    ⟨.n, .st 4, [.b 11, .t 18], none⟩] [1, 6, 7, 8, 9, 13, 14, 15] [11]) (
  .seq (.seq (.reg [
    ⟨.a 19, .fa 1, [.b 11], none⟩,
    ⟨.e 20, .ld false 1, [.a 19], none⟩,
    ⟨.e 21, .mv, [.t 1], none⟩,
    ⟨.e 22, .bin .neq, [.t 20, .t 21], none⟩] [1, 6, 7, 8, 9, 13, 14, 15, 22] [11]) (
  .cond (.t 22)
   (.exit 1)
   (.skip))) (
  .seq (.seq (.reg [
    ⟨.a 23, .fa 0, [.b 11], none⟩,
    ⟨.e 24, .ld false 1, [.a 23], none⟩] [1, 6, 7, 8, 9, 13, 14, 15, 24] [11]) (
  .block 2 (
   .seq (.reg [
     ⟨.e 26, .bin .eql, [.t 24, .k (.int .i64 1)], none⟩,
     ⟨.e 25, .mv, [.t 26], none⟩] [1, 6, 7, 8, 9, 13, 14, 15, 24, 25] [11]) (
   .cond (.t 25)
    (.seq (.reg [
       ⟨.e 27, .mv, [.t 6], none⟩,
       ⟨.a 28, .fa 2, [.b 11], none⟩,
       ⟨.e 29, .ld false 1, [.a 28], none⟩,
       ⟨.e 30, .bin .add, [.t 27, .t 29], none⟩,
       ⟨.e 6, .mv, [.t 30], none⟩] [1, 6, 7, 8, 9, 13, 14, 15] [11]) (
     .seq (.reg [
       ⟨.a 31, .fa 3, [.b 11], none⟩,
       ⟨.e 32, .ld false 1, [.a 31], none⟩] [1, 6, 7, 8, 9, 13, 14, 15, 32] [11]) (
     .cond (.t 32)
      (.reg [
         ⟨.e 33, .mv, [.t 7], none⟩,
         ⟨.a 34, .fa 2, [.b 11], none⟩,
         ⟨.e 35, .ld false 1, [.a 34], none⟩,
         ⟨.e 36, .bin .add, [.t 33, .t 35], none⟩,
         ⟨.e 7, .mv, [.t 36], none⟩] [1, 6, 7, 8, 9, 13, 14, 15] [])
      (.skip))))
    (.seq (.reg [
       ⟨.e 38, .bin .eql, [.t 24, .k (.int .i64 2)], none⟩,
       ⟨.e 37, .mv, [.t 38], none⟩] [1, 6, 7, 8, 9, 13, 14, 15, 37] [11]) (
     .cond (.t 37)
      (.seq (.reg [
         ⟨.e 39, .mv, [.t 6], none⟩,
         ⟨.a 40, .fa 2, [.b 11], none⟩,
         ⟨.e 41, .ld false 1, [.a 40], none⟩,
         ⟨.e 42, .bin .sub, [.t 39, .t 41], none⟩,
         ⟨.e 6, .mv, [.t 42], none⟩] [1, 6, 7, 8, 9, 13, 14, 15] [11]) (
       .reg [
         ⟨.e 43, .mv, [.t 7], none⟩,
         ⟨.e 44, .mv, [.t 7], none⟩,
         ⟨.a 45, .fa 2, [.b 11], none⟩,
         ⟨.e 46, .ld false 1, [.a 45], none⟩,
         ⟨.e 47, .mn, [.t 44, .t 46], none⟩,
         ⟨.e 48, .bin .sub, [.t 43, .t 47], none⟩,
         ⟨.e 7, .mv, [.t 48], none⟩] [1, 6, 7, 8, 9, 13, 14, 15] []))
      (.skip))))))) (
  .reg [
    ⟨.e 49, .mv, [.t 8], none⟩,
    ⟨.e 50, .mv, [.t 6], none⟩,
    ⟨.e 51, .mx, [.t 49, .t 50], none⟩,
    ⟨.e 52, .mv, [.t 9], none⟩,
    ⟨.e 53, .mv, [.t 7], none⟩,
    ⟨.e 54, .mx, [.t 52, .t 53], none⟩,
    ⟨.e 8, .mv, [.t 51], none⟩,
    ⟨.e 9, .mv, [.t 54], none⟩] [1, 6, 7, 8, 9, 13, 14, 15] []))))) (
 .reg [
   ⟨.e 55, .bin .add, [.t 15, .k (.int .i64 1)], none⟩,
   ⟨.e 15, .mv, [.t 55], none⟩] [1, 6, 7, 8, 9, 13, 14, 15] []))))
noncomputable def c148 : Fn := ⟨2, 36303488552960, 2052, true, [.t 4, .t 5],
 .seq (.reg [
   ⟨.x 2, .box, [.t 0], none⟩,
   ⟨.e 4, .mv, [.k (.int .i64 0)], none⟩,
   ⟨.e 5, .mv, [.k (.int .i64 0)], none⟩] [1] [2]) (
 .seq (.reg [
   ⟨.e 6, .mv, [.k (.int .i64 0)], none⟩,
   ⟨.e 7, .mv, [.k (.int .i64 0)], none⟩,
   ⟨.e 8, .mv, [.k (.int .i64 0)], none⟩,
   ⟨.e 9, .mv, [.k (.int .i64 0)], none⟩] [1, 6, 7, 8, 9] [2]) (
 .seq (.seq (.reg [
   ⟨.a 12, .fa 3, [.b 2], none⟩,
   ⟨.e 13, .ld false 1, [.a 12], none⟩,
   ⟨.e 14, .len false, [.t 13], none⟩,
   ⟨.e 15, .mv, [.k (.int .i64 0)], none⟩] [1, 6, 7, 8, 9, 13, 14, 15] []) (
 .block 0 (
  L148_1))) (
 .seq (.reg [
   ⟨.e 56, .mv, [.t 8], none⟩,
   ⟨.e 57, .mv, [.t 9], none⟩,
   ⟨.e 4, .mv, [.t 56], none⟩,
   ⟨.e 5, .mv, [.t 57], none⟩] [4, 5] []) (
 .ret))))⟩
structure HasB (F : Nat → Option Fn) : Prop where
  h29 : F 29 = some c29
  h30 : F 30 = some c30
  h31 : F 31 = some c31
  h32 : F 32 = some c32
  h33 : F 33 = some c33
  h34 : F 34 = some c34
  h35 : F 35 = some c35
  h36 : F 36 = some c36
  h37 : F 37 = some c37
  h45 : F 45 = some c45
  h92 : F 92 = some c92
  h93 : F 93 = some c93
  h94 : F 94 = some c94
  h95 : F 95 = some c95
  h96 : F 96 = some c96
  h97 : F 97 = some c97
  h98 : F 98 = some c98
  h99 : F 99 = some c99
  h100 : F 100 = some c100
  h101 : F 101 = some c101
  h148 : F 148 = some c148
end Go.Am
