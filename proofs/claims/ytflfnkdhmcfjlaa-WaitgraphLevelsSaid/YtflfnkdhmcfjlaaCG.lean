/- The abstract machine's code of the functions of group G, printed by program. -/
import Derived.Test.YtflfnkdhmcfjlaaMach
namespace Go.Am
/- estovers/estoverslaw42.few -/
noncomputable def c38 : Fn := ⟨2, 0, 0, true, [.t 4],
 .seq (.reg [
   ⟨.e 4, .mv, [.k (.bool false)], none⟩] [0, 1] []) (
 .seq (.reg [
   ⟨.e 5, .mv, [.t 0], none⟩,
   ⟨.e 6, .bin .leq, [.t 5, .k (.int .i64 24)], none⟩,
   ⟨.e 7, .mv, [.t 6], none⟩,
   ⟨.e 8, .mv, [.t 0], some (7, false)⟩,
   ⟨.e 9, .bin .gtr, [.t 8, .k (.int .i64 4096)], some (7, false)⟩,
   ⟨.e 10, .pick, [.t 7, .k (.bool true), .t 9], none⟩,
   ⟨.e 11, .mv, [.t 10], none⟩,
   ⟨.e 12, .mv, [.t 1], some (11, true)⟩,
   ⟨.e 13, .len false, [.t 12], some (11, true)⟩,
   ⟨.e 14, .bin .leq, [.t 13, .k (.int .i64 60)], some (11, true)⟩,
   ⟨.e 15, .pick, [.t 11, .t 14, .k (.bool false)], none⟩,
   ⟨.e 4, .mv, [.t 15], none⟩] [4] []) (
 .ret))⟩
/- estovers/waitgraph.Components -/
noncomputable def L39_1 : AC := .loop [7, 29, 30] [] (
 .seq (.reg [
   ⟨.e 31, .bin .lss, [.t 30, .t 29], none⟩] [7, 29, 30, 31] []) (
 .seq (.cond (.t 31)
  (.skip)
  (.exit 0)) (
 .seq (.block 1 (
  .seq (.reg [
    ⟨.e 32, .mv, [.t 30], none⟩,
    ⟨.e 8, .mv, [.t 32], none⟩] [7, 8, 29, 30] []) (
  .seq (.reg [
    ⟨.e 33, .mv, [.t 7], none⟩,
    ⟨.a 34, .nc, [.t 33], none⟩,
    ⟨.a 35, .fa 2, [.a 34], none⟩,
    ⟨.e 36, .ld false 1, [.a 35], none⟩,
    ⟨.e 37, .mv, [.t 8], none⟩,
    ⟨.a 38, .ia 1, [.t 36, .t 37], none⟩,
    ⟨.e 39, .ld false 1, [.a 38], none⟩,
    ⟨.e 40, .bin .eql, [.t 39, .k (.int .i64 0)], none⟩] [7, 8, 29, 30, 40] []) (
  .cond (.t 40)
   (.reg [
      ⟨.e 41, .mv, [.t 7], none⟩,
      ⟨.e 42, .mv, [.t 8], none⟩,
      ⟨.e 43, .call 104, [.t 41, .t 42], none⟩] [7, 29, 30] [])
   (.skip))))) (
 .reg [
   ⟨.e 44, .bin .add, [.t 30, .k (.int .i64 1)], none⟩,
   ⟨.e 30, .mv, [.t 44], none⟩] [7, 29, 30] []))))
noncomputable def c39 : Fn := ⟨2, 211432650047488, 0, true, [.t 4, .t 5],
 .seq (.reg [
   ⟨.e 4, .mv, [.k .nil], none⟩,
   ⟨.e 5, .mv, [.k (.int .i64 0)], none⟩] [0, 1] []) (
 .seq (.seq (.reg [
   ⟨.e 9, .mv, [.t 0], none⟩,
   ⟨.e 10, .mv, [.t 1], none⟩,
   ⟨.e 11, .call 102, [.t 9, .t 10], none⟩,
   ⟨.e 6, .mv, [.t 11], none⟩] [0, 1, 6] []) (
 .seq (.reg [
   ⟨.e 12, .mv, [.t 6], none⟩,
   ⟨.e 13, .bin .neq, [.t 12, .k (.int .i64 0)], none⟩] [0, 1, 6, 13] []) (
 .cond (.t 13)
  (.seq (.reg [
     ⟨.e 14, .mv, [.t 6], none⟩,
     ⟨.e 4, .mv, [.k .nil], none⟩,
     ⟨.e 5, .mv, [.t 14], none⟩] [4, 5] []) (
   .ret))
  (.skip)))) (
 .seq (.dreg [
   ⟨.e 15, .mv, [.t 1], none⟩,
   ⟨.e 16, .mv, [.t 0], none⟩,
   ⟨.e 17, .mv, [.t 1], none⟩,
   ⟨.e 18, .call 103, [.t 16, .t 17], none⟩,
   ⟨.e 19, .mv, [.t 0], none⟩,
   ⟨.e 20, .mk 1 (.int .i64 0), [.t 19], none⟩,
   ⟨.e 21, .mv, [.t 0], none⟩,
   ⟨.e 22, .mk 1 (.int .i64 0), [.t 21], none⟩,
   ⟨.e 23, .mv, [.t 0], none⟩,
   ⟨.e 24, .mk 1 (.bool false), [.t 23], none⟩,
   ⟨.e 25, .mv, [.t 0], none⟩,
   ⟨.e 26, .mk 1 (.int .i64 0), [.t 25], none⟩,
   ⟨.e 27, .bld [.nil, .nil, .nil, .nil, .nil, .nil, (.int .i64 0), .nil] [(0, 1), (1, 1), (2, 1), (3, 1), (4, 1), (7, 1)], [.t 15, .t 18, .t 20, .t 22, .t 24, .t 26], none⟩,
   ⟨.e 28, .hbox 8, [.t 27], none⟩,
   ⟨.e 7, .mv, [.t 28], none⟩] [(5, 7), (5, 9), (5, 11), (7, 9), (7, 11), (9, 11)] [0, 7] []) (
 .seq (.seq (.reg [
   ⟨.e 29, .mv, [.t 0], none⟩,
   ⟨.e 30, .mv, [.k (.int .i64 0)], none⟩] [7, 29, 30] []) (
 .block 0 (
  L39_1))) (
 .seq (.reg [
   ⟨.e 45, .mv, [.t 7], none⟩,
   ⟨.a 46, .nc, [.t 45], none⟩,
   ⟨.a 47, .fa 7, [.a 46], none⟩,
   ⟨.e 48, .ld false 1, [.a 47], none⟩,
   ⟨.e 4, .mv, [.t 48], none⟩,
   ⟨.e 5, .mv, [.k (.int .i64 0)], none⟩] [4, 5] []) (
 .ret)))))⟩
/- estovers/waitgraph.Cycle -/
noncomputable def L40_1 : AC := .loop [0, 3, 7, 8, 28, 29, 30] [] (
 .seq (.reg [
   ⟨.e 31, .bin .lss, [.t 30, .t 29], none⟩] [0, 3, 7, 8, 28, 29, 30, 31] []) (
 .seq (.cond (.t 31)
  (.skip)
  (.exit 0)) (
 .seq (.block 1 (
  .seq (.reg [
    ⟨.e 32, .mv, [.t 30], none⟩,
    ⟨.a 33, .ia 4, [.t 28, .t 30], none⟩,
    ⟨.e 34, .ld true 4, [.a 33], none⟩,
    ⟨.x 10, .box, [.k (.agg [(.int .i64 0), (.int .i64 0), (.int .i64 0), (.int .i64 0)])], none⟩,
    ⟨.e 9, .mv, [.t 32], none⟩,
    ⟨.n, .st 4, [.b 10, .t 34], none⟩] [0, 3, 7, 8, 9, 28, 29, 30] [10]) (
  .dreg [
    ⟨.e 35, .mv, [.t 8], none⟩,
    ⟨.a 36, .fa 1, [.b 10], none⟩,
    ⟨.e 37, .ld false 1, [.a 36], none⟩,
    ⟨.e 38, .mv, [.t 8], none⟩,
    ⟨.a 39, .fa 1, [.b 10], none⟩,
    ⟨.e 40, .ld false 1, [.a 39], none⟩,
    ⟨.a 41, .ia 1, [.t 38, .t 40], none⟩,
    ⟨.e 42, .ld false 1, [.a 41], none⟩,
    ⟨.e 43, .mv, [.t 9], none⟩,
    ⟨.e 44, .lit 1 1 (.int .i64 0) [0], [.t 43], none⟩,
    ⟨.e 45, .app 1, [.t 42, .t 44], none⟩,
    ⟨.a 46, .ia 1, [.t 35, .t 37], none⟩,
    ⟨.n, .st 1, [.a 46, .t 45], none⟩] [(2, 10)] [0, 3, 7, 8, 28, 29, 30] []))) (
 .reg [
   ⟨.e 47, .bin .add, [.t 30, .k (.int .i64 1)], none⟩,
   ⟨.e 30, .mv, [.t 47], none⟩] [0, 3, 7, 8, 28, 29, 30] []))))
noncomputable def L40_2 : AC := .loop [0, 3, 7, 8, 11, 14, 15, 48, 49, 50] [13] (
 .seq (.seq (.reg [
   ⟨.e 86, .ld false 1, [.t 15], none⟩,
   ⟨.a 87, .fa 0, [.b 13], none⟩,
   ⟨.e 88, .ld false 1, [.a 87], none⟩,
   ⟨.e 89, .bin .neq, [.t 86, .t 88], none⟩] [0, 3, 7, 8, 11, 14, 15, 48, 49, 50, 89] [13]) (
 .cond (.t 89)
  (.skip)
  (.exit 4))) (
 .seq (.block 5 (
  .seq (.dreg [
    ⟨.e 90, .mv, [.t 7], none⟩,
    ⟨.e 91, .ld false 1, [.t 15], none⟩,
    ⟨.a 92, .ia 1, [.t 90, .t 91], none⟩,
    ⟨.e 93, .ld false 1, [.a 92], none⟩,
    ⟨.e 94, .mv, [.t 7], none⟩,
    ⟨.e 95, .ld false 1, [.t 15], none⟩,
    ⟨.a 96, .ia 1, [.t 94, .t 95], none⟩,
    ⟨.e 97, .ld false 1, [.a 96], none⟩,
    ⟨.e 98, .mkf 107, [.t 14, .t 3, .t 15], none⟩,
    ⟨.e 99, .call 106, [.t 97, .t 98], none⟩,
    ⟨.a 100, .ia 1, [.t 93, .t 99], none⟩,
    ⟨.e 101, .ld false 1, [.a 100], none⟩,
    ⟨.e 16, .mv, [.t 101], none⟩] [] [0, 3, 7, 8, 11, 14, 15, 16, 48, 49, 50] [13]) (
  .seq (.reg [
    ⟨.e 102, .mv, [.t 11], none⟩,
    ⟨.e 103, .mv, [.t 16], none⟩,
    ⟨.e 104, .lit 1 1 (.int .i64 0) [0], [.t 103], none⟩,
    ⟨.e 105, .app 1, [.t 102, .t 104], none⟩,
    ⟨.e 11, .mv, [.t 105], none⟩] [0, 3, 7, 8, 11, 14, 15, 16, 48, 49, 50] [13]) (
  .reg [
    ⟨.e 106, .ld false 1, [.t 3], none⟩,
    ⟨.e 107, .mv, [.t 16], none⟩,
    ⟨.a 108, .ia 4, [.t 106, .t 107], none⟩,
    ⟨.a 109, .fa 1, [.a 108], none⟩,
    ⟨.e 110, .ld false 1, [.a 109], none⟩,
    ⟨.n, .st 1, [.t 15, .t 110], none⟩] [0, 3, 7, 8, 11, 14, 15, 48, 49, 50] [13])))) (
 .seq (.reg [
   ⟨.e 111, .ld false 1, [.t 15], none⟩] [0, 3, 7, 8, 11, 14, 48, 49, 50, 111] [13]) (
 .reg [
   ⟨.e 15, .hbox 1, [.k (.int .i64 0)], none⟩,
   ⟨.n, .st 1, [.t 15, .t 111], none⟩] [0, 3, 7, 8, 11, 14, 15, 48, 49, 50] [13]))))
noncomputable def L40_3 : AC := .loop [0, 3, 7, 8, 11, 48, 49, 50] [] (
 .seq (.reg [
   ⟨.e 51, .bin .lss, [.t 50, .t 49], none⟩] [0, 3, 7, 8, 11, 48, 49, 50, 51] []) (
 .seq (.cond (.t 51)
  (.skip)
  (.exit 2)) (
 .seq (.block 3 (
  .seq (.reg [
    ⟨.e 52, .mv, [.t 50], none⟩,
    ⟨.a 53, .ia 4, [.t 48, .t 50], none⟩,
    ⟨.e 54, .ld true 4, [.a 53], none⟩,
    ⟨.x 13, .box, [.k (.agg [(.int .i64 0), (.int .i64 0), (.int .i64 0), (.int .i64 0)])], none⟩,
    ⟨.e 12, .mv, [.t 52], none⟩,
    ⟨.n, .st 4, [.b 13, .t 54], none⟩] [0, 3, 7, 8, 11, 12, 48, 49, 50] [13]) (
  .seq (.reg [
    ⟨.e 55, .mv, [.t 0], none⟩,
    ⟨.e 56, .ld false 1, [.t 3], none⟩,
    ⟨.e 57, .mv, [.t 8], none⟩,
    ⟨.a 58, .fa 0, [.b 13], none⟩,
    ⟨.e 59, .ld false 1, [.a 58], none⟩,
    ⟨.e 60, .call 105, [.t 55, .t 56, .t 57, .t 59], none⟩,
    ⟨.e 14, .hbox 1, [.k .nil], none⟩,
    ⟨.n, .st 1, [.t 14, .t 60], none⟩] [0, 3, 7, 8, 11, 12, 14, 48, 49, 50] [13]) (
  .seq (.seq (.reg [
    ⟨.e 61, .ld false 1, [.t 14], none⟩,
    ⟨.a 62, .fa 1, [.b 13], none⟩,
    ⟨.e 63, .ld false 1, [.a 62], none⟩,
    ⟨.a 64, .ia 1, [.t 61, .t 63], none⟩,
    ⟨.e 65, .ld false 1, [.a 64], none⟩,
    ⟨.e 66, .bin .lss, [.t 65, .k (.int .i64 0)], none⟩,
    ⟨.e 67, .mv, [.t 66], none⟩,
    ⟨.e 68, .mv, [.t 11], some (67, false)⟩,
    ⟨.e 69, .nq true, [.t 68, .k .nil], some (67, false)⟩,
    ⟨.e 70, .mv, [.t 69], some (67, false)⟩,
    ⟨.e 71, .ld false 1, [.t 14], some (70, true)⟩,
    ⟨.a 72, .fa 1, [.b 13], some (70, true)⟩,
    ⟨.e 73, .ld false 1, [.a 72], some (70, true)⟩,
    ⟨.a 74, .ia 1, [.t 71, .t 73], some (70, true)⟩,
    ⟨.e 75, .ld false 1, [.a 74], some (70, true)⟩,
    ⟨.e 76, .bin .add, [.t 75, .k (.int .i64 1)], some (70, true)⟩,
    ⟨.e 77, .mv, [.t 11], some (70, true)⟩,
    ⟨.e 78, .len false, [.t 77], some (70, true)⟩,
    ⟨.e 79, .bin .geq, [.t 76, .t 78], some (70, true)⟩,
    ⟨.e 80, .pick, [.t 70, .t 79, .k (.bool false)], some (67, false)⟩,
    ⟨.e 81, .pick, [.t 67, .k (.bool true), .t 80], none⟩] [0, 3, 7, 8, 11, 12, 14, 48, 49, 50, 81] [13]) (
  .cond (.t 81)
   (.exit 3)
   (.skip))) (
  .seq (.reg [
    ⟨.e 82, .mv, [.t 12], none⟩,
    ⟨.e 83, .hlit 1 1 (.int .i64 0) [0], [.t 82], none⟩,
    ⟨.e 11, .mv, [.t 83], none⟩] [0, 3, 7, 8, 11, 14, 48, 49, 50] [13]) (
  .seq (.reg [
    ⟨.a 84, .fa 1, [.b 13], none⟩,
    ⟨.e 85, .ld false 1, [.a 84], none⟩,
    ⟨.e 15, .hbox 1, [.k (.int .i64 0)], none⟩,
    ⟨.n, .st 1, [.t 15, .t 85], none⟩] [0, 3, 7, 8, 11, 14, 15, 48, 49, 50] [13]) (
  .block 4 (
   L40_2)))))))) (
 .reg [
   ⟨.e 112, .bin .add, [.t 50, .k (.int .i64 1)], none⟩,
   ⟨.e 50, .mv, [.t 112], none⟩] [0, 3, 7, 8, 11, 48, 49, 50] []))))
noncomputable def c40 : Fn := ⟨2, 974907665607133028271469665189888, 9216, true, [.t 4, .t 5],
 .seq (.reg [
   ⟨.e 3, .hbox 1, [.t 1], none⟩,
   ⟨.e 4, .mv, [.k .nil], none⟩,
   ⟨.e 5, .mv, [.k (.int .i64 0)], none⟩] [0, 3] []) (
 .seq (.seq (.reg [
   ⟨.e 17, .mv, [.t 0], none⟩,
   ⟨.e 18, .ld false 1, [.t 3], none⟩,
   ⟨.e 19, .call 102, [.t 17, .t 18], none⟩,
   ⟨.e 6, .mv, [.t 19], none⟩] [0, 3, 6] []) (
 .seq (.reg [
   ⟨.e 20, .mv, [.t 6], none⟩,
   ⟨.e 21, .bin .neq, [.t 20, .k (.int .i64 0)], none⟩] [0, 3, 6, 21] []) (
 .cond (.t 21)
  (.seq (.reg [
     ⟨.e 22, .mv, [.t 6], none⟩,
     ⟨.e 4, .mv, [.k .nil], none⟩,
     ⟨.e 5, .mv, [.t 22], none⟩] [4, 5] []) (
   .ret))
  (.skip)))) (
 .seq (.dreg [
   ⟨.e 23, .mv, [.t 0], none⟩,
   ⟨.e 24, .ld false 1, [.t 3], none⟩,
   ⟨.e 25, .call 103, [.t 23, .t 24], none⟩,
   ⟨.e 26, .mv, [.t 0], none⟩,
   ⟨.e 27, .mk 1 .nil, [.t 26], none⟩,
   ⟨.e 7, .mv, [.t 25], none⟩,
   ⟨.e 8, .mv, [.t 27], none⟩] [(1, 4)] [0, 3, 7, 8] []) (
 .seq (.seq (.reg [
   ⟨.e 28, .ld false 1, [.t 3], none⟩,
   ⟨.e 29, .len false, [.t 28], none⟩,
   ⟨.e 30, .mv, [.k (.int .i64 0)], none⟩] [0, 3, 7, 8, 28, 29, 30] []) (
 .block 0 (
  L40_1))) (
 .seq (.reg [
   ⟨.e 11, .mv, [.k .nil], none⟩] [0, 3, 7, 8, 11] []) (
 .seq (.seq (.reg [
   ⟨.e 48, .ld false 1, [.t 3], none⟩,
   ⟨.e 49, .len false, [.t 48], none⟩,
   ⟨.e 50, .mv, [.k (.int .i64 0)], none⟩] [0, 3, 7, 8, 11, 48, 49, 50] []) (
 .block 2 (
  L40_3))) (
 .seq (.reg [
   ⟨.e 113, .mv, [.t 11], none⟩,
   ⟨.e 4, .mv, [.t 113], none⟩,
   ⟨.e 5, .mv, [.k (.int .i64 0)], none⟩] [4, 5] []) (
 .ret)))))))⟩
/- estovers/waitgraph.Levels -/
noncomputable def L41_1 : AC := .loop [0, 7, 8, 28, 29, 30] [] (
 .seq (.reg [
   ⟨.e 31, .bin .lss, [.t 30, .t 29], none⟩] [0, 7, 8, 28, 29, 30, 31] []) (
 .seq (.cond (.t 31)
  (.skip)
  (.exit 0)) (
 .seq (.block 1 (
  .seq (.reg [
    ⟨.a 32, .ia 4, [.t 28, .t 30], none⟩,
    ⟨.e 33, .ld true 4, [.a 32], none⟩,
    ⟨.x 10, .box, [.k (.agg [(.int .i64 0), (.int .i64 0), (.int .i64 0), (.int .i64 0)])], none⟩,
    ⟨.n, .st 4, [.b 10, .t 33], none⟩] [0, 7, 8, 28, 29, 30] [10]) (
  .seq (.reg [
    ⟨.e 34, .mv, [.t 7], none⟩,
    ⟨.a 35, .fa 0, [.b 10], none⟩,
    ⟨.e 36, .ld false 1, [.a 35], none⟩,
    ⟨.a 37, .ia 1, [.t 34, .t 36], none⟩,
    ⟨.e 38, .ld false 1, [.a 37], none⟩,
    ⟨.e 39, .bin .add, [.t 38, .k (.int .i64 1)], none⟩,
    ⟨.a 40, .ia 1, [.t 34, .t 36], none⟩,
    ⟨.n, .st 1, [.a 40, .t 39], none⟩] [0, 7, 8, 28, 29, 30] [10]) (
  .dreg [
    ⟨.e 41, .mv, [.t 8], none⟩,
    ⟨.a 42, .fa 1, [.b 10], none⟩,
    ⟨.e 43, .ld false 1, [.a 42], none⟩,
    ⟨.e 44, .mv, [.t 8], none⟩,
    ⟨.a 45, .fa 1, [.b 10], none⟩,
    ⟨.e 46, .ld false 1, [.a 45], none⟩,
    ⟨.a 47, .ia 1, [.t 44, .t 46], none⟩,
    ⟨.e 48, .ld false 1, [.a 47], none⟩,
    ⟨.a 49, .fa 0, [.b 10], none⟩,
    ⟨.e 50, .ld false 1, [.a 49], none⟩,
    ⟨.e 51, .lit 1 1 (.int .i64 0) [0], [.t 50], none⟩,
    ⟨.e 52, .app 1, [.t 48, .t 51], none⟩,
    ⟨.a 53, .ia 1, [.t 41, .t 43], none⟩,
    ⟨.n, .st 1, [.a 53, .t 52], none⟩] [(2, 11)] [0, 7, 8, 28, 29, 30] [])))) (
 .reg [
   ⟨.e 54, .bin .add, [.t 30, .k (.int .i64 1)], none⟩,
   ⟨.e 30, .mv, [.t 54], none⟩] [0, 7, 8, 28, 29, 30] []))))
noncomputable def L41_2 : AC := .loop [0, 7, 8, 11, 12, 57, 58, 59] [] (
 .seq (.reg [
   ⟨.e 60, .bin .lss, [.t 59, .t 58], none⟩] [0, 7, 8, 11, 12, 57, 58, 59, 60] []) (
 .seq (.cond (.t 60)
  (.skip)
  (.exit 2)) (
 .seq (.block 3 (
  .seq (.reg [
    ⟨.e 61, .mv, [.t 59], none⟩,
    ⟨.a 62, .ia 1, [.t 57, .t 59], none⟩,
    ⟨.e 63, .ld false 1, [.a 62], none⟩,
    ⟨.e 13, .mv, [.t 61], none⟩,
    ⟨.e 14, .mv, [.t 63], none⟩] [0, 7, 8, 11, 12, 13, 14, 57, 58, 59] []) (
  .seq (.reg [
    ⟨.e 64, .mv, [.t 14], none⟩,
    ⟨.e 65, .bin .eql, [.t 64, .k (.int .i64 0)], none⟩] [0, 7, 8, 11, 12, 13, 57, 58, 59, 65] []) (
  .cond (.t 65)
   (.reg [
      ⟨.e 66, .mv, [.t 12], none⟩,
      ⟨.e 67, .mv, [.t 13], none⟩,
      ⟨.e 68, .lit 1 1 (.int .i64 0) [0], [.t 67], none⟩,
      ⟨.e 69, .app 1, [.t 66, .t 68], none⟩,
      ⟨.e 12, .mv, [.t 69], none⟩] [0, 7, 8, 11, 12, 57, 58, 59] [])
   (.skip))))) (
 .reg [
   ⟨.e 70, .bin .add, [.t 59, .k (.int .i64 1)], none⟩,
   ⟨.e 59, .mv, [.t 70], none⟩] [0, 7, 8, 11, 12, 57, 58, 59] []))))
noncomputable def L41_3 : AC := .loop [0, 7, 8, 11, 12, 15, 83, 84, 85] [] (
 .seq (.reg [
   ⟨.e 86, .bin .lss, [.t 85, .t 84], none⟩] [0, 7, 8, 11, 12, 15, 83, 84, 85, 86] []) (
 .seq (.cond (.t 86)
  (.skip)
  (.exit 6)) (
 .seq (.block 7 (
  .seq (.reg [
    ⟨.a 87, .ia 1, [.t 83, .t 85], none⟩,
    ⟨.e 88, .ld false 1, [.a 87], none⟩,
    ⟨.e 17, .mv, [.t 88], none⟩] [0, 7, 8, 11, 12, 15, 17, 83, 84, 85] []) (
  .seq (.dreg [
    ⟨.e 89, .mv, [.t 11], none⟩,
    ⟨.e 90, .mv, [.t 17], none⟩,
    ⟨.e 91, .mv, [.t 11], none⟩,
    ⟨.e 92, .mv, [.t 17], none⟩,
    ⟨.a 93, .ia 1, [.t 91, .t 92], none⟩,
    ⟨.e 94, .ld false 1, [.a 93], none⟩,
    ⟨.e 95, .mv, [.t 11], none⟩,
    ⟨.e 96, .mv, [.t 12], none⟩,
    ⟨.e 97, .mv, [.t 15], none⟩,
    ⟨.a 98, .ia 1, [.t 96, .t 97], none⟩,
    ⟨.e 99, .ld false 1, [.a 98], none⟩,
    ⟨.a 100, .ia 1, [.t 95, .t 99], none⟩,
    ⟨.e 101, .ld false 1, [.a 100], none⟩,
    ⟨.e 102, .bin .add, [.t 101, .k (.int .i64 1)], none⟩,
    ⟨.e 103, .mx, [.t 94, .t 102], none⟩,
    ⟨.a 104, .ia 1, [.t 89, .t 90], none⟩,
    ⟨.n, .st 1, [.a 104, .t 103], none⟩] [] [0, 7, 8, 11, 12, 15, 17, 83, 84, 85] []) (
  .seq (.reg [
    ⟨.e 105, .mv, [.t 7], none⟩,
    ⟨.e 106, .mv, [.t 17], none⟩,
    ⟨.a 107, .ia 1, [.t 105, .t 106], none⟩,
    ⟨.e 108, .ld false 1, [.a 107], none⟩,
    ⟨.e 109, .bin .sub, [.t 108, .k (.int .i64 1)], none⟩,
    ⟨.a 110, .ia 1, [.t 105, .t 106], none⟩,
    ⟨.n, .st 1, [.a 110, .t 109], none⟩] [0, 7, 8, 11, 12, 15, 17, 83, 84, 85] []) (
  .seq (.reg [
    ⟨.e 111, .mv, [.t 7], none⟩,
    ⟨.e 112, .mv, [.t 17], none⟩,
    ⟨.a 113, .ia 1, [.t 111, .t 112], none⟩,
    ⟨.e 114, .ld false 1, [.a 113], none⟩,
    ⟨.e 115, .bin .eql, [.t 114, .k (.int .i64 0)], none⟩] [0, 7, 8, 11, 12, 15, 17, 83, 84, 85, 115] []) (
  .cond (.t 115)
   (.reg [
      ⟨.e 116, .mv, [.t 12], none⟩,
      ⟨.e 117, .mv, [.t 17], none⟩,
      ⟨.e 118, .lit 1 1 (.int .i64 0) [0], [.t 117], none⟩,
      ⟨.e 119, .app 1, [.t 116, .t 118], none⟩,
      ⟨.e 12, .mv, [.t 119], none⟩] [0, 7, 8, 11, 12, 15, 83, 84, 85] [])
   (.skip))))))) (
 .reg [
   ⟨.e 120, .bin .add, [.t 85, .k (.int .i64 1)], none⟩,
   ⟨.e 85, .mv, [.t 120], none⟩] [0, 7, 8, 11, 12, 15, 83, 84, 85] []))))
noncomputable def L41_4 : AC := .loop [0, 7, 8, 11, 12, 15] [] (
 .seq (.seq (.reg [
   ⟨.e 71, .mv, [.t 15], none⟩,
   ⟨.e 72, .mv, [.t 12], none⟩,
   ⟨.e 73, .len false, [.t 72], none⟩,
   ⟨.e 74, .bin .lss, [.t 71, .t 73], none⟩] [0, 7, 8, 11, 12, 15, 74] []) (
 .cond (.t 74)
  (.skip)
  (.exit 4))) (
 .seq (.block 5 (
  .seq (.reg [
    ⟨.e 77, .mv, [.t 8], none⟩,
    ⟨.e 78, .mv, [.t 12], none⟩,
    ⟨.e 79, .mv, [.t 15], none⟩,
    ⟨.a 80, .ia 1, [.t 78, .t 79], none⟩,
    ⟨.e 81, .ld false 1, [.a 80], none⟩,
    ⟨.a 82, .ia 1, [.t 77, .t 81], none⟩,
    ⟨.e 83, .ld false 1, [.a 82], none⟩,
    ⟨.e 84, .len false, [.t 83], none⟩,
    ⟨.e 85, .mv, [.k (.int .i64 0)], none⟩] [0, 7, 8, 11, 12, 15, 83, 84, 85] []) (
  .block 6 (
   L41_3)))) (
 .reg [
   ⟨.e 75, .mv, [.t 15], none⟩,
   ⟨.e 76, .bin .add, [.t 75, .k (.int .i64 1)], none⟩,
   ⟨.e 15, .mv, [.t 76], none⟩] [0, 7, 8, 11, 12, 15] [])))
noncomputable def c41 : Fn := ⟨2, 11866804245693965397986655458033664, 1024, true, [.t 4, .t 5],
 .seq (.reg [
   ⟨.e 4, .mv, [.k .nil], none⟩,
   ⟨.e 5, .mv, [.k (.int .i64 0)], none⟩] [0, 1] []) (
 .seq (.seq (.reg [
   ⟨.e 18, .mv, [.t 0], none⟩,
   ⟨.e 19, .mv, [.t 1], none⟩,
   ⟨.e 20, .call 102, [.t 18, .t 19], none⟩,
   ⟨.e 6, .mv, [.t 20], none⟩] [0, 1, 6] []) (
 .seq (.reg [
   ⟨.e 21, .mv, [.t 6], none⟩,
   ⟨.e 22, .bin .neq, [.t 21, .k (.int .i64 0)], none⟩] [0, 1, 6, 22] []) (
 .cond (.t 22)
  (.seq (.reg [
     ⟨.e 23, .mv, [.t 6], none⟩,
     ⟨.e 4, .mv, [.k .nil], none⟩,
     ⟨.e 5, .mv, [.t 23], none⟩] [4, 5] []) (
   .ret))
  (.skip)))) (
 .seq (.dreg [
   ⟨.e 24, .mv, [.t 0], none⟩,
   ⟨.e 25, .mk 1 (.int .i64 0), [.t 24], none⟩,
   ⟨.e 26, .mv, [.t 0], none⟩,
   ⟨.e 27, .mk 1 .nil, [.t 26], none⟩,
   ⟨.e 7, .mv, [.t 25], none⟩,
   ⟨.e 8, .mv, [.t 27], none⟩] [(1, 3)] [0, 1, 7, 8] []) (
 .seq (.seq (.reg [
   ⟨.e 28, .mv, [.t 1], none⟩,
   ⟨.e 29, .len false, [.t 28], none⟩,
   ⟨.e 30, .mv, [.k (.int .i64 0)], none⟩] [0, 7, 8, 28, 29, 30] []) (
 .block 0 (
  L41_1))) (
 .seq (.reg [
   ⟨.e 55, .mv, [.t 0], none⟩,
   ⟨.e 56, .mk 1 (.int .i64 0), [.t 55], none⟩,
   ⟨.e 11, .mv, [.t 56], none⟩] [0, 7, 8, 11] []) (
 .seq (.reg [
   ⟨.e 12, .mv, [.k .nil], none⟩] [0, 7, 8, 11, 12] []) (
 .seq (.seq (.reg [
   ⟨.e 57, .mv, [.t 7], none⟩,
   ⟨.e 58, .len false, [.t 57], none⟩,
   ⟨.e 59, .mv, [.k (.int .i64 0)], none⟩] [0, 7, 8, 11, 12, 57, 58, 59] []) (
 .block 2 (
  L41_2))) (
 .seq (.reg [
   ⟨.e 15, .mv, [.k (.int .i64 0)], none⟩] [0, 7, 8, 11, 12, 15] []) (
 .seq (.block 4 (
  L41_4)) (
 .seq (.seq (.reg [
   ⟨.e 121, .mv, [.t 15], none⟩,
   ⟨.e 122, .mv, [.t 0], none⟩,
   ⟨.e 123, .bin .lss, [.t 121, .t 122], none⟩] [11, 123] []) (
 .cond (.t 123)
  (.seq (.reg [
     ⟨.e 4, .mv, [.k .nil], none⟩,
     ⟨.e 5, .mv, [.k (.int .i64 10)], none⟩] [4, 5] []) (
   .ret))
  (.skip))) (
 .seq (.reg [
   ⟨.e 124, .mv, [.t 11], none⟩,
   ⟨.e 4, .mv, [.t 124], none⟩,
   ⟨.e 5, .mv, [.k (.int .i64 0)], none⟩] [4, 5] []) (
 .ret)))))))))))⟩
/- estovers/estoversref42.Components -/
noncomputable def L42_1 : AC := .loop [0, 1, 7, 8] [] (
 .seq (.seq (.reg [
   ⟨.e 18, .mv, [.t 8], none⟩,
   ⟨.e 19, .mv, [.t 0], none⟩,
   ⟨.e 20, .bin .lss, [.t 18, .t 19], none⟩] [0, 1, 7, 8, 20] []) (
 .cond (.t 20)
  (.skip)
  (.exit 0))) (
 .seq (.block 1 (
  .reg [
    ⟨.e 23, .mv, [.t 7], none⟩,
    ⟨.e 24, .lit 1 1 (.int .i64 0) [0], [.k (.int .i64 (-1))], none⟩,
    ⟨.e 25, .app 1, [.t 23, .t 24], none⟩,
    ⟨.e 7, .mv, [.t 25], none⟩] [0, 1, 7, 8] [])) (
 .reg [
   ⟨.e 21, .mv, [.t 8], none⟩,
   ⟨.e 22, .bin .add, [.t 21, .k (.int .i64 1)], none⟩,
   ⟨.e 8, .mv, [.t 22], none⟩] [0, 1, 7, 8] [])))
noncomputable def L42_2 : AC := .loop [0, 1, 7, 9, 10, 11] [] (
 .seq (.seq (.reg [
   ⟨.e 41, .mv, [.t 11], none⟩,
   ⟨.e 42, .mv, [.t 0], none⟩,
   ⟨.e 43, .bin .lss, [.t 41, .t 42], none⟩] [0, 1, 7, 9, 10, 11, 43] []) (
 .cond (.t 43)
  (.skip)
  (.exit 4))) (
 .seq (.block 5 (
  .seq (.reg [
    ⟨.e 46, .mv, [.t 7], none⟩,
    ⟨.e 47, .mv, [.t 11], none⟩,
    ⟨.a 48, .ia 1, [.t 46, .t 47], none⟩,
    ⟨.e 49, .ld false 1, [.a 48], none⟩,
    ⟨.e 50, .bin .lss, [.t 49, .k (.int .i64 0)], none⟩,
    ⟨.e 51, .mv, [.t 50], none⟩,
    ⟨.e 52, .mv, [.t 10], some (51, true)⟩,
    ⟨.e 53, .mv, [.t 11], some (51, true)⟩,
    ⟨.a 54, .ia 1, [.t 52, .t 53], some (51, true)⟩,
    ⟨.e 55, .ld false 1, [.a 54], some (51, true)⟩,
    ⟨.e 56, .bin .geq, [.t 55, .k (.int .i64 0)], some (51, true)⟩,
    ⟨.e 57, .pick, [.t 51, .t 56, .k (.bool false)], none⟩,
    ⟨.e 58, .mv, [.t 57], none⟩,
    ⟨.e 59, .mv, [.t 0], some (58, true)⟩,
    ⟨.e 60, .mv, [.t 1], some (58, true)⟩,
    ⟨.e 61, .mv, [.t 11], some (58, true)⟩,
    ⟨.e 62, .call 109, [.t 59, .t 60, .t 61], some (58, true)⟩,
    ⟨.e 63, .mv, [.t 9], some (58, true)⟩,
    ⟨.a 64, .ia 1, [.t 62, .t 63], some (58, true)⟩,
    ⟨.e 65, .ld false 1, [.a 64], some (58, true)⟩,
    ⟨.e 66, .bin .geq, [.t 65, .k (.int .i64 0)], some (58, true)⟩,
    ⟨.e 67, .pick, [.t 58, .t 66, .k (.bool false)], none⟩] [0, 1, 7, 9, 10, 11, 67] []) (
  .cond (.t 67)
   (.reg [
      ⟨.e 68, .mv, [.t 7], none⟩,
      ⟨.e 69, .mv, [.t 11], none⟩,
      ⟨.e 70, .mv, [.t 9], none⟩,
      ⟨.a 71, .ia 1, [.t 68, .t 69], none⟩,
      ⟨.n, .st 1, [.a 71, .t 70], none⟩] [0, 1, 7, 9, 10, 11] [])
   (.skip)))) (
 .reg [
   ⟨.e 44, .mv, [.t 11], none⟩,
   ⟨.e 45, .bin .add, [.t 44, .k (.int .i64 1)], none⟩,
   ⟨.e 11, .mv, [.t 45], none⟩] [0, 1, 7, 9, 10, 11] [])))
noncomputable def L42_3 : AC := .loop [0, 1, 7, 9] [] (
 .seq (.seq (.reg [
   ⟨.e 26, .mv, [.t 9], none⟩,
   ⟨.e 27, .mv, [.t 0], none⟩,
   ⟨.e 28, .bin .lss, [.t 26, .t 27], none⟩] [0, 1, 7, 9, 28] []) (
 .cond (.t 28)
  (.skip)
  (.exit 2))) (
 .seq (.block 3 (
  .seq (.seq (.reg [
    ⟨.e 31, .mv, [.t 7], none⟩,
    ⟨.e 32, .mv, [.t 9], none⟩,
    ⟨.a 33, .ia 1, [.t 31, .t 32], none⟩,
    ⟨.e 34, .ld false 1, [.a 33], none⟩,
    ⟨.e 35, .bin .geq, [.t 34, .k (.int .i64 0)], none⟩] [0, 1, 7, 9, 35] []) (
  .cond (.t 35)
   (.exit 3)
   (.skip))) (
  .seq (.reg [
    ⟨.e 36, .mv, [.t 0], none⟩,
    ⟨.e 37, .mv, [.t 1], none⟩,
    ⟨.e 38, .mv, [.t 9], none⟩,
    ⟨.e 39, .call 109, [.t 36, .t 37, .t 38], none⟩,
    ⟨.e 10, .mv, [.t 39], none⟩] [0, 1, 7, 9, 10] []) (
  .seq (.reg [
    ⟨.e 40, .mv, [.t 9], none⟩,
    ⟨.e 11, .mv, [.t 40], none⟩] [0, 1, 7, 9, 10, 11] []) (
  .block 4 (
   L42_2)))))) (
 .reg [
   ⟨.e 29, .mv, [.t 9], none⟩,
   ⟨.e 30, .bin .add, [.t 29, .k (.int .i64 1)], none⟩,
   ⟨.e 9, .mv, [.t 30], none⟩] [0, 1, 7, 9] [])))
noncomputable def c42 : Fn := ⟨2, 2379648281390608285696, 0, true, [.t 4, .t 5],
 .seq (.reg [
   ⟨.e 4, .mv, [.k .nil], none⟩,
   ⟨.e 5, .mv, [.k (.int .i64 0)], none⟩] [0, 1] []) (
 .seq (.reg [
   ⟨.e 12, .mv, [.t 0], none⟩,
   ⟨.e 13, .mv, [.t 1], none⟩,
   ⟨.e 14, .call 108, [.t 12, .t 13], none⟩,
   ⟨.e 6, .mv, [.t 14], none⟩] [0, 1, 6] []) (
 .seq (.seq (.reg [
   ⟨.e 15, .mv, [.t 6], none⟩,
   ⟨.e 16, .bin .neq, [.t 15, .k (.int .i64 0)], none⟩] [0, 1, 6, 16] []) (
 .cond (.t 16)
  (.seq (.reg [
     ⟨.e 17, .mv, [.t 6], none⟩,
     ⟨.e 4, .mv, [.k .nil], none⟩,
     ⟨.e 5, .mv, [.t 17], none⟩] [4, 5] []) (
   .ret))
  (.skip))) (
 .seq (.reg [
   ⟨.e 7, .mv, [.k .nil], none⟩] [0, 1, 7] []) (
 .seq (.seq (.reg [
   ⟨.e 8, .mv, [.k (.int .i64 0)], none⟩] [0, 1, 7, 8] []) (
 .block 0 (
  L42_1))) (
 .seq (.seq (.reg [
   ⟨.e 9, .mv, [.k (.int .i64 0)], none⟩] [0, 1, 7, 9] []) (
 .block 2 (
  L42_3))) (
 .seq (.reg [
   ⟨.e 72, .mv, [.t 7], none⟩,
   ⟨.e 4, .mv, [.t 72], none⟩,
   ⟨.e 5, .mv, [.k (.int .i64 0)], none⟩] [4, 5] []) (
 .ret)))))))⟩
/- estovers/estoversref42.Cycle -/
noncomputable def L43_1 : AC := .loop [0, 1, 7, 8, 9] [] (
 .seq (.seq (.reg [
   ⟨.e 22, .mv, [.t 9], none⟩,
   ⟨.e 23, .mv, [.t 1], none⟩,
   ⟨.e 24, .len false, [.t 23], none⟩,
   ⟨.e 25, .bin .lss, [.t 22, .t 24], none⟩] [0, 1, 7, 8, 9, 25] []) (
 .cond (.t 25)
  (.skip)
  (.exit 0))) (
 .seq (.block 1 (
  .seq (.reg [
    ⟨.e 28, .mv, [.t 0], none⟩,
    ⟨.e 29, .mv, [.t 1], none⟩,
    ⟨.e 30, .mv, [.t 9], none⟩,
    ⟨.e 31, .call 110, [.t 28, .t 29, .t 30], none⟩,
    ⟨.e 10, .mv, [.t 31], none⟩] [0, 1, 7, 8, 9, 10] []) (
  .seq (.reg [
    ⟨.e 32, .mv, [.t 10], none⟩,
    ⟨.e 33, .bin .gtr, [.t 32, .k (.int .i64 0)], none⟩,
    ⟨.e 34, .mv, [.t 33], none⟩,
    ⟨.e 35, .mv, [.t 8], some (34, true)⟩,
    ⟨.e 36, .bin .lss, [.t 35, .k (.int .i64 0)], some (34, true)⟩,
    ⟨.e 37, .mv, [.t 36], some (34, true)⟩,
    ⟨.e 38, .mv, [.t 10], some (37, false)⟩,
    ⟨.e 39, .mv, [.t 8], some (37, false)⟩,
    ⟨.e 40, .bin .lss, [.t 38, .t 39], some (37, false)⟩,
    ⟨.e 41, .pick, [.t 37, .k (.bool true), .t 40], some (34, true)⟩,
    ⟨.e 42, .pick, [.t 34, .t 41, .k (.bool false)], none⟩] [0, 1, 7, 8, 9, 10, 42] []) (
  .cond (.t 42)
   (.reg [
      ⟨.e 43, .mv, [.t 9], none⟩,
      ⟨.e 44, .mv, [.t 10], none⟩,
      ⟨.e 7, .mv, [.t 43], none⟩,
      ⟨.e 8, .mv, [.t 44], none⟩] [0, 1, 7, 8, 9] [])
   (.skip))))) (
 .reg [
   ⟨.e 26, .mv, [.t 9], none⟩,
   ⟨.e 27, .bin .add, [.t 26, .k (.int .i64 1)], none⟩,
   ⟨.e 9, .mv, [.t 27], none⟩] [0, 1, 7, 8, 9] [])))
noncomputable def L43_2 : AC := .loop [0, 1, 7, 11, 12, 13, 14, 15] [] (
 .seq (.seq (.reg [
   ⟨.e 58, .mv, [.t 15], none⟩,
   ⟨.e 59, .mv, [.t 1], none⟩,
   ⟨.e 60, .len false, [.t 59], none⟩,
   ⟨.e 61, .bin .lss, [.t 58, .t 60], none⟩,
   ⟨.e 62, .mv, [.t 61], none⟩,
   ⟨.e 63, .mv, [.t 14], some (62, true)⟩,
   ⟨.e 64, .bin .lss, [.t 63, .k (.int .i64 0)], some (62, true)⟩,
   ⟨.e 65, .pick, [.t 62, .t 64, .k (.bool false)], none⟩] [0, 1, 7, 11, 12, 13, 14, 15, 65] []) (
 .cond (.t 65)
  (.skip)
  (.exit 4))) (
 .seq (.block 5 (
  .seq (.dreg [
    ⟨.e 68, .mv, [.t 1], none⟩,
    ⟨.e 69, .mv, [.t 15], none⟩,
    ⟨.a 70, .ia 4, [.t 68, .t 69], none⟩,
    ⟨.a 71, .fa 0, [.a 70], none⟩,
    ⟨.e 72, .ld false 1, [.a 71], none⟩,
    ⟨.e 73, .mv, [.t 12], none⟩,
    ⟨.e 74, .bin .eql, [.t 72, .t 73], none⟩,
    ⟨.e 75, .mv, [.t 74], none⟩,
    ⟨.e 76, .mv, [.t 0], some (75, true)⟩,
    ⟨.e 77, .mv, [.t 1], some (75, true)⟩,
    ⟨.e 78, .mv, [.t 1], some (75, true)⟩,
    ⟨.e 79, .mv, [.t 15], some (75, true)⟩,
    ⟨.a 80, .ia 4, [.t 78, .t 79], some (75, true)⟩,
    ⟨.a 81, .fa 1, [.a 80], some (75, true)⟩,
    ⟨.e 82, .ld false 1, [.a 81], some (75, true)⟩,
    ⟨.e 83, .call 109, [.t 76, .t 77, .t 82], some (75, true)⟩,
    ⟨.e 84, .mv, [.t 1], some (75, true)⟩,
    ⟨.e 85, .mv, [.t 7], some (75, true)⟩,
    ⟨.a 86, .ia 4, [.t 84, .t 85], some (75, true)⟩,
    ⟨.a 87, .fa 0, [.a 86], some (75, true)⟩,
    ⟨.e 88, .ld false 1, [.a 87], some (75, true)⟩,
    ⟨.a 89, .ia 1, [.t 83, .t 88], some (75, true)⟩,
    ⟨.e 90, .ld false 1, [.a 89], some (75, true)⟩,
    ⟨.e 91, .mv, [.t 13], some (75, true)⟩,
    ⟨.e 92, .bin .sub, [.t 91, .k (.int .i64 1)], some (75, true)⟩,
    ⟨.e 93, .bin .eql, [.t 90, .t 92], some (75, true)⟩,
    ⟨.e 94, .pick, [.t 75, .t 93, .k (.bool false)], none⟩] [] [0, 1, 7, 11, 12, 13, 14, 15, 94] []) (
  .cond (.t 94)
   (.reg [
      ⟨.e 95, .mv, [.t 15], none⟩,
      ⟨.e 14, .mv, [.t 95], none⟩] [0, 1, 7, 11, 12, 13, 14, 15] [])
   (.skip)))) (
 .reg [
   ⟨.e 66, .mv, [.t 15], none⟩,
   ⟨.e 67, .bin .add, [.t 66, .k (.int .i64 1)], none⟩,
   ⟨.e 15, .mv, [.t 67], none⟩] [0, 1, 7, 11, 12, 13, 14, 15] [])))
noncomputable def L43_3 : AC := .loop [0, 1, 7, 11, 12, 13] [] (
 .seq (.seq (.reg [
   ⟨.e 56, .mv, [.t 13], none⟩,
   ⟨.e 57, .bin .gtr, [.t 56, .k (.int .i64 0)], none⟩] [0, 1, 7, 11, 12, 13, 57] []) (
 .cond (.t 57)
  (.skip)
  (.exit 2))) (
 .block 3 (
  .seq (.reg [
    ⟨.e 14, .mv, [.k (.int .i64 (-1))], none⟩] [0, 1, 7, 11, 12, 13, 14] []) (
  .seq (.seq (.reg [
    ⟨.e 15, .mv, [.k (.int .i64 0)], none⟩] [0, 1, 7, 11, 12, 13, 14, 15] []) (
  .block 4 (
   L43_2))) (
  .seq (.seq (.reg [
    ⟨.e 96, .mv, [.t 14], none⟩,
    ⟨.e 97, .bin .lss, [.t 96, .k (.int .i64 0)], none⟩] [0, 1, 7, 11, 13, 14, 97] []) (
  .cond (.t 97)
   (.seq (.reg [
      ⟨.e 98, .mv, [.t 11], none⟩,
      ⟨.e 4, .mv, [.t 98], none⟩,
      ⟨.e 5, .mv, [.k (.int .i64 0)], none⟩] [4, 5] []) (
    .ret))
   (.skip))) (
  .seq (.reg [
    ⟨.e 99, .mv, [.t 11], none⟩,
    ⟨.e 100, .mv, [.t 14], none⟩,
    ⟨.e 101, .lit 1 1 (.int .i64 0) [0], [.t 100], none⟩,
    ⟨.e 102, .app 1, [.t 99, .t 101], none⟩,
    ⟨.e 11, .mv, [.t 102], none⟩] [0, 1, 7, 11, 13, 14] []) (
  .reg [
    ⟨.e 103, .mv, [.t 1], none⟩,
    ⟨.e 104, .mv, [.t 14], none⟩,
    ⟨.a 105, .ia 4, [.t 103, .t 104], none⟩,
    ⟨.a 106, .fa 1, [.a 105], none⟩,
    ⟨.e 107, .ld false 1, [.a 106], none⟩,
    ⟨.e 108, .mv, [.t 13], none⟩,
    ⟨.e 109, .bin .sub, [.t 108, .k (.int .i64 1)], none⟩,
    ⟨.e 12, .mv, [.t 107], none⟩,
    ⟨.e 13, .mv, [.t 109], none⟩] [0, 1, 7, 11, 12, 13] [])))))))
noncomputable def c43 : Fn := ⟨2, 121695312336006271704061699948544, 0, true, [.t 4, .t 5],
 .seq (.reg [
   ⟨.e 4, .mv, [.k .nil], none⟩,
   ⟨.e 5, .mv, [.k (.int .i64 0)], none⟩] [0, 1] []) (
 .seq (.reg [
   ⟨.e 16, .mv, [.t 0], none⟩,
   ⟨.e 17, .mv, [.t 1], none⟩,
   ⟨.e 18, .call 108, [.t 16, .t 17], none⟩,
   ⟨.e 6, .mv, [.t 18], none⟩] [0, 1, 6] []) (
 .seq (.seq (.reg [
   ⟨.e 19, .mv, [.t 6], none⟩,
   ⟨.e 20, .bin .neq, [.t 19, .k (.int .i64 0)], none⟩] [0, 1, 6, 20] []) (
 .cond (.t 20)
  (.seq (.reg [
     ⟨.e 21, .mv, [.t 6], none⟩,
     ⟨.e 4, .mv, [.k .nil], none⟩,
     ⟨.e 5, .mv, [.t 21], none⟩] [4, 5] []) (
   .ret))
  (.skip))) (
 .seq (.reg [
   ⟨.e 7, .mv, [.k (.int .i64 (-1))], none⟩,
   ⟨.e 8, .mv, [.k (.int .i64 (-1))], none⟩] [0, 1, 7, 8] []) (
 .seq (.seq (.reg [
   ⟨.e 9, .mv, [.k (.int .i64 0)], none⟩] [0, 1, 7, 8, 9] []) (
 .block 0 (
  L43_1))) (
 .seq (.seq (.reg [
   ⟨.e 45, .mv, [.t 7], none⟩,
   ⟨.e 46, .bin .lss, [.t 45, .k (.int .i64 0)], none⟩] [0, 1, 7, 8, 46] []) (
 .cond (.t 46)
  (.seq (.reg [
     ⟨.e 4, .mv, [.k .nil], none⟩,
     ⟨.e 5, .mv, [.k (.int .i64 0)], none⟩] [4, 5] []) (
   .ret))
  (.skip))) (
 .seq (.reg [
   ⟨.e 47, .mv, [.t 7], none⟩,
   ⟨.e 48, .hlit 1 1 (.int .i64 0) [0], [.t 47], none⟩,
   ⟨.e 11, .mv, [.t 48], none⟩] [0, 1, 7, 8, 11] []) (
 .seq (.reg [
   ⟨.e 49, .mv, [.t 1], none⟩,
   ⟨.e 50, .mv, [.t 7], none⟩,
   ⟨.a 51, .ia 4, [.t 49, .t 50], none⟩,
   ⟨.a 52, .fa 1, [.a 51], none⟩,
   ⟨.e 53, .ld false 1, [.a 52], none⟩,
   ⟨.e 54, .mv, [.t 8], none⟩,
   ⟨.e 55, .bin .sub, [.t 54, .k (.int .i64 1)], none⟩,
   ⟨.e 12, .mv, [.t 53], none⟩,
   ⟨.e 13, .mv, [.t 55], none⟩] [0, 1, 7, 11, 12, 13] []) (
 .seq (.block 2 (
  L43_3)) (
 .seq (.reg [
   ⟨.e 110, .mv, [.t 11], none⟩,
   ⟨.e 4, .mv, [.t 110], none⟩,
   ⟨.e 5, .mv, [.k (.int .i64 0)], none⟩] [4, 5] []) (
 .ret))))))))))⟩
/- estovers/estoversref42.Levels -/
noncomputable def L44_1 : AC := .loop [0, 1, 7, 8] [] (
 .seq (.seq (.reg [
   ⟨.e 18, .mv, [.t 8], none⟩,
   ⟨.e 19, .mv, [.t 0], none⟩,
   ⟨.e 20, .bin .lss, [.t 18, .t 19], none⟩] [0, 1, 7, 8, 20] []) (
 .cond (.t 20)
  (.skip)
  (.exit 0))) (
 .seq (.block 1 (
  .reg [
    ⟨.e 23, .mv, [.t 7], none⟩,
    ⟨.e 24, .lit 1 1 (.int .i64 0) [0], [.k (.int .i64 0)], none⟩,
    ⟨.e 25, .app 1, [.t 23, .t 24], none⟩,
    ⟨.e 7, .mv, [.t 25], none⟩] [0, 1, 7, 8] [])) (
 .reg [
   ⟨.e 21, .mv, [.t 8], none⟩,
   ⟨.e 22, .bin .add, [.t 21, .k (.int .i64 1)], none⟩,
   ⟨.e 8, .mv, [.t 22], none⟩] [0, 1, 7, 8] [])))
noncomputable def L44_2 : AC := .loop [0, 1, 7, 9, 10, 11] [] (
 .seq (.seq (.reg [
   ⟨.e 31, .mv, [.t 11], none⟩,
   ⟨.e 32, .mv, [.t 1], none⟩,
   ⟨.e 33, .len false, [.t 32], none⟩,
   ⟨.e 34, .bin .lss, [.t 31, .t 33], none⟩] [0, 1, 7, 9, 10, 11, 34] []) (
 .cond (.t 34)
  (.skip)
  (.exit 4))) (
 .seq (.block 5 (
  .seq (.dreg [
    ⟨.e 37, .mv, [.t 7], none⟩,
    ⟨.e 38, .mv, [.t 1], none⟩,
    ⟨.e 39, .mv, [.t 11], none⟩,
    ⟨.a 40, .ia 4, [.t 38, .t 39], none⟩,
    ⟨.a 41, .fa 0, [.a 40], none⟩,
    ⟨.e 42, .ld false 1, [.a 41], none⟩,
    ⟨.a 43, .ia 1, [.t 37, .t 42], none⟩,
    ⟨.e 44, .ld false 1, [.a 43], none⟩,
    ⟨.e 45, .mv, [.t 7], none⟩,
    ⟨.e 46, .mv, [.t 1], none⟩,
    ⟨.e 47, .mv, [.t 11], none⟩,
    ⟨.a 48, .ia 4, [.t 46, .t 47], none⟩,
    ⟨.a 49, .fa 1, [.a 48], none⟩,
    ⟨.e 50, .ld false 1, [.a 49], none⟩,
    ⟨.a 51, .ia 1, [.t 45, .t 50], none⟩,
    ⟨.e 52, .ld false 1, [.a 51], none⟩,
    ⟨.e 53, .bin .add, [.t 52, .k (.int .i64 1)], none⟩,
    ⟨.e 54, .bin .lss, [.t 44, .t 53], none⟩] [] [0, 1, 7, 9, 10, 11, 54] []) (
  .cond (.t 54)
   (.seq (.dreg [
      ⟨.e 55, .mv, [.t 7], none⟩,
      ⟨.e 56, .mv, [.t 1], none⟩,
      ⟨.e 57, .mv, [.t 11], none⟩,
      ⟨.a 58, .ia 4, [.t 56, .t 57], none⟩,
      ⟨.a 59, .fa 0, [.a 58], none⟩,
      ⟨.e 60, .ld false 1, [.a 59], none⟩,
      ⟨.e 61, .mv, [.t 7], none⟩,
      ⟨.e 62, .mv, [.t 1], none⟩,
      ⟨.e 63, .mv, [.t 11], none⟩,
      ⟨.a 64, .ia 4, [.t 62, .t 63], none⟩,
      ⟨.a 65, .fa 1, [.a 64], none⟩,
      ⟨.e 66, .ld false 1, [.a 65], none⟩,
      ⟨.a 67, .ia 1, [.t 61, .t 66], none⟩,
      ⟨.e 68, .ld false 1, [.a 67], none⟩,
      ⟨.e 69, .bin .add, [.t 68, .k (.int .i64 1)], none⟩,
      ⟨.a 70, .ia 1, [.t 55, .t 60], none⟩,
      ⟨.n, .st 1, [.a 70, .t 69], none⟩] [] [0, 1, 7, 9, 11] []) (
    .reg [
      ⟨.e 10, .mv, [.k (.bool true)], none⟩] [0, 1, 7, 9, 10, 11] []))
   (.skip)))) (
 .reg [
   ⟨.e 35, .mv, [.t 11], none⟩,
   ⟨.e 36, .bin .add, [.t 35, .k (.int .i64 1)], none⟩,
   ⟨.e 11, .mv, [.t 36], none⟩] [0, 1, 7, 9, 10, 11] [])))
noncomputable def L44_3 : AC := .loop [0, 1, 7, 9] [] (
 .seq (.seq (.reg [
   ⟨.e 26, .mv, [.t 9], none⟩,
   ⟨.e 27, .mv, [.t 0], none⟩,
   ⟨.e 28, .bin .leq, [.t 26, .t 27], none⟩] [0, 1, 7, 9, 28] []) (
 .cond (.t 28)
  (.skip)
  (.exit 2))) (
 .seq (.block 3 (
  .seq (.reg [
    ⟨.e 10, .mv, [.k (.bool false)], none⟩] [0, 1, 7, 9, 10] []) (
  .seq (.seq (.reg [
    ⟨.e 11, .mv, [.k (.int .i64 0)], none⟩] [0, 1, 7, 9, 10, 11] []) (
  .block 4 (
   L44_2))) (
  .seq (.reg [
    ⟨.e 71, .mv, [.t 10], none⟩,
    ⟨.e 72, .not, [.t 71], none⟩] [0, 1, 7, 9, 72] []) (
  .cond (.t 72)
   (.seq (.reg [
      ⟨.e 73, .mv, [.t 7], none⟩,
      ⟨.e 4, .mv, [.t 73], none⟩,
      ⟨.e 5, .mv, [.k (.int .i64 0)], none⟩] [4, 5] []) (
    .ret))
   (.skip)))))) (
 .reg [
   ⟨.e 29, .mv, [.t 9], none⟩,
   ⟨.e 30, .bin .add, [.t 29, .k (.int .i64 1)], none⟩,
   ⟨.e 9, .mv, [.t 30], none⟩] [0, 1, 7, 9] [])))
noncomputable def c44 : Fn := ⟨2, 1384373604976043229184, 0, true, [.t 4, .t 5],
 .seq (.reg [
   ⟨.e 4, .mv, [.k .nil], none⟩,
   ⟨.e 5, .mv, [.k (.int .i64 0)], none⟩] [0, 1] []) (
 .seq (.reg [
   ⟨.e 12, .mv, [.t 0], none⟩,
   ⟨.e 13, .mv, [.t 1], none⟩,
   ⟨.e 14, .call 108, [.t 12, .t 13], none⟩,
   ⟨.e 6, .mv, [.t 14], none⟩] [0, 1, 6] []) (
 .seq (.seq (.reg [
   ⟨.e 15, .mv, [.t 6], none⟩,
   ⟨.e 16, .bin .neq, [.t 15, .k (.int .i64 0)], none⟩] [0, 1, 6, 16] []) (
 .cond (.t 16)
  (.seq (.reg [
     ⟨.e 17, .mv, [.t 6], none⟩,
     ⟨.e 4, .mv, [.k .nil], none⟩,
     ⟨.e 5, .mv, [.t 17], none⟩] [4, 5] []) (
   .ret))
  (.skip))) (
 .seq (.reg [
   ⟨.e 7, .mv, [.k .nil], none⟩] [0, 1, 7] []) (
 .seq (.seq (.reg [
   ⟨.e 8, .mv, [.k (.int .i64 0)], none⟩] [0, 1, 7, 8] []) (
 .block 0 (
  L44_1))) (
 .seq (.seq (.reg [
   ⟨.e 9, .mv, [.k (.int .i64 0)], none⟩] [0, 1, 7, 9] []) (
 .block 2 (
  L44_3))) (
 .seq (.reg [
   ⟨.e 4, .mv, [.k .nil], none⟩,
   ⟨.e 5, .mv, [.k (.int .i64 10)], none⟩] [4, 5] []) (
 .ret)))))))⟩
/- estovers/estoverslaw42.nodes -/
noncomputable def L46_1 : AC := .loop [6, 7, 14, 15, 16] [] (
 .seq (.reg [
   ⟨.e 17, .bin .lss, [.t 16, .t 15], none⟩] [6, 7, 14, 15, 16, 17] []) (
 .seq (.cond (.t 17)
  (.skip)
  (.exit 0)) (
 .seq (.block 1 (
  .seq (.reg [
    ⟨.a 18, .ia 2, [.t 14, .t 16], none⟩,
    ⟨.e 19, .ld true 2, [.a 18], none⟩,
    ⟨.x 9, .box, [.k (.agg [(.int .u8 0), (.int .u8 0)])], none⟩,
    ⟨.n, .st 2, [.b 9, .t 19], none⟩] [6, 7, 14, 15, 16] [9]) (
  .dreg [
    ⟨.e 20, .mv, [.t 7], none⟩,
    ⟨.a 21, .iaa 2 1, [.b 9, .k (.int .i64 0)], none⟩,
    ⟨.e 22, .ld false 1, [.a 21], none⟩,
    ⟨.e 23, .cvt .i64, [.t 22], none⟩,
    ⟨.e 24, .mv, [.t 6], none⟩,
    ⟨.e 25, .bin .rem, [.t 23, .t 24], none⟩,
    ⟨.a 26, .iaa 2 1, [.b 9, .k (.int .i64 1)], none⟩,
    ⟨.e 27, .ld false 1, [.a 26], none⟩,
    ⟨.e 28, .cvt .i64, [.t 27], none⟩,
    ⟨.e 29, .mv, [.t 6], none⟩,
    ⟨.e 30, .bin .rem, [.t 28, .t 29], none⟩,
    ⟨.e 31, .bld [(.int .i64 0), (.int .i64 0), (.int .i64 0), (.int .i64 0)] [(0, 1), (1, 1)], [.t 25, .t 30], none⟩,
    ⟨.e 32, .lit 4 1 (.agg [(.int .i64 0), (.int .i64 0), (.int .i64 0), (.int .i64 0)]) [0], [.t 31], none⟩,
    ⟨.e 33, .app 4, [.t 20, .t 32], none⟩,
    ⟨.e 7, .mv, [.t 33], none⟩] [] [6, 7, 14, 15, 16] []))) (
 .reg [
   ⟨.e 34, .bin .add, [.t 16, .k (.int .i64 1)], none⟩,
   ⟨.e 16, .mv, [.t 34], none⟩] [6, 7, 14, 15, 16] []))))
noncomputable def c46 : Fn := ⟨2, 69468160, 512, true, [.t 4, .t 5],
 .seq (.reg [
   ⟨.e 4, .mv, [.k (.int .i64 0)], none⟩,
   ⟨.e 5, .mv, [.k .nil], none⟩] [0, 1] []) (
 .seq (.reg [
   ⟨.e 10, .mv, [.t 0], none⟩,
   ⟨.e 11, .cvt .i64, [.t 10], none⟩,
   ⟨.e 12, .bin .rem, [.t 11, .k (.int .i64 12)], none⟩,
   ⟨.e 13, .bin .add, [.k (.int .i64 1), .t 12], none⟩,
   ⟨.e 6, .mv, [.t 13], none⟩] [1, 6] []) (
 .seq (.reg [
   ⟨.e 7, .mv, [.k .nil], none⟩] [1, 6, 7] []) (
 .seq (.seq (.reg [
   ⟨.e 14, .mv, [.t 1], none⟩,
   ⟨.e 15, .len false, [.t 14], none⟩,
   ⟨.e 16, .mv, [.k (.int .i64 0)], none⟩] [6, 7, 14, 15, 16] []) (
 .block 0 (
  L46_1))) (
 .seq (.reg [
   ⟨.e 35, .mv, [.t 6], none⟩,
   ⟨.e 36, .mv, [.t 7], none⟩,
   ⟨.e 4, .mv, [.t 35], none⟩,
   ⟨.e 5, .mv, [.t 36], none⟩] [4, 5] []) (
 .ret)))))⟩
/- estovers/estoverslaw42.reaches -/
noncomputable def L47_1 : AC := .loop [0, 1, 5, 15, 16] [] (
 .seq (.reg [
   ⟨.e 17, .bin .lss, [.t 16, .t 15], none⟩] [0, 1, 5, 15, 16, 17] []) (
 .seq (.cond (.t 17)
  (.skip)
  (.exit 0)) (
 .seq (.block 1 (
  .seq (.reg [
    ⟨.e 18, .mv, [.t 16], none⟩,
    ⟨.e 6, .mv, [.t 18], none⟩] [0, 1, 5, 6, 15, 16] []) (
  .reg [
    ⟨.e 19, .mv, [.t 5], none⟩,
    ⟨.e 20, .mv, [.t 6], none⟩,
    ⟨.e 21, .mv, [.t 0], none⟩,
    ⟨.e 22, .mk 1 (.bool false), [.t 21], none⟩,
    ⟨.a 23, .ia 1, [.t 19, .t 20], none⟩,
    ⟨.n, .st 1, [.a 23, .t 22], none⟩] [0, 1, 5, 15, 16] []))) (
 .reg [
   ⟨.e 24, .bin .add, [.t 16, .k (.int .i64 1)], none⟩,
   ⟨.e 16, .mv, [.t 24], none⟩] [0, 1, 5, 15, 16] []))))
noncomputable def L47_2 : AC := .loop [0, 5, 25, 26, 27] [] (
 .seq (.reg [
   ⟨.e 28, .bin .lss, [.t 27, .t 26], none⟩] [0, 5, 25, 26, 27, 28] []) (
 .seq (.cond (.t 28)
  (.skip)
  (.exit 2)) (
 .seq (.block 3 (
  .seq (.reg [
    ⟨.a 29, .ia 4, [.t 25, .t 27], none⟩,
    ⟨.e 30, .ld true 4, [.a 29], none⟩,
    ⟨.x 8, .box, [.k (.agg [(.int .i64 0), (.int .i64 0), (.int .i64 0), (.int .i64 0)])], none⟩,
    ⟨.n, .st 4, [.b 8, .t 30], none⟩] [0, 5, 25, 26, 27] [8]) (
  .dreg [
    ⟨.e 31, .mv, [.t 5], none⟩,
    ⟨.a 32, .fa 0, [.b 8], none⟩,
    ⟨.e 33, .ld false 1, [.a 32], none⟩,
    ⟨.a 34, .ia 1, [.t 31, .t 33], none⟩,
    ⟨.e 35, .ld false 1, [.a 34], none⟩,
    ⟨.a 36, .fa 1, [.b 8], none⟩,
    ⟨.e 37, .ld false 1, [.a 36], none⟩,
    ⟨.a 38, .ia 1, [.t 35, .t 37], none⟩,
    ⟨.n, .st 1, [.a 38, .k (.bool true)], none⟩] [] [0, 5, 25, 26, 27] []))) (
 .reg [
   ⟨.e 39, .bin .add, [.t 27, .k (.int .i64 1)], none⟩,
   ⟨.e 27, .mv, [.t 39], none⟩] [0, 5, 25, 26, 27] []))))
noncomputable def L47_3 : AC := .loop [0, 5, 9, 10, 40, 41, 44, 45, 48, 49] [] (
 .seq (.reg [
   ⟨.e 50, .bin .lss, [.t 49, .t 48], none⟩] [0, 5, 9, 10, 40, 41, 44, 45, 48, 49, 50] []) (
 .seq (.cond (.t 50)
  (.skip)
  (.exit 8)) (
 .seq (.block 9 (
  .seq (.reg [
    ⟨.e 51, .mv, [.t 49], none⟩,
    ⟨.e 11, .mv, [.t 51], none⟩] [0, 5, 9, 10, 11, 40, 41, 44, 45, 48, 49] []) (
  .dreg [
    ⟨.e 52, .mv, [.t 5], none⟩,
    ⟨.e 53, .mv, [.t 10], none⟩,
    ⟨.a 54, .ia 1, [.t 52, .t 53], none⟩,
    ⟨.e 55, .ld false 1, [.a 54], none⟩,
    ⟨.e 56, .mv, [.t 11], none⟩,
    ⟨.e 57, .mv, [.t 5], none⟩,
    ⟨.e 58, .mv, [.t 10], none⟩,
    ⟨.a 59, .ia 1, [.t 57, .t 58], none⟩,
    ⟨.e 60, .ld false 1, [.a 59], none⟩,
    ⟨.e 61, .mv, [.t 11], none⟩,
    ⟨.a 62, .ia 1, [.t 60, .t 61], none⟩,
    ⟨.e 63, .ld false 1, [.a 62], none⟩,
    ⟨.e 64, .mv, [.t 63], none⟩,
    ⟨.e 65, .mv, [.t 5], some (64, false)⟩,
    ⟨.e 66, .mv, [.t 10], some (64, false)⟩,
    ⟨.a 67, .ia 1, [.t 65, .t 66], some (64, false)⟩,
    ⟨.e 68, .ld false 1, [.a 67], some (64, false)⟩,
    ⟨.e 69, .mv, [.t 9], some (64, false)⟩,
    ⟨.a 70, .ia 1, [.t 68, .t 69], some (64, false)⟩,
    ⟨.e 71, .ld false 1, [.a 70], some (64, false)⟩,
    ⟨.e 72, .mv, [.t 71], some (64, false)⟩,
    ⟨.e 73, .mv, [.t 5], some (72, true)⟩,
    ⟨.e 74, .mv, [.t 9], some (72, true)⟩,
    ⟨.a 75, .ia 1, [.t 73, .t 74], some (72, true)⟩,
    ⟨.e 76, .ld false 1, [.a 75], some (72, true)⟩,
    ⟨.e 77, .mv, [.t 11], some (72, true)⟩,
    ⟨.a 78, .ia 1, [.t 76, .t 77], some (72, true)⟩,
    ⟨.e 79, .ld false 1, [.a 78], some (72, true)⟩,
    ⟨.e 80, .pick, [.t 72, .t 79, .k (.bool false)], some (64, false)⟩,
    ⟨.e 81, .pick, [.t 64, .k (.bool true), .t 80], none⟩,
    ⟨.a 82, .ia 1, [.t 55, .t 56], none⟩,
    ⟨.n, .st 1, [.a 82, .t 81], none⟩] [] [0, 5, 9, 10, 40, 41, 44, 45, 48, 49] []))) (
 .reg [
   ⟨.e 83, .bin .add, [.t 49, .k (.int .i64 1)], none⟩,
   ⟨.e 49, .mv, [.t 83], none⟩] [0, 5, 9, 10, 40, 41, 44, 45, 48, 49] []))))
noncomputable def L47_4 : AC := .loop [0, 5, 9, 40, 41, 44, 45] [] (
 .seq (.reg [
   ⟨.e 46, .bin .lss, [.t 45, .t 44], none⟩] [0, 5, 9, 40, 41, 44, 45, 46] []) (
 .seq (.cond (.t 46)
  (.skip)
  (.exit 6)) (
 .seq (.block 7 (
  .seq (.reg [
    ⟨.e 47, .mv, [.t 45], none⟩,
    ⟨.e 10, .mv, [.t 47], none⟩] [0, 5, 9, 10, 40, 41, 44, 45] []) (
  .seq (.reg [
    ⟨.e 48, .mv, [.t 0], none⟩,
    ⟨.e 49, .mv, [.k (.int .i64 0)], none⟩] [0, 5, 9, 10, 40, 41, 44, 45, 48, 49] []) (
  .block 8 (
   L47_3))))) (
 .reg [
   ⟨.e 84, .bin .add, [.t 45, .k (.int .i64 1)], none⟩,
   ⟨.e 45, .mv, [.t 84], none⟩] [0, 5, 9, 40, 41, 44, 45] []))))
noncomputable def L47_5 : AC := .loop [0, 5, 40, 41] [] (
 .seq (.reg [
   ⟨.e 42, .bin .lss, [.t 41, .t 40], none⟩] [0, 5, 40, 41, 42] []) (
 .seq (.cond (.t 42)
  (.skip)
  (.exit 4)) (
 .seq (.block 5 (
  .seq (.reg [
    ⟨.e 43, .mv, [.t 41], none⟩,
    ⟨.e 9, .mv, [.t 43], none⟩] [0, 5, 9, 40, 41] []) (
  .seq (.reg [
    ⟨.e 44, .mv, [.t 0], none⟩,
    ⟨.e 45, .mv, [.k (.int .i64 0)], none⟩] [0, 5, 9, 40, 41, 44, 45] []) (
  .block 6 (
   L47_4))))) (
 .reg [
   ⟨.e 85, .bin .add, [.t 41, .k (.int .i64 1)], none⟩,
   ⟨.e 41, .mv, [.t 85], none⟩] [0, 5, 40, 41] []))))
noncomputable def c47 : Fn := ⟨2, 5177047036959973099700224, 256, true, [.t 4],
 .seq (.reg [
   ⟨.e 4, .mv, [.k .nil], none⟩] [0, 1] []) (
 .seq (.reg [
   ⟨.e 12, .mv, [.t 0], none⟩,
   ⟨.e 13, .mk 1 .nil, [.t 12], none⟩,
   ⟨.e 5, .mv, [.t 13], none⟩] [0, 1, 5] []) (
 .seq (.seq (.reg [
   ⟨.e 14, .mv, [.t 5], none⟩,
   ⟨.e 15, .len false, [.t 14], none⟩,
   ⟨.e 16, .mv, [.k (.int .i64 0)], none⟩] [0, 1, 5, 15, 16] []) (
 .block 0 (
  L47_1))) (
 .seq (.seq (.reg [
   ⟨.e 25, .mv, [.t 1], none⟩,
   ⟨.e 26, .len false, [.t 25], none⟩,
   ⟨.e 27, .mv, [.k (.int .i64 0)], none⟩] [0, 5, 25, 26, 27] []) (
 .block 2 (
  L47_2))) (
 .seq (.seq (.reg [
   ⟨.e 40, .mv, [.t 0], none⟩,
   ⟨.e 41, .mv, [.k (.int .i64 0)], none⟩] [0, 5, 40, 41] []) (
 .block 4 (
  L47_5))) (
 .seq (.reg [
   ⟨.e 86, .mv, [.t 5], none⟩,
   ⟨.e 4, .mv, [.t 86], none⟩] [4] []) (
 .ret))))))⟩
/- estovers/waitgraph.check -/
noncomputable def L102_1 : AC := .loop [0, 13, 14, 15] [] (
 .seq (.reg [
   ⟨.e 16, .bin .lss, [.t 15, .t 14], none⟩] [0, 13, 14, 15, 16] []) (
 .seq (.cond (.t 16)
  (.skip)
  (.exit 0)) (
 .seq (.block 1 (
  .seq (.reg [
    ⟨.a 17, .ia 4, [.t 13, .t 15], none⟩,
    ⟨.e 18, .ld true 4, [.a 17], none⟩,
    ⟨.x 6, .box, [.k (.agg [(.int .i64 0), (.int .i64 0), (.int .i64 0), (.int .i64 0)])], none⟩,
    ⟨.n, .st 4, [.b 6, .t 18], none⟩] [0, 13, 14, 15] [6]) (
  .seq (.reg [
    ⟨.a 19, .fa 0, [.b 6], none⟩,
    ⟨.e 20, .ld false 1, [.a 19], none⟩,
    ⟨.e 21, .bin .lss, [.t 20, .k (.int .i64 0)], none⟩,
    ⟨.e 22, .mv, [.t 21], none⟩,
    ⟨.a 23, .fa 0, [.b 6], some (22, false)⟩,
    ⟨.e 24, .ld false 1, [.a 23], some (22, false)⟩,
    ⟨.e 25, .mv, [.t 0], some (22, false)⟩,
    ⟨.e 26, .bin .geq, [.t 24, .t 25], some (22, false)⟩,
    ⟨.e 27, .pick, [.t 22, .k (.bool true), .t 26], none⟩,
    ⟨.e 28, .mv, [.t 27], none⟩,
    ⟨.a 29, .fa 1, [.b 6], some (28, false)⟩,
    ⟨.e 30, .ld false 1, [.a 29], some (28, false)⟩,
    ⟨.e 31, .bin .lss, [.t 30, .k (.int .i64 0)], some (28, false)⟩,
    ⟨.e 32, .pick, [.t 28, .k (.bool true), .t 31], none⟩,
    ⟨.e 33, .mv, [.t 32], none⟩,
    ⟨.a 34, .fa 1, [.b 6], some (33, false)⟩,
    ⟨.e 35, .ld false 1, [.a 34], some (33, false)⟩,
    ⟨.e 36, .mv, [.t 0], some (33, false)⟩,
    ⟨.e 37, .bin .geq, [.t 35, .t 36], some (33, false)⟩,
    ⟨.e 38, .pick, [.t 33, .k (.bool true), .t 37], none⟩] [0, 13, 14, 15, 38] []) (
  .cond (.t 38)
   (.seq (.reg [
      ⟨.e 4, .mv, [.k (.int .i64 1)], none⟩] [4] []) (
    .ret))
   (.skip))))) (
 .reg [
   ⟨.e 39, .bin .add, [.t 15, .k (.int .i64 1)], none⟩,
   ⟨.e 15, .mv, [.t 39], none⟩] [0, 13, 14, 15] []))))
noncomputable def c102 : Fn := ⟨2, 17725784064, 64, true, [.t 4],
 .seq (.reg [
   ⟨.e 4, .mv, [.k (.int .i64 0)], none⟩] [0, 1] []) (
 .seq (.seq (.reg [
   ⟨.e 7, .mv, [.t 0], none⟩,
   ⟨.e 8, .bin .lss, [.t 7, .k (.int .i64 0)], none⟩,
   ⟨.e 9, .mv, [.t 8], none⟩,
   ⟨.e 10, .mv, [.t 0], some (9, false)⟩,
   ⟨.e 11, .bin .gtr, [.t 10, .k (.int .i64 4096)], some (9, false)⟩,
   ⟨.e 12, .pick, [.t 9, .k (.bool true), .t 11], none⟩] [0, 1, 12] []) (
 .cond (.t 12)
  (.seq (.reg [
     ⟨.e 4, .mv, [.k (.int .i64 2)], none⟩] [4] []) (
   .ret))
  (.skip))) (
 .seq (.seq (.reg [
   ⟨.e 13, .mv, [.t 1], none⟩,
   ⟨.e 14, .len false, [.t 13], none⟩,
   ⟨.e 15, .mv, [.k (.int .i64 0)], none⟩] [0, 13, 14, 15] []) (
 .block 0 (
  L102_1))) (
 .seq (.reg [
   ⟨.e 4, .mv, [.k (.int .i64 0)], none⟩] [4] []) (
 .ret))))⟩
/- estovers/waitgraph.leaving -/
noncomputable def L103_1 : AC := .loop [5, 10, 11, 12] [] (
 .seq (.reg [
   ⟨.e 13, .bin .lss, [.t 12, .t 11], none⟩] [5, 10, 11, 12, 13] []) (
 .seq (.cond (.t 13)
  (.skip)
  (.exit 0)) (
 .seq (.block 1 (
  .seq (.reg [
    ⟨.e 14, .mv, [.t 12], none⟩,
    ⟨.a 15, .ia 4, [.t 10, .t 12], none⟩,
    ⟨.e 16, .ld true 4, [.a 15], none⟩,
    ⟨.x 7, .box, [.k (.agg [(.int .i64 0), (.int .i64 0), (.int .i64 0), (.int .i64 0)])], none⟩,
    ⟨.e 6, .mv, [.t 14], none⟩,
    ⟨.n, .st 4, [.b 7, .t 16], none⟩] [5, 6, 10, 11, 12] [7]) (
  .dreg [
    ⟨.e 17, .mv, [.t 5], none⟩,
    ⟨.a 18, .fa 0, [.b 7], none⟩,
    ⟨.e 19, .ld false 1, [.a 18], none⟩,
    ⟨.e 20, .mv, [.t 5], none⟩,
    ⟨.a 21, .fa 0, [.b 7], none⟩,
    ⟨.e 22, .ld false 1, [.a 21], none⟩,
    ⟨.a 23, .ia 1, [.t 20, .t 22], none⟩,
    ⟨.e 24, .ld false 1, [.a 23], none⟩,
    ⟨.e 25, .mv, [.t 6], none⟩,
    ⟨.e 26, .lit 1 1 (.int .i64 0) [0], [.t 25], none⟩,
    ⟨.e 27, .app 1, [.t 24, .t 26], none⟩,
    ⟨.a 28, .ia 1, [.t 17, .t 19], none⟩,
    ⟨.n, .st 1, [.a 28, .t 27], none⟩] [(2, 10)] [5, 10, 11, 12] []))) (
 .reg [
   ⟨.e 29, .bin .add, [.t 12, .k (.int .i64 1)], none⟩,
   ⟨.e 12, .mv, [.t 29], none⟩] [5, 10, 11, 12] []))))
noncomputable def c103 : Fn := ⟨2, 279216128, 128, true, [.t 4],
 .seq (.reg [
   ⟨.e 4, .mv, [.k .nil], none⟩] [0, 1] []) (
 .seq (.reg [
   ⟨.e 8, .mv, [.t 0], none⟩,
   ⟨.e 9, .mk 1 .nil, [.t 8], none⟩,
   ⟨.e 5, .mv, [.t 9], none⟩] [1, 5] []) (
 .seq (.seq (.reg [
   ⟨.e 10, .mv, [.t 1], none⟩,
   ⟨.e 11, .len false, [.t 10], none⟩,
   ⟨.e 12, .mv, [.k (.int .i64 0)], none⟩] [5, 10, 11, 12] []) (
 .block 0 (
  L103_1))) (
 .seq (.reg [
   ⟨.e 30, .mv, [.t 5], none⟩,
   ⟨.e 4, .mv, [.t 30], none⟩] [4] []) (
 .ret))))⟩
/- (*estovers/waitgraph.search).visit -/
noncomputable def L104_1 : AC := .loop [0, 1, 61, 62, 63] [] (
 .seq (.reg [
   ⟨.e 64, .bin .lss, [.t 63, .t 62], none⟩] [0, 1, 61, 62, 63, 64] []) (
 .seq (.cond (.t 64)
  (.skip)
  (.exit 0)) (
 .seq (.block 1 (
  .seq (.reg [
    ⟨.a 65, .ia 1, [.t 61, .t 63], none⟩,
    ⟨.e 66, .ld false 1, [.a 65], none⟩,
    ⟨.e 5, .mv, [.t 66], none⟩] [0, 1, 5, 61, 62, 63] []) (
  .seq (.reg [
    ⟨.e 67, .mv, [.t 0], none⟩,
    ⟨.a 68, .nc, [.t 67], none⟩,
    ⟨.a 69, .fa 0, [.a 68], none⟩,
    ⟨.e 70, .ld false 1, [.a 69], none⟩,
    ⟨.e 71, .mv, [.t 5], none⟩,
    ⟨.a 72, .ia 4, [.t 70, .t 71], none⟩,
    ⟨.a 73, .fa 1, [.a 72], none⟩,
    ⟨.e 74, .ld false 1, [.a 73], none⟩,
    ⟨.e 6, .mv, [.t 74], none⟩] [0, 1, 6, 61, 62, 63] []) (
  .seq (.reg [
    ⟨.e 75, .mv, [.t 0], none⟩,
    ⟨.a 76, .nc, [.t 75], none⟩,
    ⟨.a 77, .fa 2, [.a 76], none⟩,
    ⟨.e 78, .ld false 1, [.a 77], none⟩,
    ⟨.e 79, .mv, [.t 6], none⟩,
    ⟨.a 80, .ia 1, [.t 78, .t 79], none⟩,
    ⟨.e 81, .ld false 1, [.a 80], none⟩,
    ⟨.e 82, .bin .eql, [.t 81, .k (.int .i64 0)], none⟩] [0, 1, 6, 61, 62, 63, 82] []) (
  .cond (.t 82)
   (.seq (.reg [
      ⟨.e 83, .mv, [.t 0], none⟩,
      ⟨.e 84, .mv, [.t 6], none⟩,
      ⟨.e 85, .call 104, [.t 83, .t 84], none⟩] [0, 1, 6, 61, 62, 63] []) (
    .dreg [
      ⟨.e 86, .mv, [.t 0], none⟩,
      ⟨.a 87, .nc, [.t 86], none⟩,
      ⟨.a 88, .fa 3, [.a 87], none⟩,
      ⟨.e 89, .ld false 1, [.a 88], none⟩,
      ⟨.e 90, .mv, [.t 1], none⟩,
      ⟨.e 91, .mv, [.t 0], none⟩,
      ⟨.a 92, .nc, [.t 91], none⟩,
      ⟨.a 93, .fa 3, [.a 92], none⟩,
      ⟨.e 94, .ld false 1, [.a 93], none⟩,
      ⟨.e 95, .mv, [.t 1], none⟩,
      ⟨.a 96, .ia 1, [.t 94, .t 95], none⟩,
      ⟨.e 97, .ld false 1, [.a 96], none⟩,
      ⟨.e 98, .mv, [.t 0], none⟩,
      ⟨.a 99, .nc, [.t 98], none⟩,
      ⟨.a 100, .fa 3, [.a 99], none⟩,
      ⟨.e 101, .ld false 1, [.a 100], none⟩,
      ⟨.e 102, .mv, [.t 6], none⟩,
      ⟨.a 103, .ia 1, [.t 101, .t 102], none⟩,
      ⟨.e 104, .ld false 1, [.a 103], none⟩,
      ⟨.e 105, .mn, [.t 97, .t 104], none⟩,
      ⟨.a 106, .ia 1, [.t 89, .t 90], none⟩,
      ⟨.n, .st 1, [.a 106, .t 105], none⟩] [] [0, 1, 61, 62, 63] []))
   (.seq (.reg [
      ⟨.e 107, .mv, [.t 0], none⟩,
      ⟨.a 108, .nc, [.t 107], none⟩,
      ⟨.a 109, .fa 4, [.a 108], none⟩,
      ⟨.e 110, .ld false 1, [.a 109], none⟩,
      ⟨.e 111, .mv, [.t 6], none⟩,
      ⟨.a 112, .ia 1, [.t 110, .t 111], none⟩,
      ⟨.e 113, .ld false 1, [.a 112], none⟩] [0, 1, 6, 61, 62, 63, 113] []) (
    .cond (.t 113)
     (.dreg [
        ⟨.e 114, .mv, [.t 0], none⟩,
        ⟨.a 115, .nc, [.t 114], none⟩,
        ⟨.a 116, .fa 3, [.a 115], none⟩,
        ⟨.e 117, .ld false 1, [.a 116], none⟩,
        ⟨.e 118, .mv, [.t 1], none⟩,
        ⟨.e 119, .mv, [.t 0], none⟩,
        ⟨.a 120, .nc, [.t 119], none⟩,
        ⟨.a 121, .fa 3, [.a 120], none⟩,
        ⟨.e 122, .ld false 1, [.a 121], none⟩,
        ⟨.e 123, .mv, [.t 1], none⟩,
        ⟨.a 124, .ia 1, [.t 122, .t 123], none⟩,
        ⟨.e 125, .ld false 1, [.a 124], none⟩,
        ⟨.e 126, .mv, [.t 0], none⟩,
        ⟨.a 127, .nc, [.t 126], none⟩,
        ⟨.a 128, .fa 2, [.a 127], none⟩,
        ⟨.e 129, .ld false 1, [.a 128], none⟩,
        ⟨.e 130, .mv, [.t 6], none⟩,
        ⟨.a 131, .ia 1, [.t 129, .t 130], none⟩,
        ⟨.e 132, .ld false 1, [.a 131], none⟩,
        ⟨.e 133, .mn, [.t 125, .t 132], none⟩,
        ⟨.a 134, .ia 1, [.t 117, .t 118], none⟩,
        ⟨.n, .st 1, [.a 134, .t 133], none⟩] [] [0, 1, 61, 62, 63] [])
     (.skip)))))))) (
 .reg [
   ⟨.e 135, .bin .add, [.t 63, .k (.int .i64 1)], none⟩,
   ⟨.e 63, .mv, [.t 135], none⟩] [0, 1, 61, 62, 63] []))))
noncomputable def L104_2 : AC := .loop [0, 7, 9, 165, 166, 167] [] (
 .seq (.reg [
   ⟨.e 168, .bin .lss, [.t 167, .t 166], none⟩] [0, 7, 9, 165, 166, 167, 168] []) (
 .seq (.cond (.t 168)
  (.skip)
  (.exit 2)) (
 .seq (.block 3 (
  .seq (.reg [
    ⟨.a 169, .ia 1, [.t 165, .t 167], none⟩,
    ⟨.e 170, .ld false 1, [.a 169], none⟩,
    ⟨.e 11, .mv, [.t 170], none⟩] [0, 7, 9, 11, 165, 166, 167] []) (
  .seq (.reg [
    ⟨.e 171, .mv, [.t 0], none⟩,
    ⟨.a 172, .nc, [.t 171], none⟩,
    ⟨.a 173, .fa 4, [.a 172], none⟩,
    ⟨.e 174, .ld false 1, [.a 173], none⟩,
    ⟨.e 175, .mv, [.t 11], none⟩,
    ⟨.a 176, .ia 1, [.t 174, .t 175], none⟩,
    ⟨.n, .st 1, [.a 176, .k (.bool false)], none⟩] [0, 7, 9, 11, 165, 166, 167] []) (
  .reg [
    ⟨.e 177, .mv, [.t 0], none⟩,
    ⟨.a 178, .nc, [.t 177], none⟩,
    ⟨.a 179, .fa 7, [.a 178], none⟩,
    ⟨.e 180, .ld false 1, [.a 179], none⟩,
    ⟨.e 181, .mv, [.t 11], none⟩,
    ⟨.e 182, .mv, [.t 9], none⟩,
    ⟨.a 183, .ia 1, [.t 180, .t 181], none⟩,
    ⟨.n, .st 1, [.a 183, .t 182], none⟩] [0, 7, 9, 165, 166, 167] [])))) (
 .reg [
   ⟨.e 184, .bin .add, [.t 167, .k (.int .i64 1)], none⟩,
   ⟨.e 167, .mv, [.t 184], none⟩] [0, 7, 9, 165, 166, 167] []))))
noncomputable def c104 : Fn := ⟨2, 19433307319141062344011035839198746699525541393337631006720, 0, false, [],
 .seq (.reg [
   ⟨.e 12, .mv, [.t 0], none⟩,
   ⟨.a 13, .nc, [.t 12], none⟩,
   ⟨.a 14, .fa 6, [.a 13], none⟩,
   ⟨.e 15, .ld false 1, [.a 14], none⟩,
   ⟨.e 16, .bin .add, [.t 15, .k (.int .i64 1)], none⟩,
   ⟨.a 17, .nc, [.t 12], none⟩,
   ⟨.a 18, .fa 6, [.a 17], none⟩,
   ⟨.n, .st 1, [.a 18, .t 16], none⟩] [0, 1] []) (
 .seq (.dreg [
   ⟨.e 19, .mv, [.t 0], none⟩,
   ⟨.a 20, .nc, [.t 19], none⟩,
   ⟨.a 21, .fa 2, [.a 20], none⟩,
   ⟨.e 22, .ld false 1, [.a 21], none⟩,
   ⟨.e 23, .mv, [.t 1], none⟩,
   ⟨.e 24, .mv, [.t 0], none⟩,
   ⟨.a 25, .nc, [.t 24], none⟩,
   ⟨.a 26, .fa 3, [.a 25], none⟩,
   ⟨.e 27, .ld false 1, [.a 26], none⟩,
   ⟨.e 28, .mv, [.t 1], none⟩,
   ⟨.e 29, .mv, [.t 0], none⟩,
   ⟨.a 30, .nc, [.t 29], none⟩,
   ⟨.a 31, .fa 6, [.a 30], none⟩,
   ⟨.e 32, .ld false 1, [.a 31], none⟩,
   ⟨.e 33, .mv, [.t 0], none⟩,
   ⟨.a 34, .nc, [.t 33], none⟩,
   ⟨.a 35, .fa 6, [.a 34], none⟩,
   ⟨.e 36, .ld false 1, [.a 35], none⟩,
   ⟨.a 37, .ia 1, [.t 22, .t 23], none⟩,
   ⟨.n, .st 1, [.a 37, .t 32], none⟩,
   ⟨.a 38, .ia 1, [.t 27, .t 28], none⟩,
   ⟨.n, .st 1, [.a 38, .t 36], none⟩] [] [0, 1] []) (
 .seq (.reg [
   ⟨.e 39, .mv, [.t 0], none⟩,
   ⟨.e 40, .mv, [.t 0], none⟩,
   ⟨.a 41, .nc, [.t 40], none⟩,
   ⟨.a 42, .fa 5, [.a 41], none⟩,
   ⟨.e 43, .ld false 1, [.a 42], none⟩,
   ⟨.e 44, .mv, [.t 1], none⟩,
   ⟨.e 45, .lit 1 1 (.int .i64 0) [0], [.t 44], none⟩,
   ⟨.e 46, .app 1, [.t 43, .t 45], none⟩,
   ⟨.a 47, .nc, [.t 39], none⟩,
   ⟨.a 48, .fa 5, [.a 47], none⟩,
   ⟨.n, .st 1, [.a 48, .t 46], none⟩] [0, 1] []) (
 .seq (.reg [
   ⟨.e 49, .mv, [.t 0], none⟩,
   ⟨.a 50, .nc, [.t 49], none⟩,
   ⟨.a 51, .fa 4, [.a 50], none⟩,
   ⟨.e 52, .ld false 1, [.a 51], none⟩,
   ⟨.e 53, .mv, [.t 1], none⟩,
   ⟨.a 54, .ia 1, [.t 52, .t 53], none⟩,
   ⟨.n, .st 1, [.a 54, .k (.bool true)], none⟩] [0, 1] []) (
 .seq (.seq (.reg [
   ⟨.e 55, .mv, [.t 0], none⟩,
   ⟨.a 56, .nc, [.t 55], none⟩,
   ⟨.a 57, .fa 1, [.a 56], none⟩,
   ⟨.e 58, .ld false 1, [.a 57], none⟩,
   ⟨.e 59, .mv, [.t 1], none⟩,
   ⟨.a 60, .ia 1, [.t 58, .t 59], none⟩,
   ⟨.e 61, .ld false 1, [.a 60], none⟩,
   ⟨.e 62, .len false, [.t 61], none⟩,
   ⟨.e 63, .mv, [.k (.int .i64 0)], none⟩] [0, 1, 61, 62, 63] []) (
 .block 0 (
  L104_1))) (
 .seq (.seq (.dreg [
   ⟨.e 136, .mv, [.t 0], none⟩,
   ⟨.a 137, .nc, [.t 136], none⟩,
   ⟨.a 138, .fa 3, [.a 137], none⟩,
   ⟨.e 139, .ld false 1, [.a 138], none⟩,
   ⟨.e 140, .mv, [.t 1], none⟩,
   ⟨.a 141, .ia 1, [.t 139, .t 140], none⟩,
   ⟨.e 142, .ld false 1, [.a 141], none⟩,
   ⟨.e 143, .mv, [.t 0], none⟩,
   ⟨.a 144, .nc, [.t 143], none⟩,
   ⟨.a 145, .fa 2, [.a 144], none⟩,
   ⟨.e 146, .ld false 1, [.a 145], none⟩,
   ⟨.e 147, .mv, [.t 1], none⟩,
   ⟨.a 148, .ia 1, [.t 146, .t 147], none⟩,
   ⟨.e 149, .ld false 1, [.a 148], none⟩,
   ⟨.e 150, .bin .neq, [.t 142, .t 149], none⟩] [] [0, 1, 150] []) (
 .cond (.t 150)
  (.ret)
  (.skip))) (
 .seq (.reg [
   ⟨.e 151, .mv, [.t 0], none⟩,
   ⟨.a 152, .nc, [.t 151], none⟩,
   ⟨.a 153, .fa 5, [.a 152], none⟩,
   ⟨.e 154, .ld false 1, [.a 153], none⟩,
   ⟨.e 155, .mv, [.t 1], none⟩,
   ⟨.e 156, .call 150, [.t 154, .t 155], none⟩,
   ⟨.e 7, .mv, [.t 156], none⟩] [0, 7] []) (
 .seq (.reg [
   ⟨.e 157, .mv, [.t 0], none⟩,
   ⟨.a 158, .nc, [.t 157], none⟩,
   ⟨.a 159, .fa 5, [.a 158], none⟩,
   ⟨.e 160, .ld false 1, [.a 159], none⟩,
   ⟨.e 161, .mv, [.t 7], none⟩,
   ⟨.e 162, .sl 1 true false false, [.t 160, .t 161], none⟩,
   ⟨.e 8, .mv, [.t 162], none⟩] [0, 7, 8] []) (
 .seq (.reg [
   ⟨.e 163, .mv, [.t 8], none⟩,
   ⟨.e 164, .call 151, [.t 163], none⟩,
   ⟨.e 9, .mv, [.t 164], none⟩] [0, 7, 8, 9] []) (
 .seq (.seq (.reg [
   ⟨.e 165, .mv, [.t 8], none⟩,
   ⟨.e 166, .len false, [.t 165], none⟩,
   ⟨.e 167, .mv, [.k (.int .i64 0)], none⟩] [0, 7, 9, 165, 166, 167] []) (
 .block 2 (
  L104_2))) (
 .reg [
   ⟨.e 185, .mv, [.t 0], none⟩,
   ⟨.e 186, .mv, [.t 0], none⟩,
   ⟨.a 187, .nc, [.t 186], none⟩,
   ⟨.a 188, .fa 5, [.a 187], none⟩,
   ⟨.e 189, .ld false 1, [.a 188], none⟩,
   ⟨.e 190, .mv, [.t 7], none⟩,
   ⟨.e 191, .sl 1 false true false, [.t 189, .t 190], none⟩,
   ⟨.a 192, .nc, [.t 185], none⟩,
   ⟨.a 193, .fa 5, [.a 192], none⟩,
   ⟨.n, .st 1, [.a 193, .t 191], none⟩] [] []))))))))))⟩
/- estovers/waitgraph.distances -/
noncomputable def L105_1 : AC := .loop [1, 2, 9, 10, 32, 33, 34] [] (
 .seq (.reg [
   ⟨.e 35, .bin .lss, [.t 34, .t 33], none⟩] [1, 2, 9, 10, 32, 33, 34, 35] []) (
 .seq (.cond (.t 35)
  (.skip)
  (.exit 2)) (
 .seq (.block 3 (
  .seq (.reg [
    ⟨.a 36, .ia 1, [.t 32, .t 34], none⟩,
    ⟨.e 37, .ld false 1, [.a 36], none⟩,
    ⟨.e 12, .mv, [.t 37], none⟩] [1, 2, 9, 10, 12, 32, 33, 34] []) (
  .seq (.reg [
    ⟨.e 38, .mv, [.t 1], none⟩,
    ⟨.e 39, .mv, [.t 12], none⟩,
    ⟨.a 40, .ia 4, [.t 38, .t 39], none⟩,
    ⟨.a 41, .fa 0, [.a 40], none⟩,
    ⟨.e 42, .ld false 1, [.a 41], none⟩,
    ⟨.e 13, .mv, [.t 42], none⟩] [1, 2, 9, 10, 13, 32, 33, 34] []) (
  .seq (.reg [
    ⟨.e 43, .mv, [.t 9], none⟩,
    ⟨.e 44, .mv, [.t 13], none⟩,
    ⟨.a 45, .ia 1, [.t 43, .t 44], none⟩,
    ⟨.e 46, .ld false 1, [.a 45], none⟩,
    ⟨.e 47, .bin .lss, [.t 46, .k (.int .i64 0)], none⟩] [1, 2, 9, 10, 13, 32, 33, 34, 47] []) (
  .cond (.t 47)
   (.seq (.reg [
      ⟨.e 48, .mv, [.t 9], none⟩,
      ⟨.e 49, .mv, [.t 13], none⟩,
      ⟨.e 50, .mv, [.t 9], none⟩,
      ⟨.e 51, .mv, [.t 10], none⟩,
      ⟨.a 52, .ia 1, [.t 51, .k (.int .i64 0)], none⟩,
      ⟨.e 53, .ld false 1, [.a 52], none⟩,
      ⟨.a 54, .ia 1, [.t 50, .t 53], none⟩,
      ⟨.e 55, .ld false 1, [.a 54], none⟩,
      ⟨.e 56, .bin .add, [.t 55, .k (.int .i64 1)], none⟩,
      ⟨.a 57, .ia 1, [.t 48, .t 49], none⟩,
      ⟨.n, .st 1, [.a 57, .t 56], none⟩] [1, 2, 9, 10, 13, 32, 33, 34] []) (
    .reg [
      ⟨.e 58, .mv, [.t 10], none⟩,
      ⟨.e 59, .mv, [.t 13], none⟩,
      ⟨.e 60, .lit 1 1 (.int .i64 0) [0], [.t 59], none⟩,
      ⟨.e 61, .app 1, [.t 58, .t 60], none⟩,
      ⟨.e 10, .mv, [.t 61], none⟩] [1, 2, 9, 10, 32, 33, 34] []))
   (.skip)))))) (
 .reg [
   ⟨.e 62, .bin .add, [.t 34, .k (.int .i64 1)], none⟩,
   ⟨.e 34, .mv, [.t 62], none⟩] [1, 2, 9, 10, 32, 33, 34] []))))
noncomputable def L105_2 : AC := .loop [1, 2, 9, 10] [] (
 .seq (.seq (.reg [
   ⟨.e 22, .mv, [.t 10], none⟩,
   ⟨.e 23, .len false, [.t 22], none⟩,
   ⟨.e 24, .bin .gtr, [.t 23, .k (.int .i64 0)], none⟩] [1, 2, 9, 10, 24] []) (
 .cond (.t 24)
  (.skip)
  (.exit 0))) (
 .seq (.block 1 (
  .seq (.reg [
    ⟨.e 27, .mv, [.t 2], none⟩,
    ⟨.e 28, .mv, [.t 10], none⟩,
    ⟨.a 29, .ia 1, [.t 28, .k (.int .i64 0)], none⟩,
    ⟨.e 30, .ld false 1, [.a 29], none⟩,
    ⟨.a 31, .ia 1, [.t 27, .t 30], none⟩,
    ⟨.e 32, .ld false 1, [.a 31], none⟩,
    ⟨.e 33, .len false, [.t 32], none⟩,
    ⟨.e 34, .mv, [.k (.int .i64 0)], none⟩] [1, 2, 9, 10, 32, 33, 34] []) (
  .block 2 (
   L105_1)))) (
 .reg [
   ⟨.e 25, .mv, [.t 10], none⟩,
   ⟨.e 26, .sl 1 true false false, [.t 25, .k (.int .i64 1)], none⟩,
   ⟨.e 10, .mv, [.t 26], none⟩] [1, 2, 9, 10] [])))
noncomputable def c105 : Fn := ⟨4, 166671740524036096, 0, true, [.t 8],
 .seq (.reg [
   ⟨.e 8, .mv, [.k .nil], none⟩] [0, 1, 2, 3] []) (
 .seq (.reg [
   ⟨.e 14, .hlit 1 1 (.int .i64 0) [0], [.k (.int .i64 (-1))], none⟩,
   ⟨.e 15, .mv, [.t 0], none⟩,
   ⟨.e 16, .call 152, [.t 14, .t 15], none⟩,
   ⟨.e 9, .mv, [.t 16], none⟩] [1, 2, 3, 9] []) (
 .seq (.reg [
   ⟨.e 17, .mv, [.t 9], none⟩,
   ⟨.e 18, .mv, [.t 3], none⟩,
   ⟨.a 19, .ia 1, [.t 17, .t 18], none⟩,
   ⟨.n, .st 1, [.a 19, .k (.int .i64 0)], none⟩] [1, 2, 3, 9] []) (
 .seq (.seq (.reg [
   ⟨.e 20, .mv, [.t 3], none⟩,
   ⟨.e 21, .hlit 1 1 (.int .i64 0) [0], [.t 20], none⟩,
   ⟨.e 10, .mv, [.t 21], none⟩] [1, 2, 9, 10] []) (
 .block 0 (
  L105_2))) (
 .seq (.reg [
   ⟨.e 63, .mv, [.t 9], none⟩,
   ⟨.e 8, .mv, [.t 63], none⟩] [8] []) (
 .ret)))))⟩
/- estovers/waitgraph.Cycle$1 -/
noncomputable def c107 : Fn := ⟨4, 71168, 0, true, [.t 5],
 .seq (.reg [
   ⟨.e 5, .mv, [.k (.bool false)], none⟩] [0, 1, 2, 3] []) (
 .seq (.dreg [
   ⟨.e 6, .ld false 1, [.t 1], none⟩,
   ⟨.e 7, .ld false 1, [.t 2], none⟩,
   ⟨.e 8, .mv, [.t 0], none⟩,
   ⟨.a 9, .ia 4, [.t 7, .t 8], none⟩,
   ⟨.a 10, .fa 1, [.a 9], none⟩,
   ⟨.e 11, .ld false 1, [.a 10], none⟩,
   ⟨.a 12, .ia 1, [.t 6, .t 11], none⟩,
   ⟨.e 13, .ld false 1, [.a 12], none⟩,
   ⟨.e 14, .ld false 1, [.t 1], none⟩,
   ⟨.e 15, .ld false 1, [.t 3], none⟩,
   ⟨.a 16, .ia 1, [.t 14, .t 15], none⟩,
   ⟨.e 17, .ld false 1, [.a 16], none⟩,
   ⟨.e 18, .bin .sub, [.t 17, .k (.int .i64 1)], none⟩,
   ⟨.e 19, .bin .eql, [.t 13, .t 18], none⟩,
   ⟨.e 5, .mv, [.t 19], none⟩] [] [5] []) (
 .ret))⟩
/- estovers/estoversref42.check -/
noncomputable def L108_1 : AC := .loop [0, 1, 5] [] (
 .seq (.seq (.reg [
   ⟨.e 12, .mv, [.t 5], none⟩,
   ⟨.e 13, .mv, [.t 1], none⟩,
   ⟨.e 14, .len false, [.t 13], none⟩,
   ⟨.e 15, .bin .lss, [.t 12, .t 14], none⟩] [0, 1, 5, 15] []) (
 .cond (.t 15)
  (.skip)
  (.exit 0))) (
 .seq (.block 1 (
  .seq (.reg [
    ⟨.e 18, .mv, [.t 1], none⟩,
    ⟨.e 19, .mv, [.t 5], none⟩,
    ⟨.a 20, .ia 4, [.t 18, .t 19], none⟩,
    ⟨.a 21, .fa 0, [.a 20], none⟩,
    ⟨.e 22, .ld false 1, [.a 21], none⟩,
    ⟨.e 23, .bin .lss, [.t 22, .k (.int .i64 0)], none⟩,
    ⟨.e 24, .mv, [.t 23], none⟩,
    ⟨.e 25, .mv, [.t 1], some (24, false)⟩,
    ⟨.e 26, .mv, [.t 5], some (24, false)⟩,
    ⟨.a 27, .ia 4, [.t 25, .t 26], some (24, false)⟩,
    ⟨.a 28, .fa 0, [.a 27], some (24, false)⟩,
    ⟨.e 29, .ld false 1, [.a 28], some (24, false)⟩,
    ⟨.e 30, .mv, [.t 0], some (24, false)⟩,
    ⟨.e 31, .bin .geq, [.t 29, .t 30], some (24, false)⟩,
    ⟨.e 32, .pick, [.t 24, .k (.bool true), .t 31], none⟩,
    ⟨.e 33, .mv, [.t 32], none⟩,
    ⟨.e 34, .mv, [.t 1], some (33, false)⟩,
    ⟨.e 35, .mv, [.t 5], some (33, false)⟩,
    ⟨.a 36, .ia 4, [.t 34, .t 35], some (33, false)⟩,
    ⟨.a 37, .fa 1, [.a 36], some (33, false)⟩,
    ⟨.e 38, .ld false 1, [.a 37], some (33, false)⟩,
    ⟨.e 39, .bin .lss, [.t 38, .k (.int .i64 0)], some (33, false)⟩,
    ⟨.e 40, .pick, [.t 33, .k (.bool true), .t 39], none⟩,
    ⟨.e 41, .mv, [.t 40], none⟩,
    ⟨.e 42, .mv, [.t 1], some (41, false)⟩,
    ⟨.e 43, .mv, [.t 5], some (41, false)⟩,
    ⟨.a 44, .ia 4, [.t 42, .t 43], some (41, false)⟩,
    ⟨.a 45, .fa 1, [.a 44], some (41, false)⟩,
    ⟨.e 46, .ld false 1, [.a 45], some (41, false)⟩,
    ⟨.e 47, .mv, [.t 0], some (41, false)⟩,
    ⟨.e 48, .bin .geq, [.t 46, .t 47], some (41, false)⟩,
    ⟨.e 49, .pick, [.t 41, .k (.bool true), .t 48], none⟩] [0, 1, 5, 49] []) (
  .cond (.t 49)
   (.seq (.reg [
      ⟨.e 4, .mv, [.k (.int .i64 1)], none⟩] [4] []) (
    .ret))
   (.skip)))) (
 .reg [
   ⟨.e 16, .mv, [.t 5], none⟩,
   ⟨.e 17, .bin .add, [.t 16, .k (.int .i64 1)], none⟩,
   ⟨.e 5, .mv, [.t 17], none⟩] [0, 1, 5] [])))
noncomputable def c108 : Fn := ⟨2, 52983122362368, 0, true, [.t 4],
 .seq (.reg [
   ⟨.e 4, .mv, [.k (.int .i64 0)], none⟩] [0, 1] []) (
 .seq (.seq (.reg [
   ⟨.e 6, .mv, [.t 0], none⟩,
   ⟨.e 7, .bin .lss, [.t 6, .k (.int .i64 0)], none⟩,
   ⟨.e 8, .mv, [.t 7], none⟩,
   ⟨.e 9, .mv, [.t 0], some (8, false)⟩,
   ⟨.e 10, .bin .gtr, [.t 9, .k (.int .i64 4096)], some (8, false)⟩,
   ⟨.e 11, .pick, [.t 8, .k (.bool true), .t 10], none⟩] [0, 1, 11] []) (
 .cond (.t 11)
  (.seq (.reg [
     ⟨.e 4, .mv, [.k (.int .i64 2)], none⟩] [4] []) (
   .ret))
  (.skip))) (
 .seq (.seq (.reg [
   ⟨.e 5, .mv, [.k (.int .i64 0)], none⟩] [0, 1, 5] []) (
 .block 0 (
  L108_1))) (
 .seq (.reg [
   ⟨.e 4, .mv, [.k (.int .i64 0)], none⟩] [4] []) (
 .ret))))⟩
/- estovers/estoversref42.Reach -/
noncomputable def L109_1 : AC := .loop [0, 1, 2, 7, 8] [] (
 .seq (.seq (.reg [
   ⟨.e 13, .mv, [.t 8], none⟩,
   ⟨.e 14, .mv, [.t 0], none⟩,
   ⟨.e 15, .bin .lss, [.t 13, .t 14], none⟩] [0, 1, 2, 7, 8, 15] []) (
 .cond (.t 15)
  (.skip)
  (.exit 0))) (
 .seq (.block 1 (
  .reg [
    ⟨.e 18, .mv, [.t 7], none⟩,
    ⟨.e 19, .lit 1 1 (.int .i64 0) [0], [.k (.int .i64 (-1))], none⟩,
    ⟨.e 20, .app 1, [.t 18, .t 19], none⟩,
    ⟨.e 7, .mv, [.t 20], none⟩] [0, 1, 2, 7, 8] [])) (
 .reg [
   ⟨.e 16, .mv, [.t 8], none⟩,
   ⟨.e 17, .bin .add, [.t 16, .k (.int .i64 1)], none⟩,
   ⟨.e 8, .mv, [.t 17], none⟩] [0, 1, 2, 7, 8] [])))
noncomputable def L109_2 : AC := .loop [1, 7, 9, 10, 11, 12] [] (
 .seq (.seq (.reg [
   ⟨.e 36, .mv, [.t 12], none⟩,
   ⟨.e 37, .mv, [.t 1], none⟩,
   ⟨.e 38, .len false, [.t 37], none⟩,
   ⟨.e 39, .bin .lss, [.t 36, .t 38], none⟩] [1, 7, 9, 10, 11, 12, 39] []) (
 .cond (.t 39)
  (.skip)
  (.exit 4))) (
 .seq (.block 5 (
  .seq (.reg [
    ⟨.e 42, .mv, [.t 1], none⟩,
    ⟨.e 43, .mv, [.t 12], none⟩,
    ⟨.a 44, .ia 4, [.t 42, .t 43], none⟩,
    ⟨.a 45, .fa 0, [.a 44], none⟩,
    ⟨.e 46, .ld false 1, [.a 45], none⟩,
    ⟨.e 47, .mv, [.t 11], none⟩,
    ⟨.e 48, .bin .eql, [.t 46, .t 47], none⟩,
    ⟨.e 49, .mv, [.t 48], none⟩,
    ⟨.e 50, .mv, [.t 7], some (49, true)⟩,
    ⟨.e 51, .mv, [.t 1], some (49, true)⟩,
    ⟨.e 52, .mv, [.t 12], some (49, true)⟩,
    ⟨.a 53, .ia 4, [.t 51, .t 52], some (49, true)⟩,
    ⟨.a 54, .fa 1, [.a 53], some (49, true)⟩,
    ⟨.e 55, .ld false 1, [.a 54], some (49, true)⟩,
    ⟨.a 56, .ia 1, [.t 50, .t 55], some (49, true)⟩,
    ⟨.e 57, .ld false 1, [.a 56], some (49, true)⟩,
    ⟨.e 58, .bin .lss, [.t 57, .k (.int .i64 0)], some (49, true)⟩,
    ⟨.e 59, .pick, [.t 49, .t 58, .k (.bool false)], none⟩] [1, 7, 9, 10, 11, 12, 59] []) (
  .cond (.t 59)
   (.seq (.dreg [
      ⟨.e 60, .mv, [.t 7], none⟩,
      ⟨.e 61, .mv, [.t 1], none⟩,
      ⟨.e 62, .mv, [.t 12], none⟩,
      ⟨.a 63, .ia 4, [.t 61, .t 62], none⟩,
      ⟨.a 64, .fa 1, [.a 63], none⟩,
      ⟨.e 65, .ld false 1, [.a 64], none⟩,
      ⟨.e 66, .mv, [.t 7], none⟩,
      ⟨.e 67, .mv, [.t 11], none⟩,
      ⟨.a 68, .ia 1, [.t 66, .t 67], none⟩,
      ⟨.e 69, .ld false 1, [.a 68], none⟩,
      ⟨.e 70, .bin .add, [.t 69, .k (.int .i64 1)], none⟩,
      ⟨.a 71, .ia 1, [.t 60, .t 65], none⟩,
      ⟨.n, .st 1, [.a 71, .t 70], none⟩] [] [1, 7, 9, 10, 11, 12] []) (
    .reg [
      ⟨.e 72, .mv, [.t 9], none⟩,
      ⟨.e 73, .mv, [.t 1], none⟩,
      ⟨.e 74, .mv, [.t 12], none⟩,
      ⟨.a 75, .ia 4, [.t 73, .t 74], none⟩,
      ⟨.a 76, .fa 1, [.a 75], none⟩,
      ⟨.e 77, .ld false 1, [.a 76], none⟩,
      ⟨.e 78, .lit 1 1 (.int .i64 0) [0], [.t 77], none⟩,
      ⟨.e 79, .app 1, [.t 72, .t 78], none⟩,
      ⟨.e 9, .mv, [.t 79], none⟩] [1, 7, 9, 10, 11, 12] []))
   (.skip)))) (
 .reg [
   ⟨.e 40, .mv, [.t 12], none⟩,
   ⟨.e 41, .bin .add, [.t 40, .k (.int .i64 1)], none⟩,
   ⟨.e 12, .mv, [.t 41], none⟩] [1, 7, 9, 10, 11, 12] [])))
noncomputable def L109_3 : AC := .loop [1, 7, 9, 10] [] (
 .seq (.seq (.reg [
   ⟨.e 26, .mv, [.t 10], none⟩,
   ⟨.e 27, .mv, [.t 9], none⟩,
   ⟨.e 28, .len false, [.t 27], none⟩,
   ⟨.e 29, .bin .lss, [.t 26, .t 28], none⟩] [1, 7, 9, 10, 29] []) (
 .cond (.t 29)
  (.skip)
  (.exit 2))) (
 .seq (.block 3 (
  .seq (.reg [
    ⟨.e 32, .mv, [.t 9], none⟩,
    ⟨.e 33, .mv, [.t 10], none⟩,
    ⟨.a 34, .ia 1, [.t 32, .t 33], none⟩,
    ⟨.e 35, .ld false 1, [.a 34], none⟩,
    ⟨.e 11, .mv, [.t 35], none⟩] [1, 7, 9, 10, 11] []) (
  .seq (.reg [
    ⟨.e 12, .mv, [.k (.int .i64 0)], none⟩] [1, 7, 9, 10, 11, 12] []) (
  .block 4 (
   L109_2))))) (
 .reg [
   ⟨.e 30, .mv, [.t 10], none⟩,
   ⟨.e 31, .bin .add, [.t 30, .k (.int .i64 1)], none⟩,
   ⟨.e 10, .mv, [.t 31], none⟩] [1, 7, 9, 10] [])))
noncomputable def c109 : Fn := ⟨3, 116020895983581798596608, 0, true, [.t 6],
 .seq (.reg [
   ⟨.e 6, .mv, [.k .nil], none⟩] [0, 1, 2] []) (
 .seq (.reg [
   ⟨.e 7, .mv, [.k .nil], none⟩] [0, 1, 2, 7] []) (
 .seq (.seq (.reg [
   ⟨.e 8, .mv, [.k (.int .i64 0)], none⟩] [0, 1, 2, 7, 8] []) (
 .block 0 (
  L109_1))) (
 .seq (.reg [
   ⟨.e 21, .mv, [.t 2], none⟩,
   ⟨.e 22, .hlit 1 1 (.int .i64 0) [0], [.t 21], none⟩,
   ⟨.e 9, .mv, [.t 22], none⟩] [1, 2, 7, 9] []) (
 .seq (.reg [
   ⟨.e 23, .mv, [.t 7], none⟩,
   ⟨.e 24, .mv, [.t 2], none⟩,
   ⟨.a 25, .ia 1, [.t 23, .t 24], none⟩,
   ⟨.n, .st 1, [.a 25, .k (.int .i64 0)], none⟩] [1, 7, 9] []) (
 .seq (.seq (.reg [
   ⟨.e 10, .mv, [.k (.int .i64 0)], none⟩] [1, 7, 9, 10] []) (
 .block 2 (
  L109_3))) (
 .seq (.reg [
   ⟨.e 80, .mv, [.t 7], none⟩,
   ⟨.e 6, .mv, [.t 80], none⟩] [6] []) (
 .ret)))))))⟩
/- estovers/estoversref42.length -/
noncomputable def c110 : Fn := ⟨3, 2895872, 0, true, [.t 6],
 .seq (.reg [
   ⟨.e 6, .mv, [.k (.int .i64 0)], none⟩] [0, 1, 2] []) (
 .seq (.dreg [
   ⟨.e 8, .mv, [.t 0], none⟩,
   ⟨.e 9, .mv, [.t 1], none⟩,
   ⟨.e 10, .mv, [.t 1], none⟩,
   ⟨.e 11, .mv, [.t 2], none⟩,
   ⟨.a 12, .ia 4, [.t 10, .t 11], none⟩,
   ⟨.a 13, .fa 1, [.a 12], none⟩,
   ⟨.e 14, .ld false 1, [.a 13], none⟩,
   ⟨.e 15, .call 109, [.t 8, .t 9, .t 14], none⟩,
   ⟨.e 16, .mv, [.t 1], none⟩,
   ⟨.e 17, .mv, [.t 2], none⟩,
   ⟨.a 18, .ia 4, [.t 16, .t 17], none⟩,
   ⟨.a 19, .fa 0, [.a 18], none⟩,
   ⟨.e 20, .ld false 1, [.a 19], none⟩,
   ⟨.a 21, .ia 1, [.t 15, .t 20], none⟩,
   ⟨.e 22, .ld false 1, [.a 21], none⟩,
   ⟨.e 7, .mv, [.t 22], none⟩] [] [7] []) (
 .seq (.seq (.reg [
   ⟨.e 23, .mv, [.t 7], none⟩,
   ⟨.e 24, .bin .lss, [.t 23, .k (.int .i64 0)], none⟩] [7, 24] []) (
 .cond (.t 24)
  (.seq (.reg [
     ⟨.e 6, .mv, [.k (.int .i64 (-1))], none⟩] [6] []) (
   .ret))
  (.skip))) (
 .seq (.reg [
   ⟨.e 25, .mv, [.t 7], none⟩,
   ⟨.e 26, .bin .add, [.t 25, .k (.int .i64 1)], none⟩,
   ⟨.e 6, .mv, [.t 26], none⟩] [6] []) (
 .ret))))⟩
/- slices.Index[[]int,int] -/
noncomputable def L150_1 : AC := .loop [0, 1, 7, 8] [] (
 .seq (.reg [
   ⟨.e 9, .bin .lss, [.t 8, .t 7], none⟩] [0, 1, 7, 8, 9] []) (
 .seq (.cond (.t 9)
  (.skip)
  (.exit 0)) (
 .seq (.block 1 (
  .seq (.reg [
    ⟨.e 10, .mv, [.t 8], none⟩,
    ⟨.e 5, .mv, [.t 10], none⟩] [0, 1, 5, 7, 8] []) (
  .seq (.reg [
    ⟨.e 11, .mv, [.t 1], none⟩,
    ⟨.e 12, .mv, [.t 0], none⟩,
    ⟨.e 13, .mv, [.t 5], none⟩,
    ⟨.a 14, .ia 1, [.t 12, .t 13], none⟩,
    ⟨.e 15, .ld false 1, [.a 14], none⟩,
    ⟨.e 16, .bin .eql, [.t 11, .t 15], none⟩] [0, 1, 5, 7, 8, 16] []) (
  .cond (.t 16)
   (.seq (.reg [
      ⟨.e 17, .mv, [.t 5], none⟩,
      ⟨.e 4, .mv, [.t 17], none⟩] [4] []) (
    .ret))
   (.skip))))) (
 .reg [
   ⟨.e 18, .bin .add, [.t 8, .k (.int .i64 1)], none⟩,
   ⟨.e 8, .mv, [.t 18], none⟩] [0, 1, 7, 8] []))))
noncomputable def c150 : Fn := ⟨2, 16384, 0, true, [.t 4],
 .seq (.reg [
   ⟨.e 4, .mv, [.k (.int .i64 0)], none⟩] [0, 1] []) (
 .seq (.seq (.reg [
   ⟨.e 6, .mv, [.t 0], none⟩,
   ⟨.e 7, .len false, [.t 6], none⟩,
   ⟨.e 8, .mv, [.k (.int .i64 0)], none⟩] [0, 1, 7, 8] []) (
 .block 0 (
  L150_1))) (
 .seq (.reg [
   ⟨.e 4, .mv, [.k (.int .i64 (-1))], none⟩] [4] []) (
 .ret)))⟩
/- slices.Min[[]int,int] -/
noncomputable def L151_1 : AC := .loop [0, 3, 4] [] (
 .seq (.seq (.reg [
   ⟨.e 12, .mv, [.t 4], none⟩,
   ⟨.e 13, .mv, [.t 0], none⟩,
   ⟨.e 14, .len false, [.t 13], none⟩,
   ⟨.e 15, .bin .lss, [.t 12, .t 14], none⟩] [0, 3, 4, 15] []) (
 .cond (.t 15)
  (.skip)
  (.exit 0))) (
 .seq (.block 1 (
  .reg [
    ⟨.e 18, .mv, [.t 3], none⟩,
    ⟨.e 19, .mv, [.t 0], none⟩,
    ⟨.e 20, .mv, [.t 4], none⟩,
    ⟨.a 21, .ia 1, [.t 19, .t 20], none⟩,
    ⟨.e 22, .ld false 1, [.a 21], none⟩,
    ⟨.e 23, .mn, [.t 18, .t 22], none⟩,
    ⟨.e 3, .mv, [.t 23], none⟩] [0, 3, 4] [])) (
 .reg [
   ⟨.e 16, .mv, [.t 4], none⟩,
   ⟨.e 17, .bin .add, [.t 16, .k (.int .i64 1)], none⟩,
   ⟨.e 4, .mv, [.t 17], none⟩] [0, 3, 4] [])))
noncomputable def c151 : Fn := ⟨1, 2098176, 0, true, [.t 2],
 .seq (.reg [
   ⟨.e 2, .mv, [.k (.int .i64 0)], none⟩] [0] []) (
 .seq (.seq (.reg [
   ⟨.e 5, .mv, [.t 0], none⟩,
   ⟨.e 6, .len false, [.t 5], none⟩,
   ⟨.e 7, .bin .lss, [.t 6, .k (.int .i64 1)], none⟩] [0, 7] []) (
 .cond (.t 7)
  (.dead)
  (.skip))) (
 .seq (.reg [
   ⟨.e 9, .mv, [.t 0], none⟩,
   ⟨.a 10, .ia 1, [.t 9, .k (.int .i64 0)], none⟩,
   ⟨.e 11, .ld false 1, [.a 10], none⟩,
   ⟨.e 3, .mv, [.t 11], none⟩] [0, 3] []) (
 .seq (.seq (.reg [
   ⟨.e 4, .mv, [.k (.int .i64 1)], none⟩] [0, 3, 4] []) (
 .block 0 (
  L151_1))) (
 .seq (.reg [
   ⟨.e 24, .mv, [.t 3], none⟩,
   ⟨.e 2, .mv, [.t 24], none⟩] [2] []) (
 .ret)))))⟩
/- slices.Repeat[[]int,int] -/
noncomputable def L152_1 : AC := .loop [7, 8] [] (
 .seq (.seq (.reg [
   ⟨.e 34, .mv, [.t 8], none⟩,
   ⟨.e 35, .mv, [.t 7], none⟩,
   ⟨.e 36, .len false, [.t 35], none⟩,
   ⟨.e 37, .bin .lss, [.t 34, .t 36], none⟩] [7, 8, 37] []) (
 .cond (.t 37)
  (.skip)
  (.exit 0))) (
 .block 1 (
  .dreg [
    ⟨.e 38, .mv, [.t 8], none⟩,
    ⟨.e 39, .mv, [.t 7], none⟩,
    ⟨.e 40, .mv, [.t 8], none⟩,
    ⟨.e 41, .sl 1 true false false, [.t 39, .t 40], none⟩,
    ⟨.e 42, .mv, [.t 7], none⟩,
    ⟨.e 43, .mv, [.t 8], none⟩,
    ⟨.e 44, .sl 1 false true false, [.t 42, .t 43], none⟩,
    ⟨.e 45, .cpy 1, [.t 41, .t 44], none⟩,
    ⟨.e 46, .bin .add, [.t 38, .t 45], none⟩,
    ⟨.e 8, .mv, [.t 46], none⟩] [] [7, 8] [])))
noncomputable def c152 : Fn := ⟨2, 0, 0, false, [.t 4],
 .seq (.reg [
   ⟨.e 4, .mv, [.k .nil], none⟩] [0, 1] []) (
 .seq (.seq (.reg [
   ⟨.e 9, .mv, [.t 1], none⟩,
   ⟨.e 10, .bin .lss, [.t 9, .k (.int .i64 0)], none⟩] [0, 1, 10] []) (
 .cond (.t 10)
  (.dead)
  (.skip))) (
 .seq (.reg [
   ⟨.e 13, .mv, [.t 0], none⟩,
   ⟨.e 14, .len false, [.t 13], none⟩,
   ⟨.e 15, .cvt .u64, [.t 14], none⟩,
   ⟨.e 16, .mv, [.t 1], none⟩,
   ⟨.e 17, .cvt .u64, [.t 16], none⟩,
   ⟨.e 18, .call 165, [.t 15, .t 17], none⟩,
   ⟨.e 12, .mv, [.t 18], none⟩,
   ⟨.e 19, .ext 0, [.t 12], none⟩,
   ⟨.e 20, .ext 1, [.t 12], none⟩,
   ⟨.e 5, .mv, [.t 19], none⟩,
   ⟨.e 6, .mv, [.t 20], none⟩] [0, 5, 6] []) (
 .seq (.seq (.reg [
   ⟨.e 21, .mv, [.t 5], none⟩,
   ⟨.e 22, .bin .gtr, [.t 21, .k (.int .u64 0)], none⟩,
   ⟨.e 23, .mv, [.t 22], none⟩,
   ⟨.e 24, .mv, [.t 6], some (23, false)⟩,
   ⟨.e 25, .bin .gtr, [.t 24, .k (.int .u64 9223372036854775807)], some (23, false)⟩,
   ⟨.e 26, .pick, [.t 23, .k (.bool true), .t 25], none⟩] [0, 6, 26] []) (
 .cond (.t 26)
  (.dead)
  (.skip))) (
 .seq (.reg [
   ⟨.e 28, .mv, [.t 6], none⟩,
   ⟨.e 29, .cvt .i64, [.t 28], none⟩,
   ⟨.e 30, .mk 1 (.int .i64 0), [.t 29], none⟩,
   ⟨.e 7, .mv, [.t 30], none⟩] [0, 7] []) (
 .seq (.reg [
   ⟨.e 31, .mv, [.t 7], none⟩,
   ⟨.e 32, .mv, [.t 0], none⟩,
   ⟨.e 33, .cpy 1, [.t 31, .t 32], none⟩,
   ⟨.e 8, .mv, [.t 33], none⟩] [7, 8] []) (
 .seq (.block 0 (
  L152_1)) (
 .seq (.reg [
   ⟨.e 47, .mv, [.t 7], none⟩,
   ⟨.e 4, .mv, [.t 47], none⟩] [4] []) (
 .ret))))))))⟩
/- math/bits.Mul -/
noncomputable def c165 : Fn := ⟨2, 0, 0, true, [.t 4, .t 5],
 .seq (.reg [
   ⟨.e 4, .mv, [.k (.int .u64 0)], none⟩,
   ⟨.e 5, .mv, [.k (.int .u64 0)], none⟩] [0, 1] []) (
 .seq (.cond (.k (.bool false))
  (.seq (.reg [
     ⟨.e 11, .mv, [.t 0], none⟩,
     ⟨.e 12, .cvt .u32, [.t 11], none⟩,
     ⟨.e 13, .mv, [.t 1], none⟩,
     ⟨.e 14, .cvt .u32, [.t 13], none⟩,
     ⟨.e 15, .call 168, [.t 12, .t 14], none⟩,
     ⟨.e 10, .mv, [.t 15], none⟩,
     ⟨.e 16, .ext 0, [.t 10], none⟩,
     ⟨.e 17, .ext 1, [.t 10], none⟩,
     ⟨.e 6, .mv, [.t 16], none⟩,
     ⟨.e 7, .mv, [.t 17], none⟩] [6, 7] []) (
   .seq (.reg [
     ⟨.e 18, .mv, [.t 6], none⟩,
     ⟨.e 19, .cvt .u64, [.t 18], none⟩,
     ⟨.e 20, .mv, [.t 7], none⟩,
     ⟨.e 21, .cvt .u64, [.t 20], none⟩,
     ⟨.e 4, .mv, [.t 19], none⟩,
     ⟨.e 5, .mv, [.t 21], none⟩] [4, 5] []) (
   .ret)))
  (.skip)) (
 .seq (.reg [
   ⟨.e 23, .mv, [.t 0], none⟩,
   ⟨.e 24, .mv, [.t 1], none⟩,
   ⟨.e 25, .call 169, [.t 23, .t 24], none⟩,
   ⟨.e 22, .mv, [.t 25], none⟩,
   ⟨.e 26, .ext 0, [.t 22], none⟩,
   ⟨.e 27, .ext 1, [.t 22], none⟩,
   ⟨.e 8, .mv, [.t 26], none⟩,
   ⟨.e 9, .mv, [.t 27], none⟩] [8, 9] []) (
 .seq (.reg [
   ⟨.e 28, .mv, [.t 8], none⟩,
   ⟨.e 29, .mv, [.t 9], none⟩,
   ⟨.e 4, .mv, [.t 28], none⟩,
   ⟨.e 5, .mv, [.t 29], none⟩] [4, 5] []) (
 .ret))))⟩
/- math/bits.Mul32 -/
noncomputable def c168 : Fn := ⟨2, 0, 0, true, [.t 4, .t 5],
 .seq (.reg [
   ⟨.e 4, .mv, [.k (.int .u32 0)], none⟩,
   ⟨.e 5, .mv, [.k (.int .u32 0)], none⟩] [0, 1] []) (
 .seq (.reg [
   ⟨.e 7, .mv, [.t 0], none⟩,
   ⟨.e 8, .cvt .u64, [.t 7], none⟩,
   ⟨.e 9, .mv, [.t 1], none⟩,
   ⟨.e 10, .cvt .u64, [.t 9], none⟩,
   ⟨.e 11, .bin .mul, [.t 8, .t 10], none⟩,
   ⟨.e 6, .mv, [.t 11], none⟩] [6] []) (
 .seq (.reg [
   ⟨.e 12, .mv, [.t 6], none⟩,
   ⟨.e 13, .bin .shr, [.t 12, .k (.int .u64 32)], none⟩,
   ⟨.e 14, .cvt .u32, [.t 13], none⟩,
   ⟨.e 15, .mv, [.t 6], none⟩,
   ⟨.e 16, .cvt .u32, [.t 15], none⟩,
   ⟨.e 4, .mv, [.t 14], none⟩,
   ⟨.e 5, .mv, [.t 16], none⟩] [4, 5] []) (
 .ret)))⟩
/- math/bits.Mul64 -/
noncomputable def c169 : Fn := ⟨2, 0, 0, true, [.t 4, .t 5],
 .seq (.reg [
   ⟨.e 4, .mv, [.k (.int .u64 0)], none⟩,
   ⟨.e 5, .mv, [.k (.int .u64 0)], none⟩] [0, 1] []) (
 .seq (.reg [
   ⟨.e 14, .mv, [.t 0], none⟩,
   ⟨.e 15, .bin .and, [.t 14, .k (.int .u64 4294967295)], none⟩,
   ⟨.e 6, .mv, [.t 15], none⟩] [0, 1, 6] []) (
 .seq (.reg [
   ⟨.e 16, .mv, [.t 0], none⟩,
   ⟨.e 17, .bin .shr, [.t 16, .k (.int .u64 32)], none⟩,
   ⟨.e 7, .mv, [.t 17], none⟩] [0, 1, 6, 7] []) (
 .seq (.reg [
   ⟨.e 18, .mv, [.t 1], none⟩,
   ⟨.e 19, .bin .and, [.t 18, .k (.int .u64 4294967295)], none⟩,
   ⟨.e 8, .mv, [.t 19], none⟩] [0, 1, 6, 7, 8] []) (
 .seq (.reg [
   ⟨.e 20, .mv, [.t 1], none⟩,
   ⟨.e 21, .bin .shr, [.t 20, .k (.int .u64 32)], none⟩,
   ⟨.e 9, .mv, [.t 21], none⟩] [0, 1, 6, 7, 8, 9] []) (
 .seq (.reg [
   ⟨.e 22, .mv, [.t 6], none⟩,
   ⟨.e 23, .mv, [.t 8], none⟩,
   ⟨.e 24, .bin .mul, [.t 22, .t 23], none⟩,
   ⟨.e 10, .mv, [.t 24], none⟩] [0, 1, 6, 7, 8, 9, 10] []) (
 .seq (.reg [
   ⟨.e 25, .mv, [.t 7], none⟩,
   ⟨.e 26, .mv, [.t 8], none⟩,
   ⟨.e 27, .bin .mul, [.t 25, .t 26], none⟩,
   ⟨.e 28, .mv, [.t 10], none⟩,
   ⟨.e 29, .bin .shr, [.t 28, .k (.int .u64 32)], none⟩,
   ⟨.e 30, .bin .add, [.t 27, .t 29], none⟩,
   ⟨.e 11, .mv, [.t 30], none⟩] [0, 1, 6, 7, 9, 11] []) (
 .seq (.reg [
   ⟨.e 31, .mv, [.t 11], none⟩,
   ⟨.e 32, .bin .and, [.t 31, .k (.int .u64 4294967295)], none⟩,
   ⟨.e 12, .mv, [.t 32], none⟩] [0, 1, 6, 7, 9, 11, 12] []) (
 .seq (.reg [
   ⟨.e 33, .mv, [.t 11], none⟩,
   ⟨.e 34, .bin .shr, [.t 33, .k (.int .u64 32)], none⟩,
   ⟨.e 13, .mv, [.t 34], none⟩] [0, 1, 6, 7, 9, 12, 13] []) (
 .seq (.reg [
   ⟨.e 35, .mv, [.t 12], none⟩,
   ⟨.e 36, .mv, [.t 6], none⟩,
   ⟨.e 37, .mv, [.t 9], none⟩,
   ⟨.e 38, .bin .mul, [.t 36, .t 37], none⟩,
   ⟨.e 39, .bin .add, [.t 35, .t 38], none⟩,
   ⟨.e 12, .mv, [.t 39], none⟩] [0, 1, 7, 9, 12, 13] []) (
 .seq (.reg [
   ⟨.e 40, .mv, [.t 7], none⟩,
   ⟨.e 41, .mv, [.t 9], none⟩,
   ⟨.e 42, .bin .mul, [.t 40, .t 41], none⟩,
   ⟨.e 43, .mv, [.t 13], none⟩,
   ⟨.e 44, .bin .add, [.t 42, .t 43], none⟩,
   ⟨.e 45, .mv, [.t 12], none⟩,
   ⟨.e 46, .bin .shr, [.t 45, .k (.int .u64 32)], none⟩,
   ⟨.e 47, .bin .add, [.t 44, .t 46], none⟩,
   ⟨.e 4, .mv, [.t 47], none⟩] [0, 1, 4] []) (
 .seq (.reg [
   ⟨.e 48, .mv, [.t 0], none⟩,
   ⟨.e 49, .mv, [.t 1], none⟩,
   ⟨.e 50, .bin .mul, [.t 48, .t 49], none⟩,
   ⟨.e 5, .mv, [.t 50], none⟩] [4, 5] []) (
 .ret))))))))))))⟩
structure HasG (F : Nat → Option Fn) : Prop where
  h38 : F 38 = some c38
  h39 : F 39 = some c39
  h40 : F 40 = some c40
  h41 : F 41 = some c41
  h42 : F 42 = some c42
  h43 : F 43 = some c43
  h44 : F 44 = some c44
  h46 : F 46 = some c46
  h47 : F 47 = some c47
  h102 : F 102 = some c102
  h103 : F 103 = some c103
  h104 : F 104 = some c104
  h105 : F 105 = some c105
  h107 : F 107 = some c107
  h108 : F 108 = some c108
  h109 : F 109 = some c109
  h110 : F 110 = some c110
  h150 : F 150 = some c150
  h151 : F 151 = some c151
  h152 : F 152 = some c152
  h165 : F 165 = some c165
  h168 : F 168 = some c168
  h169 : F 169 = some c169
end Go.Am
