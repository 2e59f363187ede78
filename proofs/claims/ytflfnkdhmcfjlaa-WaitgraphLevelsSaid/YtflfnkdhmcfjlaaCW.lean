/- The abstract machine's code of the functions of group W, printed by program. -/
import Derived.Test.YtflfnkdhmcfjlaaMach
namespace Go.Am
/- estovers/estoverslaw42.awake -/
noncomputable def c27 : Fn := ⟨0, 0, 6, true, [.t 0],
 .seq (.reg [
   ⟨.e 0, .mv, [.k (.bool false)], none⟩] [] []) (
 .seq (.reg [
   ⟨.e 16, .call 90, [.k (.int .i64 2)], none⟩,
   ⟨.e 17, .call 90, [.k (.int .i64 1)], none⟩,
   ⟨.x 1, .box, [.k (.agg [.nil, .nil, .nil])], none⟩,
   ⟨.x 2, .box, [.k (.agg [.nil, .nil, .nil])], none⟩,
   ⟨.n, .st 3, [.b 1, .t 16], none⟩,
   ⟨.n, .st 3, [.b 2, .t 17], none⟩] [] [1, 2]) (
 .seq (.reg [
   ⟨.e 19, .ld true 3, [.b 1], none⟩,
   ⟨.e 20, .call 35, [.t 19], none⟩,
   ⟨.e 18, .mv, [.t 20], none⟩,
   ⟨.e 21, .ext 0, [.t 18], none⟩,
   ⟨.e 22, .ext 1, [.t 18], none⟩,
   ⟨.e 3, .mv, [.t 21], none⟩,
   ⟨.e 4, .mv, [.t 22], none⟩] [3, 4] [1, 2]) (
 .seq (.reg [
   ⟨.e 24, .ld true 3, [.b 2], none⟩,
   ⟨.e 25, .call 35, [.t 24], none⟩,
   ⟨.e 23, .mv, [.t 25], none⟩,
   ⟨.e 26, .ext 0, [.t 23], none⟩,
   ⟨.e 27, .ext 1, [.t 23], none⟩,
   ⟨.e 5, .mv, [.t 26], none⟩,
   ⟨.e 6, .mv, [.t 27], none⟩] [3, 4, 5, 6] [1, 2]) (
 .seq (.reg [
   ⟨.e 29, .mv, [.t 3], none⟩,
   ⟨.e 30, .call 39, [.k (.int .i64 4), .t 29], none⟩,
   ⟨.e 28, .mv, [.t 30], none⟩,
   ⟨.e 31, .ext 0, [.t 28], none⟩,
   ⟨.e 32, .ext 1, [.t 28], none⟩,
   ⟨.e 7, .mv, [.t 31], none⟩,
   ⟨.e 8, .mv, [.t 32], none⟩] [3, 4, 5, 6, 7, 8] [1, 2]) (
 .seq (.reg [
   ⟨.e 34, .mv, [.t 3], none⟩,
   ⟨.e 35, .call 40, [.k (.int .i64 4), .t 34], none⟩,
   ⟨.e 33, .mv, [.t 35], none⟩,
   ⟨.e 36, .ext 0, [.t 33], none⟩,
   ⟨.e 37, .ext 1, [.t 33], none⟩,
   ⟨.e 9, .mv, [.t 36], none⟩,
   ⟨.e 10, .mv, [.t 37], none⟩] [3, 4, 5, 6, 7, 8, 9, 10] [1, 2]) (
 .seq (.reg [
   ⟨.e 39, .mv, [.t 3], none⟩,
   ⟨.e 40, .call 41, [.k (.int .i64 4), .t 39], none⟩,
   ⟨.e 38, .mv, [.t 40], none⟩,
   ⟨.e 41, .ext 0, [.t 38], none⟩,
   ⟨.e 42, .ext 1, [.t 38], none⟩,
   ⟨.e 11, .mv, [.t 41], none⟩,
   ⟨.e 12, .mv, [.t 42], none⟩] [3, 4, 5, 6, 7, 8, 9, 10, 12] [1, 2]) (
 .seq (.reg [
   ⟨.e 44, .mv, [.t 5], none⟩,
   ⟨.e 45, .call 41, [.k (.int .i64 4), .t 44], none⟩,
   ⟨.e 43, .mv, [.t 45], none⟩,
   ⟨.e 46, .ext 0, [.t 43], none⟩,
   ⟨.e 47, .ext 1, [.t 43], none⟩,
   ⟨.e 13, .mv, [.t 46], none⟩,
   ⟨.e 14, .mv, [.t 47], none⟩] [3, 4, 5, 6, 7, 8, 9, 10, 12, 13, 14] [1, 2]) (
 .seq (.reg [
   ⟨.e 48, .mv, [.t 4], none⟩,
   ⟨.e 49, .bin .eql, [.t 48, .k (.int .i64 0)], none⟩,
   ⟨.e 50, .mv, [.t 49], none⟩,
   ⟨.e 51, .mv, [.t 6], some (50, true)⟩,
   ⟨.e 52, .bin .eql, [.t 51, .k (.int .i64 0)], some (50, true)⟩,
   ⟨.e 53, .pick, [.t 50, .t 52, .k (.bool false)], none⟩,
   ⟨.e 54, .mv, [.t 53], none⟩,
   ⟨.e 55, .mv, [.t 8], some (54, true)⟩,
   ⟨.e 56, .bin .eql, [.t 55, .k (.int .i64 0)], some (54, true)⟩,
   ⟨.e 57, .pick, [.t 54, .t 56, .k (.bool false)], none⟩,
   ⟨.e 58, .mv, [.t 57], none⟩,
   ⟨.e 59, .mv, [.t 10], some (58, true)⟩,
   ⟨.e 60, .bin .eql, [.t 59, .k (.int .i64 0)], some (58, true)⟩,
   ⟨.e 61, .pick, [.t 58, .t 60, .k (.bool false)], none⟩,
   ⟨.e 62, .mv, [.t 61], none⟩,
   ⟨.e 63, .mv, [.t 12], some (62, true)⟩,
   ⟨.e 64, .bin .eql, [.t 63, .k (.int .i64 10)], some (62, true)⟩,
   ⟨.e 65, .pick, [.t 62, .t 64, .k (.bool false)], none⟩,
   ⟨.e 66, .mv, [.t 65], none⟩,
   ⟨.e 67, .mv, [.t 14], some (66, true)⟩,
   ⟨.e 68, .bin .eql, [.t 67, .k (.int .i64 0)], some (66, true)⟩,
   ⟨.e 69, .pick, [.t 66, .t 68, .k (.bool false)], none⟩,
   ⟨.e 15, .mv, [.t 69], none⟩] [3, 5, 7, 9, 13, 15] [1, 2]) (
 .seq (.reg [
   ⟨.e 70, .mv, [.t 15], none⟩,
   ⟨.e 71, .mv, [.t 70], none⟩,
   ⟨.e 72, .ld true 3, [.b 1], some (71, true)⟩,
   ⟨.e 73, .call 29, [.t 72], some (71, true)⟩,
   ⟨.e 74, .bin .eql, [.t 73, .k (.int .i64 4)], some (71, true)⟩,
   ⟨.e 75, .pick, [.t 71, .t 74, .k (.bool false)], none⟩,
   ⟨.e 76, .mv, [.t 75], none⟩,
   ⟨.e 77, .ld true 3, [.b 1], some (76, true)⟩,
   ⟨.e 78, .call 31, [.t 77, .k (.int .i64 0), .k (.bool false)], some (76, true)⟩,
   ⟨.e 79, .bin .eql, [.t 78, .k (.int .i64 5)], some (76, true)⟩,
   ⟨.e 80, .pick, [.t 76, .t 79, .k (.bool false)], none⟩,
   ⟨.e 81, .mv, [.t 80], none⟩,
   ⟨.e 82, .ld true 3, [.b 1], some (81, true)⟩,
   ⟨.e 83, .call 31, [.t 82, .k (.int .i64 0), .k (.bool true)], some (81, true)⟩,
   ⟨.e 84, .bin .eql, [.t 83, .k (.int .i64 1)], some (81, true)⟩,
   ⟨.e 85, .pick, [.t 81, .t 84, .k (.bool false)], none⟩,
   ⟨.e 86, .mv, [.t 85], none⟩,
   ⟨.e 87, .ld true 3, [.b 1], some (86, true)⟩,
   ⟨.e 88, .call 33, [.t 87, .k (.int .i64 0), .k (.int .i64 1)], some (86, true)⟩,
   ⟨.e 89, .pick, [.t 86, .t 88, .k (.bool false)], none⟩,
   ⟨.e 90, .mv, [.t 89], none⟩,
   ⟨.e 91, .ld true 3, [.b 2], some (90, true)⟩,
   ⟨.e 92, .call 33, [.t 91, .k (.int .i64 0), .k (.int .i64 1)], some (90, true)⟩,
   ⟨.e 93, .not, [.t 92], some (90, true)⟩,
   ⟨.e 94, .pick, [.t 90, .t 93, .k (.bool false)], none⟩,
   ⟨.e 95, .mv, [.t 94], none⟩,
   ⟨.e 96, .ld true 3, [.b 1], some (95, true)⟩,
   ⟨.e 97, .call 33, [.t 96, .k (.int .i64 1), .k (.int .i64 0)], some (95, true)⟩,
   ⟨.e 98, .not, [.t 97], some (95, true)⟩,
   ⟨.e 99, .pick, [.t 95, .t 98, .k (.bool false)], none⟩,
   ⟨.e 100, .mv, [.t 99], none⟩,
   ⟨.e 101, .mv, [.t 3], some (100, true)⟩,
   ⟨.e 102, .bld [(.int .i64 0), (.int .i64 0), (.int .i64 0), (.int .i64 0)] [(0, 1), (3, 1)], [.k (.int .i64 1), .k (.int .i64 1)], some (100, true)⟩,
   ⟨.e 103, .bld [(.int .i64 0), (.int .i64 0), (.int .i64 0), (.int .i64 0)] [(3, 1)], [.k (.int .i64 2)], some (100, true)⟩,
   ⟨.e 104, .bld [(.int .i64 0), (.int .i64 0), (.int .i64 0), (.int .i64 0)] [(1, 1), (3, 1)], [.k (.int .i64 3), .k (.int .i64 3)], some (100, true)⟩,
   ⟨.e 105, .bld [(.int .i64 0), (.int .i64 0), (.int .i64 0), (.int .i64 0)] [(0, 1), (1, 1), (3, 1)], [.k (.int .i64 1), .k (.int .i64 3), .k (.int .i64 3)], some (100, true)⟩,
   ⟨.e 106, .hlit 4 4 (.agg [(.int .i64 0), (.int .i64 0), (.int .i64 0), (.int .i64 0)]) [0, 1, 2, 3], [.t 102, .t 103, .t 104, .t 105], some (100, true)⟩,
   ⟨.e 107, .call 37, [.t 101, .t 106], some (100, true)⟩,
   ⟨.e 108, .pick, [.t 100, .t 107, .k (.bool false)], none⟩,
   ⟨.e 109, .mv, [.t 108], none⟩,
   ⟨.e 110, .mv, [.t 5], some (109, true)⟩,
   ⟨.e 111, .len false, [.t 110], some (109, true)⟩,
   ⟨.e 112, .bin .eql, [.t 111, .k (.int .i64 2)], some (109, true)⟩,
   ⟨.e 113, .pick, [.t 109, .t 112, .k (.bool false)], none⟩,
   ⟨.e 114, .mv, [.t 113], none⟩,
   ⟨.e 115, .mv, [.t 7], some (114, true)⟩,
   ⟨.e 116, .hlit 1 4 (.int .i64 0) [0, 1, 2, 3], [.k (.int .i64 0), .k (.int .i64 1), .k (.int .i64 2), .k (.int .i64 3)], some (114, true)⟩,
   ⟨.e 117, .call 45, [.t 115, .t 116], some (114, true)⟩,
   ⟨.e 118, .pick, [.t 114, .t 117, .k (.bool false)], none⟩,
   ⟨.e 119, .mv, [.t 118], none⟩,
   ⟨.e 120, .mv, [.t 9], some (119, true)⟩,
   ⟨.e 121, .hlit 1 1 (.int .i64 0) [0], [.k (.int .i64 1)], some (119, true)⟩,
   ⟨.e 122, .call 45, [.t 120, .t 121], some (119, true)⟩,
   ⟨.e 123, .pick, [.t 119, .t 122, .k (.bool false)], none⟩,
   ⟨.e 124, .mv, [.t 123], none⟩,
   ⟨.e 125, .mv, [.t 13], some (124, true)⟩,
   ⟨.e 126, .hlit 1 4 (.int .i64 0) [0, 1, 2, 3], [.k (.int .i64 1), .k (.int .i64 1), .k (.int .i64 0), .k (.int .i64 0)], some (124, true)⟩,
   ⟨.e 127, .call 45, [.t 125, .t 126], some (124, true)⟩,
   ⟨.e 128, .pick, [.t 124, .t 127, .k (.bool false)], none⟩,
   ⟨.e 0, .mv, [.t 128], none⟩] [0] []) (
 .ret))))))))))⟩
/- estovers/estoverslaw42.Faults -/
noncomputable def L90_1 : AC := .loop [0, 3, 7, 8] [2] (
 .seq (.reg [
   ⟨.e 9, .bin .lss, [.t 8, .t 7], none⟩] [0, 3, 7, 8, 9] [2]) (
 .seq (.cond (.t 9)
  (.skip)
  (.exit 0)) (
 .seq (.block 1 (
  .reg [
    ⟨.e 10, .mv, [.t 3], none⟩,
    ⟨.e 11, .bld [(.int .i64 0), (.int .i64 0), (.int .i64 0), (.bool false)] [(0, 1), (2, 1)], [.k (.int .i64 1), .k (.int .i64 1)], none⟩,
    ⟨.e 12, .lit 4 1 (.agg [(.int .i64 0), (.int .i64 0), (.int .i64 0), (.bool false)]) [0], [.t 11], none⟩,
    ⟨.e 13, .app 4, [.t 10, .t 12], none⟩,
    ⟨.e 3, .mv, [.t 13], none⟩] [0, 3, 7, 8] [2])) (
 .reg [
   ⟨.e 14, .bin .add, [.t 8, .k (.int .i64 1)], none⟩,
   ⟨.e 8, .mv, [.t 14], none⟩] [0, 3, 7, 8] [2]))))
noncomputable def c90 : Fn := ⟨1, 0, 4, true, [.c 2 true 3],
 .seq (.reg [
   ⟨.x 2, .box, [.k (.agg [.nil, .nil, .nil])], none⟩] [0] [2]) (
 .seq (.reg [
   ⟨.e 5, .bld [(.int .i64 0), (.int .i64 0), (.int .i64 0), (.bool false)] [(0, 1)], [.k (.int .i64 3)], none⟩,
   ⟨.e 6, .hlit 4 1 (.agg [(.int .i64 0), (.int .i64 0), (.int .i64 0), (.bool false)]) [0], [.t 5], none⟩,
   ⟨.e 3, .mv, [.t 6], none⟩] [0, 3] [2]) (
 .seq (.seq (.reg [
   ⟨.e 7, .mv, [.t 0], none⟩,
   ⟨.e 8, .mv, [.k (.int .i64 0)], none⟩] [0, 3, 7, 8] [2]) (
 .block 0 (
  L90_1))) (
 .seq (.reg [
   ⟨.e 15, .mv, [.t 3], none⟩,
   ⟨.e 16, .bld [(.int .i64 0), (.int .i64 0), (.int .i64 0), (.bool false)] [(0, 1), (1, 1)], [.k (.int .i64 5), .k (.int .i64 1)], none⟩,
   ⟨.e 17, .mv, [.t 0], none⟩,
   ⟨.e 18, .bld [(.int .i64 0), (.int .i64 0), (.int .i64 0), (.bool false)] [(0, 1), (2, 1)], [.k (.int .i64 2), .t 17], none⟩,
   ⟨.e 19, .bld [(.int .i64 0), (.int .i64 0), (.int .i64 0), (.bool false)] [(0, 1)], [.k (.int .i64 4)], none⟩,
   ⟨.e 20, .lit 4 3 (.agg [(.int .i64 0), (.int .i64 0), (.int .i64 0), (.bool false)]) [0, 1, 2], [.t 16, .t 18, .t 19], none⟩,
   ⟨.e 21, .app 4, [.t 15, .t 20], none⟩,
   ⟨.e 3, .mv, [.t 21], none⟩] [3] [2]) (
 .seq (.reg [
   ⟨.e 22, .bld [(.int .i64 0), (.int .i64 0), (.int .i64 0), (.bool false)] [(0, 1), (2, 1), (3, 1)], [.k (.int .i64 1), .k (.int .i64 1), .k (.bool true)], none⟩,
   ⟨.e 23, .bld [(.int .i64 0), (.int .i64 0), (.int .i64 0), (.bool false)] [(0, 1), (2, 1)], [.k (.int .i64 2), .k (.int .i64 1)], none⟩,
   ⟨.e 24, .hlit 4 2 (.agg [(.int .i64 0), (.int .i64 0), (.int .i64 0), (.bool false)]) [0, 1], [.t 22, .t 23], none⟩,
   ⟨.e 4, .mv, [.t 24], none⟩] [3, 4] [2]) (
 .seq (.reg [
   ⟨.e 25, .bld [(.str []), (.int .i64 0), (.int .i64 0)] [(0, 1), (1, 1), (2, 1)], [.k (.str [102, 114, 97, 109, 101, 115]), .k (.int .i64 4), .k (.int .i64 1)], none⟩,
   ⟨.e 26, .hlit 3 1 (.agg [(.str []), (.int .i64 0), (.int .i64 0)]) [0], [.t 25], none⟩,
   ⟨.e 27, .hlit 1 1 (.str []) [0], [.k (.str [109, 97, 112])], none⟩,
   ⟨.e 28, .mv, [.t 3], none⟩,
   ⟨.e 29, .bld [(.str []), (.int .i64 0), (.bool false), .nil] [(0, 1), (1, 1), (3, 1)], [.k (.str [102, 97, 117, 108, 116]), .k (.int .i64 2), .t 28], none⟩,
   ⟨.e 30, .mv, [.t 4], none⟩,
   ⟨.e 31, .bld [(.str []), (.int .i64 0), (.bool false), .nil] [(0, 1), (1, 1), (2, 1), (3, 1)], [.k (.str [101, 118, 105, 99, 116]), .k (.int .i64 1), .k (.bool true), .t 30], none⟩,
   ⟨.e 32, .hlit 4 2 (.agg [(.str []), (.int .i64 0), (.bool false), .nil]) [0, 1], [.t 29, .t 31], none⟩,
   ⟨.e 33, .bld [.nil, .nil, .nil] [(0, 1), (1, 1), (2, 1)], [.t 26, .t 27, .t 32], none⟩,
   ⟨.n, .st 3, [.b 2, .t 33], none⟩] [] [2]) (
 .ret))))))⟩
/- estovers/estoverslaw42.WaitgraphDemands -/
noncomputable def c3 : Fn := ⟨3, 11167053381632, 24, true, [.t 6],
 .seq (.reg [
   ⟨.x 3, .box, [.t 0], none⟩,
   ⟨.x 4, .box, [.t 1], none⟩,
   ⟨.e 6, .mv, [.k (.bool false)], none⟩] [2] [3, 4]) (
 .seq (.seq (.reg [
   ⟨.e 7, .call 27, [], none⟩,
   ⟨.e 8, .not, [.t 7], none⟩,
   ⟨.e 9, .mv, [.t 8], none⟩,
   ⟨.e 10, .ld true 3, [.b 3], some (9, false)⟩,
   ⟨.e 11, .call 28, [.t 10], some (9, false)⟩,
   ⟨.e 12, .not, [.t 11], some (9, false)⟩,
   ⟨.e 13, .pick, [.t 9, .k (.bool true), .t 12], none⟩] [2, 13] [3, 4]) (
 .cond (.t 13)
  (.seq (.reg [
     ⟨.e 14, .call 27, [], none⟩,
     ⟨.e 6, .mv, [.t 14], none⟩] [6] []) (
   .ret))
  (.skip))) (
 .seq (.dreg [
   ⟨.e 15, .ld true 3, [.b 3], none⟩,
   ⟨.e 16, .call 29, [.t 15], none⟩,
   ⟨.e 17, .ld true 3, [.b 3], none⟩,
   ⟨.e 18, .call 30, [.t 17], none⟩,
   ⟨.e 19, .bin .eql, [.t 16, .t 18], none⟩,
   ⟨.e 20, .mv, [.t 19], none⟩,
   ⟨.e 21, .ld true 3, [.b 3], some (20, true)⟩,
   ⟨.a 22, .iaa 3 1, [.b 4, .k (.int .i64 0)], some (20, true)⟩,
   ⟨.e 23, .ld false 1, [.a 22], some (20, true)⟩,
   ⟨.e 24, .mv, [.t 2], some (20, true)⟩,
   ⟨.e 25, .call 31, [.t 21, .t 23, .t 24], some (20, true)⟩,
   ⟨.e 26, .ld true 3, [.b 3], some (20, true)⟩,
   ⟨.a 27, .iaa 3 1, [.b 4, .k (.int .i64 0)], some (20, true)⟩,
   ⟨.e 28, .ld false 1, [.a 27], some (20, true)⟩,
   ⟨.e 29, .mv, [.t 2], some (20, true)⟩,
   ⟨.e 30, .call 32, [.t 26, .t 28, .t 29], some (20, true)⟩,
   ⟨.e 31, .bin .eql, [.t 25, .t 30], some (20, true)⟩,
   ⟨.e 32, .pick, [.t 20, .t 31, .k (.bool false)], none⟩,
   ⟨.e 33, .mv, [.t 32], none⟩,
   ⟨.e 34, .ld true 3, [.b 3], some (33, true)⟩,
   ⟨.a 35, .iaa 3 1, [.b 4, .k (.int .i64 1)], some (33, true)⟩,
   ⟨.e 36, .ld false 1, [.a 35], some (33, true)⟩,
   ⟨.a 37, .iaa 3 1, [.b 4, .k (.int .i64 2)], some (33, true)⟩,
   ⟨.e 38, .ld false 1, [.a 37], some (33, true)⟩,
   ⟨.e 39, .call 33, [.t 34, .t 36, .t 38], some (33, true)⟩,
   ⟨.e 40, .ld true 3, [.b 3], some (33, true)⟩,
   ⟨.a 41, .iaa 3 1, [.b 4, .k (.int .i64 1)], some (33, true)⟩,
   ⟨.e 42, .ld false 1, [.a 41], some (33, true)⟩,
   ⟨.a 43, .iaa 3 1, [.b 4, .k (.int .i64 2)], some (33, true)⟩,
   ⟨.e 44, .ld false 1, [.a 43], some (33, true)⟩,
   ⟨.e 45, .call 34, [.t 40, .t 42, .t 44], some (33, true)⟩,
   ⟨.e 46, .bq false, [.t 39, .t 45], some (33, true)⟩,
   ⟨.e 47, .pick, [.t 33, .t 46, .k (.bool false)], none⟩,
   ⟨.e 6, .mv, [.t 47], none⟩] [] [6] []) (
 .ret)))⟩
/- estovers/estoverslaw42.WaitgraphEdges -/
noncomputable def c4 : Fn := ⟨1, 0, 2, true, [.t 2],
 .seq (.reg [
   ⟨.x 1, .box, [.t 0], none⟩,
   ⟨.e 2, .mv, [.k (.bool false)], none⟩] [] [1]) (
 .seq (.seq (.reg [
   ⟨.e 7, .call 27, [], none⟩,
   ⟨.e 8, .not, [.t 7], none⟩,
   ⟨.e 9, .mv, [.t 8], none⟩,
   ⟨.e 10, .ld true 3, [.b 1], some (9, false)⟩,
   ⟨.e 11, .call 28, [.t 10], some (9, false)⟩,
   ⟨.e 12, .not, [.t 11], some (9, false)⟩,
   ⟨.e 13, .pick, [.t 9, .k (.bool true), .t 12], none⟩] [13] [1]) (
 .cond (.t 13)
  (.seq (.reg [
     ⟨.e 14, .call 27, [], none⟩,
     ⟨.e 2, .mv, [.t 14], none⟩] [2] []) (
   .ret))
  (.skip))) (
 .seq (.reg [
   ⟨.e 16, .ld true 3, [.b 1], none⟩,
   ⟨.e 17, .call 35, [.t 16], none⟩,
   ⟨.e 15, .mv, [.t 17], none⟩,
   ⟨.e 18, .ext 0, [.t 15], none⟩,
   ⟨.e 19, .ext 1, [.t 15], none⟩,
   ⟨.e 3, .mv, [.t 18], none⟩,
   ⟨.e 4, .mv, [.t 19], none⟩] [3, 4] [1]) (
 .seq (.reg [
   ⟨.e 21, .ld true 3, [.b 1], none⟩,
   ⟨.e 22, .call 36, [.t 21], none⟩,
   ⟨.e 20, .mv, [.t 22], none⟩,
   ⟨.e 23, .ext 0, [.t 20], none⟩,
   ⟨.e 24, .ext 1, [.t 20], none⟩,
   ⟨.e 5, .mv, [.t 23], none⟩,
   ⟨.e 6, .mv, [.t 24], none⟩] [3, 4, 5, 6] []) (
 .seq (.reg [
   ⟨.e 25, .mv, [.t 4], none⟩,
   ⟨.e 26, .mv, [.t 6], none⟩,
   ⟨.e 27, .bin .eql, [.t 25, .t 26], none⟩,
   ⟨.e 28, .mv, [.t 27], none⟩,
   ⟨.e 29, .mv, [.t 3], some (28, true)⟩,
   ⟨.e 30, .mv, [.t 5], some (28, true)⟩,
   ⟨.e 31, .call 37, [.t 29, .t 30], some (28, true)⟩,
   ⟨.e 32, .pick, [.t 28, .t 31, .k (.bool false)], none⟩,
   ⟨.e 2, .mv, [.t 32], none⟩] [2] []) (
 .ret)))))⟩
/- estovers/estoverslaw42.WaitgraphGraphs -/
noncomputable def c5 : Fn := ⟨2, 0, 0, true, [.t 4],
 .seq (.reg [
   ⟨.e 4, .mv, [.k (.bool false)], none⟩] [0, 1] []) (
 .seq (.seq (.reg [
   ⟨.e 17, .call 27, [], none⟩,
   ⟨.e 18, .not, [.t 17], none⟩,
   ⟨.e 19, .mv, [.t 18], none⟩,
   ⟨.e 20, .mv, [.t 0], some (19, false)⟩,
   ⟨.e 21, .mv, [.t 1], some (19, false)⟩,
   ⟨.e 22, .call 38, [.t 20, .t 21], some (19, false)⟩,
   ⟨.e 23, .not, [.t 22], some (19, false)⟩,
   ⟨.e 24, .pick, [.t 19, .k (.bool true), .t 23], none⟩] [0, 1, 24] []) (
 .cond (.t 24)
  (.seq (.reg [
     ⟨.e 25, .call 27, [], none⟩,
     ⟨.e 4, .mv, [.t 25], none⟩] [4] []) (
   .ret))
  (.skip))) (
 .seq (.reg [
   ⟨.e 27, .mv, [.t 0], none⟩,
   ⟨.e 28, .mv, [.t 1], none⟩,
   ⟨.e 29, .call 39, [.t 27, .t 28], none⟩,
   ⟨.e 26, .mv, [.t 29], none⟩,
   ⟨.e 30, .ext 0, [.t 26], none⟩,
   ⟨.e 31, .ext 1, [.t 26], none⟩,
   ⟨.e 5, .mv, [.t 30], none⟩,
   ⟨.e 6, .mv, [.t 31], none⟩] [0, 1, 5, 6] []) (
 .seq (.reg [
   ⟨.e 33, .mv, [.t 0], none⟩,
   ⟨.e 34, .mv, [.t 1], none⟩,
   ⟨.e 35, .call 40, [.t 33, .t 34], none⟩,
   ⟨.e 32, .mv, [.t 35], none⟩,
   ⟨.e 36, .ext 0, [.t 32], none⟩,
   ⟨.e 37, .ext 1, [.t 32], none⟩,
   ⟨.e 7, .mv, [.t 36], none⟩,
   ⟨.e 8, .mv, [.t 37], none⟩] [0, 1, 5, 6, 7, 8] []) (
 .seq (.reg [
   ⟨.e 39, .mv, [.t 0], none⟩,
   ⟨.e 40, .mv, [.t 1], none⟩,
   ⟨.e 41, .call 41, [.t 39, .t 40], none⟩,
   ⟨.e 38, .mv, [.t 41], none⟩,
   ⟨.e 42, .ext 0, [.t 38], none⟩,
   ⟨.e 43, .ext 1, [.t 38], none⟩,
   ⟨.e 9, .mv, [.t 42], none⟩,
   ⟨.e 10, .mv, [.t 43], none⟩] [0, 1, 5, 6, 7, 8, 9, 10] []) (
 .seq (.reg [
   ⟨.e 45, .mv, [.t 0], none⟩,
   ⟨.e 46, .mv, [.t 1], none⟩,
   ⟨.e 47, .call 42, [.t 45, .t 46], none⟩,
   ⟨.e 44, .mv, [.t 47], none⟩,
   ⟨.e 48, .ext 0, [.t 44], none⟩,
   ⟨.e 49, .ext 1, [.t 44], none⟩,
   ⟨.e 11, .mv, [.t 48], none⟩,
   ⟨.e 12, .mv, [.t 49], none⟩] [0, 1, 5, 6, 7, 8, 9, 10, 11, 12] []) (
 .seq (.reg [
   ⟨.e 51, .mv, [.t 0], none⟩,
   ⟨.e 52, .mv, [.t 1], none⟩,
   ⟨.e 53, .call 43, [.t 51, .t 52], none⟩,
   ⟨.e 50, .mv, [.t 53], none⟩,
   ⟨.e 54, .ext 0, [.t 50], none⟩,
   ⟨.e 55, .ext 1, [.t 50], none⟩,
   ⟨.e 13, .mv, [.t 54], none⟩,
   ⟨.e 14, .mv, [.t 55], none⟩] [0, 1, 5, 6, 7, 8, 9, 10, 11, 12, 13, 14] []) (
 .seq (.reg [
   ⟨.e 57, .mv, [.t 0], none⟩,
   ⟨.e 58, .mv, [.t 1], none⟩,
   ⟨.e 59, .call 44, [.t 57, .t 58], none⟩,
   ⟨.e 56, .mv, [.t 59], none⟩,
   ⟨.e 60, .ext 0, [.t 56], none⟩,
   ⟨.e 61, .ext 1, [.t 56], none⟩,
   ⟨.e 15, .mv, [.t 60], none⟩,
   ⟨.e 16, .mv, [.t 61], none⟩] [5, 6, 7, 8, 9, 10, 11, 12, 13, 14, 15, 16] []) (
 .seq (.reg [
   ⟨.e 62, .mv, [.t 6], none⟩,
   ⟨.e 63, .mv, [.t 12], none⟩,
   ⟨.e 64, .bin .eql, [.t 62, .t 63], none⟩,
   ⟨.e 65, .mv, [.t 64], none⟩,
   ⟨.e 66, .mv, [.t 8], some (65, true)⟩,
   ⟨.e 67, .mv, [.t 14], some (65, true)⟩,
   ⟨.e 68, .bin .eql, [.t 66, .t 67], some (65, true)⟩,
   ⟨.e 69, .pick, [.t 65, .t 68, .k (.bool false)], none⟩,
   ⟨.e 70, .mv, [.t 69], none⟩,
   ⟨.e 71, .mv, [.t 10], some (70, true)⟩,
   ⟨.e 72, .mv, [.t 16], some (70, true)⟩,
   ⟨.e 73, .bin .eql, [.t 71, .t 72], some (70, true)⟩,
   ⟨.e 74, .pick, [.t 70, .t 73, .k (.bool false)], none⟩,
   ⟨.e 75, .mv, [.t 74], none⟩,
   ⟨.e 76, .mv, [.t 5], some (75, true)⟩,
   ⟨.e 77, .mv, [.t 11], some (75, true)⟩,
   ⟨.e 78, .call 45, [.t 76, .t 77], some (75, true)⟩,
   ⟨.e 79, .pick, [.t 75, .t 78, .k (.bool false)], none⟩,
   ⟨.e 80, .mv, [.t 79], none⟩,
   ⟨.e 81, .mv, [.t 7], some (80, true)⟩,
   ⟨.e 82, .mv, [.t 13], some (80, true)⟩,
   ⟨.e 83, .call 45, [.t 81, .t 82], some (80, true)⟩,
   ⟨.e 84, .pick, [.t 80, .t 83, .k (.bool false)], none⟩,
   ⟨.e 85, .mv, [.t 84], none⟩,
   ⟨.e 86, .mv, [.t 9], some (85, true)⟩,
   ⟨.e 87, .mv, [.t 15], some (85, true)⟩,
   ⟨.e 88, .call 45, [.t 86, .t 87], some (85, true)⟩,
   ⟨.e 89, .pick, [.t 85, .t 88, .k (.bool false)], none⟩,
   ⟨.e 4, .mv, [.t 89], none⟩] [4] []) (
 .ret)))))))))⟩
/- estovers/estoverslaw42.WaitgraphCycles -/
noncomputable def L6_1 : AC := .loop [5, 6, 7, 9, 10, 46, 47] [] (
 .seq (.reg [
   ⟨.e 48, .bin .lss, [.t 47, .t 46], none⟩] [5, 6, 7, 9, 10, 46, 47, 48] []) (
 .seq (.cond (.t 48)
  (.skip)
  (.exit 0)) (
 .seq (.block 1 (
  .seq (.reg [
    ⟨.e 49, .mv, [.t 47], none⟩,
    ⟨.e 11, .mv, [.t 49], none⟩] [5, 6, 7, 9, 10, 11, 46, 47] []) (
  .reg [
    ⟨.e 50, .mv, [.t 10], none⟩,
    ⟨.e 51, .mv, [.t 50], none⟩,
    ⟨.e 52, .mv, [.t 9], some (51, false)⟩,
    ⟨.e 53, .mv, [.t 11], some (51, false)⟩,
    ⟨.a 54, .ia 1, [.t 52, .t 53], some (51, false)⟩,
    ⟨.e 55, .ld false 1, [.a 54], some (51, false)⟩,
    ⟨.e 56, .mv, [.t 11], some (51, false)⟩,
    ⟨.a 57, .ia 1, [.t 55, .t 56], some (51, false)⟩,
    ⟨.e 58, .ld false 1, [.a 57], some (51, false)⟩,
    ⟨.e 59, .pick, [.t 51, .k (.bool true), .t 58], none⟩,
    ⟨.e 10, .mv, [.t 59], none⟩] [5, 6, 7, 9, 10, 46, 47] []))) (
 .reg [
   ⟨.e 60, .bin .add, [.t 47, .k (.int .i64 1)], none⟩,
   ⟨.e 47, .mv, [.t 60], none⟩] [5, 6, 7, 9, 10, 46, 47] []))))
noncomputable def L6_2 : AC := .loop [5, 6, 7, 66, 67, 68] [] (
 .seq (.reg [
   ⟨.e 69, .bin .lss, [.t 68, .t 67], none⟩] [5, 6, 7, 66, 67, 68, 69] []) (
 .seq (.cond (.t 69)
  (.skip)
  (.exit 2)) (
 .seq (.block 3 (
  .seq (.reg [
    ⟨.e 70, .mv, [.t 68], none⟩,
    ⟨.a 71, .ia 1, [.t 66, .t 68], none⟩,
    ⟨.e 72, .ld false 1, [.a 71], none⟩,
    ⟨.e 12, .mv, [.t 70], none⟩,
    ⟨.e 13, .mv, [.t 72], none⟩] [5, 6, 7, 12, 13, 66, 67, 68] []) (
  .seq (.reg [
    ⟨.e 73, .mv, [.t 7], none⟩,
    ⟨.e 74, .mv, [.t 12], none⟩,
    ⟨.e 75, .bin .add, [.t 74, .k (.int .i64 1)], none⟩,
    ⟨.e 76, .mv, [.t 7], none⟩,
    ⟨.e 77, .len false, [.t 76], none⟩,
    ⟨.e 78, .bin .rem, [.t 75, .t 77], none⟩,
    ⟨.a 79, .ia 1, [.t 73, .t 78], none⟩,
    ⟨.e 80, .ld false 1, [.a 79], none⟩,
    ⟨.e 14, .mv, [.t 80], none⟩] [5, 6, 7, 13, 14, 66, 67, 68] []) (
  .seq (.dreg [
    ⟨.e 81, .mv, [.t 13], none⟩,
    ⟨.e 82, .bin .lss, [.t 81, .k (.int .i64 0)], none⟩,
    ⟨.e 83, .mv, [.t 82], none⟩,
    ⟨.e 84, .mv, [.t 13], some (83, false)⟩,
    ⟨.e 85, .mv, [.t 6], some (83, false)⟩,
    ⟨.e 86, .len false, [.t 85], some (83, false)⟩,
    ⟨.e 87, .bin .geq, [.t 84, .t 86], some (83, false)⟩,
    ⟨.e 88, .pick, [.t 83, .k (.bool true), .t 87], none⟩,
    ⟨.e 89, .mv, [.t 88], none⟩,
    ⟨.e 90, .mv, [.t 14], some (89, false)⟩,
    ⟨.e 91, .bin .lss, [.t 90, .k (.int .i64 0)], some (89, false)⟩,
    ⟨.e 92, .pick, [.t 89, .k (.bool true), .t 91], none⟩,
    ⟨.e 93, .mv, [.t 92], none⟩,
    ⟨.e 94, .mv, [.t 14], some (93, false)⟩,
    ⟨.e 95, .mv, [.t 6], some (93, false)⟩,
    ⟨.e 96, .len false, [.t 95], some (93, false)⟩,
    ⟨.e 97, .bin .geq, [.t 94, .t 96], some (93, false)⟩,
    ⟨.e 98, .pick, [.t 93, .k (.bool true), .t 97], none⟩,
    ⟨.e 99, .mv, [.t 98], none⟩,
    ⟨.e 100, .mv, [.t 6], some (99, false)⟩,
    ⟨.e 101, .mv, [.t 13], some (99, false)⟩,
    ⟨.a 102, .ia 4, [.t 100, .t 101], some (99, false)⟩,
    ⟨.a 103, .fa 1, [.a 102], some (99, false)⟩,
    ⟨.e 104, .ld false 1, [.a 103], some (99, false)⟩,
    ⟨.e 105, .mv, [.t 6], some (99, false)⟩,
    ⟨.e 106, .mv, [.t 14], some (99, false)⟩,
    ⟨.a 107, .ia 4, [.t 105, .t 106], some (99, false)⟩,
    ⟨.a 108, .fa 0, [.a 107], some (99, false)⟩,
    ⟨.e 109, .ld false 1, [.a 108], some (99, false)⟩,
    ⟨.e 110, .bin .neq, [.t 104, .t 109], some (99, false)⟩,
    ⟨.e 111, .pick, [.t 99, .k (.bool true), .t 110], none⟩] [] [5, 6, 7, 66, 67, 68, 111] []) (
  .cond (.t 111)
   (.seq (.reg [
      ⟨.e 4, .mv, [.k (.bool false)], none⟩] [4] []) (
    .ret))
   (.skip)))))) (
 .reg [
   ⟨.e 112, .bin .add, [.t 68, .k (.int .i64 1)], none⟩,
   ⟨.e 68, .mv, [.t 112], none⟩] [5, 6, 7, 66, 67, 68] []))))
noncomputable def L6_3 : AC := .loop [5, 6, 7, 15, 116, 117] [] (
 .seq (.reg [
   ⟨.e 118, .bin .lss, [.t 117, .t 116], none⟩] [5, 6, 7, 15, 116, 117, 118] []) (
 .seq (.cond (.t 118)
  (.skip)
  (.exit 4)) (
 .seq (.block 5 (
  .seq (.reg [
    ⟨.e 119, .mv, [.t 117], none⟩,
    ⟨.e 16, .mv, [.t 119], none⟩] [5, 6, 7, 15, 16, 116, 117] []) (
  .seq (.reg [
    ⟨.e 120, .mv, [.t 15], none⟩,
    ⟨.e 121, .mv, [.t 16], none⟩,
    ⟨.e 122, .mv, [.t 5], none⟩,
    ⟨.e 123, .mk 1 (.bool false), [.t 122], none⟩,
    ⟨.a 124, .ia 1, [.t 120, .t 121], none⟩,
    ⟨.n, .st 1, [.a 124, .t 123], none⟩] [5, 6, 7, 15, 16, 116, 117] []) (
  .reg [
    ⟨.e 125, .mv, [.t 15], none⟩,
    ⟨.e 126, .mv, [.t 16], none⟩,
    ⟨.a 127, .ia 1, [.t 125, .t 126], none⟩,
    ⟨.e 128, .ld false 1, [.a 127], none⟩,
    ⟨.e 129, .mv, [.t 16], none⟩,
    ⟨.a 130, .ia 1, [.t 128, .t 129], none⟩,
    ⟨.n, .st 1, [.a 130, .k (.bool true)], none⟩] [5, 6, 7, 15, 116, 117] [])))) (
 .reg [
   ⟨.e 131, .bin .add, [.t 117, .k (.int .i64 1)], none⟩,
   ⟨.e 117, .mv, [.t 131], none⟩] [5, 6, 7, 15, 116, 117] []))))
noncomputable def L6_4 : AC := .loop [5, 6, 15, 17, 18, 135, 136, 141, 142, 150, 151, 152] [] (
 .seq (.reg [
   ⟨.e 153, .bin .lss, [.t 152, .t 151], none⟩] [5, 6, 15, 17, 18, 135, 136, 141, 142, 150, 151, 152, 153] []) (
 .seq (.cond (.t 153)
  (.skip)
  (.exit 10)) (
 .seq (.block 11 (
  .seq (.reg [
    ⟨.a 154, .ia 4, [.t 150, .t 152], none⟩,
    ⟨.e 155, .ld true 4, [.a 154], none⟩,
    ⟨.x 20, .box, [.k (.agg [(.int .i64 0), (.int .i64 0), (.int .i64 0), (.int .i64 0)])], none⟩,
    ⟨.n, .st 4, [.b 20, .t 155], none⟩] [5, 6, 15, 17, 18, 135, 136, 141, 142, 150, 151, 152] [20]) (
  .dreg [
    ⟨.e 156, .mv, [.t 17], none⟩,
    ⟨.e 157, .mv, [.t 18], none⟩,
    ⟨.a 158, .ia 1, [.t 156, .t 157], none⟩,
    ⟨.e 159, .ld false 1, [.a 158], none⟩,
    ⟨.a 160, .fa 1, [.b 20], none⟩,
    ⟨.e 161, .ld false 1, [.a 160], none⟩,
    ⟨.e 162, .mv, [.t 17], none⟩,
    ⟨.e 163, .mv, [.t 18], none⟩,
    ⟨.a 164, .ia 1, [.t 162, .t 163], none⟩,
    ⟨.e 165, .ld false 1, [.a 164], none⟩,
    ⟨.a 166, .fa 1, [.b 20], none⟩,
    ⟨.e 167, .ld false 1, [.a 166], none⟩,
    ⟨.a 168, .ia 1, [.t 165, .t 167], none⟩,
    ⟨.e 169, .ld false 1, [.a 168], none⟩,
    ⟨.e 170, .mv, [.t 169], none⟩,
    ⟨.e 171, .mv, [.t 15], some (170, false)⟩,
    ⟨.e 172, .mv, [.t 18], some (170, false)⟩,
    ⟨.a 173, .ia 1, [.t 171, .t 172], some (170, false)⟩,
    ⟨.e 174, .ld false 1, [.a 173], some (170, false)⟩,
    ⟨.a 175, .fa 0, [.b 20], some (170, false)⟩,
    ⟨.e 176, .ld false 1, [.a 175], some (170, false)⟩,
    ⟨.a 177, .ia 1, [.t 174, .t 176], some (170, false)⟩,
    ⟨.e 178, .ld false 1, [.a 177], some (170, false)⟩,
    ⟨.e 179, .pick, [.t 170, .k (.bool true), .t 178], none⟩,
    ⟨.a 180, .ia 1, [.t 159, .t 161], none⟩,
    ⟨.n, .st 1, [.a 180, .t 179], none⟩] [] [5, 6, 15, 17, 18, 135, 136, 141, 142, 150, 151, 152] []))) (
 .reg [
   ⟨.e 181, .bin .add, [.t 152, .k (.int .i64 1)], none⟩,
   ⟨.e 152, .mv, [.t 181], none⟩] [5, 6, 15, 17, 18, 135, 136, 141, 142, 150, 151, 152] []))))
noncomputable def L6_5 : AC := .loop [5, 6, 15, 17, 135, 136, 141, 142] [] (
 .seq (.reg [
   ⟨.e 143, .bin .lss, [.t 142, .t 141], none⟩] [5, 6, 15, 17, 135, 136, 141, 142, 143] []) (
 .seq (.cond (.t 143)
  (.skip)
  (.exit 8)) (
 .seq (.block 9 (
  .seq (.reg [
    ⟨.e 144, .mv, [.t 142], none⟩,
    ⟨.e 18, .mv, [.t 144], none⟩] [5, 6, 15, 17, 18, 135, 136, 141, 142] []) (
  .seq (.reg [
    ⟨.e 145, .mv, [.t 17], none⟩,
    ⟨.e 146, .mv, [.t 18], none⟩,
    ⟨.e 147, .mv, [.t 5], none⟩,
    ⟨.e 148, .mk 1 (.bool false), [.t 147], none⟩,
    ⟨.a 149, .ia 1, [.t 145, .t 146], none⟩,
    ⟨.n, .st 1, [.a 149, .t 148], none⟩] [5, 6, 15, 17, 18, 135, 136, 141, 142] []) (
  .seq (.seq (.reg [
    ⟨.e 150, .mv, [.t 6], none⟩,
    ⟨.e 151, .len false, [.t 150], none⟩,
    ⟨.e 152, .mv, [.k (.int .i64 0)], none⟩] [5, 6, 15, 17, 18, 135, 136, 141, 142, 150, 151, 152] []) (
  .block 10 (
   L6_4))) (
  .seq (.reg [
    ⟨.e 182, .mv, [.t 17], none⟩,
    ⟨.e 183, .mv, [.t 18], none⟩,
    ⟨.a 184, .ia 1, [.t 182, .t 183], none⟩,
    ⟨.e 185, .ld false 1, [.a 184], none⟩,
    ⟨.e 186, .mv, [.t 18], none⟩,
    ⟨.a 187, .ia 1, [.t 185, .t 186], none⟩,
    ⟨.e 188, .ld false 1, [.a 187], none⟩] [5, 6, 15, 17, 135, 136, 141, 142, 188] []) (
  .cond (.t 188)
   (.seq (.reg [
      ⟨.e 4, .mv, [.k (.bool false)], none⟩] [4] []) (
    .ret))
   (.skip))))))) (
 .reg [
   ⟨.e 189, .bin .add, [.t 142, .k (.int .i64 1)], none⟩,
   ⟨.e 142, .mv, [.t 189], none⟩] [5, 6, 15, 17, 135, 136, 141, 142] []))))
noncomputable def L6_6 : AC := .loop [5, 6, 15, 135, 136] [] (
 .seq (.reg [
   ⟨.e 137, .bin .lss, [.t 136, .t 135], none⟩] [5, 6, 15, 135, 136, 137] []) (
 .seq (.cond (.t 137)
  (.skip)
  (.exit 6)) (
 .seq (.block 7 (
  .seq (.reg [
    ⟨.e 138, .mv, [.t 5], none⟩,
    ⟨.e 139, .mk 1 .nil, [.t 138], none⟩,
    ⟨.e 17, .mv, [.t 139], none⟩] [5, 6, 15, 17, 135, 136] []) (
  .seq (.seq (.reg [
    ⟨.e 140, .mv, [.t 17], none⟩,
    ⟨.e 141, .len false, [.t 140], none⟩,
    ⟨.e 142, .mv, [.k (.int .i64 0)], none⟩] [5, 6, 15, 17, 135, 136, 141, 142] []) (
  .block 8 (
   L6_5))) (
  .reg [
    ⟨.e 190, .mv, [.t 17], none⟩,
    ⟨.e 15, .mv, [.t 190], none⟩] [5, 6, 15, 135, 136] [])))) (
 .reg [
   ⟨.e 191, .bin .add, [.t 136, .k (.int .i64 1)], none⟩,
   ⟨.e 136, .mv, [.t 191], none⟩] [5, 6, 15, 135, 136] []))))
noncomputable def c6 : Fn := ⟨2, 222463771390203972681981038542528268042264488255328092160, 1048576, true, [.t 4],
 .seq (.reg [
   ⟨.e 4, .mv, [.k (.bool false)], none⟩] [0, 1] []) (
 .seq (.seq (.reg [
   ⟨.e 21, .call 27, [], none⟩,
   ⟨.e 22, .not, [.t 21], none⟩,
   ⟨.e 23, .mv, [.t 22], none⟩,
   ⟨.e 24, .mv, [.t 1], some (23, false)⟩,
   ⟨.e 25, .len false, [.t 24], some (23, false)⟩,
   ⟨.e 26, .bin .gtr, [.t 25, .k (.int .i64 40)], some (23, false)⟩,
   ⟨.e 27, .pick, [.t 23, .k (.bool true), .t 26], none⟩] [0, 1, 27] []) (
 .cond (.t 27)
  (.seq (.reg [
     ⟨.e 28, .call 27, [], none⟩,
     ⟨.e 4, .mv, [.t 28], none⟩] [4] []) (
   .ret))
  (.skip))) (
 .seq (.reg [
   ⟨.e 30, .mv, [.t 0], none⟩,
   ⟨.e 31, .mv, [.t 1], none⟩,
   ⟨.e 32, .call 46, [.t 30, .t 31], none⟩,
   ⟨.e 29, .mv, [.t 32], none⟩,
   ⟨.e 33, .ext 0, [.t 29], none⟩,
   ⟨.e 34, .ext 1, [.t 29], none⟩,
   ⟨.e 5, .mv, [.t 33], none⟩,
   ⟨.e 6, .mv, [.t 34], none⟩] [5, 6] []) (
 .seq (.reg [
   ⟨.e 36, .mv, [.t 5], none⟩,
   ⟨.e 37, .mv, [.t 6], none⟩,
   ⟨.e 38, .call 40, [.t 36, .t 37], none⟩,
   ⟨.e 35, .mv, [.t 38], none⟩,
   ⟨.e 39, .ext 0, [.t 35], none⟩,
   ⟨.e 40, .ext 1, [.t 35], none⟩,
   ⟨.e 7, .mv, [.t 39], none⟩,
   ⟨.e 8, .mv, [.t 40], none⟩] [5, 6, 7, 8] []) (
 .seq (.seq (.reg [
   ⟨.e 41, .mv, [.t 8], none⟩,
   ⟨.e 42, .bin .neq, [.t 41, .k (.int .i64 0)], none⟩] [5, 6, 7, 42] []) (
 .cond (.t 42)
  (.seq (.reg [
     ⟨.e 4, .mv, [.k (.bool false)], none⟩] [4] []) (
   .ret))
  (.skip))) (
 .seq (.reg [
   ⟨.e 43, .mv, [.t 5], none⟩,
   ⟨.e 44, .mv, [.t 6], none⟩,
   ⟨.e 45, .call 47, [.t 43, .t 44], none⟩,
   ⟨.e 9, .mv, [.t 45], none⟩] [5, 6, 7, 9] []) (
 .seq (.reg [
   ⟨.e 10, .mv, [.k (.bool false)], none⟩] [5, 6, 7, 9, 10] []) (
 .seq (.seq (.reg [
   ⟨.e 46, .mv, [.t 5], none⟩,
   ⟨.e 47, .mv, [.k (.int .i64 0)], none⟩] [5, 6, 7, 9, 10, 46, 47] []) (
 .block 0 (
  L6_1))) (
 .seq (.seq (.reg [
   ⟨.e 61, .mv, [.t 10], none⟩,
   ⟨.e 62, .mv, [.t 7], none⟩,
   ⟨.e 63, .len false, [.t 62], none⟩,
   ⟨.e 64, .bin .gtr, [.t 63, .k (.int .i64 0)], none⟩,
   ⟨.e 65, .bq true, [.t 61, .t 64], none⟩] [5, 6, 7, 65] []) (
 .cond (.t 65)
  (.seq (.reg [
     ⟨.e 4, .mv, [.k (.bool false)], none⟩] [4] []) (
   .ret))
  (.skip))) (
 .seq (.seq (.reg [
   ⟨.e 66, .mv, [.t 7], none⟩,
   ⟨.e 67, .len false, [.t 66], none⟩,
   ⟨.e 68, .mv, [.k (.int .i64 0)], none⟩] [5, 6, 7, 66, 67, 68] []) (
 .block 2 (
  L6_2))) (
 .seq (.reg [
   ⟨.e 113, .mv, [.t 5], none⟩,
   ⟨.e 114, .mk 1 .nil, [.t 113], none⟩,
   ⟨.e 15, .mv, [.t 114], none⟩] [5, 6, 7, 15] []) (
 .seq (.seq (.reg [
   ⟨.e 115, .mv, [.t 15], none⟩,
   ⟨.e 116, .len false, [.t 115], none⟩,
   ⟨.e 117, .mv, [.k (.int .i64 0)], none⟩] [5, 6, 7, 15, 116, 117] []) (
 .block 4 (
  L6_3))) (
 .seq (.seq (.reg [
   ⟨.e 132, .mv, [.t 7], none⟩,
   ⟨.e 133, .len false, [.t 132], none⟩,
   ⟨.e 134, .bin .sub, [.t 133, .k (.int .i64 1)], none⟩,
   ⟨.e 135, .mx, [.k (.int .i64 0), .t 134], none⟩,
   ⟨.e 136, .mv, [.k (.int .i64 0)], none⟩] [5, 6, 15, 135, 136] []) (
 .block 6 (
  L6_6))) (
 .seq (.reg [
   ⟨.e 4, .mv, [.k (.bool true)], none⟩] [4] []) (
 .ret))))))))))))))⟩
/- estovers/estoverslaw42.WaitgraphLevels -/
noncomputable def L7_1 : AC := .loop [6, 7, 11, 12, 13, 65, 66, 67, 74, 75, 76] [] (
 .seq (.reg [
   ⟨.e 77, .bin .lss, [.t 76, .t 75], none⟩] [6, 7, 11, 12, 13, 65, 66, 67, 74, 75, 76, 77] []) (
 .seq (.cond (.t 77)
  (.skip)
  (.exit 2)) (
 .seq (.block 3 (
  .seq (.reg [
    ⟨.a 78, .ia 4, [.t 74, .t 76], none⟩,
    ⟨.e 79, .ld true 4, [.a 78], none⟩,
    ⟨.x 15, .box, [.k (.agg [(.int .i64 0), (.int .i64 0), (.int .i64 0), (.int .i64 0)])], none⟩,
    ⟨.n, .st 4, [.b 15, .t 79], none⟩] [6, 7, 11, 12, 13, 65, 66, 67, 74, 75, 76] [15]) (
  .seq (.seq (.reg [
    ⟨.a 80, .fa 0, [.b 15], none⟩,
    ⟨.e 81, .ld false 1, [.a 80], none⟩,
    ⟨.e 82, .mv, [.t 11], none⟩,
    ⟨.e 83, .bin .eql, [.t 81, .t 82], none⟩,
    ⟨.e 84, .mv, [.t 83], none⟩,
    ⟨.e 85, .mv, [.t 7], some (84, true)⟩,
    ⟨.a 86, .fa 1, [.b 15], some (84, true)⟩,
    ⟨.e 87, .ld false 1, [.a 86], some (84, true)⟩,
    ⟨.a 88, .ia 1, [.t 85, .t 87], some (84, true)⟩,
    ⟨.e 89, .ld false 1, [.a 88], some (84, true)⟩,
    ⟨.e 90, .mv, [.t 12], some (84, true)⟩,
    ⟨.e 91, .bin .geq, [.t 89, .t 90], some (84, true)⟩,
    ⟨.e 92, .pick, [.t 84, .t 91, .k (.bool false)], none⟩] [6, 7, 11, 12, 13, 65, 66, 67, 74, 75, 76, 92] [15]) (
  .cond (.t 92)
   (.seq (.reg [
      ⟨.e 4, .mv, [.k (.bool false)], none⟩] [4] []) (
    .ret))
   (.skip))) (
  .reg [
    ⟨.e 93, .mv, [.t 13], none⟩,
    ⟨.e 94, .mv, [.t 93], none⟩,
    ⟨.a 95, .fa 0, [.b 15], some (94, false)⟩,
    ⟨.e 96, .ld false 1, [.a 95], some (94, false)⟩,
    ⟨.e 97, .mv, [.t 11], some (94, false)⟩,
    ⟨.e 98, .bin .eql, [.t 96, .t 97], some (94, false)⟩,
    ⟨.e 99, .mv, [.t 98], some (94, false)⟩,
    ⟨.e 100, .mv, [.t 7], some (99, true)⟩,
    ⟨.a 101, .fa 1, [.b 15], some (99, true)⟩,
    ⟨.e 102, .ld false 1, [.a 101], some (99, true)⟩,
    ⟨.a 103, .ia 1, [.t 100, .t 102], some (99, true)⟩,
    ⟨.e 104, .ld false 1, [.a 103], some (99, true)⟩,
    ⟨.e 105, .mv, [.t 12], some (99, true)⟩,
    ⟨.e 106, .bin .sub, [.t 105, .k (.int .i64 1)], some (99, true)⟩,
    ⟨.e 107, .bin .eql, [.t 104, .t 106], some (99, true)⟩,
    ⟨.e 108, .pick, [.t 99, .t 107, .k (.bool false)], some (94, false)⟩,
    ⟨.e 109, .pick, [.t 94, .k (.bool true), .t 108], none⟩,
    ⟨.e 13, .mv, [.t 109], none⟩] [6, 7, 11, 12, 13, 65, 66, 67, 74, 75, 76] [])))) (
 .reg [
   ⟨.e 110, .bin .add, [.t 76, .k (.int .i64 1)], none⟩,
   ⟨.e 76, .mv, [.t 110], none⟩] [6, 7, 11, 12, 13, 65, 66, 67, 74, 75, 76] []))))
noncomputable def L7_2 : AC := .loop [6, 7, 65, 66, 67] [] (
 .seq (.reg [
   ⟨.e 68, .bin .lss, [.t 67, .t 66], none⟩] [6, 7, 65, 66, 67, 68] []) (
 .seq (.cond (.t 68)
  (.skip)
  (.exit 0)) (
 .seq (.block 1 (
  .seq (.reg [
    ⟨.e 69, .mv, [.t 67], none⟩,
    ⟨.a 70, .ia 1, [.t 65, .t 67], none⟩,
    ⟨.e 71, .ld false 1, [.a 70], none⟩,
    ⟨.e 11, .mv, [.t 69], none⟩,
    ⟨.e 12, .mv, [.t 71], none⟩] [6, 7, 11, 12, 65, 66, 67] []) (
  .seq (.reg [
    ⟨.e 72, .mv, [.t 12], none⟩,
    ⟨.e 73, .bin .eql, [.t 72, .k (.int .i64 0)], none⟩,
    ⟨.e 13, .mv, [.t 73], none⟩] [6, 7, 11, 12, 13, 65, 66, 67] []) (
  .seq (.seq (.reg [
    ⟨.e 74, .mv, [.t 6], none⟩,
    ⟨.e 75, .len false, [.t 74], none⟩,
    ⟨.e 76, .mv, [.k (.int .i64 0)], none⟩] [6, 7, 11, 12, 13, 65, 66, 67, 74, 75, 76] []) (
  .block 2 (
   L7_1))) (
  .seq (.reg [
    ⟨.e 111, .mv, [.t 13], none⟩,
    ⟨.e 112, .not, [.t 111], none⟩] [6, 7, 65, 66, 67, 112] []) (
  .cond (.t 112)
   (.seq (.reg [
      ⟨.e 4, .mv, [.k (.bool false)], none⟩] [4] []) (
    .ret))
   (.skip))))))) (
 .reg [
   ⟨.e 113, .bin .add, [.t 67, .k (.int .i64 1)], none⟩,
   ⟨.e 67, .mv, [.t 113], none⟩] [6, 7, 65, 66, 67] []))))
noncomputable def c7 : Fn := ⟨2, 12716508452139569004103589691392, 32768, true, [.t 4],
 .seq (.reg [
   ⟨.e 4, .mv, [.k (.bool false)], none⟩] [0, 1] []) (
 .seq (.seq (.reg [
   ⟨.e 16, .call 27, [], none⟩,
   ⟨.e 17, .not, [.t 16], none⟩,
   ⟨.e 18, .mv, [.t 17], none⟩,
   ⟨.e 19, .mv, [.t 1], some (18, false)⟩,
   ⟨.e 20, .len false, [.t 19], some (18, false)⟩,
   ⟨.e 21, .bin .gtr, [.t 20, .k (.int .i64 40)], some (18, false)⟩,
   ⟨.e 22, .pick, [.t 18, .k (.bool true), .t 21], none⟩] [0, 1, 22] []) (
 .cond (.t 22)
  (.seq (.reg [
     ⟨.e 23, .call 27, [], none⟩,
     ⟨.e 4, .mv, [.t 23], none⟩] [4] []) (
   .ret))
  (.skip))) (
 .seq (.reg [
   ⟨.e 25, .mv, [.t 0], none⟩,
   ⟨.e 26, .mv, [.t 1], none⟩,
   ⟨.e 27, .call 46, [.t 25, .t 26], none⟩,
   ⟨.e 24, .mv, [.t 27], none⟩,
   ⟨.e 28, .ext 0, [.t 24], none⟩,
   ⟨.e 29, .ext 1, [.t 24], none⟩,
   ⟨.e 5, .mv, [.t 28], none⟩,
   ⟨.e 6, .mv, [.t 29], none⟩] [5, 6] []) (
 .seq (.reg [
   ⟨.e 31, .mv, [.t 5], none⟩,
   ⟨.e 32, .mv, [.t 6], none⟩,
   ⟨.e 33, .call 41, [.t 31, .t 32], none⟩,
   ⟨.e 30, .mv, [.t 33], none⟩,
   ⟨.e 34, .ext 0, [.t 30], none⟩,
   ⟨.e 35, .ext 1, [.t 30], none⟩,
   ⟨.e 7, .mv, [.t 34], none⟩,
   ⟨.e 8, .mv, [.t 35], none⟩] [5, 6, 7, 8] []) (
 .seq (.reg [
   ⟨.e 37, .mv, [.t 5], none⟩,
   ⟨.e 38, .mv, [.t 6], none⟩,
   ⟨.e 39, .call 40, [.t 37, .t 38], none⟩,
   ⟨.e 36, .mv, [.t 39], none⟩,
   ⟨.e 40, .ext 0, [.t 36], none⟩,
   ⟨.e 41, .ext 1, [.t 36], none⟩,
   ⟨.e 9, .mv, [.t 40], none⟩,
   ⟨.e 10, .mv, [.t 41], none⟩] [5, 6, 7, 8, 9, 10] []) (
 .seq (.seq (.reg [
   ⟨.e 42, .mv, [.t 10], none⟩,
   ⟨.e 43, .bin .neq, [.t 42, .k (.int .i64 0)], none⟩,
   ⟨.e 44, .mv, [.t 43], none⟩,
   ⟨.e 45, .mv, [.t 8], some (44, false)⟩,
   ⟨.e 46, .bin .eql, [.t 45, .k (.int .i64 0)], some (44, false)⟩,
   ⟨.e 47, .mv, [.t 9], some (44, false)⟩,
   ⟨.e 48, .len false, [.t 47], some (44, false)⟩,
   ⟨.e 49, .bin .eql, [.t 48, .k (.int .i64 0)], some (44, false)⟩,
   ⟨.e 50, .bq true, [.t 46, .t 49], some (44, false)⟩,
   ⟨.e 51, .pick, [.t 44, .k (.bool true), .t 50], none⟩] [5, 6, 7, 8, 51] []) (
 .cond (.t 51)
  (.seq (.reg [
     ⟨.e 4, .mv, [.k (.bool false)], none⟩] [4] []) (
   .ret))
  (.skip))) (
 .seq (.seq (.reg [
   ⟨.e 52, .mv, [.t 8], none⟩,
   ⟨.e 53, .bin .neq, [.t 52, .k (.int .i64 0)], none⟩] [5, 6, 7, 8, 53] []) (
 .cond (.t 53)
  (.seq (.reg [
     ⟨.e 54, .mv, [.t 8], none⟩,
     ⟨.e 55, .bin .eql, [.t 54, .k (.int .i64 10)], none⟩,
     ⟨.e 56, .mv, [.t 55], none⟩,
     ⟨.e 57, .mv, [.t 7], some (56, true)⟩,
     ⟨.e 58, .len false, [.t 57], some (56, true)⟩,
     ⟨.e 59, .bin .eql, [.t 58, .k (.int .i64 0)], some (56, true)⟩,
     ⟨.e 60, .pick, [.t 56, .t 59, .k (.bool false)], none⟩,
     ⟨.e 4, .mv, [.t 60], none⟩] [4] []) (
   .ret))
  (.skip))) (
 .seq (.seq (.reg [
   ⟨.e 61, .mv, [.t 7], none⟩,
   ⟨.e 62, .len false, [.t 61], none⟩,
   ⟨.e 63, .mv, [.t 5], none⟩,
   ⟨.e 64, .bin .neq, [.t 62, .t 63], none⟩] [6, 7, 64] []) (
 .cond (.t 64)
  (.seq (.reg [
     ⟨.e 4, .mv, [.k (.bool false)], none⟩] [4] []) (
   .ret))
  (.skip))) (
 .seq (.seq (.reg [
   ⟨.e 65, .mv, [.t 7], none⟩,
   ⟨.e 66, .len false, [.t 65], none⟩,
   ⟨.e 67, .mv, [.k (.int .i64 0)], none⟩] [6, 7, 65, 66, 67] []) (
 .block 0 (
  L7_2))) (
 .seq (.reg [
   ⟨.e 4, .mv, [.k (.bool true)], none⟩] [4] []) (
 .ret))))))))))⟩
/- estovers/estoverslaw42.WaitgraphComponents -/
noncomputable def L8_1 : AC := .loop [5, 7, 9, 10, 11, 45, 46, 50, 51] [] (
 .seq (.reg [
   ⟨.e 52, .bin .lss, [.t 51, .t 50], none⟩] [5, 7, 9, 10, 11, 45, 46, 50, 51, 52] []) (
 .seq (.cond (.t 52)
  (.skip)
  (.exit 2)) (
 .seq (.block 3 (
  .seq (.reg [
    ⟨.e 53, .mv, [.t 51], none⟩,
    ⟨.e 12, .mv, [.t 53], none⟩] [5, 7, 9, 10, 11, 12, 45, 46, 50, 51] []) (
  .seq (.reg [
    ⟨.e 54, .mv, [.t 10], none⟩,
    ⟨.e 55, .mv, [.t 12], none⟩,
    ⟨.e 56, .bin .eql, [.t 54, .t 55], none⟩,
    ⟨.e 57, .mv, [.t 56], none⟩,
    ⟨.e 58, .mv, [.t 9], some (57, false)⟩,
    ⟨.e 59, .mv, [.t 10], some (57, false)⟩,
    ⟨.a 60, .ia 1, [.t 58, .t 59], some (57, false)⟩,
    ⟨.e 61, .ld false 1, [.a 60], some (57, false)⟩,
    ⟨.e 62, .mv, [.t 12], some (57, false)⟩,
    ⟨.a 63, .ia 1, [.t 61, .t 62], some (57, false)⟩,
    ⟨.e 64, .ld false 1, [.a 63], some (57, false)⟩,
    ⟨.e 65, .mv, [.t 64], some (57, false)⟩,
    ⟨.e 66, .mv, [.t 9], some (65, true)⟩,
    ⟨.e 67, .mv, [.t 12], some (65, true)⟩,
    ⟨.a 68, .ia 1, [.t 66, .t 67], some (65, true)⟩,
    ⟨.e 69, .ld false 1, [.a 68], some (65, true)⟩,
    ⟨.e 70, .mv, [.t 10], some (65, true)⟩,
    ⟨.a 71, .ia 1, [.t 69, .t 70], some (65, true)⟩,
    ⟨.e 72, .ld false 1, [.a 71], some (65, true)⟩,
    ⟨.e 73, .pick, [.t 65, .t 72, .k (.bool false)], some (57, false)⟩,
    ⟨.e 74, .pick, [.t 57, .k (.bool true), .t 73], none⟩,
    ⟨.e 13, .mv, [.t 74], none⟩] [5, 7, 9, 10, 11, 12, 13, 45, 46, 50, 51] []) (
  .seq (.seq (.dreg [
    ⟨.e 75, .mv, [.t 13], none⟩,
    ⟨.e 76, .mv, [.t 7], none⟩,
    ⟨.e 77, .mv, [.t 10], none⟩,
    ⟨.a 78, .ia 1, [.t 76, .t 77], none⟩,
    ⟨.e 79, .ld false 1, [.a 78], none⟩,
    ⟨.e 80, .mv, [.t 7], none⟩,
    ⟨.e 81, .mv, [.t 12], none⟩,
    ⟨.a 82, .ia 1, [.t 80, .t 81], none⟩,
    ⟨.e 83, .ld false 1, [.a 82], none⟩,
    ⟨.e 84, .bin .eql, [.t 79, .t 83], none⟩,
    ⟨.e 85, .bq true, [.t 75, .t 84], none⟩] [] [5, 7, 9, 10, 11, 12, 13, 45, 46, 50, 51, 85] []) (
  .cond (.t 85)
   (.seq (.reg [
      ⟨.e 4, .mv, [.k (.bool false)], none⟩] [4] []) (
    .ret))
   (.skip))) (
  .seq (.reg [
    ⟨.e 86, .mv, [.t 13], none⟩,
    ⟨.e 87, .mv, [.t 86], none⟩,
    ⟨.e 88, .mv, [.t 12], some (87, true)⟩,
    ⟨.e 89, .mv, [.t 11], some (87, true)⟩,
    ⟨.e 90, .bin .lss, [.t 88, .t 89], some (87, true)⟩,
    ⟨.e 91, .pick, [.t 87, .t 90, .k (.bool false)], none⟩] [5, 7, 9, 10, 11, 12, 45, 46, 50, 51, 91] []) (
  .cond (.t 91)
   (.reg [
      ⟨.e 92, .mv, [.t 12], none⟩,
      ⟨.e 11, .mv, [.t 92], none⟩] [5, 7, 9, 10, 11, 45, 46, 50, 51] [])
   (.skip))))))) (
 .reg [
   ⟨.e 93, .bin .add, [.t 51, .k (.int .i64 1)], none⟩,
   ⟨.e 51, .mv, [.t 93], none⟩] [5, 7, 9, 10, 11, 45, 46, 50, 51] []))))
noncomputable def L8_2 : AC := .loop [5, 7, 9, 45, 46] [] (
 .seq (.reg [
   ⟨.e 47, .bin .lss, [.t 46, .t 45], none⟩] [5, 7, 9, 45, 46, 47] []) (
 .seq (.cond (.t 47)
  (.skip)
  (.exit 0)) (
 .seq (.block 1 (
  .seq (.reg [
    ⟨.e 48, .mv, [.t 46], none⟩,
    ⟨.e 10, .mv, [.t 48], none⟩] [5, 7, 9, 10, 45, 46] []) (
  .seq (.reg [
    ⟨.e 49, .mv, [.t 10], none⟩,
    ⟨.e 11, .mv, [.t 49], none⟩] [5, 7, 9, 10, 11, 45, 46] []) (
  .seq (.seq (.reg [
    ⟨.e 50, .mv, [.t 5], none⟩,
    ⟨.e 51, .mv, [.k (.int .i64 0)], none⟩] [5, 7, 9, 10, 11, 45, 46, 50, 51] []) (
  .block 2 (
   L8_1))) (
  .seq (.reg [
    ⟨.e 94, .mv, [.t 7], none⟩,
    ⟨.e 95, .mv, [.t 10], none⟩,
    ⟨.a 96, .ia 1, [.t 94, .t 95], none⟩,
    ⟨.e 97, .ld false 1, [.a 96], none⟩,
    ⟨.e 98, .mv, [.t 11], none⟩,
    ⟨.e 99, .bin .neq, [.t 97, .t 98], none⟩] [5, 7, 9, 45, 46, 99] []) (
  .cond (.t 99)
   (.seq (.reg [
      ⟨.e 4, .mv, [.k (.bool false)], none⟩] [4] []) (
    .ret))
   (.skip))))))) (
 .reg [
   ⟨.e 100, .bin .add, [.t 46, .k (.int .i64 1)], none⟩,
   ⟨.e 46, .mv, [.t 100], none⟩] [5, 7, 9, 45, 46] []))))
noncomputable def c8 : Fn := ⟨2, 79233303115705139923173507072, 0, true, [.t 4],
 .seq (.reg [
   ⟨.e 4, .mv, [.k (.bool false)], none⟩] [0, 1] []) (
 .seq (.seq (.reg [
   ⟨.e 14, .call 27, [], none⟩,
   ⟨.e 15, .not, [.t 14], none⟩,
   ⟨.e 16, .mv, [.t 15], none⟩,
   ⟨.e 17, .mv, [.t 1], some (16, false)⟩,
   ⟨.e 18, .len false, [.t 17], some (16, false)⟩,
   ⟨.e 19, .bin .gtr, [.t 18, .k (.int .i64 40)], some (16, false)⟩,
   ⟨.e 20, .pick, [.t 16, .k (.bool true), .t 19], none⟩] [0, 1, 20] []) (
 .cond (.t 20)
  (.seq (.reg [
     ⟨.e 21, .call 27, [], none⟩,
     ⟨.e 4, .mv, [.t 21], none⟩] [4] []) (
   .ret))
  (.skip))) (
 .seq (.reg [
   ⟨.e 23, .mv, [.t 0], none⟩,
   ⟨.e 24, .mv, [.t 1], none⟩,
   ⟨.e 25, .call 46, [.t 23, .t 24], none⟩,
   ⟨.e 22, .mv, [.t 25], none⟩,
   ⟨.e 26, .ext 0, [.t 22], none⟩,
   ⟨.e 27, .ext 1, [.t 22], none⟩,
   ⟨.e 5, .mv, [.t 26], none⟩,
   ⟨.e 6, .mv, [.t 27], none⟩] [5, 6] []) (
 .seq (.reg [
   ⟨.e 29, .mv, [.t 5], none⟩,
   ⟨.e 30, .mv, [.t 6], none⟩,
   ⟨.e 31, .call 39, [.t 29, .t 30], none⟩,
   ⟨.e 28, .mv, [.t 31], none⟩,
   ⟨.e 32, .ext 0, [.t 28], none⟩,
   ⟨.e 33, .ext 1, [.t 28], none⟩,
   ⟨.e 7, .mv, [.t 32], none⟩,
   ⟨.e 8, .mv, [.t 33], none⟩] [5, 6, 7, 8] []) (
 .seq (.seq (.reg [
   ⟨.e 34, .mv, [.t 8], none⟩,
   ⟨.e 35, .bin .neq, [.t 34, .k (.int .i64 0)], none⟩,
   ⟨.e 36, .mv, [.t 35], none⟩,
   ⟨.e 37, .mv, [.t 7], some (36, false)⟩,
   ⟨.e 38, .len false, [.t 37], some (36, false)⟩,
   ⟨.e 39, .mv, [.t 5], some (36, false)⟩,
   ⟨.e 40, .bin .neq, [.t 38, .t 39], some (36, false)⟩,
   ⟨.e 41, .pick, [.t 36, .k (.bool true), .t 40], none⟩] [5, 6, 7, 41] []) (
 .cond (.t 41)
  (.seq (.reg [
     ⟨.e 4, .mv, [.k (.bool false)], none⟩] [4] []) (
   .ret))
  (.skip))) (
 .seq (.reg [
   ⟨.e 42, .mv, [.t 5], none⟩,
   ⟨.e 43, .mv, [.t 6], none⟩,
   ⟨.e 44, .call 47, [.t 42, .t 43], none⟩,
   ⟨.e 9, .mv, [.t 44], none⟩] [5, 7, 9] []) (
 .seq (.seq (.reg [
   ⟨.e 45, .mv, [.t 5], none⟩,
   ⟨.e 46, .mv, [.k (.int .i64 0)], none⟩] [5, 7, 9, 45, 46] []) (
 .block 0 (
  L8_2))) (
 .seq (.reg [
   ⟨.e 4, .mv, [.k (.bool true)], none⟩] [4] []) (
 .ret))))))))⟩
/- estovers/estoverslaw42.WaitgraphHolds -/
noncomputable def L10_1 : AC := .loop [3, 5, 6, 7, 8, 12, 13, 14, 16, 17, 18, 57, 58, 59, 65, 66, 67, 121, 122, 164, 165, 166] [1, 9] (
 .seq (.reg [
   ⟨.e 167, .bin .lss, [.t 166, .t 165], none⟩] [3, 5, 6, 7, 8, 12, 13, 14, 16, 17, 18, 57, 58, 59, 65, 66, 67, 121, 122, 164, 165, 166, 167] [1, 9]) (
 .seq (.cond (.t 167)
  (.skip)
  (.exit 7)) (
 .seq (.block 8 (
  .seq (.reg [
    ⟨.e 168, .mv, [.t 166], none⟩,
    ⟨.a 169, .ia 4, [.t 164, .t 166], none⟩,
    ⟨.e 170, .ld true 4, [.a 169], none⟩,
    ⟨.x 20, .box, [.k (.agg [(.int .i64 0), (.int .i64 0), (.int .i64 0), (.int .i64 0)])], none⟩,
    ⟨.e 19, .mv, [.t 168], none⟩,
    ⟨.n, .st 4, [.b 20, .t 170], none⟩] [3, 5, 6, 7, 8, 12, 13, 14, 16, 17, 18, 19, 57, 58, 59, 65, 66, 67, 121, 122, 164, 165, 166] [1, 9, 20]) (
  .seq (.reg [
    ⟨.a 171, .fa 0, [.b 20], none⟩,
    ⟨.e 172, .ld false 1, [.a 171], none⟩,
    ⟨.e 173, .mv, [.t 16], none⟩,
    ⟨.e 174, .bin .eql, [.t 172, .t 173], none⟩,
    ⟨.e 175, .mv, [.t 174], none⟩,
    ⟨.a 176, .fa 1, [.b 20], some (175, true)⟩,
    ⟨.e 177, .ld false 1, [.a 176], some (175, true)⟩,
    ⟨.e 178, .mv, [.t 12], some (175, true)⟩,
    ⟨.e 179, .bin .eql, [.t 177, .t 178], some (175, true)⟩,
    ⟨.e 180, .pick, [.t 175, .t 179, .k (.bool false)], none⟩] [3, 5, 6, 7, 8, 12, 13, 14, 16, 17, 18, 19, 57, 58, 59, 65, 66, 67, 121, 122, 164, 165, 166, 180] [1, 9]) (
  .cond (.t 180)
   (.seq (.reg [
      ⟨.e 18, .mv, [.k (.bool true)], none⟩] [3, 5, 6, 7, 8, 12, 13, 14, 16, 17, 18, 19, 57, 58, 59, 65, 66, 67, 121, 122, 164, 165, 166] [1, 9]) (
    .reg [
      ⟨.e 181, .mv, [.t 5], none⟩,
      ⟨.e 182, .mv, [.t 19], none⟩,
      ⟨.e 183, .mv, [.t 5], none⟩,
      ⟨.e 184, .mv, [.t 19], none⟩,
      ⟨.a 185, .ia 1, [.t 183, .t 184], none⟩,
      ⟨.e 186, .ld false 1, [.a 185], none⟩,
      ⟨.e 187, .mv, [.t 186], none⟩,
      ⟨.e 188, .mv, [.t 17], some (187, false)⟩,
      ⟨.e 189, .pick, [.t 187, .k (.bool true), .t 188], none⟩,
      ⟨.a 190, .ia 1, [.t 181, .t 182], none⟩,
      ⟨.n, .st 1, [.a 190, .t 189], none⟩] [3, 5, 6, 7, 8, 12, 13, 14, 16, 17, 18, 57, 58, 59, 65, 66, 67, 121, 122, 164, 165, 166] [1, 9]))
   (.skip))))) (
 .reg [
   ⟨.e 191, .bin .add, [.t 166, .k (.int .i64 1)], none⟩,
   ⟨.e 166, .mv, [.t 191], none⟩] [3, 5, 6, 7, 8, 12, 13, 14, 16, 17, 18, 57, 58, 59, 65, 66, 67, 121, 122, 164, 165, 166] [1, 9]))))
noncomputable def L10_2 : AC := .loop [3, 5, 6, 7, 8, 12, 13, 14, 57, 58, 59, 65, 66, 67, 121, 122] [1, 9] (
 .seq (.reg [
   ⟨.e 123, .bin .lss, [.t 122, .t 121], none⟩] [3, 5, 6, 7, 8, 12, 13, 14, 57, 58, 59, 65, 66, 67, 121, 122, 123] [1, 9]) (
 .seq (.cond (.t 123)
  (.skip)
  (.exit 5)) (
 .seq (.block 6 (
  .seq (.reg [
    ⟨.e 124, .mv, [.t 122], none⟩,
    ⟨.e 16, .mv, [.t 124], none⟩] [3, 5, 6, 7, 8, 12, 13, 14, 16, 57, 58, 59, 65, 66, 67, 121, 122] [1, 9]) (
  .seq (.reg [
    ⟨.e 125, .mv, [.t 16], none⟩,
    ⟨.e 126, .mv, [.t 6], none⟩,
    ⟨.e 127, .bin .lss, [.t 125, .t 126], none⟩,
    ⟨.e 128, .mv, [.t 127], none⟩,
    ⟨.e 129, .mv, [.t 13], some (128, true)⟩,
    ⟨.e 130, .mv, [.t 16], some (128, true)⟩,
    ⟨.e 131, .mv, [.t 6], some (128, true)⟩,
    ⟨.e 132, .bin .sub, [.t 131, .k (.int .i64 1)], some (128, true)⟩,
    ⟨.e 133, .mn, [.t 130, .t 132], some (128, true)⟩,
    ⟨.a 134, .ia 1, [.t 129, .t 133], some (128, true)⟩,
    ⟨.e 135, .ld false 1, [.a 134], some (128, true)⟩,
    ⟨.e 136, .bin .gtr, [.t 135, .k (.int .i64 0)], some (128, true)⟩,
    ⟨.e 137, .pick, [.t 128, .t 136, .k (.bool false)], none⟩,
    ⟨.e 17, .mv, [.t 137], none⟩] [3, 5, 6, 7, 8, 12, 13, 14, 16, 17, 57, 58, 59, 65, 66, 67, 121, 122] [1, 9]) (
  .seq (.seq (.reg [
    ⟨.e 138, .mv, [.t 16], none⟩,
    ⟨.e 139, .mv, [.t 6], none⟩,
    ⟨.e 140, .bin .geq, [.t 138, .t 139], none⟩,
    ⟨.e 141, .mv, [.t 140], none⟩,
    ⟨.e 142, .mv, [.t 16], some (141, true)⟩,
    ⟨.e 143, .mv, [.t 7], some (141, true)⟩,
    ⟨.e 144, .bin .lss, [.t 142, .t 143], some (141, true)⟩,
    ⟨.e 145, .pick, [.t 141, .t 144, .k (.bool false)], none⟩] [3, 5, 6, 7, 8, 12, 13, 14, 16, 17, 57, 58, 59, 65, 66, 67, 121, 122, 145] [1, 9]) (
  .cond (.t 145)
   (.reg [
      ⟨.e 146, .mv, [.t 14], none⟩,
      ⟨.e 147, .mv, [.t 16], none⟩,
      ⟨.e 148, .mv, [.t 6], none⟩,
      ⟨.e 149, .bin .sub, [.t 147, .t 148], none⟩,
      ⟨.a 150, .ia 1, [.t 146, .t 149], none⟩,
      ⟨.e 151, .ld false 1, [.a 150], none⟩,
      ⟨.e 17, .mv, [.t 151], none⟩] [3, 5, 6, 7, 8, 12, 13, 14, 16, 17, 57, 58, 59, 65, 66, 67, 121, 122] [1, 9])
   (.skip))) (
  .seq (.seq (.reg [
    ⟨.e 152, .mv, [.t 16], none⟩,
    ⟨.e 153, .mv, [.t 7], none⟩,
    ⟨.e 154, .bin .geq, [.t 152, .t 153], none⟩] [3, 5, 6, 7, 8, 12, 13, 14, 16, 17, 57, 58, 59, 65, 66, 67, 121, 122, 154] [1, 9]) (
  .cond (.t 154)
   (.reg [
      ⟨.a 155, .fa 2, [.b 9], none⟩,
      ⟨.e 156, .ld false 1, [.a 155], none⟩,
      ⟨.e 157, .mv, [.t 156], none⟩,
      ⟨.e 158, .mv, [.t 16], some (157, true)⟩,
      ⟨.e 159, .mv, [.t 7], some (157, true)⟩,
      ⟨.e 160, .bin .sub, [.t 158, .t 159], some (157, true)⟩,
      ⟨.e 161, .mv, [.t 8], some (157, true)⟩,
      ⟨.e 162, .bin .eql, [.t 160, .t 161], some (157, true)⟩,
      ⟨.e 163, .pick, [.t 157, .t 162, .k (.bool false)], none⟩,
      ⟨.e 17, .mv, [.t 163], none⟩] [3, 5, 6, 7, 8, 12, 13, 14, 16, 17, 57, 58, 59, 65, 66, 67, 121, 122] [1, 9])
   (.skip))) (
  .seq (.reg [
    ⟨.e 18, .mv, [.k (.bool false)], none⟩] [3, 5, 6, 7, 8, 12, 13, 14, 16, 17, 18, 57, 58, 59, 65, 66, 67, 121, 122] [1, 9]) (
  .seq (.seq (.reg [
    ⟨.e 164, .mv, [.t 3], none⟩,
    ⟨.e 165, .len false, [.t 164], none⟩,
    ⟨.e 166, .mv, [.k (.int .i64 0)], none⟩] [3, 5, 6, 7, 8, 12, 13, 14, 16, 17, 18, 57, 58, 59, 65, 66, 67, 121, 122, 164, 165, 166] [1, 9]) (
  .block 7 (
   L10_1))) (
  .seq (.reg [
    ⟨.e 192, .mv, [.t 17], none⟩,
    ⟨.e 193, .mv, [.t 192], none⟩,
    ⟨.e 194, .mv, [.t 18], some (193, true)⟩,
    ⟨.e 195, .not, [.t 194], some (193, true)⟩,
    ⟨.e 196, .pick, [.t 193, .t 195, .k (.bool false)], none⟩] [3, 5, 6, 7, 8, 12, 13, 14, 57, 58, 59, 65, 66, 67, 121, 122, 196] [1, 9]) (
  .cond (.t 196)
   (.seq (.reg [
      ⟨.e 2, .mv, [.k (.bool false)], none⟩] [2] []) (
    .ret))
   (.skip)))))))))) (
 .reg [
   ⟨.e 197, .bin .add, [.t 122, .k (.int .i64 1)], none⟩,
   ⟨.e 122, .mv, [.t 197], none⟩] [3, 5, 6, 7, 8, 12, 13, 14, 57, 58, 59, 65, 66, 67, 121, 122] [1, 9]))))
noncomputable def L10_3 : AC := .loop [3, 5, 6, 7, 8, 57, 58, 59, 65, 66, 67] [1, 9] (
 .seq (.reg [
   ⟨.e 68, .bin .lss, [.t 67, .t 66], none⟩] [3, 5, 6, 7, 8, 57, 58, 59, 65, 66, 67, 68] [1, 9]) (
 .seq (.cond (.t 68)
  (.skip)
  (.exit 2)) (
 .seq (.block 3 (
  .seq (.reg [
    ⟨.e 69, .mv, [.t 67], none⟩,
    ⟨.a 70, .ia 4, [.t 65, .t 67], none⟩,
    ⟨.e 71, .ld true 4, [.a 70], none⟩,
    ⟨.x 11, .box, [.k (.agg [(.int .i64 0), (.int .i64 0), (.int .i64 0), (.bool false)])], none⟩,
    ⟨.e 10, .mv, [.t 69], none⟩,
    ⟨.n, .st 4, [.b 11, .t 71], none⟩] [3, 5, 6, 7, 8, 10, 57, 58, 59, 65, 66, 67] [1, 9, 11]) (
  .seq (.seq (.reg [
    ⟨.e 72, .ld true 3, [.b 1], none⟩,
    ⟨.e 73, .mv, [.t 8], none⟩,
    ⟨.e 74, .mv, [.t 10], none⟩,
    ⟨.e 75, .call 33, [.t 72, .t 73, .t 74], none⟩,
    ⟨.e 76, .not, [.t 75], none⟩] [3, 5, 6, 7, 8, 10, 57, 58, 59, 65, 66, 67, 76] [1, 9, 11]) (
  .cond (.t 76)
   (.exit 3)
   (.skip))) (
  .seq (.reg [
    ⟨.a 77, .fa 1, [.b 11], none⟩,
    ⟨.e 78, .ld false 1, [.a 77], none⟩,
    ⟨.e 12, .mv, [.t 78], none⟩] [3, 5, 6, 7, 8, 10, 12, 57, 58, 59, 65, 66, 67] [1, 9, 11]) (
  .seq (.seq (.reg [
    ⟨.a 79, .fa 0, [.b 11], none⟩,
    ⟨.e 80, .ld false 1, [.a 79], none⟩] [3, 5, 6, 7, 8, 10, 12, 57, 58, 59, 65, 66, 67, 80] [1, 9]) (
  .block 4 (
   .seq (.reg [
     ⟨.e 82, .bin .eql, [.t 80, .k (.int .i64 1)], none⟩,
     ⟨.e 81, .mv, [.t 82], none⟩] [3, 5, 6, 7, 8, 10, 12, 57, 58, 59, 65, 66, 67, 80, 81] [1, 9]) (
   .cond (.t 81)
    (.skip)
    (.seq (.reg [
       ⟨.e 84, .bin .eql, [.t 80, .k (.int .i64 3)], none⟩,
       ⟨.e 83, .mv, [.t 84], none⟩] [3, 5, 6, 7, 8, 10, 12, 57, 58, 59, 65, 66, 67, 80, 83] [1, 9]) (
     .cond (.t 83)
      (.reg [
         ⟨.e 85, .mv, [.t 12], none⟩,
         ⟨.e 86, .mv, [.t 6], none⟩,
         ⟨.e 87, .bin .add, [.t 85, .t 86], none⟩,
         ⟨.e 12, .mv, [.t 87], none⟩] [3, 5, 6, 7, 8, 10, 12, 57, 58, 59, 65, 66, 67] [1, 9])
      (.seq (.reg [
         ⟨.e 89, .bin .eql, [.t 80, .k (.int .i64 5)], none⟩,
         ⟨.e 88, .mv, [.t 89], none⟩] [3, 5, 6, 7, 8, 10, 12, 57, 58, 59, 65, 66, 67, 88] [1, 9]) (
       .cond (.t 88)
        (.reg [
           ⟨.e 90, .mv, [.t 12], none⟩,
           ⟨.e 91, .mv, [.t 7], none⟩,
           ⟨.e 92, .bin .add, [.t 90, .t 91], none⟩,
           ⟨.e 12, .mv, [.t 92], none⟩] [3, 5, 6, 7, 8, 10, 12, 57, 58, 59, 65, 66, 67] [1, 9])
        (.seq (.reg [
           ⟨.e 2, .mv, [.k (.bool false)], none⟩] [2] []) (
         .ret)))))))))) (
  .seq (.reg [
    ⟨.e 94, .ld true 3, [.b 1], none⟩,
    ⟨.e 95, .mv, [.t 8], none⟩,
    ⟨.e 96, .mv, [.t 10], none⟩,
    ⟨.e 97, .call 54, [.t 94, .t 95, .t 96], none⟩,
    ⟨.e 93, .mv, [.t 97], none⟩,
    ⟨.e 98, .ext 0, [.t 93], none⟩,
    ⟨.e 99, .ext 1, [.t 93], none⟩,
    ⟨.e 100, .ext 2, [.t 93], none⟩,
    ⟨.e 13, .mv, [.t 98], none⟩,
    ⟨.e 14, .mv, [.t 99], none⟩,
    ⟨.e 15, .mv, [.t 100], none⟩] [3, 5, 6, 7, 8, 12, 13, 14, 15, 57, 58, 59, 65, 66, 67] [1, 9]) (
  .seq (.seq (.reg [
    ⟨.e 101, .mv, [.t 15], none⟩,
    ⟨.e 102, .bin .neq, [.t 101, .k (.int .i64 0)], none⟩,
    ⟨.e 103, .mv, [.t 102], none⟩,
    ⟨.e 104, .mv, [.t 13], some (103, false)⟩,
    ⟨.e 105, .len false, [.t 104], some (103, false)⟩,
    ⟨.e 106, .mv, [.t 6], some (103, false)⟩,
    ⟨.e 107, .bin .neq, [.t 105, .t 106], some (103, false)⟩,
    ⟨.e 108, .pick, [.t 103, .k (.bool true), .t 107], none⟩,
    ⟨.e 109, .mv, [.t 108], none⟩,
    ⟨.e 110, .mv, [.t 14], some (109, false)⟩,
    ⟨.e 111, .len false, [.t 110], some (109, false)⟩,
    ⟨.a 112, .fa 1, [.b 1], some (109, false)⟩,
    ⟨.e 113, .ld false 1, [.a 112], some (109, false)⟩,
    ⟨.e 114, .len false, [.t 113], some (109, false)⟩,
    ⟨.e 115, .bin .neq, [.t 111, .t 114], some (109, false)⟩,
    ⟨.e 116, .pick, [.t 109, .k (.bool true), .t 115], none⟩] [3, 5, 6, 7, 8, 12, 13, 14, 57, 58, 59, 65, 66, 67, 116] [1, 9]) (
  .cond (.t 116)
   (.seq (.reg [
      ⟨.e 2, .mv, [.k (.bool false)], none⟩] [2] []) (
    .ret))
   (.skip))) (
  .seq (.reg [
    ⟨.e 117, .mv, [.t 7], none⟩,
    ⟨.a 118, .fa 2, [.b 1], none⟩,
    ⟨.e 119, .ld false 1, [.a 118], none⟩,
    ⟨.e 120, .len false, [.t 119], none⟩,
    ⟨.e 121, .bin .add, [.t 117, .t 120], none⟩,
    ⟨.e 122, .mv, [.k (.int .i64 0)], none⟩] [3, 5, 6, 7, 8, 12, 13, 14, 57, 58, 59, 65, 66, 67, 121, 122] [1, 9]) (
  .block 5 (
   L10_2)))))))))) (
 .reg [
   ⟨.e 198, .bin .add, [.t 67, .k (.int .i64 1)], none⟩,
   ⟨.e 67, .mv, [.t 198], none⟩] [3, 5, 6, 7, 8, 57, 58, 59, 65, 66, 67] [1, 9]))))
noncomputable def L10_4 : AC := .loop [3, 5, 6, 7, 57, 58, 59] [1] (
 .seq (.reg [
   ⟨.e 60, .bin .lss, [.t 59, .t 58], none⟩] [3, 5, 6, 7, 57, 58, 59, 60] [1]) (
 .seq (.cond (.t 60)
  (.skip)
  (.exit 0)) (
 .seq (.block 1 (
  .seq (.reg [
    ⟨.e 61, .mv, [.t 59], none⟩,
    ⟨.a 62, .ia 4, [.t 57, .t 59], none⟩,
    ⟨.e 63, .ld true 4, [.a 62], none⟩,
    ⟨.x 9, .box, [.k (.agg [(.str []), (.int .i64 0), (.bool false), .nil])], none⟩,
    ⟨.e 8, .mv, [.t 61], none⟩,
    ⟨.n, .st 4, [.b 9, .t 63], none⟩] [3, 5, 6, 7, 8, 57, 58, 59] [1, 9]) (
  .seq (.reg [
    ⟨.a 64, .fa 3, [.b 9], none⟩,
    ⟨.e 65, .ld false 1, [.a 64], none⟩,
    ⟨.e 66, .len false, [.t 65], none⟩,
    ⟨.e 67, .mv, [.k (.int .i64 0)], none⟩] [3, 5, 6, 7, 8, 57, 58, 59, 65, 66, 67] [1, 9]) (
  .block 2 (
   L10_3))))) (
 .reg [
   ⟨.e 199, .bin .add, [.t 59, .k (.int .i64 1)], none⟩,
   ⟨.e 59, .mv, [.t 199], none⟩] [3, 5, 6, 7, 57, 58, 59] [1]))))
noncomputable def L10_5 : AC := .loop [5, 200, 201, 202] [1] (
 .seq (.reg [
   ⟨.e 203, .bin .lss, [.t 202, .t 201], none⟩] [5, 200, 201, 202, 203] [1]) (
 .seq (.cond (.t 203)
  (.skip)
  (.exit 9)) (
 .seq (.block 10 (
  .seq (.reg [
    ⟨.e 204, .mv, [.t 202], none⟩,
    ⟨.a 205, .ia 4, [.t 200, .t 202], none⟩,
    ⟨.e 206, .ld true 4, [.a 205], none⟩,
    ⟨.x 22, .box, [.k (.agg [(.int .i64 0), (.int .i64 0), (.int .i64 0), (.int .i64 0)])], none⟩,
    ⟨.e 21, .mv, [.t 204], none⟩,
    ⟨.n, .st 4, [.b 22, .t 206], none⟩] [5, 21, 200, 201, 202] [1, 22]) (
  .seq (.dreg [
    ⟨.e 207, .mv, [.t 5], none⟩,
    ⟨.e 208, .mv, [.t 21], none⟩,
    ⟨.a 209, .ia 1, [.t 207, .t 208], none⟩,
    ⟨.e 210, .ld false 1, [.a 209], none⟩,
    ⟨.e 211, .not, [.t 210], none⟩,
    ⟨.e 212, .mv, [.t 211], none⟩,
    ⟨.a 213, .fa 2, [.b 22], some (212, false)⟩,
    ⟨.e 214, .ld false 1, [.a 213], some (212, false)⟩,
    ⟨.e 215, .bin .lss, [.t 214, .k (.int .i64 0)], some (212, false)⟩,
    ⟨.e 216, .pick, [.t 212, .k (.bool true), .t 215], none⟩,
    ⟨.e 217, .mv, [.t 216], none⟩,
    ⟨.a 218, .fa 2, [.b 22], some (217, false)⟩,
    ⟨.e 219, .ld false 1, [.a 218], some (217, false)⟩,
    ⟨.a 220, .fa 2, [.b 1], some (217, false)⟩,
    ⟨.e 221, .ld false 1, [.a 220], some (217, false)⟩,
    ⟨.e 222, .len false, [.t 221], some (217, false)⟩,
    ⟨.e 223, .bin .geq, [.t 219, .t 222], some (217, false)⟩,
    ⟨.e 224, .pick, [.t 217, .k (.bool true), .t 223], none⟩,
    ⟨.e 225, .mv, [.t 224], none⟩,
    ⟨.a 226, .fa 3, [.b 22], some (225, false)⟩,
    ⟨.e 227, .ld false 1, [.a 226], some (225, false)⟩,
    ⟨.e 228, .bin .lss, [.t 227, .k (.int .i64 0)], some (225, false)⟩,
    ⟨.e 229, .pick, [.t 225, .k (.bool true), .t 228], none⟩,
    ⟨.e 230, .mv, [.t 229], none⟩,
    ⟨.a 231, .fa 3, [.b 22], some (230, false)⟩,
    ⟨.e 232, .ld false 1, [.a 231], some (230, false)⟩,
    ⟨.a 233, .fa 2, [.b 1], some (230, false)⟩,
    ⟨.e 234, .ld false 1, [.a 233], some (230, false)⟩,
    ⟨.a 235, .fa 2, [.b 22], some (230, false)⟩,
    ⟨.e 236, .ld false 1, [.a 235], some (230, false)⟩,
    ⟨.a 237, .ia 4, [.t 234, .t 236], some (230, false)⟩,
    ⟨.a 238, .fa 3, [.a 237], some (230, false)⟩,
    ⟨.e 239, .ld false 1, [.a 238], some (230, false)⟩,
    ⟨.e 240, .len false, [.t 239], some (230, false)⟩,
    ⟨.e 241, .bin .geq, [.t 232, .t 240], some (230, false)⟩,
    ⟨.e 242, .pick, [.t 230, .k (.bool true), .t 241], none⟩] [] [5, 200, 201, 202, 242] [1]) (
  .cond (.t 242)
   (.seq (.reg [
      ⟨.e 2, .mv, [.k (.bool false)], none⟩] [2] []) (
    .ret))
   (.skip))))) (
 .reg [
   ⟨.e 243, .bin .add, [.t 202, .k (.int .i64 1)], none⟩,
   ⟨.e 202, .mv, [.t 243], none⟩] [5, 200, 201, 202] [1]))))
noncomputable def c10 : Fn := ⟨1, 735145946003909390126066789861501030547897631535474831005641808359194624, 5245442, true, [.t 2],
 .seq (.reg [
   ⟨.x 1, .box, [.t 0], none⟩,
   ⟨.e 2, .mv, [.k (.bool false)], none⟩] [] [1]) (
 .seq (.seq (.reg [
   ⟨.e 23, .call 27, [], none⟩,
   ⟨.e 24, .not, [.t 23], none⟩,
   ⟨.e 25, .mv, [.t 24], none⟩,
   ⟨.e 26, .ld true 3, [.b 1], some (25, false)⟩,
   ⟨.e 27, .call 28, [.t 26], some (25, false)⟩,
   ⟨.e 28, .not, [.t 27], some (25, false)⟩,
   ⟨.e 29, .pick, [.t 25, .k (.bool true), .t 28], none⟩,
   ⟨.e 30, .mv, [.t 29], none⟩,
   ⟨.e 31, .ld true 3, [.b 1], some (30, false)⟩,
   ⟨.e 32, .call 49, [.t 31], some (30, false)⟩,
   ⟨.e 33, .bin .neq, [.t 32, .k (.int .i64 0)], some (30, false)⟩,
   ⟨.e 34, .pick, [.t 30, .k (.bool true), .t 33], none⟩] [34] [1]) (
 .cond (.t 34)
  (.seq (.reg [
     ⟨.e 35, .call 27, [], none⟩,
     ⟨.e 2, .mv, [.t 35], none⟩] [2] []) (
   .ret))
  (.skip))) (
 .seq (.reg [
   ⟨.e 37, .ld true 3, [.b 1], none⟩,
   ⟨.e 38, .call 35, [.t 37], none⟩,
   ⟨.e 36, .mv, [.t 38], none⟩,
   ⟨.e 39, .ext 0, [.t 36], none⟩,
   ⟨.e 40, .ext 1, [.t 36], none⟩,
   ⟨.e 3, .mv, [.t 39], none⟩,
   ⟨.e 4, .mv, [.t 40], none⟩] [3, 4] [1]) (
 .seq (.seq (.reg [
   ⟨.e 41, .mv, [.t 4], none⟩,
   ⟨.e 42, .bin .neq, [.t 41, .k (.int .i64 0)], none⟩] [3, 42] [1]) (
 .cond (.t 42)
  (.seq (.reg [
     ⟨.e 2, .mv, [.k (.bool false)], none⟩] [2] []) (
   .ret))
  (.skip))) (
 .seq (.reg [
   ⟨.e 43, .mv, [.t 3], none⟩,
   ⟨.e 44, .len false, [.t 43], none⟩,
   ⟨.e 45, .mk 1 (.bool false), [.t 44], none⟩,
   ⟨.e 5, .mv, [.t 45], none⟩] [3, 5] [1]) (
 .seq (.dreg [
   ⟨.a 46, .fa 0, [.b 1], none⟩,
   ⟨.e 47, .ld false 1, [.a 46], none⟩,
   ⟨.e 48, .len false, [.t 47], none⟩,
   ⟨.a 49, .fa 0, [.b 1], none⟩,
   ⟨.e 50, .ld false 1, [.a 49], none⟩,
   ⟨.e 51, .len false, [.t 50], none⟩,
   ⟨.a 52, .fa 1, [.b 1], none⟩,
   ⟨.e 53, .ld false 1, [.a 52], none⟩,
   ⟨.e 54, .len false, [.t 53], none⟩,
   ⟨.e 55, .bin .add, [.t 51, .t 54], none⟩,
   ⟨.e 6, .mv, [.t 48], none⟩,
   ⟨.e 7, .mv, [.t 55], none⟩] [] [3, 5, 6, 7] [1]) (
 .seq (.seq (.reg [
   ⟨.a 56, .fa 2, [.b 1], none⟩,
   ⟨.e 57, .ld false 1, [.a 56], none⟩,
   ⟨.e 58, .len false, [.t 57], none⟩,
   ⟨.e 59, .mv, [.k (.int .i64 0)], none⟩] [3, 5, 6, 7, 57, 58, 59] [1]) (
 .block 0 (
  L10_4))) (
 .seq (.seq (.reg [
   ⟨.e 200, .mv, [.t 3], none⟩,
   ⟨.e 201, .len false, [.t 200], none⟩,
   ⟨.e 202, .mv, [.k (.int .i64 0)], none⟩] [5, 200, 201, 202] [1]) (
 .block 9 (
  L10_5))) (
 .seq (.reg [
   ⟨.e 2, .mv, [.k (.bool true)], none⟩] [2] []) (
 .ret)))))))))⟩
structure HasW (F : Nat → Option Fn) : Prop where
  h27 : F 27 = some c27
  h90 : F 90 = some c90
  h3 : F 3 = some c3
  h4 : F 4 = some c4
  h5 : F 5 = some c5
  h6 : F 6 = some c6
  h7 : F 7 = some c7
  h8 : F 8 = some c8
  h10 : F 10 = some c10
end Go.Am
