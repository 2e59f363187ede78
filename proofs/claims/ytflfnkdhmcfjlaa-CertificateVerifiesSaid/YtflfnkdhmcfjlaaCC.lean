/- The abstract machine's code of the functions of group C, printed by program. -/
import Derived.Test.YtflfnkdhmcfjlaaMach
namespace Go.Am
/- estovers/estoverslaw42.Faults -/
noncomputable def L1090_1 : AC := .loop [0, 3, 7, 8] [2] (
 .seq (.reg [
   ⟨.e 9, .bin .lss, [.t 8, .t 7], none⟩] [0, 3, 7, 8, 9] [2]) (
 .seq (.cond (.t 9)
  (.skip)
  (.exit 0)) (
 .seq (.block 1 (
  .reg [
    ⟨.e 10, .mv, [.t 3], none⟩,
    ⟨.e 11, .bld [(.int .i64 0), (.int .i64 0), (.int .i64 0), (.bool false)] [(0, 1), (2, 1)], [.k (.int .i64 1), .k (.int .i64 1)], none⟩,
    ⟨.e 12, .lit 4 1 (.agg [(.int .i64 0), (.int .i64 0), (.int .i64 0), (.bool false)]) [0], [.t 11], none⟩,
    ⟨.e 13, .app 4, [.t 10, .t 12], none⟩,
    ⟨.e 3, .mv, [.t 13], none⟩] [0, 3, 7, 8] [2])) (
 .reg [
   ⟨.e 14, .bin .add, [.t 8, .k (.int .i64 1)], none⟩,
   ⟨.e 8, .mv, [.t 14], none⟩] [0, 3, 7, 8] [2]))))
noncomputable def c1090 : Fn := ⟨1, 0, 4, false, [.c 2 true 3],
 .seq (.reg [
   ⟨.x 2, .box, [.k (.agg [.nil, .nil, .nil])], none⟩] [0] [2]) (
 .seq (.reg [
   ⟨.e 5, .bld [(.int .i64 0), (.int .i64 0), (.int .i64 0), (.bool false)] [(0, 1)], [.k (.int .i64 3)], none⟩,
   ⟨.e 6, .hlit 4 1 (.agg [(.int .i64 0), (.int .i64 0), (.int .i64 0), (.bool false)]) [0], [.t 5], none⟩,
   ⟨.e 3, .mv, [.t 6], none⟩] [0, 3] [2]) (
 .seq (.seq (.reg [
   ⟨.e 7, .mv, [.t 0], none⟩,
   ⟨.e 8, .mv, [.k (.int .i64 0)], none⟩] [0, 3, 7, 8] [2]) (
 .block 0 (
  L1090_1))) (
 .seq (.reg [
   ⟨.e 15, .mv, [.t 3], none⟩,
   ⟨.e 16, .bld [(.int .i64 0), (.int .i64 0), (.int .i64 0), (.bool false)] [(0, 1), (1, 1)], [.k (.int .i64 5), .k (.int .i64 1)], none⟩,
   ⟨.e 17, .mv, [.t 0], none⟩,
   ⟨.e 18, .bld [(.int .i64 0), (.int .i64 0), (.int .i64 0), (.bool false)] [(0, 1), (2, 1)], [.k (.int .i64 2), .t 17], none⟩,
   ⟨.e 19, .bld [(.int .i64 0), (.int .i64 0), (.int .i64 0), (.bool false)] [(0, 1)], [.k (.int .i64 4)], none⟩,
   ⟨.e 20, .lit 4 3 (.agg [(.int .i64 0), (.int .i64 0), (.int .i64 0), (.bool false)]) [0, 1, 2], [.t 16, .t 18, .t 19], none⟩,
   ⟨.e 21, .app 4, [.t 15, .t 20], none⟩,
   ⟨.e 3, .mv, [.t 21], none⟩] [3] [2]) (
 .seq (.reg [
   ⟨.e 22, .bld [(.int .i64 0), (.int .i64 0), (.int .i64 0), (.bool false)] [(0, 1), (2, 1), (3, 1)], [.k (.int .i64 1), .k (.int .i64 1), .k (.bool true)], none⟩,
   ⟨.e 23, .bld [(.int .i64 0), (.int .i64 0), (.int .i64 0), (.bool false)] [(0, 1), (2, 1)], [.k (.int .i64 2), .k (.int .i64 1)], none⟩,
   ⟨.e 24, .hlit 4 2 (.agg [(.int .i64 0), (.int .i64 0), (.int .i64 0), (.bool false)]) [0, 1], [.t 22, .t 23], none⟩,
   ⟨.e 4, .mv, [.t 24], none⟩] [3, 4] [2]) (
 .seq (.reg [
   ⟨.e 25, .bld [(.str []), (.int .i64 0), (.int .i64 0)] [(0, 1), (1, 1), (2, 1)], [.k (.str [102, 114, 97, 109, 101, 115]), .k (.int .i64 4), .k (.int .i64 1)], none⟩,
   ⟨.e 26, .hlit 3 1 (.agg [(.str []), (.int .i64 0), (.int .i64 0)]) [0], [.t 25], none⟩,
   ⟨.e 27, .hlit 1 1 (.str []) [0], [.k (.str [109, 97, 112])], none⟩,
   ⟨.e 28, .mv, [.t 3], none⟩,
   ⟨.e 29, .bld [(.str []), (.int .i64 0), (.bool false), .nil] [(0, 1), (1, 1), (3, 1)], [.k (.str [102, 97, 117, 108, 116]), .k (.int .i64 2), .t 28], none⟩,
   ⟨.e 30, .mv, [.t 4], none⟩,
   ⟨.e 31, .bld [(.str []), (.int .i64 0), (.bool false), .nil] [(0, 1), (1, 1), (2, 1), (3, 1)], [.k (.str [101, 118, 105, 99, 116]), .k (.int .i64 1), .k (.bool true), .t 30], none⟩,
   ⟨.e 32, .hlit 4 2 (.agg [(.str []), (.int .i64 0), (.bool false), .nil]) [0, 1], [.t 29, .t 31], none⟩,
   ⟨.e 33, .bld [.nil, .nil, .nil] [(0, 1), (1, 1), (2, 1)], [.t 26, .t 27, .t 32], none⟩,
   ⟨.n, .st 3, [.b 2, .t 33], none⟩] [] [2]) (
 .ret))))))⟩
/- estovers/certificate.Make -/
noncomputable def c50 : Fn := ⟨1, 0, 6, true, [.c 2 true 1, .t 3],
 .seq (.reg [
   ⟨.x 1, .box, [.t 0], none⟩,
   ⟨.x 2, .box, [.k (.agg [.nil])], none⟩,
   ⟨.e 3, .mv, [.k (.int .i64 0)], none⟩] [] [1, 2]) (
 .seq (.reg [
   ⟨.e 11, .ld true 3, [.b 1], none⟩,
   ⟨.e 12, .call 35, [.t 11], none⟩,
   ⟨.e 10, .mv, [.t 12], none⟩,
   ⟨.e 13, .ext 0, [.t 10], none⟩,
   ⟨.e 14, .ext 1, [.t 10], none⟩,
   ⟨.e 4, .mv, [.t 13], none⟩,
   ⟨.e 5, .mv, [.t 14], none⟩] [4, 5] [1, 2]) (
 .seq (.seq (.reg [
   ⟨.e 15, .mv, [.t 5], none⟩,
   ⟨.e 16, .bin .neq, [.t 15, .k (.int .i64 0)], none⟩] [4, 5, 16] [1, 2]) (
 .cond (.t 16)
  (.seq (.reg [
     ⟨.e 17, .bld [.nil] [], [], none⟩,
     ⟨.e 18, .mv, [.t 5], none⟩,
     ⟨.n, .st 1, [.b 2, .t 17], none⟩,
     ⟨.e 3, .mv, [.t 18], none⟩] [3] [2]) (
   .ret))
  (.skip))) (
 .seq (.seq (.reg [
   ⟨.e 20, .ld true 3, [.b 1], none⟩,
   ⟨.e 21, .call 81, [.t 20], none⟩,
   ⟨.e 19, .mv, [.t 21], none⟩,
   ⟨.e 22, .ext 0, [.t 19], none⟩,
   ⟨.e 23, .ext 1, [.t 19], none⟩,
   ⟨.e 24, .ext 2, [.t 19], none⟩,
   ⟨.e 6, .mv, [.t 22], none⟩,
   ⟨.e 7, .mv, [.t 23], none⟩,
   ⟨.e 8, .mv, [.t 24], none⟩] [4, 8] [1, 2]) (
 .seq (.reg [
   ⟨.e 25, .mv, [.t 8], none⟩] [4, 25] [1, 2]) (
 .cond (.t 25)
  (.seq (.reg [
     ⟨.e 26, .bld [.nil] [], [], none⟩,
     ⟨.n, .st 1, [.b 2, .t 26], none⟩,
     ⟨.e 3, .mv, [.k (.int .i64 9)], none⟩] [3] [2]) (
   .ret))
  (.skip)))) (
 .seq (.reg [
   ⟨.e 28, .ld true 3, [.b 1], none⟩,
   ⟨.e 29, .call 29, [.t 28], none⟩,
   ⟨.e 30, .mv, [.t 4], none⟩,
   ⟨.e 31, .call 41, [.t 29, .t 30], none⟩,
   ⟨.e 27, .mv, [.t 31], none⟩,
   ⟨.e 32, .ext 0, [.t 27], none⟩,
   ⟨.e 33, .ext 1, [.t 27], none⟩,
   ⟨.e 9, .mv, [.t 32], none⟩,
   ⟨.e 5, .mv, [.t 33], none⟩] [5, 9] [2]) (
 .seq (.seq (.reg [
   ⟨.e 34, .mv, [.t 5], none⟩,
   ⟨.e 35, .bin .neq, [.t 34, .k (.int .i64 0)], none⟩] [9, 35] [2]) (
 .cond (.t 35)
  (.seq (.reg [
     ⟨.e 36, .bld [.nil] [], [], none⟩,
     ⟨.n, .st 1, [.b 2, .t 36], none⟩,
     ⟨.e 3, .mv, [.k (.int .i64 20)], none⟩] [3] [2]) (
   .ret))
  (.skip))) (
 .seq (.reg [
   ⟨.e 37, .mv, [.t 9], none⟩,
   ⟨.e 38, .bld [.nil] [(0, 1)], [.t 37], none⟩,
   ⟨.n, .st 1, [.b 2, .t 38], none⟩,
   ⟨.e 3, .mv, [.k (.int .i64 0)], none⟩] [3] [2]) (
 .ret)))))))⟩
/- estovers/certificate.Verify -/
noncomputable def L52_1 : AC := .loop [40, 41, 42] [3] (
 .seq (.reg [
   ⟨.e 43, .bin .lss, [.t 42, .t 41], none⟩] [40, 41, 42, 43] [3]) (
 .seq (.cond (.t 43)
  (.skip)
  (.exit 0)) (
 .seq (.block 1 (
  .seq (.reg [
    ⟨.a 44, .ia 4, [.t 40, .t 42], none⟩,
    ⟨.e 45, .ld true 4, [.a 44], none⟩,
    ⟨.x 12, .box, [.k (.agg [(.int .i64 0), (.int .i64 0), (.int .i64 0), (.int .i64 0)])], none⟩,
    ⟨.n, .st 4, [.b 12, .t 45], none⟩] [40, 41, 42] [3, 12]) (
  .seq (.dreg [
    ⟨.a 46, .fa 0, [.b 3], none⟩,
    ⟨.e 47, .ld false 1, [.a 46], none⟩,
    ⟨.a 48, .fa 0, [.b 12], none⟩,
    ⟨.e 49, .ld false 1, [.a 48], none⟩,
    ⟨.a 50, .ia 1, [.t 47, .t 49], none⟩,
    ⟨.e 51, .ld false 1, [.a 50], none⟩,
    ⟨.a 52, .fa 0, [.b 3], none⟩,
    ⟨.e 53, .ld false 1, [.a 52], none⟩,
    ⟨.a 54, .fa 1, [.b 12], none⟩,
    ⟨.e 55, .ld false 1, [.a 54], none⟩,
    ⟨.a 56, .ia 1, [.t 53, .t 55], none⟩,
    ⟨.e 57, .ld false 1, [.a 56], none⟩,
    ⟨.e 58, .bin .leq, [.t 51, .t 57], none⟩] [] [40, 41, 42, 58] [3]) (
  .cond (.t 58)
   (.seq (.reg [
      ⟨.e 4, .mv, [.k (.int .i64 19)], none⟩] [4] []) (
    .ret))
   (.skip))))) (
 .reg [
   ⟨.e 59, .bin .add, [.t 42, .k (.int .i64 1)], none⟩,
   ⟨.e 42, .mv, [.t 59], none⟩] [40, 41, 42] [3]))))
noncomputable def c52 : Fn := ⟨2, 96070928259088384, 4108, true, [.t 4],
 .seq (.reg [
   ⟨.x 2, .box, [.t 0], none⟩,
   ⟨.x 3, .box, [.t 1], none⟩,
   ⟨.e 4, .mv, [.k (.int .i64 0)], none⟩] [] [2, 3]) (
 .seq (.reg [
   ⟨.e 14, .ld true 3, [.b 2], none⟩,
   ⟨.e 15, .call 35, [.t 14], none⟩,
   ⟨.e 13, .mv, [.t 15], none⟩,
   ⟨.e 16, .ext 0, [.t 13], none⟩,
   ⟨.e 17, .ext 1, [.t 13], none⟩,
   ⟨.e 5, .mv, [.t 16], none⟩,
   ⟨.e 6, .mv, [.t 17], none⟩] [5, 6] [2, 3]) (
 .seq (.seq (.reg [
   ⟨.e 18, .mv, [.t 6], none⟩,
   ⟨.e 19, .bin .neq, [.t 18, .k (.int .i64 0)], none⟩] [5, 6, 19] [2, 3]) (
 .cond (.t 19)
  (.seq (.reg [
     ⟨.e 20, .mv, [.t 6], none⟩,
     ⟨.e 4, .mv, [.t 20], none⟩] [4] []) (
   .ret))
  (.skip))) (
 .seq (.reg [
   ⟨.e 7, .mv, [.k (.fn 119 [])], none⟩] [5, 7] [2, 3]) (
 .seq (.seq (.dreg [
   ⟨.a 21, .fa 0, [.b 3], none⟩,
   ⟨.e 22, .ld false 1, [.a 21], none⟩,
   ⟨.e 23, .len false, [.t 22], none⟩,
   ⟨.e 24, .ld true 3, [.b 2], none⟩,
   ⟨.e 25, .call 29, [.t 24], none⟩,
   ⟨.e 26, .bin .neq, [.t 23, .t 25], none⟩,
   ⟨.e 27, .mv, [.t 26], none⟩,
   ⟨.a 28, .fa 0, [.b 3], some (27, false)⟩,
   ⟨.e 29, .ld false 1, [.a 28], some (27, false)⟩,
   ⟨.e 30, .mv, [.t 7], some (27, false)⟩,
   ⟨.e 31, .call 120, [.t 29, .t 30], some (27, false)⟩,
   ⟨.e 32, .pick, [.t 27, .k (.bool true), .t 31], none⟩] [] [5, 32] [2, 3]) (
 .cond (.t 32)
  (.seq (.reg [
     ⟨.e 4, .mv, [.k (.int .i64 3)], none⟩] [4] []) (
   .ret))
  (.skip))) (
 .seq (.seq (.reg [
   ⟨.e 34, .ld true 3, [.b 2], none⟩,
   ⟨.e 35, .call 81, [.t 34], none⟩,
   ⟨.e 33, .mv, [.t 35], none⟩,
   ⟨.e 36, .ext 0, [.t 33], none⟩,
   ⟨.e 37, .ext 1, [.t 33], none⟩,
   ⟨.e 38, .ext 2, [.t 33], none⟩,
   ⟨.e 8, .mv, [.t 36], none⟩,
   ⟨.e 9, .mv, [.t 37], none⟩,
   ⟨.e 10, .mv, [.t 38], none⟩] [5, 10] [3]) (
 .seq (.reg [
   ⟨.e 39, .mv, [.t 10], none⟩] [5, 39] [3]) (
 .cond (.t 39)
  (.seq (.reg [
     ⟨.e 4, .mv, [.k (.int .i64 9)], none⟩] [4] []) (
   .ret))
  (.skip)))) (
 .seq (.seq (.reg [
   ⟨.e 40, .mv, [.t 5], none⟩,
   ⟨.e 41, .len false, [.t 40], none⟩,
   ⟨.e 42, .mv, [.k (.int .i64 0)], none⟩] [40, 41, 42] [3]) (
 .block 0 (
  L52_1))) (
 .seq (.reg [
   ⟨.e 4, .mv, [.k (.int .i64 0)], none⟩] [4] []) (
 .ret))))))))⟩
/- estovers/estoverslaw43.awake -/
noncomputable def c79 : Fn := ⟨0, 38369227673315870769152, 1310, true, [.t 0],
 .seq (.reg [
   ⟨.e 0, .mv, [.k (.bool false)], none⟩] [] []) (
 .seq (.reg [
   ⟨.e 15, .call 1090, [.k (.int .i64 2)], none⟩,
   ⟨.e 16, .call 1090, [.k (.int .i64 1)], none⟩,
   ⟨.x 1, .box, [.k (.agg [.nil, .nil, .nil])], none⟩,
   ⟨.x 2, .box, [.k (.agg [.nil, .nil, .nil])], none⟩,
   ⟨.n, .st 3, [.b 1, .t 15], none⟩,
   ⟨.n, .st 3, [.b 2, .t 16], none⟩] [] [1, 2]) (
 .seq (.reg [
   ⟨.e 17, .call 1090, [.k (.int .i64 1)], none⟩,
   ⟨.x 3, .box, [.k (.agg [.nil, .nil, .nil])], none⟩,
   ⟨.n, .st 3, [.b 3, .t 17], none⟩] [] [1, 2, 3]) (
 .seq (.reg [
   ⟨.a 18, .fa 2, [.b 3], none⟩,
   ⟨.e 19, .ld false 1, [.a 18], none⟩,
   ⟨.a 20, .ia 4, [.t 19, .k (.int .i64 1)], none⟩,
   ⟨.a 21, .fa 1, [.a 20], none⟩,
   ⟨.n, .st 1, [.a 21, .k (.int .i64 0)], none⟩] [] [1, 2, 3]) (
 .seq (.reg [
   ⟨.e 23, .ld true 3, [.b 1], none⟩,
   ⟨.e 24, .call 50, [.t 23], none⟩,
   ⟨.e 22, .mv, [.t 24], none⟩,
   ⟨.e 25, .ext 0, [.t 22], none⟩,
   ⟨.e 26, .ext 1, [.t 22], none⟩,
   ⟨.x 4, .box, [.k (.agg [.nil])], none⟩,
   ⟨.n, .st 1, [.b 4, .t 25], none⟩,
   ⟨.e 5, .mv, [.t 26], none⟩] [5] [1, 2, 3]) (
 .seq (.reg [
   ⟨.e 28, .ld true 3, [.b 1], none⟩,
   ⟨.e 29, .call 83, [.t 28], none⟩,
   ⟨.e 27, .mv, [.t 29], none⟩,
   ⟨.e 30, .ext 0, [.t 27], none⟩,
   ⟨.e 31, .ext 1, [.t 27], none⟩,
   ⟨.e 6, .mv, [.t 30], none⟩,
   ⟨.e 7, .mv, [.t 31], none⟩] [5, 6, 7] [1, 2, 3]) (
 .seq (.reg [
   ⟨.e 33, .ld true 3, [.b 2], none⟩,
   ⟨.e 34, .call 50, [.t 33], none⟩,
   ⟨.e 32, .mv, [.t 34], none⟩,
   ⟨.e 35, .ext 0, [.t 32], none⟩,
   ⟨.e 36, .ext 1, [.t 32], none⟩,
   ⟨.x 8, .box, [.k (.agg [.nil])], none⟩,
   ⟨.n, .st 1, [.b 8, .t 35], none⟩,
   ⟨.e 9, .mv, [.t 36], none⟩] [5, 6, 7, 9] [1, 2, 3, 8]) (
 .seq (.reg [
   ⟨.e 38, .ld true 3, [.b 3], none⟩,
   ⟨.e 39, .call 50, [.t 38], none⟩,
   ⟨.e 37, .mv, [.t 39], none⟩,
   ⟨.e 40, .ext 0, [.t 37], none⟩,
   ⟨.e 41, .ext 1, [.t 37], none⟩,
   ⟨.x 10, .box, [.k (.agg [.nil])], none⟩,
   ⟨.n, .st 1, [.b 10, .t 40], none⟩,
   ⟨.e 11, .mv, [.t 41], none⟩] [5, 6, 7, 9, 11] [1, 2, 3, 8]) (
 .seq (.reg [
   ⟨.e 43, .ld true 3, [.b 3], none⟩,
   ⟨.e 44, .call 81, [.t 43], none⟩,
   ⟨.e 42, .mv, [.t 44], none⟩,
   ⟨.e 45, .ext 0, [.t 42], none⟩,
   ⟨.e 46, .ext 1, [.t 42], none⟩,
   ⟨.e 47, .ext 2, [.t 42], none⟩,
   ⟨.e 12, .mv, [.t 45], none⟩,
   ⟨.e 13, .mv, [.t 46], none⟩,
   ⟨.e 14, .mv, [.t 47], none⟩] [5, 6, 7, 9, 11, 12, 13, 14] [1, 2, 8]) (
 .seq (.reg [
   ⟨.e 48, .mv, [.t 5], none⟩,
   ⟨.e 49, .bin .eql, [.t 48, .k (.int .i64 20)], none⟩,
   ⟨.e 50, .mv, [.t 49], none⟩,
   ⟨.e 51, .mv, [.t 7], some (50, true)⟩,
   ⟨.e 52, .bin .eql, [.t 51, .k (.int .i64 0)], some (50, true)⟩,
   ⟨.e 53, .pick, [.t 50, .t 52, .k (.bool false)], none⟩,
   ⟨.e 54, .mv, [.t 53], none⟩,
   ⟨.e 55, .mv, [.t 9], some (54, true)⟩,
   ⟨.e 56, .bin .eql, [.t 55, .k (.int .i64 0)], some (54, true)⟩,
   ⟨.e 57, .pick, [.t 54, .t 56, .k (.bool false)], none⟩,
   ⟨.e 58, .mv, [.t 57], none⟩,
   ⟨.e 59, .mv, [.t 11], some (58, true)⟩,
   ⟨.e 60, .bin .eql, [.t 59, .k (.int .i64 9)], some (58, true)⟩,
   ⟨.e 61, .pick, [.t 58, .t 60, .k (.bool false)], none⟩,
   ⟨.e 62, .mv, [.t 61], none⟩,
   ⟨.e 63, .mv, [.t 6], some (62, true)⟩,
   ⟨.e 64, .len false, [.t 63], some (62, true)⟩,
   ⟨.e 65, .bin .eql, [.t 64, .k (.int .i64 1)], some (62, true)⟩,
   ⟨.e 66, .pick, [.t 62, .t 65, .k (.bool false)], none⟩,
   ⟨.e 67, .mv, [.t 66], none⟩,
   ⟨.e 68, .mv, [.t 6], some (67, true)⟩,
   ⟨.a 69, .ia 4, [.t 68, .k (.int .i64 0)], some (67, true)⟩,
   ⟨.e 70, .ld true 4, [.a 69], some (67, true)⟩,
   ⟨.e 71, .bld [(.int .i64 0), (.int .i64 0), (.int .i64 0), (.int .i64 0)] [(3, 1)], [.k (.int .i64 2)], some (67, true)⟩,
   ⟨.e 72, .aq false [0, 0, 0, 0], [.t 70, .t 71], some (67, true)⟩,
   ⟨.e 73, .pick, [.t 67, .t 72, .k (.bool false)], none⟩,
   ⟨.e 74, .mv, [.t 73], none⟩,
   ⟨.a 75, .fa 0, [.b 8], some (74, true)⟩,
   ⟨.e 76, .ld false 1, [.a 75], some (74, true)⟩,
   ⟨.e 77, .hlit 1 4 (.int .i64 0) [0, 1, 2, 3], [.k (.int .i64 1), .k (.int .i64 1), .k (.int .i64 0), .k (.int .i64 0)], some (74, true)⟩,
   ⟨.e 78, .call 45, [.t 76, .t 77], some (74, true)⟩,
   ⟨.e 79, .pick, [.t 74, .t 78, .k (.bool false)], none⟩,
   ⟨.e 80, .mv, [.t 79], none⟩,
   ⟨.e 81, .mv, [.t 12], some (80, true)⟩,
   ⟨.e 82, .bin .eql, [.t 81, .k (.int .i64 0)], some (80, true)⟩,
   ⟨.e 83, .pick, [.t 80, .t 82, .k (.bool false)], none⟩,
   ⟨.e 84, .mv, [.t 83], none⟩,
   ⟨.e 85, .mv, [.t 13], some (84, true)⟩,
   ⟨.e 86, .bin .eql, [.t 85, .k (.int .i64 2)], some (84, true)⟩,
   ⟨.e 87, .pick, [.t 84, .t 86, .k (.bool false)], none⟩,
   ⟨.e 88, .mv, [.t 87], none⟩,
   ⟨.e 89, .mv, [.t 14], some (88, true)⟩,
   ⟨.e 90, .pick, [.t 88, .t 89, .k (.bool false)], none⟩,
   ⟨.e 91, .mv, [.t 90], none⟩,
   ⟨.e 92, .ld true 3, [.b 2], some (91, true)⟩,
   ⟨.e 93, .hlit 1 4 (.int .i64 0) [0, 1, 2, 3], [.k (.int .i64 5), .k (.int .i64 9), .k (.int .i64 0), .k (.int .i64 3)], some (91, true)⟩,
   ⟨.e 94, .bld [.nil] [(0, 1)], [.t 93], some (91, true)⟩,
   ⟨.e 95, .call 52, [.t 92, .t 94], some (91, true)⟩,
   ⟨.e 96, .bin .eql, [.t 95, .k (.int .i64 0)], some (91, true)⟩,
   ⟨.e 97, .pick, [.t 91, .t 96, .k (.bool false)], none⟩,
   ⟨.e 98, .mv, [.t 97], none⟩,
   ⟨.e 99, .ld true 3, [.b 2], some (98, true)⟩,
   ⟨.e 100, .hlit 1 4 (.int .i64 0) [0, 1, 2, 3], [.k (.int .i64 1), .k (.int .i64 1), .k (.int .i64 0), .k (.int .i64 1)], some (98, true)⟩,
   ⟨.e 101, .bld [.nil] [(0, 1)], [.t 100], some (98, true)⟩,
   ⟨.e 102, .call 52, [.t 99, .t 101], some (98, true)⟩,
   ⟨.e 103, .bin .eql, [.t 102, .k (.int .i64 19)], some (98, true)⟩,
   ⟨.e 104, .pick, [.t 98, .t 103, .k (.bool false)], none⟩,
   ⟨.e 105, .mv, [.t 104], none⟩,
   ⟨.e 106, .ld true 3, [.b 1], some (105, true)⟩,
   ⟨.e 107, .call 86, [.t 106, .k (.int .i64 0)], some (105, true)⟩,
   ⟨.e 108, .bin .eql, [.t 107, .k (.int .i64 1)], some (105, true)⟩,
   ⟨.e 109, .pick, [.t 105, .t 108, .k (.bool false)], none⟩,
   ⟨.e 0, .mv, [.t 109], none⟩] [0] []) (
 .ret))))))))))⟩
/- estovers/estoversref43.Make -/
noncomputable def c80 : Fn := ⟨1, 0, 6, true, [.c 2 true 1, .t 3],
 .seq (.reg [
   ⟨.x 1, .box, [.t 0], none⟩,
   ⟨.x 2, .box, [.k (.agg [.nil])], none⟩,
   ⟨.e 3, .mv, [.k (.int .i64 0)], none⟩] [] [1, 2]) (
 .seq (.reg [
   ⟨.e 12, .ld true 3, [.b 1], none⟩,
   ⟨.e 13, .call 91, [.t 12], none⟩,
   ⟨.e 4, .mv, [.t 13], none⟩] [4] [1, 2]) (
 .seq (.seq (.reg [
   ⟨.e 14, .mv, [.t 4], none⟩,
   ⟨.e 15, .bin .neq, [.t 14, .k (.int .i64 0)], none⟩] [4, 15] [1, 2]) (
 .cond (.t 15)
  (.seq (.reg [
     ⟨.e 16, .bld [.nil] [], [], none⟩,
     ⟨.e 17, .mv, [.t 4], none⟩,
     ⟨.n, .st 1, [.b 2, .t 16], none⟩,
     ⟨.e 3, .mv, [.t 17], none⟩] [3] [2]) (
   .ret))
  (.skip))) (
 .seq (.reg [
   ⟨.e 19, .ld true 3, [.b 1], none⟩,
   ⟨.e 20, .call 82, [.t 19], none⟩,
   ⟨.e 18, .mv, [.t 20], none⟩,
   ⟨.e 21, .ext 0, [.t 18], none⟩,
   ⟨.e 22, .ext 1, [.t 18], none⟩,
   ⟨.e 23, .ext 2, [.t 18], none⟩,
   ⟨.e 5, .mv, [.t 21], none⟩,
   ⟨.e 6, .mv, [.t 22], none⟩,
   ⟨.e 7, .mv, [.t 23], none⟩] [7] [1, 2]) (
 .seq (.seq (.reg [
   ⟨.e 24, .mv, [.t 7], none⟩] [24] [1, 2]) (
 .cond (.t 24)
  (.seq (.reg [
     ⟨.e 25, .bld [.nil] [], [], none⟩,
     ⟨.n, .st 1, [.b 2, .t 25], none⟩,
     ⟨.e 3, .mv, [.k (.int .i64 9)], none⟩] [3] [2]) (
   .ret))
  (.skip))) (
 .seq (.reg [
   ⟨.e 27, .ld true 3, [.b 1], none⟩,
   ⟨.e 28, .call 36, [.t 27], none⟩,
   ⟨.e 26, .mv, [.t 28], none⟩,
   ⟨.e 29, .ext 0, [.t 26], none⟩,
   ⟨.e 30, .ext 1, [.t 26], none⟩,
   ⟨.e 8, .mv, [.t 29], none⟩,
   ⟨.e 9, .mv, [.t 30], none⟩] [8] [1, 2]) (
 .seq (.reg [
   ⟨.e 32, .ld true 3, [.b 1], none⟩,
   ⟨.e 33, .call 30, [.t 32], none⟩,
   ⟨.e 34, .mv, [.t 8], none⟩,
   ⟨.e 35, .call 44, [.t 33, .t 34], none⟩,
   ⟨.e 31, .mv, [.t 35], none⟩,
   ⟨.e 36, .ext 0, [.t 31], none⟩,
   ⟨.e 37, .ext 1, [.t 31], none⟩,
   ⟨.e 10, .mv, [.t 36], none⟩,
   ⟨.e 11, .mv, [.t 37], none⟩] [10, 11] [2]) (
 .seq (.seq (.reg [
   ⟨.e 38, .mv, [.t 11], none⟩,
   ⟨.e 39, .bin .neq, [.t 38, .k (.int .i64 0)], none⟩] [10, 39] [2]) (
 .cond (.t 39)
  (.seq (.reg [
     ⟨.e 40, .bld [.nil] [], [], none⟩,
     ⟨.n, .st 1, [.b 2, .t 40], none⟩,
     ⟨.e 3, .mv, [.k (.int .i64 20)], none⟩] [3] [2]) (
   .ret))
  (.skip))) (
 .seq (.reg [
   ⟨.e 41, .mv, [.t 10], none⟩,
   ⟨.e 42, .bld [.nil] [(0, 1)], [.t 41], none⟩,
   ⟨.n, .st 1, [.b 2, .t 42], none⟩,
   ⟨.e 3, .mv, [.k (.int .i64 0)], none⟩] [3] [2]) (
 .ret)))))))))⟩
/- estovers/certificate.Impossible -/
noncomputable def L81_1 : AC := .loop [1, 12, 13] [] (
 .seq (.reg [
   ⟨.e 14, .bin .lss, [.t 13, .t 12], none⟩] [1, 12, 13, 14] []) (
 .seq (.cond (.t 14)
  (.skip)
  (.exit 0)) (
 .seq (.block 1 (
  .seq (.reg [
    ⟨.e 15, .mv, [.t 13], none⟩,
    ⟨.e 5, .mv, [.t 15], none⟩] [1, 5, 12, 13] []) (
  .seq (.reg [
    ⟨.a 16, .fa 2, [.t 1], none⟩,
    ⟨.e 17, .ld false 1, [.a 16], none⟩,
    ⟨.e 18, .mv, [.t 5], none⟩,
    ⟨.a 19, .ia 4, [.t 17, .t 18], none⟩,
    ⟨.a 20, .fa 3, [.a 19], none⟩,
    ⟨.e 21, .ld false 1, [.a 20], none⟩,
    ⟨.e 22, .mkf 142, [.t 1], none⟩,
    ⟨.e 23, .call 141, [.t 21, .t 22], none⟩,
    ⟨.e 6, .mv, [.t 23], none⟩] [1, 5, 6, 12, 13] []) (
  .seq (.reg [
    ⟨.e 24, .mv, [.t 6], none⟩,
    ⟨.e 25, .bin .geq, [.t 24, .k (.int .i64 0)], none⟩] [1, 5, 6, 12, 13, 25] []) (
  .cond (.t 25)
   (.seq (.reg [
      ⟨.e 26, .mv, [.t 5], none⟩,
      ⟨.e 27, .mv, [.t 6], none⟩,
      ⟨.e 2, .mv, [.t 26], none⟩,
      ⟨.e 3, .mv, [.t 27], none⟩,
      ⟨.e 4, .mv, [.k (.bool true)], none⟩] [2, 3, 4] []) (
    .ret))
   (.skip)))))) (
 .reg [
   ⟨.e 28, .bin .add, [.t 13, .k (.int .i64 1)], none⟩,
   ⟨.e 13, .mv, [.t 28], none⟩] [1, 12, 13] []))))
noncomputable def c81 : Fn := ⟨1, 1639424, 0, true, [.t 2, .t 3, .t 4],
 .seq (.reg [
   ⟨.e 1, .hbox 3, [.t 0], none⟩,
   ⟨.e 2, .mv, [.k (.int .i64 0)], none⟩,
   ⟨.e 3, .mv, [.k (.int .i64 0)], none⟩,
   ⟨.e 4, .mv, [.k (.bool false)], none⟩] [1] []) (
 .seq (.seq (.reg [
   ⟨.e 7, .ld true 3, [.t 1], none⟩,
   ⟨.e 8, .call 49, [.t 7], none⟩,
   ⟨.e 9, .bin .neq, [.t 8, .k (.int .i64 0)], none⟩] [1, 9] []) (
 .cond (.t 9)
  (.seq (.reg [
     ⟨.e 2, .mv, [.k (.int .i64 0)], none⟩,
     ⟨.e 3, .mv, [.k (.int .i64 0)], none⟩,
     ⟨.e 4, .mv, [.k (.bool false)], none⟩] [2, 3, 4] []) (
   .ret))
  (.skip))) (
 .seq (.seq (.reg [
   ⟨.a 10, .fa 2, [.t 1], none⟩,
   ⟨.e 11, .ld false 1, [.a 10], none⟩,
   ⟨.e 12, .len false, [.t 11], none⟩,
   ⟨.e 13, .mv, [.k (.int .i64 0)], none⟩] [1, 12, 13] []) (
 .block 0 (
  L81_1))) (
 .seq (.reg [
   ⟨.e 2, .mv, [.k (.int .i64 0)], none⟩,
   ⟨.e 3, .mv, [.k (.int .i64 0)], none⟩,
   ⟨.e 4, .mv, [.k (.bool false)], none⟩] [2, 3, 4] []) (
 .ret))))⟩
/- estovers/estoversref43.Impossible -/
noncomputable def L82_1 : AC := .loop [5, 6] [1] (
 .seq (.seq (.reg [
   ⟨.e 18, .mv, [.t 6], none⟩,
   ⟨.a 19, .fa 2, [.b 1], none⟩,
   ⟨.e 20, .ld false 1, [.a 19], none⟩,
   ⟨.e 21, .mv, [.t 5], none⟩,
   ⟨.a 22, .ia 4, [.t 20, .t 21], none⟩,
   ⟨.a 23, .fa 3, [.a 22], none⟩,
   ⟨.e 24, .ld false 1, [.a 23], none⟩,
   ⟨.e 25, .len false, [.t 24], none⟩,
   ⟨.e 26, .bin .lss, [.t 18, .t 25], none⟩] [5, 6, 26] [1]) (
 .cond (.t 26)
  (.skip)
  (.exit 2))) (
 .seq (.block 3 (
  .seq (.reg [
    ⟨.a 29, .fa 2, [.b 1], none⟩,
    ⟨.e 30, .ld false 1, [.a 29], none⟩,
    ⟨.e 31, .mv, [.t 5], none⟩,
    ⟨.a 32, .ia 4, [.t 30, .t 31], none⟩,
    ⟨.a 33, .fa 3, [.a 32], none⟩,
    ⟨.e 34, .ld false 1, [.a 33], none⟩,
    ⟨.e 35, .mv, [.t 6], none⟩,
    ⟨.a 36, .ia 4, [.t 34, .t 35], none⟩,
    ⟨.e 37, .ld true 4, [.a 36], none⟩,
    ⟨.x 7, .box, [.k (.agg [(.int .i64 0), (.int .i64 0), (.int .i64 0), (.bool false)])], none⟩,
    ⟨.n, .st 4, [.b 7, .t 37], none⟩] [5, 6] [1, 7]) (
  .seq (.seq (.dreg [
    ⟨.a 38, .fa 0, [.b 7], none⟩,
    ⟨.e 39, .ld false 1, [.a 38], none⟩,
    ⟨.e 40, .bin .eql, [.t 39, .k (.int .i64 1)], none⟩,
    ⟨.e 41, .mv, [.t 40], none⟩,
    ⟨.a 42, .fa 3, [.b 7], some (41, true)⟩,
    ⟨.e 43, .ld false 1, [.a 42], some (41, true)⟩,
    ⟨.e 44, .not, [.t 43], some (41, true)⟩,
    ⟨.e 45, .pick, [.t 41, .t 44, .k (.bool false)], none⟩,
    ⟨.e 46, .mv, [.t 45], none⟩,
    ⟨.a 47, .fa 2, [.b 7], some (46, true)⟩,
    ⟨.e 48, .ld false 1, [.a 47], some (46, true)⟩,
    ⟨.a 49, .fa 0, [.b 1], some (46, true)⟩,
    ⟨.e 50, .ld false 1, [.a 49], some (46, true)⟩,
    ⟨.a 51, .fa 1, [.b 7], some (46, true)⟩,
    ⟨.e 52, .ld false 1, [.a 51], some (46, true)⟩,
    ⟨.a 53, .ia 3, [.t 50, .t 52], some (46, true)⟩,
    ⟨.a 54, .fa 1, [.a 53], some (46, true)⟩,
    ⟨.e 55, .ld false 1, [.a 54], some (46, true)⟩,
    ⟨.a 56, .fa 0, [.b 1], some (46, true)⟩,
    ⟨.e 57, .ld false 1, [.a 56], some (46, true)⟩,
    ⟨.a 58, .fa 1, [.b 7], some (46, true)⟩,
    ⟨.e 59, .ld false 1, [.a 58], some (46, true)⟩,
    ⟨.a 60, .ia 3, [.t 57, .t 59], some (46, true)⟩,
    ⟨.a 61, .fa 2, [.a 60], some (46, true)⟩,
    ⟨.e 62, .ld false 1, [.a 61], some (46, true)⟩,
    ⟨.e 63, .bin .sub, [.t 55, .t 62], some (46, true)⟩,
    ⟨.e 64, .bin .gtr, [.t 48, .t 63], some (46, true)⟩,
    ⟨.e 65, .pick, [.t 46, .t 64, .k (.bool false)], none⟩] [] [5, 6, 65] [1, 7]) (
  .cond (.t 65)
   (.seq (.reg [
      ⟨.e 66, .mv, [.t 5], none⟩,
      ⟨.e 67, .mv, [.t 6], none⟩,
      ⟨.e 2, .mv, [.t 66], none⟩,
      ⟨.e 3, .mv, [.t 67], none⟩,
      ⟨.e 4, .mv, [.k (.bool true)], none⟩] [2, 3, 4] []) (
    .ret))
   (.skip))) (
  .seq (.reg [
    ⟨.a 68, .fa 0, [.b 7], none⟩,
    ⟨.e 69, .ld false 1, [.a 68], none⟩,
    ⟨.e 70, .bin .eql, [.t 69, .k (.int .i64 5)], none⟩,
    ⟨.e 71, .mv, [.t 70], none⟩,
    ⟨.a 72, .fa 2, [.b 1], some (71, true)⟩,
    ⟨.e 73, .ld false 1, [.a 72], some (71, true)⟩,
    ⟨.a 74, .fa 1, [.b 7], some (71, true)⟩,
    ⟨.e 75, .ld false 1, [.a 74], some (71, true)⟩,
    ⟨.a 76, .ia 4, [.t 73, .t 75], some (71, true)⟩,
    ⟨.a 77, .fa 1, [.a 76], some (71, true)⟩,
    ⟨.e 78, .ld false 1, [.a 77], some (71, true)⟩,
    ⟨.e 79, .bin .eql, [.t 78, .k (.int .i64 0)], some (71, true)⟩,
    ⟨.e 80, .pick, [.t 71, .t 79, .k (.bool false)], none⟩] [5, 6, 80] [1]) (
  .cond (.t 80)
   (.seq (.reg [
      ⟨.e 81, .mv, [.t 5], none⟩,
      ⟨.e 82, .mv, [.t 6], none⟩,
      ⟨.e 2, .mv, [.t 81], none⟩,
      ⟨.e 3, .mv, [.t 82], none⟩,
      ⟨.e 4, .mv, [.k (.bool true)], none⟩] [2, 3, 4] []) (
    .ret))
   (.skip)))))) (
 .reg [
   ⟨.e 27, .mv, [.t 6], none⟩,
   ⟨.e 28, .bin .add, [.t 27, .k (.int .i64 1)], none⟩,
   ⟨.e 6, .mv, [.t 28], none⟩] [5, 6] [1])))
noncomputable def L82_2 : AC := .loop [5] [1] (
 .seq (.seq (.reg [
   ⟨.e 11, .mv, [.t 5], none⟩,
   ⟨.a 12, .fa 2, [.b 1], none⟩,
   ⟨.e 13, .ld false 1, [.a 12], none⟩,
   ⟨.e 14, .len false, [.t 13], none⟩,
   ⟨.e 15, .bin .lss, [.t 11, .t 14], none⟩] [5, 15] [1]) (
 .cond (.t 15)
  (.skip)
  (.exit 0))) (
 .seq (.block 1 (
  .seq (.reg [
    ⟨.e 6, .mv, [.k (.int .i64 0)], none⟩] [5, 6] [1]) (
  .block 2 (
   L82_1)))) (
 .reg [
   ⟨.e 16, .mv, [.t 5], none⟩,
   ⟨.e 17, .bin .add, [.t 16, .k (.int .i64 1)], none⟩,
   ⟨.e 5, .mv, [.t 17], none⟩] [5] [1])))
noncomputable def c82 : Fn := ⟨1, 250584420531594657796096, 130, true, [.t 2, .t 3, .t 4],
 .seq (.reg [
   ⟨.x 1, .box, [.t 0], none⟩,
   ⟨.e 2, .mv, [.k (.int .i64 0)], none⟩,
   ⟨.e 3, .mv, [.k (.int .i64 0)], none⟩,
   ⟨.e 4, .mv, [.k (.bool false)], none⟩] [] [1]) (
 .seq (.seq (.reg [
   ⟨.e 8, .ld true 3, [.b 1], none⟩,
   ⟨.e 9, .call 91, [.t 8], none⟩,
   ⟨.e 10, .bin .neq, [.t 9, .k (.int .i64 0)], none⟩] [10] [1]) (
 .cond (.t 10)
  (.seq (.reg [
     ⟨.e 2, .mv, [.k (.int .i64 0)], none⟩,
     ⟨.e 3, .mv, [.k (.int .i64 0)], none⟩,
     ⟨.e 4, .mv, [.k (.bool false)], none⟩] [2, 3, 4] []) (
   .ret))
  (.skip))) (
 .seq (.seq (.reg [
   ⟨.e 5, .mv, [.k (.int .i64 0)], none⟩] [5] [1]) (
 .block 0 (
  L82_2))) (
 .seq (.reg [
   ⟨.e 2, .mv, [.k (.int .i64 0)], none⟩,
   ⟨.e 3, .mv, [.k (.int .i64 0)], none⟩,
   ⟨.e 4, .mv, [.k (.bool false)], none⟩] [2, 3, 4] []) (
 .ret))))⟩
/- estovers/certificate.Explain -/
noncomputable def L83_1 : AC := .loop [4, 8, 26, 27, 28] [] (
 .seq (.reg [
   ⟨.e 29, .bin .lss, [.t 28, .t 27], none⟩] [4, 8, 26, 27, 28, 29] []) (
 .seq (.cond (.t 29)
  (.skip)
  (.exit 0)) (
 .seq (.block 1 (
  .seq (.reg [
    ⟨.a 30, .ia 1, [.t 26, .t 28], none⟩,
    ⟨.e 31, .ld false 1, [.a 30], none⟩,
    ⟨.e 10, .mv, [.t 31], none⟩] [4, 8, 10, 26, 27, 28] []) (
  .reg [
    ⟨.e 32, .mv, [.t 8], none⟩,
    ⟨.e 33, .mv, [.t 4], none⟩,
    ⟨.e 34, .mv, [.t 10], none⟩,
    ⟨.a 35, .ia 4, [.t 33, .t 34], none⟩,
    ⟨.e 36, .ld true 4, [.a 35], none⟩,
    ⟨.e 37, .lit 4 1 (.agg [(.int .i64 0), (.int .i64 0), (.int .i64 0), (.int .i64 0)]) [0], [.t 36], none⟩,
    ⟨.e 38, .app 4, [.t 32, .t 37], none⟩,
    ⟨.e 8, .mv, [.t 38], none⟩] [4, 8, 26, 27, 28] []))) (
 .reg [
   ⟨.e 39, .bin .add, [.t 28, .k (.int .i64 1)], none⟩,
   ⟨.e 28, .mv, [.t 39], none⟩] [4, 8, 26, 27, 28] []))))
noncomputable def c83 : Fn := ⟨1, 35433480192, 2, true, [.t 2, .t 3],
 .seq (.reg [
   ⟨.x 1, .box, [.t 0], none⟩,
   ⟨.e 2, .mv, [.k .nil], none⟩,
   ⟨.e 3, .mv, [.k (.int .i64 0)], none⟩] [] [1]) (
 .seq (.reg [
   ⟨.e 12, .ld true 3, [.b 1], none⟩,
   ⟨.e 13, .call 35, [.t 12], none⟩,
   ⟨.e 11, .mv, [.t 13], none⟩,
   ⟨.e 14, .ext 0, [.t 11], none⟩,
   ⟨.e 15, .ext 1, [.t 11], none⟩,
   ⟨.e 4, .mv, [.t 14], none⟩,
   ⟨.e 5, .mv, [.t 15], none⟩] [4, 5] [1]) (
 .seq (.seq (.reg [
   ⟨.e 16, .mv, [.t 5], none⟩,
   ⟨.e 17, .bin .neq, [.t 16, .k (.int .i64 0)], none⟩] [4, 5, 17] [1]) (
 .cond (.t 17)
  (.seq (.reg [
     ⟨.e 18, .mv, [.t 5], none⟩,
     ⟨.e 2, .mv, [.k .nil], none⟩,
     ⟨.e 3, .mv, [.t 18], none⟩] [2, 3] []) (
   .ret))
  (.skip))) (
 .seq (.reg [
   ⟨.e 20, .ld true 3, [.b 1], none⟩,
   ⟨.e 21, .call 29, [.t 20], none⟩,
   ⟨.e 22, .mv, [.t 4], none⟩,
   ⟨.e 23, .call 40, [.t 21, .t 22], none⟩,
   ⟨.e 19, .mv, [.t 23], none⟩,
   ⟨.e 24, .ext 0, [.t 19], none⟩,
   ⟨.e 25, .ext 1, [.t 19], none⟩,
   ⟨.e 6, .mv, [.t 24], none⟩,
   ⟨.e 7, .mv, [.t 25], none⟩] [4, 6] []) (
 .seq (.reg [
   ⟨.e 8, .mv, [.k .nil], none⟩] [4, 6, 8] []) (
 .seq (.seq (.reg [
   ⟨.e 26, .mv, [.t 6], none⟩,
   ⟨.e 27, .len false, [.t 26], none⟩,
   ⟨.e 28, .mv, [.k (.int .i64 0)], none⟩] [4, 8, 26, 27, 28] []) (
 .block 0 (
  L83_1))) (
 .seq (.reg [
   ⟨.e 40, .mv, [.t 8], none⟩,
   ⟨.e 2, .mv, [.t 40], none⟩,
   ⟨.e 3, .mv, [.k (.int .i64 0)], none⟩] [2, 3] []) (
 .ret)))))))⟩
/- estovers/estoversref43.Explain -/
noncomputable def L84_1 : AC := .loop [5, 7, 9, 10] [] (
 .seq (.seq (.reg [
   ⟨.e 28, .mv, [.t 10], none⟩,
   ⟨.e 29, .mv, [.t 7], none⟩,
   ⟨.e 30, .len false, [.t 29], none⟩,
   ⟨.e 31, .bin .lss, [.t 28, .t 30], none⟩] [5, 7, 9, 10, 31] []) (
 .cond (.t 31)
  (.skip)
  (.exit 0))) (
 .seq (.block 1 (
  .reg [
    ⟨.e 34, .mv, [.t 9], none⟩,
    ⟨.e 35, .mv, [.t 5], none⟩,
    ⟨.e 36, .mv, [.t 7], none⟩,
    ⟨.e 37, .mv, [.t 10], none⟩,
    ⟨.a 38, .ia 1, [.t 36, .t 37], none⟩,
    ⟨.e 39, .ld false 1, [.a 38], none⟩,
    ⟨.a 40, .ia 4, [.t 35, .t 39], none⟩,
    ⟨.e 41, .ld true 4, [.a 40], none⟩,
    ⟨.e 42, .lit 4 1 (.agg [(.int .i64 0), (.int .i64 0), (.int .i64 0), (.int .i64 0)]) [0], [.t 41], none⟩,
    ⟨.e 43, .app 4, [.t 34, .t 42], none⟩,
    ⟨.e 9, .mv, [.t 43], none⟩] [5, 7, 9, 10] [])) (
 .reg [
   ⟨.e 32, .mv, [.t 10], none⟩,
   ⟨.e 33, .bin .add, [.t 32, .k (.int .i64 1)], none⟩,
   ⟨.e 10, .mv, [.t 33], none⟩] [5, 7, 9, 10] [])))
noncomputable def c84 : Fn := ⟨1, 1374389534720, 2, true, [.t 2, .t 3],
 .seq (.reg [
   ⟨.x 1, .box, [.t 0], none⟩,
   ⟨.e 2, .mv, [.k .nil], none⟩,
   ⟨.e 3, .mv, [.k (.int .i64 0)], none⟩] [] [1]) (
 .seq (.reg [
   ⟨.e 11, .ld true 3, [.b 1], none⟩,
   ⟨.e 12, .call 91, [.t 11], none⟩,
   ⟨.e 4, .mv, [.t 12], none⟩] [4] [1]) (
 .seq (.seq (.reg [
   ⟨.e 13, .mv, [.t 4], none⟩,
   ⟨.e 14, .bin .neq, [.t 13, .k (.int .i64 0)], none⟩] [4, 14] [1]) (
 .cond (.t 14)
  (.seq (.reg [
     ⟨.e 15, .mv, [.t 4], none⟩,
     ⟨.e 2, .mv, [.k .nil], none⟩,
     ⟨.e 3, .mv, [.t 15], none⟩] [2, 3] []) (
   .ret))
  (.skip))) (
 .seq (.reg [
   ⟨.e 17, .ld true 3, [.b 1], none⟩,
   ⟨.e 18, .call 36, [.t 17], none⟩,
   ⟨.e 16, .mv, [.t 18], none⟩,
   ⟨.e 19, .ext 0, [.t 16], none⟩,
   ⟨.e 20, .ext 1, [.t 16], none⟩,
   ⟨.e 5, .mv, [.t 19], none⟩,
   ⟨.e 6, .mv, [.t 20], none⟩] [5] [1]) (
 .seq (.reg [
   ⟨.e 22, .ld true 3, [.b 1], none⟩,
   ⟨.e 23, .call 30, [.t 22], none⟩,
   ⟨.e 24, .mv, [.t 5], none⟩,
   ⟨.e 25, .call 43, [.t 23, .t 24], none⟩,
   ⟨.e 21, .mv, [.t 25], none⟩,
   ⟨.e 26, .ext 0, [.t 21], none⟩,
   ⟨.e 27, .ext 1, [.t 21], none⟩,
   ⟨.e 7, .mv, [.t 26], none⟩,
   ⟨.e 8, .mv, [.t 27], none⟩] [5, 7] []) (
 .seq (.reg [
   ⟨.e 9, .mv, [.k .nil], none⟩] [5, 7, 9] []) (
 .seq (.seq (.reg [
   ⟨.e 10, .mv, [.k (.int .i64 0)], none⟩] [5, 7, 9, 10] []) (
 .block 0 (
  L84_1))) (
 .seq (.reg [
   ⟨.e 44, .mv, [.t 9], none⟩,
   ⟨.e 2, .mv, [.t 44], none⟩,
   ⟨.e 3, .mv, [.k (.int .i64 0)], none⟩] [2, 3] []) (
 .ret))))))))⟩
/- estovers/estoversref43.Same -/
noncomputable def c85 : Fn := ⟨2, 160, 12, true, [.t 4],
 .seq (.reg [
   ⟨.x 2, .box, [.t 0], none⟩,
   ⟨.x 3, .box, [.t 1], none⟩,
   ⟨.e 4, .mv, [.k (.bool false)], none⟩] [] [2, 3]) (
 .seq (.reg [
   ⟨.a 5, .fa 0, [.b 2], none⟩,
   ⟨.e 6, .ld false 1, [.a 5], none⟩,
   ⟨.a 7, .fa 0, [.b 3], none⟩,
   ⟨.e 8, .ld false 1, [.a 7], none⟩,
   ⟨.e 9, .call 45, [.t 6, .t 8], none⟩,
   ⟨.e 4, .mv, [.t 9], none⟩] [4] []) (
 .ret))⟩
/- estovers/certificate.Enough -/
noncomputable def c86 : Fn := ⟨2, 204800, 4, true, [.t 4],
 .seq (.reg [
   ⟨.x 2, .box, [.t 0], none⟩,
   ⟨.e 4, .mv, [.k (.int .i64 0)], none⟩] [1] [2]) (
 .seq (.reg [
   ⟨.e 6, .ld true 3, [.b 2], none⟩,
   ⟨.e 7, .mv, [.t 1], none⟩,
   ⟨.e 8, .call 31, [.t 6, .t 7, .k (.bool true)], none⟩,
   ⟨.e 5, .mv, [.t 8], none⟩] [1, 5] [2]) (
 .seq (.seq (.reg [
   ⟨.e 9, .mv, [.t 5], none⟩,
   ⟨.e 10, .bin .gtr, [.t 9, .k (.int .i64 0)], none⟩,
   ⟨.e 11, .mv, [.t 10], none⟩,
   ⟨.e 12, .mv, [.t 5], some (11, true)⟩,
   ⟨.a 13, .fa 0, [.b 2], some (11, true)⟩,
   ⟨.e 14, .ld false 1, [.a 13], some (11, true)⟩,
   ⟨.e 15, .mv, [.t 1], some (11, true)⟩,
   ⟨.a 16, .ia 3, [.t 14, .t 15], some (11, true)⟩,
   ⟨.a 17, .fa 1, [.a 16], some (11, true)⟩,
   ⟨.e 18, .ld false 1, [.a 17], some (11, true)⟩,
   ⟨.e 19, .bin .gtr, [.t 12, .t 18], some (11, true)⟩,
   ⟨.e 20, .pick, [.t 11, .t 19, .k (.bool false)], none⟩] [5, 20] []) (
 .cond (.t 20)
  (.seq (.reg [
     ⟨.e 4, .mv, [.k (.int .i64 (-1))], none⟩] [4] []) (
   .ret))
  (.skip))) (
 .seq (.reg [
   ⟨.e 21, .mv, [.t 5], none⟩,
   ⟨.e 4, .mv, [.t 21], none⟩] [4] []) (
 .ret))))⟩
/- estovers/estoversref43.Enough -/
noncomputable def c87 : Fn := ⟨2, 204800, 4, true, [.t 4],
 .seq (.reg [
   ⟨.x 2, .box, [.t 0], none⟩,
   ⟨.e 4, .mv, [.k (.int .i64 0)], none⟩] [1] [2]) (
 .seq (.reg [
   ⟨.e 6, .ld true 3, [.b 2], none⟩,
   ⟨.e 7, .mv, [.t 1], none⟩,
   ⟨.e 8, .call 32, [.t 6, .t 7, .k (.bool true)], none⟩,
   ⟨.e 5, .mv, [.t 8], none⟩] [1, 5] [2]) (
 .seq (.seq (.reg [
   ⟨.e 9, .mv, [.t 5], none⟩,
   ⟨.e 10, .bin .lss, [.t 9, .k (.int .i64 0)], none⟩,
   ⟨.e 11, .mv, [.t 10], none⟩,
   ⟨.e 12, .mv, [.t 5], some (11, false)⟩,
   ⟨.a 13, .fa 0, [.b 2], some (11, false)⟩,
   ⟨.e 14, .ld false 1, [.a 13], some (11, false)⟩,
   ⟨.e 15, .mv, [.t 1], some (11, false)⟩,
   ⟨.a 16, .ia 3, [.t 14, .t 15], some (11, false)⟩,
   ⟨.a 17, .fa 1, [.a 16], some (11, false)⟩,
   ⟨.e 18, .ld false 1, [.a 17], some (11, false)⟩,
   ⟨.e 19, .bin .gtr, [.t 12, .t 18], some (11, false)⟩,
   ⟨.e 20, .pick, [.t 11, .k (.bool true), .t 19], none⟩] [5, 20] []) (
 .cond (.t 20)
  (.seq (.reg [
     ⟨.e 4, .mv, [.k (.int .i64 (-1))], none⟩] [4] []) (
   .ret))
  (.skip))) (
 .seq (.reg [
   ⟨.e 21, .mv, [.t 5], none⟩,
   ⟨.e 4, .mv, [.t 21], none⟩] [4] []) (
 .ret))))⟩
/- estovers/estoversref43.Verify -/
noncomputable def L88_1 : AC := .loop [6] [2, 3] (
 .seq (.seq (.reg [
   ⟨.e 26, .mv, [.t 6], none⟩,
   ⟨.a 27, .fa 0, [.b 3], none⟩,
   ⟨.e 28, .ld false 1, [.a 27], none⟩,
   ⟨.e 29, .len false, [.t 28], none⟩,
   ⟨.e 30, .bin .lss, [.t 26, .t 29], none⟩] [6, 30] [2, 3]) (
 .cond (.t 30)
  (.skip)
  (.exit 0))) (
 .seq (.block 1 (
  .seq (.reg [
    ⟨.a 33, .fa 0, [.b 3], none⟩,
    ⟨.e 34, .ld false 1, [.a 33], none⟩,
    ⟨.e 35, .mv, [.t 6], none⟩,
    ⟨.a 36, .ia 1, [.t 34, .t 35], none⟩,
    ⟨.e 37, .ld false 1, [.a 36], none⟩,
    ⟨.e 38, .bin .lss, [.t 37, .k (.int .i64 0)], none⟩,
    ⟨.e 39, .mv, [.t 38], none⟩,
    ⟨.a 40, .fa 0, [.b 3], some (39, false)⟩,
    ⟨.e 41, .ld false 1, [.a 40], some (39, false)⟩,
    ⟨.e 42, .mv, [.t 6], some (39, false)⟩,
    ⟨.a 43, .ia 1, [.t 41, .t 42], some (39, false)⟩,
    ⟨.e 44, .ld false 1, [.a 43], some (39, false)⟩,
    ⟨.e 45, .bin .gtr, [.t 44, .k (.int .i64 4096)], some (39, false)⟩,
    ⟨.e 46, .pick, [.t 39, .k (.bool true), .t 45], none⟩] [6, 46] [2, 3]) (
  .cond (.t 46)
   (.seq (.reg [
      ⟨.e 4, .mv, [.k (.int .i64 3)], none⟩] [4] []) (
    .ret))
   (.skip)))) (
 .reg [
   ⟨.e 31, .mv, [.t 6], none⟩,
   ⟨.e 32, .bin .add, [.t 31, .k (.int .i64 1)], none⟩,
   ⟨.e 6, .mv, [.t 32], none⟩] [6] [2, 3])))
noncomputable def L88_2 : AC := .loop [10, 11, 12, 13, 14] [2, 3] (
 .seq (.seq (.reg [
   ⟨.e 92, .mv, [.t 14], none⟩,
   ⟨.e 93, .mv, [.t 12], none⟩,
   ⟨.e 94, .len false, [.t 93], none⟩,
   ⟨.e 95, .bin .lss, [.t 92, .t 94], none⟩] [10, 11, 12, 13, 14, 95] [2, 3]) (
 .cond (.t 95)
  (.skip)
  (.exit 6))) (
 .seq (.block 7 (
  .seq (.dreg [
    ⟨.a 98, .fa 0, [.b 3], none⟩,
    ⟨.e 99, .ld false 1, [.a 98], none⟩,
    ⟨.e 100, .mv, [.t 12], none⟩,
    ⟨.e 101, .mv, [.t 14], none⟩,
    ⟨.a 102, .ia 1, [.t 100, .t 101], none⟩,
    ⟨.e 103, .ld false 1, [.a 102], none⟩,
    ⟨.a 104, .ia 1, [.t 99, .t 103], none⟩,
    ⟨.e 105, .ld false 1, [.a 104], none⟩,
    ⟨.a 106, .fa 0, [.b 3], none⟩,
    ⟨.e 107, .ld false 1, [.a 106], none⟩,
    ⟨.e 108, .mv, [.t 13], none⟩,
    ⟨.a 109, .ia 1, [.t 107, .t 108], none⟩,
    ⟨.e 110, .ld false 1, [.a 109], none⟩,
    ⟨.e 111, .bin .leq, [.t 105, .t 110], none⟩] [] [10, 11, 12, 13, 14, 111] [2, 3]) (
  .cond (.t 111)
   (.seq (.reg [
      ⟨.e 4, .mv, [.k (.int .i64 19)], none⟩] [4] []) (
    .ret))
   (.skip)))) (
 .reg [
   ⟨.e 96, .mv, [.t 14], none⟩,
   ⟨.e 97, .bin .add, [.t 96, .k (.int .i64 1)], none⟩,
   ⟨.e 14, .mv, [.t 97], none⟩] [10, 11, 12, 13, 14] [2, 3])))
noncomputable def L88_3 : AC := .loop [10, 11] [2, 3] (
 .seq (.seq (.reg [
   ⟨.e 61, .mv, [.t 11], none⟩,
   ⟨.a 62, .fa 2, [.b 2], none⟩,
   ⟨.e 63, .ld false 1, [.a 62], none⟩,
   ⟨.e 64, .mv, [.t 10], none⟩,
   ⟨.a 65, .ia 4, [.t 63, .t 64], none⟩,
   ⟨.a 66, .fa 3, [.a 65], none⟩,
   ⟨.e 67, .ld false 1, [.a 66], none⟩,
   ⟨.e 68, .len false, [.t 67], none⟩,
   ⟨.e 69, .bin .lss, [.t 61, .t 68], none⟩] [10, 11, 69] [2, 3]) (
 .cond (.t 69)
  (.skip)
  (.exit 4))) (
 .seq (.block 5 (
  .seq (.seq (.reg [
    ⟨.e 72, .ld true 3, [.b 2], none⟩,
    ⟨.e 73, .mv, [.t 10], none⟩,
    ⟨.e 74, .mv, [.t 11], none⟩,
    ⟨.e 75, .call 34, [.t 72, .t 73, .t 74], none⟩,
    ⟨.e 76, .not, [.t 75], none⟩] [10, 11, 76] [2, 3]) (
  .cond (.t 76)
   (.exit 5)
   (.skip))) (
  .seq (.reg [
    ⟨.e 77, .ld true 3, [.b 2], none⟩,
    ⟨.e 78, .mv, [.t 10], none⟩,
    ⟨.e 79, .mv, [.t 11], none⟩,
    ⟨.e 80, .call 99, [.t 77, .t 78, .t 79], none⟩,
    ⟨.e 12, .mv, [.t 80], none⟩] [10, 11, 12] [2, 3]) (
  .seq (.dreg [
    ⟨.e 81, .ld true 3, [.b 2], none⟩,
    ⟨.a 82, .fa 2, [.b 2], none⟩,
    ⟨.e 83, .ld false 1, [.a 82], none⟩,
    ⟨.e 84, .mv, [.t 10], none⟩,
    ⟨.a 85, .ia 4, [.t 83, .t 84], none⟩,
    ⟨.a 86, .fa 3, [.a 85], none⟩,
    ⟨.e 87, .ld false 1, [.a 86], none⟩,
    ⟨.e 88, .mv, [.t 11], none⟩,
    ⟨.a 89, .ia 4, [.t 87, .t 88], none⟩,
    ⟨.e 90, .ld true 4, [.a 89], none⟩,
    ⟨.e 91, .call 100, [.t 81, .t 90], none⟩,
    ⟨.e 13, .mv, [.t 91], none⟩] [] [10, 11, 12, 13] [2, 3]) (
  .seq (.reg [
    ⟨.e 14, .mv, [.k (.int .i64 0)], none⟩] [10, 11, 12, 13, 14] [2, 3]) (
  .block 6 (
   L88_2))))))) (
 .reg [
   ⟨.e 70, .mv, [.t 11], none⟩,
   ⟨.e 71, .bin .add, [.t 70, .k (.int .i64 1)], none⟩,
   ⟨.e 11, .mv, [.t 71], none⟩] [10, 11] [2, 3])))
noncomputable def L88_4 : AC := .loop [10] [2, 3] (
 .seq (.seq (.reg [
   ⟨.e 54, .mv, [.t 10], none⟩,
   ⟨.a 55, .fa 2, [.b 2], none⟩,
   ⟨.e 56, .ld false 1, [.a 55], none⟩,
   ⟨.e 57, .len false, [.t 56], none⟩,
   ⟨.e 58, .bin .lss, [.t 54, .t 57], none⟩] [10, 58] [2, 3]) (
 .cond (.t 58)
  (.skip)
  (.exit 2))) (
 .seq (.block 3 (
  .seq (.reg [
    ⟨.e 11, .mv, [.k (.int .i64 0)], none⟩] [10, 11] [2, 3]) (
  .block 4 (
   L88_3)))) (
 .reg [
   ⟨.e 59, .mv, [.t 10], none⟩,
   ⟨.e 60, .bin .add, [.t 59, .k (.int .i64 1)], none⟩,
   ⟨.e 10, .mv, [.t 60], none⟩] [10] [2, 3])))
noncomputable def c88 : Fn := ⟨2, 755837410248798712984694959374336, 12, true, [.t 4],
 .seq (.reg [
   ⟨.x 2, .box, [.t 0], none⟩,
   ⟨.x 3, .box, [.t 1], none⟩,
   ⟨.e 4, .mv, [.k (.int .i64 0)], none⟩] [] [2, 3]) (
 .seq (.reg [
   ⟨.e 15, .ld true 3, [.b 2], none⟩,
   ⟨.e 16, .call 91, [.t 15], none⟩,
   ⟨.e 5, .mv, [.t 16], none⟩] [5] [2, 3]) (
 .seq (.seq (.reg [
   ⟨.e 17, .mv, [.t 5], none⟩,
   ⟨.e 18, .bin .neq, [.t 17, .k (.int .i64 0)], none⟩] [5, 18] [2, 3]) (
 .cond (.t 18)
  (.seq (.reg [
     ⟨.e 19, .mv, [.t 5], none⟩,
     ⟨.e 4, .mv, [.t 19], none⟩] [4] []) (
   .ret))
  (.skip))) (
 .seq (.seq (.dreg [
   ⟨.a 20, .fa 0, [.b 3], none⟩,
   ⟨.e 21, .ld false 1, [.a 20], none⟩,
   ⟨.e 22, .len false, [.t 21], none⟩,
   ⟨.e 23, .ld true 3, [.b 2], none⟩,
   ⟨.e 24, .call 30, [.t 23], none⟩,
   ⟨.e 25, .bin .neq, [.t 22, .t 24], none⟩] [] [25] [2, 3]) (
 .cond (.t 25)
  (.seq (.reg [
     ⟨.e 4, .mv, [.k (.int .i64 3)], none⟩] [4] []) (
   .ret))
  (.skip))) (
 .seq (.seq (.reg [
   ⟨.e 6, .mv, [.k (.int .i64 0)], none⟩] [6] [2, 3]) (
 .block 0 (
  L88_1))) (
 .seq (.reg [
   ⟨.e 48, .ld true 3, [.b 2], none⟩,
   ⟨.e 49, .call 82, [.t 48], none⟩,
   ⟨.e 47, .mv, [.t 49], none⟩,
   ⟨.e 50, .ext 0, [.t 47], none⟩,
   ⟨.e 51, .ext 1, [.t 47], none⟩,
   ⟨.e 52, .ext 2, [.t 47], none⟩,
   ⟨.e 7, .mv, [.t 50], none⟩,
   ⟨.e 8, .mv, [.t 51], none⟩,
   ⟨.e 9, .mv, [.t 52], none⟩] [9] [2, 3]) (
 .seq (.seq (.reg [
   ⟨.e 53, .mv, [.t 9], none⟩] [53] [2, 3]) (
 .cond (.t 53)
  (.seq (.reg [
     ⟨.e 4, .mv, [.k (.int .i64 9)], none⟩] [4] []) (
   .ret))
  (.skip))) (
 .seq (.seq (.reg [
   ⟨.e 10, .mv, [.k (.int .i64 0)], none⟩] [10] [2, 3]) (
 .block 2 (
  L88_4))) (
 .seq (.reg [
   ⟨.e 4, .mv, [.k (.int .i64 0)], none⟩] [4] []) (
 .ret)))))))))⟩
/- estovers/estoverslaw43.Copy -/
noncomputable def L89_1 : AC := .loop [16, 17, 18] [2, 3] (
 .seq (.reg [
   ⟨.e 19, .bin .lss, [.t 18, .t 17], none⟩] [16, 17, 18, 19] [2, 3]) (
 .seq (.cond (.t 19)
  (.skip)
  (.exit 0)) (
 .seq (.block 1 (
  .seq (.reg [
    ⟨.a 20, .ia 4, [.t 16, .t 18], none⟩,
    ⟨.e 21, .ld true 4, [.a 20], none⟩,
    ⟨.x 5, .box, [.k (.agg [(.str []), (.int .i64 0), (.bool false), .nil])], none⟩,
    ⟨.n, .st 4, [.b 5, .t 21], none⟩] [16, 17, 18] [2, 3, 5]) (
  .seq (.reg [
    ⟨.e 22, .hlit 4 0 (.agg [(.int .i64 0), (.int .i64 0), (.int .i64 0), (.bool false)]) [], [], none⟩,
    ⟨.a 23, .fa 3, [.b 5], none⟩,
    ⟨.e 24, .ld false 1, [.a 23], none⟩,
    ⟨.e 25, .app 4, [.t 22, .t 24], none⟩,
    ⟨.a 26, .fa 3, [.b 5], none⟩,
    ⟨.n, .st 1, [.a 26, .t 25], none⟩] [16, 17, 18] [2, 3, 5]) (
  .reg [
    ⟨.a 27, .fa 2, [.b 3], none⟩,
    ⟨.e 28, .ld false 1, [.a 27], none⟩,
    ⟨.e 29, .ld true 4, [.b 5], none⟩,
    ⟨.e 30, .lit 4 1 (.agg [(.str []), (.int .i64 0), (.bool false), .nil]) [0], [.t 29], none⟩,
    ⟨.e 31, .app 4, [.t 28, .t 30], none⟩,
    ⟨.a 32, .fa 2, [.b 3], none⟩,
    ⟨.n, .st 1, [.a 32, .t 31], none⟩] [16, 17, 18] [2, 3])))) (
 .reg [
   ⟨.e 33, .bin .add, [.t 18, .k (.int .i64 1)], none⟩,
   ⟨.e 18, .mv, [.t 33], none⟩] [16, 17, 18] [2, 3]))))
noncomputable def c89 : Fn := ⟨1, 4505766016, 46, false, [.c 2 true 3],
 .seq (.reg [
   ⟨.x 1, .box, [.t 0], none⟩,
   ⟨.x 2, .box, [.k (.agg [.nil, .nil, .nil])], none⟩] [] [1, 2]) (
 .seq (.dreg [
   ⟨.e 6, .hlit 3 0 (.agg [(.str []), (.int .i64 0), (.int .i64 0)]) [], [], none⟩,
   ⟨.a 7, .fa 0, [.b 1], none⟩,
   ⟨.e 8, .ld false 1, [.a 7], none⟩,
   ⟨.e 9, .app 3, [.t 6, .t 8], none⟩,
   ⟨.e 10, .hlit 1 0 (.str []) [], [], none⟩,
   ⟨.a 11, .fa 1, [.b 1], none⟩,
   ⟨.e 12, .ld false 1, [.a 11], none⟩,
   ⟨.e 13, .app 1, [.t 10, .t 12], none⟩,
   ⟨.e 14, .bld [.nil, .nil, .nil] [(0, 1), (1, 1)], [.t 9, .t 13], none⟩,
   ⟨.x 3, .box, [.k (.agg [.nil, .nil, .nil])], none⟩,
   ⟨.n, .st 3, [.b 3, .t 14], none⟩] [(0, 2), (0, 4), (0, 6), (0, 9), (2, 4), (2, 9), (3, 4), (3, 6), (3, 9), (4, 6), (4, 9), (6, 9), (7, 9)] [] [1, 2, 3]) (
 .seq (.seq (.reg [
   ⟨.a 15, .fa 2, [.b 1], none⟩,
   ⟨.e 16, .ld false 1, [.a 15], none⟩,
   ⟨.e 17, .len false, [.t 16], none⟩,
   ⟨.e 18, .mv, [.k (.int .i64 0)], none⟩] [16, 17, 18] [2, 3]) (
 .block 0 (
  L89_1))) (
 .seq (.reg [
   ⟨.e 34, .ld true 3, [.b 3], none⟩,
   ⟨.n, .st 3, [.b 2, .t 34], none⟩] [] [2]) (
 .ret))))⟩
/- estovers/certificate.Verify$1 -/
noncomputable def c119 : Fn := ⟨1, 0, 0, true, [.t 2],
 .seq (.reg [
   ⟨.e 2, .mv, [.k (.bool false)], none⟩] [0] []) (
 .seq (.reg [
   ⟨.e 3, .mv, [.t 0], none⟩,
   ⟨.e 4, .bin .lss, [.t 3, .k (.int .i64 0)], none⟩,
   ⟨.e 5, .mv, [.t 4], none⟩,
   ⟨.e 6, .mv, [.t 0], some (5, false)⟩,
   ⟨.e 7, .bin .gtr, [.t 6, .k (.int .i64 4096)], some (5, false)⟩,
   ⟨.e 8, .pick, [.t 5, .k (.bool true), .t 7], none⟩,
   ⟨.e 2, .mv, [.t 8], none⟩] [2] []) (
 .ret))⟩
/- slices.IndexFunc[[]estovers/api.PathStep,estovers/api.PathStep] -/
noncomputable def L141_1 : AC := .loop [0, 1, 7, 8] [] (
 .seq (.reg [
   ⟨.e 9, .bin .lss, [.t 8, .t 7], none⟩] [0, 1, 7, 8, 9] []) (
 .seq (.cond (.t 9)
  (.skip)
  (.exit 0)) (
 .seq (.block 1 (
  .seq (.reg [
    ⟨.e 10, .mv, [.t 8], none⟩,
    ⟨.e 5, .mv, [.t 10], none⟩] [0, 1, 5, 7, 8] []) (
  .seq (.reg [
    ⟨.e 11, .mv, [.t 1], none⟩,
    ⟨.e 12, .mv, [.t 0], none⟩,
    ⟨.e 13, .mv, [.t 5], none⟩,
    ⟨.a 14, .ia 4, [.t 12, .t 13], none⟩,
    ⟨.e 15, .ld true 4, [.a 14], none⟩,
    ⟨.e 16, .callv, [.t 11, .t 15], none⟩] [0, 1, 5, 7, 8, 16] []) (
  .cond (.t 16)
   (.seq (.reg [
      ⟨.e 17, .mv, [.t 5], none⟩,
      ⟨.e 4, .mv, [.t 17], none⟩] [4] []) (
    .ret))
   (.skip))))) (
 .reg [
   ⟨.e 18, .bin .add, [.t 8, .k (.int .i64 1)], none⟩,
   ⟨.e 8, .mv, [.t 18], none⟩] [0, 1, 7, 8] []))))
noncomputable def c141 : Fn := ⟨2, 16384, 0, true, [.t 4],
 .seq (.reg [
   ⟨.e 4, .mv, [.k (.int .i64 0)], none⟩] [0, 1] []) (
 .seq (.seq (.reg [
   ⟨.e 6, .mv, [.t 0], none⟩,
   ⟨.e 7, .len false, [.t 6], none⟩,
   ⟨.e 8, .mv, [.k (.int .i64 0)], none⟩] [0, 1, 7, 8] []) (
 .block 0 (
  L141_1))) (
 .seq (.reg [
   ⟨.e 4, .mv, [.k (.int .i64 (-1))], none⟩] [4] []) (
 .ret)))⟩
/- estovers/certificate.Impossible$1 -/
noncomputable def c142 : Fn := ⟨2, 0, 4, true, [.t 3],
 .seq (.reg [
   ⟨.x 2, .box, [.t 0], none⟩,
   ⟨.e 3, .mv, [.k (.bool false)], none⟩] [1] [2]) (
 .seq (.reg [
   ⟨.e 4, .ld true 3, [.t 1], none⟩,
   ⟨.e 5, .ld true 4, [.b 2], none⟩,
   ⟨.e 6, .call 143, [.t 4, .t 5], none⟩,
   ⟨.e 3, .mv, [.t 6], none⟩] [3] []) (
 .ret))⟩
/- estovers/certificate.impossible -/
noncomputable def c143 : Fn := ⟨2, 910757110304, 12, true, [.t 4],
 .seq (.reg [
   ⟨.x 2, .box, [.t 0], none⟩,
   ⟨.x 3, .box, [.t 1], none⟩,
   ⟨.e 4, .mv, [.k (.bool false)], none⟩] [] [2, 3]) (
 .seq (.seq (.reg [
   ⟨.a 5, .fa 0, [.b 3], none⟩,
   ⟨.e 6, .ld false 1, [.a 5], none⟩] [6] [2, 3]) (
 .block 0 (
  .seq (.reg [
    ⟨.e 8, .bin .eql, [.t 6, .k (.int .i64 1)], none⟩,
    ⟨.e 7, .mv, [.t 8], none⟩] [6, 7] [2, 3]) (
  .cond (.t 7)
   (.seq (.dreg [
      ⟨.a 9, .fa 3, [.b 3], none⟩,
      ⟨.e 10, .ld false 1, [.a 9], none⟩,
      ⟨.e 11, .not, [.t 10], none⟩,
      ⟨.e 12, .mv, [.t 11], none⟩,
      ⟨.a 13, .fa 2, [.b 3], some (12, true)⟩,
      ⟨.e 14, .ld false 1, [.a 13], some (12, true)⟩,
      ⟨.a 15, .fa 0, [.b 2], some (12, true)⟩,
      ⟨.e 16, .ld false 1, [.a 15], some (12, true)⟩,
      ⟨.a 17, .fa 1, [.b 3], some (12, true)⟩,
      ⟨.e 18, .ld false 1, [.a 17], some (12, true)⟩,
      ⟨.a 19, .ia 3, [.t 16, .t 18], some (12, true)⟩,
      ⟨.a 20, .fa 1, [.a 19], some (12, true)⟩,
      ⟨.e 21, .ld false 1, [.a 20], some (12, true)⟩,
      ⟨.a 22, .fa 0, [.b 2], some (12, true)⟩,
      ⟨.e 23, .ld false 1, [.a 22], some (12, true)⟩,
      ⟨.a 24, .fa 1, [.b 3], some (12, true)⟩,
      ⟨.e 25, .ld false 1, [.a 24], some (12, true)⟩,
      ⟨.a 26, .ia 3, [.t 23, .t 25], some (12, true)⟩,
      ⟨.a 27, .fa 2, [.a 26], some (12, true)⟩,
      ⟨.e 28, .ld false 1, [.a 27], some (12, true)⟩,
      ⟨.e 29, .bin .sub, [.t 21, .t 28], some (12, true)⟩,
      ⟨.e 30, .bin .gtr, [.t 14, .t 29], some (12, true)⟩,
      ⟨.e 31, .pick, [.t 12, .t 30, .k (.bool false)], none⟩,
      ⟨.e 4, .mv, [.t 31], none⟩] [] [4] []) (
    .ret))
   (.seq (.reg [
      ⟨.e 33, .bin .eql, [.t 6, .k (.int .i64 5)], none⟩,
      ⟨.e 32, .mv, [.t 33], none⟩] [32] [2, 3]) (
    .cond (.t 32)
     (.seq (.reg [
        ⟨.a 34, .fa 2, [.b 2], none⟩,
        ⟨.e 35, .ld false 1, [.a 34], none⟩,
        ⟨.a 36, .fa 1, [.b 3], none⟩,
        ⟨.e 37, .ld false 1, [.a 36], none⟩,
        ⟨.a 38, .ia 4, [.t 35, .t 37], none⟩,
        ⟨.a 39, .fa 1, [.a 38], none⟩,
        ⟨.e 40, .ld false 1, [.a 39], none⟩,
        ⟨.e 41, .bin .eql, [.t 40, .k (.int .i64 0)], none⟩,
        ⟨.e 4, .mv, [.t 41], none⟩] [4] []) (
      .ret))
     (.skip))))))) (
 .seq (.reg [
   ⟨.e 4, .mv, [.k (.bool false)], none⟩] [4] []) (
 .ret)))⟩
structure HasC (F : Nat → Option Fn) : Prop where
  h1090 : F 1090 = some c1090
  h50 : F 50 = some c50
  h52 : F 52 = some c52
  h79 : F 79 = some c79
  h80 : F 80 = some c80
  h81 : F 81 = some c81
  h82 : F 82 = some c82
  h83 : F 83 = some c83
  h84 : F 84 = some c84
  h85 : F 85 = some c85
  h86 : F 86 = some c86
  h87 : F 87 = some c87
  h88 : F 88 = some c88
  h89 : F 89 = some c89
  h119 : F 119 = some c119
  h141 : F 141 = some c141
  h142 : F 142 = some c142
  h143 : F 143 = some c143
end Go.Am
