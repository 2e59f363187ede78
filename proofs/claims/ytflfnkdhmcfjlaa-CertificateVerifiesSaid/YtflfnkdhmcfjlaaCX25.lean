/- The abstract machine's code of the functions of group X25, printed by program. -/
import Derived.Test.YtflfnkdhmcfjlaaMach
namespace Go.Am
/- estovers/estoverslaw43.CertificateReserves -/
noncomputable def L25_1 : AC := .loop [5, 6, 7, 8, 10, 11, 60, 61, 80, 81, 82, 88, 89, 90] [2, 9] (
 .seq (.reg [
   ⟨.e 91, .bin .lss, [.t 90, .t 89], none⟩] [5, 6, 7, 8, 10, 11, 60, 61, 80, 81, 82, 88, 89, 90, 91] [2, 9]) (
 .seq (.cond (.t 91)
  (.skip)
  (.exit 4)) (
 .seq (.block 5 (
  .seq (.reg [
    ⟨.e 92, .mv, [.t 90], none⟩,
    ⟨.a 93, .ia 4, [.t 88, .t 90], none⟩,
    ⟨.e 94, .ld true 4, [.a 93], none⟩,
    ⟨.x 14, .box, [.k (.agg [(.int .i64 0), (.int .i64 0), (.int .i64 0), (.bool false)])], none⟩,
    ⟨.e 13, .mv, [.t 92], none⟩,
    ⟨.n, .st 4, [.b 14, .t 94], none⟩] [5, 6, 7, 8, 10, 11, 13, 60, 61, 80, 81, 82, 88, 89, 90] [2, 9, 14]) (
  .seq (.seq (.reg [
    ⟨.a 95, .fa 0, [.b 14], none⟩,
    ⟨.e 96, .ld false 1, [.a 95], none⟩,
    ⟨.e 97, .bin .neq, [.t 96, .k (.int .i64 1)], none⟩,
    ⟨.e 98, .mv, [.t 97], none⟩,
    ⟨.a 99, .fa 1, [.b 14], some (98, false)⟩,
    ⟨.e 100, .ld false 1, [.a 99], some (98, false)⟩,
    ⟨.e 101, .mv, [.t 5], some (98, false)⟩,
    ⟨.e 102, .bin .neq, [.t 100, .t 101], some (98, false)⟩,
    ⟨.e 103, .pick, [.t 98, .k (.bool true), .t 102], none⟩,
    ⟨.e 104, .mv, [.t 103], none⟩,
    ⟨.a 105, .fa 3, [.b 14], some (104, false)⟩,
    ⟨.e 106, .ld false 1, [.a 105], some (104, false)⟩,
    ⟨.e 107, .not, [.t 106], some (104, false)⟩,
    ⟨.e 108, .pick, [.t 104, .k (.bool true), .t 107], none⟩] [5, 6, 7, 8, 10, 11, 13, 60, 61, 80, 81, 82, 88, 89, 90, 108] [2, 9]) (
  .cond (.t 108)
   (.exit 5)
   (.skip))) (
  .seq (.reg [
    ⟨.e 109, .frz 3, [.b 9], none⟩,
    ⟨.e 110, .mv, [.t 11], none⟩,
    ⟨.e 111, .mv, [.t 13], none⟩,
    ⟨.e 112, .call 33, [.t 109, .t 110, .t 111], none⟩,
    ⟨.e 113, .mv, [.t 8], none⟩,
    ⟨.e 114, .mv, [.t 6], none⟩,
    ⟨.e 115, .bin .lss, [.t 113, .t 114], none⟩,
    ⟨.e 116, .mv, [.t 115], none⟩,
    ⟨.e 117, .mv, [.t 10], some (116, true)⟩,
    ⟨.e 118, .not, [.t 117], some (116, true)⟩,
    ⟨.e 119, .pick, [.t 116, .t 118, .k (.bool false)], none⟩,
    ⟨.e 120, .bq true, [.t 112, .t 119], none⟩] [5, 6, 7, 8, 10, 11, 60, 61, 80, 81, 82, 88, 89, 90, 120] [2, 9]) (
  .cond (.t 120)
   (.seq (.reg [
      ⟨.e 4, .mv, [.k (.bool false)], none⟩] [4] []) (
    .ret))
   (.skip)))))) (
 .reg [
   ⟨.e 121, .bin .add, [.t 90, .k (.int .i64 1)], none⟩,
   ⟨.e 90, .mv, [.t 121], none⟩] [5, 6, 7, 8, 10, 11, 60, 61, 80, 81, 82, 88, 89, 90] [2, 9]))))
noncomputable def L25_2 : AC := .loop [5, 6, 7, 8, 10, 60, 61, 80, 81, 82] [2, 9] (
 .seq (.reg [
   ⟨.e 83, .bin .lss, [.t 82, .t 81], none⟩] [5, 6, 7, 8, 10, 60, 61, 80, 81, 82, 83] [2, 9]) (
 .seq (.cond (.t 83)
  (.skip)
  (.exit 2)) (
 .seq (.block 3 (
  .seq (.reg [
    ⟨.e 84, .mv, [.t 82], none⟩,
    ⟨.a 85, .ia 4, [.t 80, .t 82], none⟩,
    ⟨.e 86, .ld true 4, [.a 85], none⟩,
    ⟨.x 12, .box, [.k (.agg [(.str []), (.int .i64 0), (.bool false), .nil])], none⟩,
    ⟨.e 11, .mv, [.t 84], none⟩,
    ⟨.n, .st 4, [.b 12, .t 86], none⟩] [5, 6, 7, 8, 10, 11, 60, 61, 80, 81, 82] [2, 9, 12]) (
  .seq (.reg [
    ⟨.a 87, .fa 3, [.b 12], none⟩,
    ⟨.e 88, .ld false 1, [.a 87], none⟩,
    ⟨.e 89, .len false, [.t 88], none⟩,
    ⟨.e 90, .mv, [.k (.int .i64 0)], none⟩] [5, 6, 7, 8, 10, 11, 60, 61, 80, 81, 82, 88, 89, 90] [2, 9]) (
  .block 4 (
   L25_1))))) (
 .reg [
   ⟨.e 122, .bin .add, [.t 82, .k (.int .i64 1)], none⟩,
   ⟨.e 82, .mv, [.t 122], none⟩] [5, 6, 7, 8, 10, 60, 61, 80, 81, 82] [2, 9]))))
noncomputable def L25_3 : AC := .loop [5, 6, 7, 60, 61] [2] (
 .seq (.reg [
   ⟨.e 62, .bin .lss, [.t 61, .t 60], none⟩] [5, 6, 7, 60, 61, 62] [2]) (
 .seq (.cond (.t 62)
  (.skip)
  (.exit 0)) (
 .seq (.block 1 (
  .seq (.reg [
    ⟨.e 63, .mv, [.t 61], none⟩,
    ⟨.e 8, .mv, [.t 63], none⟩] [5, 6, 7, 8, 60, 61] [2]) (
  .seq (.reg [
    ⟨.e 64, .ld true 3, [.b 2], none⟩,
    ⟨.e 65, .call 89, [.t 64], none⟩,
    ⟨.x 9, .box, [.k (.agg [.nil, .nil, .nil])], none⟩,
    ⟨.n, .st 3, [.b 9, .t 65], none⟩] [5, 6, 7, 8, 60, 61] [2, 9]) (
  .seq (.reg [
    ⟨.a 66, .fa 0, [.b 9], none⟩,
    ⟨.e 67, .ld false 1, [.a 66], none⟩,
    ⟨.e 68, .mv, [.t 5], none⟩,
    ⟨.e 69, .mv, [.t 8], none⟩,
    ⟨.a 70, .ia 3, [.t 67, .t 68], none⟩,
    ⟨.a 71, .fa 2, [.a 70], none⟩,
    ⟨.n, .st 1, [.a 71, .t 69], none⟩] [5, 6, 7, 8, 60, 61] [2, 9]) (
  .seq (.reg [
    ⟨.e 72, .frz 3, [.b 9], none⟩,
    ⟨.e 73, .mv, [.t 5], none⟩,
    ⟨.e 74, .call 31, [.t 72, .t 73, .k (.bool false)], none⟩,
    ⟨.e 75, .mv, [.t 7], none⟩,
    ⟨.e 76, .mv, [.t 8], none⟩,
    ⟨.e 77, .bin .sub, [.t 75, .t 76], none⟩,
    ⟨.e 78, .bin .leq, [.t 74, .t 77], none⟩,
    ⟨.e 10, .mv, [.t 78], none⟩] [5, 6, 7, 8, 10, 60, 61] [2, 9]) (
  .seq (.reg [
    ⟨.a 79, .fa 2, [.b 9], none⟩,
    ⟨.e 80, .ld false 1, [.a 79], none⟩,
    ⟨.e 81, .len false, [.t 80], none⟩,
    ⟨.e 82, .mv, [.k (.int .i64 0)], none⟩] [5, 6, 7, 8, 10, 60, 61, 80, 81, 82] [2, 9]) (
  .block 2 (
   L25_2)))))))) (
 .reg [
   ⟨.e 123, .bin .add, [.t 61, .k (.int .i64 1)], none⟩,
   ⟨.e 61, .mv, [.t 123], none⟩] [5, 6, 7, 60, 61] [2]))))
noncomputable def c25 : Fn := ⟨2, 41248356145198480966039485022208, 20996, true, [.t 4],
 .seq (.reg [
   ⟨.x 2, .box, [.t 0], none⟩,
   ⟨.e 4, .mv, [.k (.bool false)], none⟩] [1] [2]) (
 .seq (.seq (.reg [
   ⟨.e 15, .call 79, [], none⟩,
   ⟨.e 16, .not, [.t 15], none⟩,
   ⟨.e 17, .mv, [.t 16], none⟩,
   ⟨.e 18, .ld true 3, [.b 2], some (17, false)⟩,
   ⟨.e 19, .call 28, [.t 18], some (17, false)⟩,
   ⟨.e 20, .not, [.t 19], some (17, false)⟩,
   ⟨.e 21, .pick, [.t 17, .k (.bool true), .t 20], none⟩,
   ⟨.e 22, .mv, [.t 21], none⟩,
   ⟨.a 23, .fa 0, [.b 2], some (22, false)⟩,
   ⟨.e 24, .ld false 1, [.a 23], some (22, false)⟩,
   ⟨.e 25, .len false, [.t 24], some (22, false)⟩,
   ⟨.e 26, .bin .eql, [.t 25, .k (.int .i64 0)], some (22, false)⟩,
   ⟨.e 27, .pick, [.t 22, .k (.bool true), .t 26], none⟩,
   ⟨.e 28, .mv, [.t 27], none⟩,
   ⟨.e 29, .ld true 3, [.b 2], some (28, false)⟩,
   ⟨.e 30, .call 29, [.t 29], some (28, false)⟩,
   ⟨.e 31, .bin .eql, [.t 30, .k (.int .i64 0)], some (28, false)⟩,
   ⟨.e 32, .pick, [.t 28, .k (.bool true), .t 31], none⟩] [1, 32] [2]) (
 .cond (.t 32)
  (.seq (.reg [
     ⟨.e 33, .call 79, [], none⟩,
     ⟨.e 4, .mv, [.t 33], none⟩] [4] []) (
   .ret))
  (.skip))) (
 .seq (.reg [
   ⟨.e 34, .mv, [.t 1], none⟩,
   ⟨.e 35, .cvt .i64, [.t 34], none⟩,
   ⟨.a 36, .fa 0, [.b 2], none⟩,
   ⟨.e 37, .ld false 1, [.a 36], none⟩,
   ⟨.e 38, .len false, [.t 37], none⟩,
   ⟨.e 39, .bin .rem, [.t 35, .t 38], none⟩,
   ⟨.e 5, .mv, [.t 39], none⟩] [5] [2]) (
 .seq (.reg [
   ⟨.e 40, .ld true 3, [.b 2], none⟩,
   ⟨.e 41, .mv, [.t 5], none⟩,
   ⟨.e 42, .call 86, [.t 40, .t 41], none⟩,
   ⟨.e 6, .mv, [.t 42], none⟩] [5, 6] [2]) (
 .seq (.reg [
   ⟨.a 43, .fa 0, [.b 2], none⟩,
   ⟨.e 44, .ld false 1, [.a 43], none⟩,
   ⟨.e 45, .mv, [.t 5], none⟩,
   ⟨.a 46, .ia 3, [.t 44, .t 45], none⟩,
   ⟨.a 47, .fa 1, [.a 46], none⟩,
   ⟨.e 48, .ld false 1, [.a 47], none⟩,
   ⟨.e 7, .mv, [.t 48], none⟩] [5, 6, 7] [2]) (
 .seq (.seq (.reg [
   ⟨.e 49, .mv, [.t 6], none⟩,
   ⟨.e 50, .bin .lss, [.t 49, .k (.int .i64 0)], none⟩] [5, 6, 7, 50] [2]) (
 .cond (.t 50)
  (.seq (.reg [
     ⟨.e 51, .ld true 3, [.b 2], none⟩,
     ⟨.e 52, .mv, [.t 5], none⟩,
     ⟨.e 53, .call 31, [.t 51, .t 52, .k (.bool true)], none⟩,
     ⟨.e 54, .mv, [.t 7], none⟩,
     ⟨.e 55, .bin .gtr, [.t 53, .t 54], none⟩,
     ⟨.e 4, .mv, [.t 55], none⟩] [4] []) (
   .ret))
  (.skip))) (
 .seq (.seq (.reg [
   ⟨.e 56, .mv, [.t 6], none⟩,
   ⟨.e 57, .mv, [.t 7], none⟩,
   ⟨.e 58, .bin .gtr, [.t 56, .t 57], none⟩] [5, 6, 7, 58] [2]) (
 .cond (.t 58)
  (.seq (.reg [
     ⟨.e 4, .mv, [.k (.bool false)], none⟩] [4] []) (
   .ret))
  (.skip))) (
 .seq (.seq (.reg [
   ⟨.e 59, .mv, [.t 7], none⟩,
   ⟨.e 60, .bin .add, [.t 59, .k (.int .i64 1)], none⟩,
   ⟨.e 61, .mv, [.k (.int .i64 0)], none⟩] [5, 6, 7, 60, 61] [2]) (
 .block 0 (
  L25_3))) (
 .seq (.reg [
   ⟨.e 4, .mv, [.k (.bool true)], none⟩] [4] []) (
 .ret)))))))))⟩
structure HasX25 (F : Nat → Option Fn) : Prop where
  h25 : F 25 = some c25
end Go.Am
