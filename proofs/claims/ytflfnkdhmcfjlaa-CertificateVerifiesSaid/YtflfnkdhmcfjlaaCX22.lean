/- The abstract machine's code of the functions of group X22, printed by program. -/
import Derived.Test.YtflfnkdhmcfjlaaMach
namespace Go.Am
/- estovers/estoverslaw43.CertificateExplains -/
noncomputable def L22_1 : AC := .loop [3, 5, 7, 9, 33, 34, 35, 40, 41, 42] [8] (
 .seq (.reg [
   ⟨.e 43, .bin .lss, [.t 42, .t 41], none⟩] [3, 5, 7, 9, 33, 34, 35, 40, 41, 42, 43] [8]) (
 .seq (.cond (.t 43)
  (.skip)
  (.exit 2)) (
 .seq (.block 3 (
  .seq (.reg [
    ⟨.a 44, .ia 4, [.t 40, .t 42], none⟩,
    ⟨.e 45, .ld true 4, [.a 44], none⟩,
    ⟨.x 11, .box, [.k (.agg [(.int .i64 0), (.int .i64 0), (.int .i64 0), (.int .i64 0)])], none⟩,
    ⟨.n, .st 4, [.b 11, .t 45], none⟩] [3, 5, 7, 9, 33, 34, 35, 40, 41, 42] [8, 11]) (
  .reg [
    ⟨.e 46, .mv, [.t 9], none⟩,
    ⟨.e 47, .mv, [.t 46], none⟩,
    ⟨.e 48, .ld true 4, [.b 8], some (47, false)⟩,
    ⟨.e 49, .ld true 4, [.b 11], some (47, false)⟩,
    ⟨.e 50, .aq false [0, 0, 0, 0], [.t 48, .t 49], some (47, false)⟩,
    ⟨.e 51, .pick, [.t 47, .k (.bool true), .t 50], none⟩,
    ⟨.e 9, .mv, [.t 51], none⟩] [3, 5, 7, 9, 33, 34, 35, 40, 41, 42] [8]))) (
 .reg [
   ⟨.e 52, .bin .add, [.t 42, .k (.int .i64 1)], none⟩,
   ⟨.e 42, .mv, [.t 52], none⟩] [3, 5, 7, 9, 33, 34, 35, 40, 41, 42] [8]))))
noncomputable def L22_2 : AC := .loop [3, 5, 33, 34, 35] [] (
 .seq (.reg [
   ⟨.e 36, .bin .lss, [.t 35, .t 34], none⟩] [3, 5, 33, 34, 35, 36] []) (
 .seq (.cond (.t 36)
  (.skip)
  (.exit 0)) (
 .seq (.block 1 (
  .seq (.reg [
    ⟨.e 37, .mv, [.t 35], none⟩,
    ⟨.a 38, .ia 4, [.t 33, .t 35], none⟩,
    ⟨.e 39, .ld true 4, [.a 38], none⟩,
    ⟨.x 8, .box, [.k (.agg [(.int .i64 0), (.int .i64 0), (.int .i64 0), (.int .i64 0)])], none⟩,
    ⟨.e 7, .mv, [.t 37], none⟩,
    ⟨.n, .st 4, [.b 8, .t 39], none⟩] [3, 5, 7, 33, 34, 35] [8]) (
  .seq (.reg [
    ⟨.e 9, .mv, [.k (.bool false)], none⟩] [3, 5, 7, 9, 33, 34, 35] [8]) (
  .seq (.seq (.reg [
    ⟨.e 40, .mv, [.t 5], none⟩,
    ⟨.e 41, .len false, [.t 40], none⟩,
    ⟨.e 42, .mv, [.k (.int .i64 0)], none⟩] [3, 5, 7, 9, 33, 34, 35, 40, 41, 42] [8]) (
  .block 2 (
   L22_1))) (
  .seq (.dreg [
    ⟨.e 53, .mv, [.t 9], none⟩,
    ⟨.e 54, .not, [.t 53], none⟩,
    ⟨.e 55, .mv, [.t 54], none⟩,
    ⟨.a 56, .fa 1, [.b 8], some (55, false)⟩,
    ⟨.e 57, .ld false 1, [.a 56], some (55, false)⟩,
    ⟨.e 58, .mv, [.t 3], some (55, false)⟩,
    ⟨.e 59, .mv, [.t 7], some (55, false)⟩,
    ⟨.e 60, .bin .add, [.t 59, .k (.int .i64 1)], some (55, false)⟩,
    ⟨.e 61, .mv, [.t 3], some (55, false)⟩,
    ⟨.e 62, .len false, [.t 61], some (55, false)⟩,
    ⟨.e 63, .bin .rem, [.t 60, .t 62], some (55, false)⟩,
    ⟨.a 64, .ia 4, [.t 58, .t 63], some (55, false)⟩,
    ⟨.a 65, .fa 0, [.a 64], some (55, false)⟩,
    ⟨.e 66, .ld false 1, [.a 65], some (55, false)⟩,
    ⟨.e 67, .bin .neq, [.t 57, .t 66], some (55, false)⟩,
    ⟨.e 68, .pick, [.t 55, .k (.bool true), .t 67], none⟩] [] [3, 5, 33, 34, 35, 68] []) (
  .cond (.t 68)
   (.seq (.reg [
      ⟨.e 2, .mv, [.k (.bool false)], none⟩] [2] []) (
    .ret))
   (.skip))))))) (
 .reg [
   ⟨.e 69, .bin .add, [.t 35, .k (.int .i64 1)], none⟩,
   ⟨.e 35, .mv, [.t 69], none⟩] [3, 5, 33, 34, 35] []))))
noncomputable def c22 : Fn := ⟨1, 55412307682230534144, 2306, true, [.t 2],
 .seq (.reg [
   ⟨.x 1, .box, [.t 0], none⟩,
   ⟨.e 2, .mv, [.k (.bool false)], none⟩] [] [1]) (
 .seq (.seq (.reg [
   ⟨.e 12, .call 79, [], none⟩,
   ⟨.e 13, .not, [.t 12], none⟩,
   ⟨.e 14, .mv, [.t 13], none⟩,
   ⟨.e 15, .ld true 3, [.b 1], some (14, false)⟩,
   ⟨.e 16, .call 28, [.t 15], some (14, false)⟩,
   ⟨.e 17, .not, [.t 16], some (14, false)⟩,
   ⟨.e 18, .pick, [.t 14, .k (.bool true), .t 17], none⟩] [18] [1]) (
 .cond (.t 18)
  (.seq (.reg [
     ⟨.e 19, .call 79, [], none⟩,
     ⟨.e 2, .mv, [.t 19], none⟩] [2] []) (
   .ret))
  (.skip))) (
 .seq (.reg [
   ⟨.e 21, .ld true 3, [.b 1], none⟩,
   ⟨.e 22, .call 83, [.t 21], none⟩,
   ⟨.e 20, .mv, [.t 22], none⟩,
   ⟨.e 23, .ext 0, [.t 20], none⟩,
   ⟨.e 24, .ext 1, [.t 20], none⟩,
   ⟨.e 3, .mv, [.t 23], none⟩,
   ⟨.e 4, .mv, [.t 24], none⟩] [3, 4] [1]) (
 .seq (.reg [
   ⟨.e 26, .ld true 3, [.b 1], none⟩,
   ⟨.e 27, .call 35, [.t 26], none⟩,
   ⟨.e 25, .mv, [.t 27], none⟩,
   ⟨.e 28, .ext 0, [.t 25], none⟩,
   ⟨.e 29, .ext 1, [.t 25], none⟩,
   ⟨.e 5, .mv, [.t 28], none⟩,
   ⟨.e 6, .mv, [.t 29], none⟩] [3, 4, 5, 6] []) (
 .seq (.seq (.reg [
   ⟨.e 30, .mv, [.t 4], none⟩,
   ⟨.e 31, .mv, [.t 6], none⟩,
   ⟨.e 32, .bin .neq, [.t 30, .t 31], none⟩] [3, 5, 32] []) (
 .cond (.t 32)
  (.seq (.reg [
     ⟨.e 2, .mv, [.k (.bool false)], none⟩] [2] []) (
   .ret))
  (.skip))) (
 .seq (.seq (.reg [
   ⟨.e 33, .mv, [.t 3], none⟩,
   ⟨.e 34, .len false, [.t 33], none⟩,
   ⟨.e 35, .mv, [.k (.int .i64 0)], none⟩] [3, 5, 33, 34, 35] []) (
 .block 0 (
  L22_2))) (
 .seq (.reg [
   ⟨.e 2, .mv, [.k (.bool true)], none⟩] [2] []) (
 .ret)))))))⟩
structure HasX22 (F : Nat → Option Fn) : Prop where
  h22 : F 22 = some c22
end Go.Am
