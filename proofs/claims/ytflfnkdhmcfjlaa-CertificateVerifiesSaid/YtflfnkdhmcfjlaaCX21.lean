/- The abstract machine's code of the functions of group X21, printed by program. -/
import Derived.Test.YtflfnkdhmcfjlaaMach
namespace Go.Am
/- estovers/estoverslaw43.CertificateRound -/
noncomputable def c21 : Fn := ⟨2, 0, 36, true, [.t 4],
 .seq (.reg [
   ⟨.x 2, .box, [.t 0], none⟩,
   ⟨.e 4, .mv, [.k (.bool false)], none⟩] [1] [2]) (
 .seq (.seq (.reg [
   ⟨.e 12, .call 79, [], none⟩,
   ⟨.e 13, .not, [.t 12], none⟩,
   ⟨.e 14, .mv, [.t 13], none⟩,
   ⟨.e 15, .ld true 3, [.b 2], some (14, false)⟩,
   ⟨.e 16, .call 28, [.t 15], some (14, false)⟩,
   ⟨.e 17, .not, [.t 16], some (14, false)⟩,
   ⟨.e 18, .pick, [.t 14, .k (.bool true), .t 17], none⟩,
   ⟨.e 19, .mv, [.t 18], none⟩,
   ⟨.e 20, .mv, [.t 1], some (19, false)⟩,
   ⟨.e 21, .len false, [.t 20], some (19, false)⟩,
   ⟨.e 22, .bin .gtr, [.t 21, .k (.int .i64 40)], some (19, false)⟩,
   ⟨.e 23, .pick, [.t 19, .k (.bool true), .t 22], none⟩] [1, 23] [2]) (
 .cond (.t 23)
  (.seq (.reg [
     ⟨.e 24, .call 79, [], none⟩,
     ⟨.e 4, .mv, [.t 24], none⟩] [4] []) (
   .ret))
  (.skip))) (
 .seq (.reg [
   ⟨.e 26, .ld true 3, [.b 2], none⟩,
   ⟨.e 27, .call 50, [.t 26], none⟩,
   ⟨.e 25, .mv, [.t 27], none⟩,
   ⟨.e 28, .ext 0, [.t 25], none⟩,
   ⟨.e 29, .ext 1, [.t 25], none⟩,
   ⟨.x 5, .box, [.k (.agg [.nil])], none⟩,
   ⟨.n, .st 1, [.b 5, .t 28], none⟩,
   ⟨.e 6, .mv, [.t 29], none⟩] [1, 6] [2, 5]) (
 .seq (.reg [
   ⟨.e 31, .ld true 3, [.b 2], none⟩,
   ⟨.e 32, .call 83, [.t 31], none⟩,
   ⟨.e 30, .mv, [.t 32], none⟩,
   ⟨.e 33, .ext 0, [.t 30], none⟩,
   ⟨.e 34, .ext 1, [.t 30], none⟩,
   ⟨.e 7, .mv, [.t 33], none⟩,
   ⟨.e 8, .mv, [.t 34], none⟩] [1, 6, 7, 8] [2, 5]) (
 .seq (.reg [
   ⟨.e 36, .ld true 3, [.b 2], none⟩,
   ⟨.e 37, .call 81, [.t 36], none⟩,
   ⟨.e 35, .mv, [.t 37], none⟩,
   ⟨.e 38, .ext 0, [.t 35], none⟩,
   ⟨.e 39, .ext 1, [.t 35], none⟩,
   ⟨.e 40, .ext 2, [.t 35], none⟩,
   ⟨.e 9, .mv, [.t 38], none⟩,
   ⟨.e 10, .mv, [.t 39], none⟩,
   ⟨.e 11, .mv, [.t 40], none⟩] [1, 6, 7, 8, 11] [2, 5]) (
 .seq (.seq (.reg [
   ⟨.e 41, .mv, [.t 8], none⟩,
   ⟨.e 42, .bin .neq, [.t 41, .k (.int .i64 0)], none⟩] [1, 6, 7, 8, 11, 42] [2, 5]) (
 .cond (.t 42)
  (.seq (.reg [
     ⟨.e 43, .mv, [.t 6], none⟩,
     ⟨.e 44, .mv, [.t 8], none⟩,
     ⟨.e 45, .bin .eql, [.t 43, .t 44], none⟩,
     ⟨.e 46, .mv, [.t 45], none⟩,
     ⟨.e 47, .ld true 3, [.b 2], some (46, true)⟩,
     ⟨.e 48, .ld true 1, [.b 5], some (46, true)⟩,
     ⟨.e 49, .call 52, [.t 47, .t 48], some (46, true)⟩,
     ⟨.e 50, .mv, [.t 8], some (46, true)⟩,
     ⟨.e 51, .bin .eql, [.t 49, .t 50], some (46, true)⟩,
     ⟨.e 52, .pick, [.t 46, .t 51, .k (.bool false)], none⟩,
     ⟨.e 4, .mv, [.t 52], none⟩] [4] []) (
   .ret))
  (.skip))) (
 .seq (.seq (.reg [
   ⟨.e 53, .mv, [.t 6], none⟩,
   ⟨.e 54, .bin .eql, [.t 53, .k (.int .i64 9)], none⟩,
   ⟨.e 55, .mv, [.t 11], none⟩,
   ⟨.e 56, .bq true, [.t 54, .t 55], none⟩,
   ⟨.e 57, .mv, [.t 56], none⟩,
   ⟨.e 58, .mv, [.t 6], some (57, false)⟩,
   ⟨.e 59, .bin .eql, [.t 58, .k (.int .i64 20)], some (57, false)⟩,
   ⟨.e 60, .mv, [.t 11], some (57, false)⟩,
   ⟨.e 61, .not, [.t 60], some (57, false)⟩,
   ⟨.e 62, .mv, [.t 61], some (57, false)⟩,
   ⟨.e 63, .mv, [.t 7], some (62, true)⟩,
   ⟨.e 64, .len false, [.t 63], some (62, true)⟩,
   ⟨.e 65, .bin .gtr, [.t 64, .k (.int .i64 0)], some (62, true)⟩,
   ⟨.e 66, .pick, [.t 62, .t 65, .k (.bool false)], some (57, false)⟩,
   ⟨.e 67, .bq true, [.t 59, .t 66], some (57, false)⟩,
   ⟨.e 68, .pick, [.t 57, .k (.bool true), .t 67], none⟩] [1, 6, 68] [2, 5]) (
 .cond (.t 68)
  (.seq (.reg [
     ⟨.e 4, .mv, [.k (.bool false)], none⟩] [4] []) (
   .ret))
  (.skip))) (
 .seq (.seq (.reg [
   ⟨.e 69, .mv, [.t 6], none⟩,
   ⟨.e 70, .bin .eql, [.t 69, .k (.int .i64 0)], none⟩,
   ⟨.e 71, .mv, [.t 70], none⟩,
   ⟨.e 72, .ld true 3, [.b 2], some (71, true)⟩,
   ⟨.e 73, .ld true 1, [.b 5], some (71, true)⟩,
   ⟨.e 74, .call 52, [.t 72, .t 73], some (71, true)⟩,
   ⟨.e 75, .bin .neq, [.t 74, .k (.int .i64 0)], some (71, true)⟩,
   ⟨.e 76, .pick, [.t 71, .t 75, .k (.bool false)], none⟩] [1, 6, 76] [2]) (
 .cond (.t 76)
  (.seq (.reg [
     ⟨.e 4, .mv, [.k (.bool false)], none⟩] [4] []) (
   .ret))
  (.skip))) (
 .seq (.reg [
   ⟨.e 77, .ld true 3, [.b 2], none⟩,
   ⟨.e 78, .mv, [.t 1], none⟩,
   ⟨.e 79, .bld [.nil] [(0, 1)], [.t 78], none⟩,
   ⟨.e 80, .call 52, [.t 77, .t 79], none⟩,
   ⟨.e 81, .bin .neq, [.t 80, .k (.int .i64 0)], none⟩,
   ⟨.e 82, .mv, [.t 81], none⟩,
   ⟨.e 83, .mv, [.t 6], some (82, false)⟩,
   ⟨.e 84, .bin .eql, [.t 83, .k (.int .i64 0)], some (82, false)⟩,
   ⟨.e 85, .pick, [.t 82, .k (.bool true), .t 84], none⟩,
   ⟨.e 4, .mv, [.t 85], none⟩] [4] []) (
 .ret)))))))))⟩
structure HasX21 (F : Nat → Option Fn) : Prop where
  h21 : F 21 = some c21
end Go.Am
