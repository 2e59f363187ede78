/- The abstract machine's code of the functions of group X19, printed by program. -/
import Derived.Test.YtflfnkdhmcfjlaaMach
namespace Go.Am
/- estovers/estoverslaw43.CertificateMakes -/
noncomputable def c19 : Fn := ⟨2, 0, 164, true, [.t 4],
 .seq (.reg [
   ⟨.x 2, .box, [.t 0], none⟩,
   ⟨.e 4, .mv, [.k (.bool false)], none⟩] [1] [2]) (
 .seq (.seq (.reg [
   ⟨.e 19, .call 79, [], none⟩,
   ⟨.e 20, .not, [.t 19], none⟩,
   ⟨.e 21, .mv, [.t 20], none⟩,
   ⟨.e 22, .ld true 3, [.b 2], some (21, false)⟩,
   ⟨.e 23, .call 28, [.t 22], some (21, false)⟩,
   ⟨.e 24, .not, [.t 23], some (21, false)⟩,
   ⟨.e 25, .pick, [.t 21, .k (.bool true), .t 24], none⟩] [1, 25] [2]) (
 .cond (.t 25)
  (.seq (.reg [
     ⟨.e 26, .call 79, [], none⟩,
     ⟨.e 4, .mv, [.t 26], none⟩] [4] []) (
   .ret))
  (.skip))) (
 .seq (.reg [
   ⟨.e 28, .ld true 3, [.b 2], none⟩,
   ⟨.e 29, .call 50, [.t 28], none⟩,
   ⟨.e 27, .mv, [.t 29], none⟩,
   ⟨.e 30, .ext 0, [.t 27], none⟩,
   ⟨.e 31, .ext 1, [.t 27], none⟩,
   ⟨.x 5, .box, [.k (.agg [.nil])], none⟩,
   ⟨.n, .st 1, [.b 5, .t 30], none⟩,
   ⟨.e 6, .mv, [.t 31], none⟩] [1, 6] [2, 5]) (
 .seq (.reg [
   ⟨.e 33, .ld true 3, [.b 2], none⟩,
   ⟨.e 34, .call 80, [.t 33], none⟩,
   ⟨.e 32, .mv, [.t 34], none⟩,
   ⟨.e 35, .ext 0, [.t 32], none⟩,
   ⟨.e 36, .ext 1, [.t 32], none⟩,
   ⟨.x 7, .box, [.k (.agg [.nil])], none⟩,
   ⟨.n, .st 1, [.b 7, .t 35], none⟩,
   ⟨.e 8, .mv, [.t 36], none⟩] [1, 6, 8] [2, 5, 7]) (
 .seq (.reg [
   ⟨.e 38, .ld true 3, [.b 2], none⟩,
   ⟨.e 39, .call 81, [.t 38], none⟩,
   ⟨.e 37, .mv, [.t 39], none⟩,
   ⟨.e 40, .ext 0, [.t 37], none⟩,
   ⟨.e 41, .ext 1, [.t 37], none⟩,
   ⟨.e 42, .ext 2, [.t 37], none⟩,
   ⟨.e 9, .mv, [.t 40], none⟩,
   ⟨.e 10, .mv, [.t 41], none⟩,
   ⟨.e 11, .mv, [.t 42], none⟩] [1, 6, 8, 9, 10, 11] [2, 5, 7]) (
 .seq (.reg [
   ⟨.e 44, .ld true 3, [.b 2], none⟩,
   ⟨.e 45, .call 82, [.t 44], none⟩,
   ⟨.e 43, .mv, [.t 45], none⟩,
   ⟨.e 46, .ext 0, [.t 43], none⟩,
   ⟨.e 47, .ext 1, [.t 43], none⟩,
   ⟨.e 48, .ext 2, [.t 43], none⟩,
   ⟨.e 12, .mv, [.t 46], none⟩,
   ⟨.e 13, .mv, [.t 47], none⟩,
   ⟨.e 14, .mv, [.t 48], none⟩] [1, 6, 8, 9, 10, 11, 12, 13, 14] [2, 5, 7]) (
 .seq (.reg [
   ⟨.e 50, .ld true 3, [.b 2], none⟩,
   ⟨.e 51, .call 83, [.t 50], none⟩,
   ⟨.e 49, .mv, [.t 51], none⟩,
   ⟨.e 52, .ext 0, [.t 49], none⟩,
   ⟨.e 53, .ext 1, [.t 49], none⟩,
   ⟨.e 15, .mv, [.t 52], none⟩,
   ⟨.e 16, .mv, [.t 53], none⟩] [1, 6, 8, 9, 10, 11, 12, 13, 14, 15, 16] [2, 5, 7]) (
 .seq (.reg [
   ⟨.e 55, .ld true 3, [.b 2], none⟩,
   ⟨.e 56, .call 84, [.t 55], none⟩,
   ⟨.e 54, .mv, [.t 56], none⟩,
   ⟨.e 57, .ext 0, [.t 54], none⟩,
   ⟨.e 58, .ext 1, [.t 54], none⟩,
   ⟨.e 17, .mv, [.t 57], none⟩,
   ⟨.e 18, .mv, [.t 58], none⟩] [1, 6, 8, 9, 10, 11, 12, 13, 14, 15, 16, 17, 18] [2, 5, 7]) (
 .seq (.dreg [
   ⟨.e 59, .mv, [.t 6], none⟩,
   ⟨.e 60, .mv, [.t 8], none⟩,
   ⟨.e 61, .bin .eql, [.t 59, .t 60], none⟩,
   ⟨.e 62, .mv, [.t 61], none⟩,
   ⟨.e 63, .mv, [.t 16], some (62, true)⟩,
   ⟨.e 64, .mv, [.t 18], some (62, true)⟩,
   ⟨.e 65, .bin .eql, [.t 63, .t 64], some (62, true)⟩,
   ⟨.e 66, .pick, [.t 62, .t 65, .k (.bool false)], none⟩,
   ⟨.e 67, .mv, [.t 66], none⟩,
   ⟨.e 68, .ld true 1, [.b 5], some (67, true)⟩,
   ⟨.e 69, .ld true 1, [.b 7], some (67, true)⟩,
   ⟨.e 70, .call 85, [.t 68, .t 69], some (67, true)⟩,
   ⟨.e 71, .pick, [.t 67, .t 70, .k (.bool false)], none⟩,
   ⟨.e 72, .mv, [.t 71], none⟩,
   ⟨.e 73, .mv, [.t 9], some (72, true)⟩,
   ⟨.e 74, .mv, [.t 12], some (72, true)⟩,
   ⟨.e 75, .bin .eql, [.t 73, .t 74], some (72, true)⟩,
   ⟨.e 76, .pick, [.t 72, .t 75, .k (.bool false)], none⟩,
   ⟨.e 77, .mv, [.t 76], none⟩,
   ⟨.e 78, .mv, [.t 10], some (77, true)⟩,
   ⟨.e 79, .mv, [.t 13], some (77, true)⟩,
   ⟨.e 80, .bin .eql, [.t 78, .t 79], some (77, true)⟩,
   ⟨.e 81, .pick, [.t 77, .t 80, .k (.bool false)], none⟩,
   ⟨.e 82, .mv, [.t 81], none⟩,
   ⟨.e 83, .mv, [.t 11], some (82, true)⟩,
   ⟨.e 84, .mv, [.t 14], some (82, true)⟩,
   ⟨.e 85, .bq false, [.t 83, .t 84], some (82, true)⟩,
   ⟨.e 86, .pick, [.t 82, .t 85, .k (.bool false)], none⟩,
   ⟨.e 87, .mv, [.t 86], none⟩,
   ⟨.e 88, .mv, [.t 15], some (87, true)⟩,
   ⟨.e 89, .mv, [.t 17], some (87, true)⟩,
   ⟨.e 90, .call 37, [.t 88, .t 89], some (87, true)⟩,
   ⟨.e 91, .pick, [.t 87, .t 90, .k (.bool false)], none⟩,
   ⟨.e 92, .mv, [.t 91], none⟩,
   ⟨.e 93, .ld true 3, [.b 2], some (92, true)⟩,
   ⟨.e 94, .mv, [.t 1], some (92, true)⟩,
   ⟨.e 95, .call 86, [.t 93, .t 94], some (92, true)⟩,
   ⟨.e 96, .ld true 3, [.b 2], some (92, true)⟩,
   ⟨.e 97, .mv, [.t 1], some (92, true)⟩,
   ⟨.e 98, .call 87, [.t 96, .t 97], some (92, true)⟩,
   ⟨.e 99, .bin .eql, [.t 95, .t 98], some (92, true)⟩,
   ⟨.e 100, .pick, [.t 92, .t 99, .k (.bool false)], none⟩,
   ⟨.e 4, .mv, [.t 100], none⟩] [] [4] []) (
 .ret)))))))))⟩
structure HasX19 (F : Nat → Option Fn) : Prop where
  h19 : F 19 = some c19
end Go.Am
