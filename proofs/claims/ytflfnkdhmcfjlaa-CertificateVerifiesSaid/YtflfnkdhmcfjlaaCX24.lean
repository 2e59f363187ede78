/- The abstract machine's code of the functions of group X24, printed by program. -/
import Derived.Test.YtflfnkdhmcfjlaaMach
namespace Go.Am
/- estovers/estoverslaw43.CertificateFewer -/
noncomputable def c24 : Fn := ⟨2, 494229022707409373634756608, 10916, true, [.t 4],
 .seq (.reg [
   ⟨.x 2, .box, [.t 0], none⟩,
   ⟨.e 4, .mv, [.k (.bool false)], none⟩] [1] [2]) (
 .seq (.seq (.reg [
   ⟨.e 15, .call 79, [], none⟩,
   ⟨.e 16, .not, [.t 15], none⟩,
   ⟨.e 17, .mv, [.t 16], none⟩,
   ⟨.e 18, .ld true 3, [.b 2], some (17, false)⟩,
   ⟨.e 19, .call 28, [.t 18], some (17, false)⟩,
   ⟨.e 20, .not, [.t 19], some (17, false)⟩,
   ⟨.e 21, .pick, [.t 17, .k (.bool true), .t 20], none⟩] [1, 21] [2]) (
 .cond (.t 21)
  (.seq (.reg [
     ⟨.e 22, .call 79, [], none⟩,
     ⟨.e 4, .mv, [.t 22], none⟩] [4] []) (
   .ret))
  (.skip))) (
 .seq (.seq (.reg [
   ⟨.e 24, .ld true 3, [.b 2], none⟩,
   ⟨.e 25, .call 50, [.t 24], none⟩,
   ⟨.e 23, .mv, [.t 25], none⟩,
   ⟨.e 26, .ext 0, [.t 23], none⟩,
   ⟨.e 27, .ext 1, [.t 23], none⟩,
   ⟨.x 5, .box, [.k (.agg [.nil])], none⟩,
   ⟨.n, .st 1, [.b 5, .t 26], none⟩,
   ⟨.e 6, .mv, [.t 27], none⟩] [1, 6] [2]) (
 .seq (.reg [
   ⟨.e 28, .mv, [.t 6], none⟩,
   ⟨.e 29, .bin .neq, [.t 28, .k (.int .i64 0)], none⟩] [1, 29] [2]) (
 .cond (.t 29)
  (.seq (.reg [
     ⟨.e 4, .mv, [.k (.bool true)], none⟩] [4] []) (
   .ret))
  (.skip)))) (
 .seq (.reg [
   ⟨.e 30, .ld true 3, [.b 2], none⟩,
   ⟨.e 31, .call 89, [.t 30], none⟩,
   ⟨.x 7, .box, [.k (.agg [.nil, .nil, .nil])], none⟩,
   ⟨.n, .st 3, [.b 7, .t 31], none⟩] [1] [2, 7]) (
 .seq (.seq (.reg [
   ⟨.a 32, .fa 2, [.b 7], none⟩,
   ⟨.e 33, .ld false 1, [.a 32], none⟩,
   ⟨.e 34, .len false, [.t 33], none⟩,
   ⟨.e 35, .bin .gtr, [.t 34, .k (.int .i64 0)], none⟩] [1, 35] [2, 7]) (
 .cond (.t 35)
  (.seq (.dreg [
     ⟨.a 36, .fa 2, [.b 7], none⟩,
     ⟨.e 37, .ld false 1, [.a 36], none⟩,
     ⟨.e 38, .mv, [.t 1], none⟩,
     ⟨.e 39, .cvt .i64, [.t 38], none⟩,
     ⟨.a 40, .fa 2, [.b 7], none⟩,
     ⟨.e 41, .ld false 1, [.a 40], none⟩,
     ⟨.e 42, .len false, [.t 41], none⟩,
     ⟨.e 43, .bin .rem, [.t 39, .t 42], none⟩,
     ⟨.a 44, .ia 4, [.t 37, .t 43], none⟩,
     ⟨.e 8, .pmv, [.a 44], none⟩] [] [1, 8] [2, 7]) (
   .seq (.reg [
     ⟨.e 45, .mv, [.t 8], none⟩,
     ⟨.a 46, .nc, [.t 45], none⟩,
     ⟨.a 47, .fa 1, [.a 46], none⟩,
     ⟨.e 48, .ld false 1, [.a 47], none⟩,
     ⟨.e 49, .bin .gtr, [.t 48, .k (.int .i64 1)], none⟩] [1, 8, 49] [2, 7]) (
   .cond (.t 49)
    (.reg [
       ⟨.e 50, .mv, [.t 8], none⟩,
       ⟨.a 51, .nc, [.t 50], none⟩,
       ⟨.a 52, .fa 1, [.a 51], none⟩,
       ⟨.e 53, .ld false 1, [.a 52], none⟩,
       ⟨.e 54, .bin .sub, [.t 53, .k (.int .i64 1)], none⟩,
       ⟨.a 55, .nc, [.t 50], none⟩,
       ⟨.a 56, .fa 1, [.a 55], none⟩,
       ⟨.n, .st 1, [.a 56, .t 54], none⟩] [1] [2, 7])
    (.skip))))
  (.skip))) (
 .seq (.reg [
   ⟨.e 58, .frz 3, [.b 7], none⟩,
   ⟨.e 59, .call 50, [.t 58], none⟩,
   ⟨.e 57, .mv, [.t 59], none⟩,
   ⟨.e 60, .ext 0, [.t 57], none⟩,
   ⟨.e 61, .ext 1, [.t 57], none⟩,
   ⟨.x 9, .box, [.k (.agg [.nil])], none⟩,
   ⟨.n, .st 1, [.b 9, .t 60], none⟩,
   ⟨.e 10, .mv, [.t 61], none⟩] [1, 10] [2]) (
 .seq (.reg [
   ⟨.e 62, .ld true 3, [.b 2], none⟩,
   ⟨.e 63, .call 89, [.t 62], none⟩,
   ⟨.x 11, .box, [.k (.agg [.nil, .nil, .nil])], none⟩,
   ⟨.n, .st 3, [.b 11, .t 63], none⟩] [1, 10] [11]) (
 .seq (.seq (.reg [
   ⟨.a 64, .fa 0, [.b 11], none⟩,
   ⟨.e 65, .ld false 1, [.a 64], none⟩,
   ⟨.e 66, .len false, [.t 65], none⟩,
   ⟨.e 67, .bin .gtr, [.t 66, .k (.int .i64 0)], none⟩] [1, 10, 67] [11]) (
 .cond (.t 67)
  (.seq (.dreg [
     ⟨.a 68, .fa 0, [.b 11], none⟩,
     ⟨.e 69, .ld false 1, [.a 68], none⟩,
     ⟨.e 70, .mv, [.t 1], none⟩,
     ⟨.e 71, .cvt .i64, [.t 70], none⟩,
     ⟨.a 72, .fa 0, [.b 11], none⟩,
     ⟨.e 73, .ld false 1, [.a 72], none⟩,
     ⟨.e 74, .len false, [.t 73], none⟩,
     ⟨.e 75, .bin .rem, [.t 71, .t 74], none⟩,
     ⟨.a 76, .ia 3, [.t 69, .t 75], none⟩,
     ⟨.e 12, .pmv, [.a 76], none⟩] [] [10, 12] [11]) (
   .seq (.reg [
     ⟨.e 77, .mv, [.t 12], none⟩,
     ⟨.a 78, .nc, [.t 77], none⟩,
     ⟨.a 79, .fa 1, [.a 78], none⟩,
     ⟨.e 80, .ld false 1, [.a 79], none⟩,
     ⟨.e 81, .bin .lss, [.t 80, .k (.int .i64 8)], none⟩] [10, 12, 81] [11]) (
   .cond (.t 81)
    (.reg [
       ⟨.e 82, .mv, [.t 12], none⟩,
       ⟨.a 83, .nc, [.t 82], none⟩,
       ⟨.a 84, .fa 1, [.a 83], none⟩,
       ⟨.e 85, .ld false 1, [.a 84], none⟩,
       ⟨.e 86, .bin .add, [.t 85, .k (.int .i64 1)], none⟩,
       ⟨.a 87, .nc, [.t 82], none⟩,
       ⟨.a 88, .fa 1, [.a 87], none⟩,
       ⟨.n, .st 1, [.a 88, .t 86], none⟩] [10] [11])
    (.skip))))
  (.skip))) (
 .seq (.reg [
   ⟨.e 90, .frz 3, [.b 11], none⟩,
   ⟨.e 91, .call 50, [.t 90], none⟩,
   ⟨.e 89, .mv, [.t 91], none⟩,
   ⟨.e 92, .ext 0, [.t 89], none⟩,
   ⟨.e 93, .ext 1, [.t 89], none⟩,
   ⟨.x 13, .box, [.k (.agg [.nil])], none⟩,
   ⟨.n, .st 1, [.b 13, .t 92], none⟩,
   ⟨.e 14, .mv, [.t 93], none⟩] [10, 14] []) (
 .seq (.reg [
   ⟨.e 94, .mv, [.t 10], none⟩,
   ⟨.e 95, .bin .eql, [.t 94, .k (.int .i64 0)], none⟩,
   ⟨.e 96, .mv, [.t 95], none⟩,
   ⟨.e 97, .mv, [.t 14], some (96, true)⟩,
   ⟨.e 98, .bin .eql, [.t 97, .k (.int .i64 0)], some (96, true)⟩,
   ⟨.e 99, .pick, [.t 96, .t 98, .k (.bool false)], none⟩,
   ⟨.e 4, .mv, [.t 99], none⟩] [4] []) (
 .ret))))))))))⟩
structure HasX24 (F : Nat → Option Fn) : Prop where
  h24 : F 24 = some c24
end Go.Am
