/- The abstract machine's code of the functions of group X23, printed by program. -/
import Derived.Test.YtflfnkdhmcfjlaaMach
namespace Go.Am
/- estovers/estoverslaw43.CertificateScales -/
noncomputable def L23_1 : AC := .loop [1, 2, 9, 32, 33, 34] [3] (
 .seq (.reg [
   ⟨.e 35, .bin .lss, [.t 34, .t 33], none⟩] [1, 2, 9, 32, 33, 34, 35] [3]) (
 .seq (.cond (.t 35)
  (.skip)
  (.exit 0)) (
 .seq (.block 1 (
  .seq (.reg [
    ⟨.a 36, .ia 1, [.t 32, .t 34], none⟩,
    ⟨.e 37, .ld false 1, [.a 36], none⟩,
    ⟨.e 11, .mv, [.t 37], none⟩] [1, 2, 9, 11, 32, 33, 34] [3]) (
  .seq (.seq (.reg [
    ⟨.e 38, .mv, [.t 11], none⟩,
    ⟨.e 39, .bin .lss, [.t 38, .k (.int .i64 0)], none⟩,
    ⟨.e 40, .mv, [.t 39], none⟩,
    ⟨.e 41, .mv, [.t 11], some (40, false)⟩,
    ⟨.e 42, .bin .gtr, [.t 41, .k (.int .i64 30)], some (40, false)⟩,
    ⟨.e 43, .pick, [.t 40, .k (.bool true), .t 42], none⟩] [1, 2, 9, 11, 32, 33, 34, 43] [3]) (
  .cond (.t 43)
   (.seq (.reg [
      ⟨.e 6, .mv, [.k (.bool false)], none⟩] [6] []) (
    .ret))
   (.skip))) (
  .reg [
    ⟨.e 44, .mv, [.t 9], none⟩,
    ⟨.e 45, .mv, [.t 11], none⟩,
    ⟨.e 46, .mv, [.t 1], none⟩,
    ⟨.e 47, .cvt .i64, [.t 46], none⟩,
    ⟨.e 48, .bin .rem, [.t 47, .k (.int .i64 64)], none⟩,
    ⟨.e 49, .bin .add, [.k (.int .i64 1), .t 48], none⟩,
    ⟨.e 50, .bin .mul, [.t 45, .t 49], none⟩,
    ⟨.e 51, .mv, [.t 2], none⟩,
    ⟨.e 52, .cvt .i64, [.t 51], none⟩,
    ⟨.e 53, .bin .add, [.t 50, .t 52], none⟩,
    ⟨.e 54, .lit 1 1 (.int .i64 0) [0], [.t 53], none⟩,
    ⟨.e 55, .app 1, [.t 44, .t 54], none⟩,
    ⟨.e 9, .mv, [.t 55], none⟩] [1, 2, 9, 32, 33, 34] [3])))) (
 .reg [
   ⟨.e 56, .bin .add, [.t 34, .k (.int .i64 1)], none⟩,
   ⟨.e 34, .mv, [.t 56], none⟩] [1, 2, 9, 32, 33, 34] [3]))))
noncomputable def c23 : Fn := ⟨3, 71001178112, 136, true, [.t 6],
 .seq (.reg [
   ⟨.x 3, .box, [.t 0], none⟩,
   ⟨.e 6, .mv, [.k (.bool false)], none⟩] [1, 2] [3]) (
 .seq (.seq (.reg [
   ⟨.e 12, .call 79, [], none⟩,
   ⟨.e 13, .not, [.t 12], none⟩,
   ⟨.e 14, .mv, [.t 13], none⟩,
   ⟨.e 15, .ld true 3, [.b 3], some (14, false)⟩,
   ⟨.e 16, .call 28, [.t 15], some (14, false)⟩,
   ⟨.e 17, .not, [.t 16], some (14, false)⟩,
   ⟨.e 18, .pick, [.t 14, .k (.bool true), .t 17], none⟩] [1, 2, 18] [3]) (
 .cond (.t 18)
  (.seq (.reg [
     ⟨.e 19, .call 79, [], none⟩,
     ⟨.e 6, .mv, [.t 19], none⟩] [6] []) (
   .ret))
  (.skip))) (
 .seq (.reg [
   ⟨.e 21, .ld true 3, [.b 3], none⟩,
   ⟨.e 22, .call 50, [.t 21], none⟩,
   ⟨.e 20, .mv, [.t 22], none⟩,
   ⟨.e 23, .ext 0, [.t 20], none⟩,
   ⟨.e 24, .ext 1, [.t 20], none⟩,
   ⟨.x 7, .box, [.k (.agg [.nil])], none⟩,
   ⟨.n, .st 1, [.b 7, .t 23], none⟩,
   ⟨.e 8, .mv, [.t 24], none⟩] [1, 2, 8] [3, 7]) (
 .seq (.seq (.reg [
   ⟨.e 25, .mv, [.t 8], none⟩,
   ⟨.e 26, .bin .neq, [.t 25, .k (.int .i64 0)], none⟩] [1, 2, 26] [3, 7]) (
 .cond (.t 26)
  (.seq (.reg [
     ⟨.a 27, .fa 0, [.b 7], none⟩,
     ⟨.e 28, .ld false 1, [.a 27], none⟩,
     ⟨.e 29, .len false, [.t 28], none⟩,
     ⟨.e 30, .bin .eql, [.t 29, .k (.int .i64 0)], none⟩,
     ⟨.e 6, .mv, [.t 30], none⟩] [6] []) (
   .ret))
  (.skip))) (
 .seq (.reg [
   ⟨.e 9, .mv, [.k .nil], none⟩] [1, 2, 9] [3, 7]) (
 .seq (.seq (.reg [
   ⟨.a 31, .fa 0, [.b 7], none⟩,
   ⟨.e 32, .ld false 1, [.a 31], none⟩,
   ⟨.e 33, .len false, [.t 32], none⟩,
   ⟨.e 34, .mv, [.k (.int .i64 0)], none⟩] [1, 2, 9, 32, 33, 34] [3]) (
 .block 0 (
  L23_1))) (
 .seq (.reg [
   ⟨.e 57, .ld true 3, [.b 3], none⟩,
   ⟨.e 58, .mv, [.t 9], none⟩,
   ⟨.e 59, .bld [.nil] [(0, 1)], [.t 58], none⟩,
   ⟨.e 60, .call 52, [.t 57, .t 59], none⟩,
   ⟨.e 61, .bin .eql, [.t 60, .k (.int .i64 0)], none⟩,
   ⟨.e 6, .mv, [.t 61], none⟩] [6] []) (
 .ret)))))))⟩
structure HasX23 (F : Nat → Option Fn) : Prop where
  h23 : F 23 = some c23
end Go.Am
