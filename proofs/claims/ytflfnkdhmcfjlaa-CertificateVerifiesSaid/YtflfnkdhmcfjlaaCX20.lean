/- The abstract machine's code of the functions of group X20, printed by program. -/
import Derived.Test.YtflfnkdhmcfjlaaMach
namespace Go.Am
/- estovers/estoverslaw43.CertificateVerifies -/
noncomputable def c20 : Fn := ⟨2, 0, 36, true, [.t 4],
 .seq (.reg [
   ⟨.x 2, .box, [.t 0], none⟩,
   ⟨.e 4, .mv, [.k (.bool false)], none⟩] [1] [2]) (
 .seq (.seq (.reg [
   ⟨.e 6, .call 79, [], none⟩,
   ⟨.e 7, .not, [.t 6], none⟩,
   ⟨.e 8, .mv, [.t 7], none⟩,
   ⟨.e 9, .ld true 3, [.b 2], some (8, false)⟩,
   ⟨.e 10, .call 28, [.t 9], some (8, false)⟩,
   ⟨.e 11, .not, [.t 10], some (8, false)⟩,
   ⟨.e 12, .pick, [.t 8, .k (.bool true), .t 11], none⟩,
   ⟨.e 13, .mv, [.t 12], none⟩,
   ⟨.e 14, .mv, [.t 1], some (13, false)⟩,
   ⟨.e 15, .len false, [.t 14], some (13, false)⟩,
   ⟨.e 16, .bin .gtr, [.t 15, .k (.int .i64 40)], some (13, false)⟩,
   ⟨.e 17, .pick, [.t 13, .k (.bool true), .t 16], none⟩] [1, 17] [2]) (
 .cond (.t 17)
  (.seq (.reg [
     ⟨.e 18, .call 79, [], none⟩,
     ⟨.e 4, .mv, [.t 18], none⟩] [4] []) (
   .ret))
  (.skip))) (
 .seq (.reg [
   ⟨.e 19, .mv, [.t 1], none⟩,
   ⟨.e 20, .bld [.nil] [(0, 1)], [.t 19], none⟩,
   ⟨.x 5, .box, [.k (.agg [.nil])], none⟩,
   ⟨.n, .st 1, [.b 5, .t 20], none⟩] [] [2, 5]) (
 .seq (.dreg [
   ⟨.e 21, .ld true 3, [.b 2], none⟩,
   ⟨.e 22, .ld true 1, [.b 5], none⟩,
   ⟨.e 23, .call 52, [.t 21, .t 22], none⟩,
   ⟨.e 24, .ld true 3, [.b 2], none⟩,
   ⟨.e 25, .ld true 1, [.b 5], none⟩,
   ⟨.e 26, .call 88, [.t 24, .t 25], none⟩,
   ⟨.e 27, .bin .eql, [.t 23, .t 26], none⟩,
   ⟨.e 4, .mv, [.t 27], none⟩] [] [4] []) (
 .ret))))⟩
structure HasX20 (F : Nat → Option Fn) : Prop where
  h20 : F 20 = some c20
end Go.Am
