/- The law CertificateFewer holds: a system that has a certificate has one if a class has a worker less, and if a pool is larger; no conditions. -/
import Derived.Test.YtflfnkdhmcfjlaaN24g
import Derived.Test.YtflfnkdhmcfjlaaRows
namespace Go.Proofs.Ytflfnkdhmcfjlaa
open Go Go.ChangeShapes Go.WideShapes Go.ChangeAt Go.RowKit
set_option maxRecDepth 100000
def headChars : List Char := [104, 97, 114, 110, 101, 115, 115, 32, 48, 56, 51, 102, 99, 52, 51, 55, 100, 52, 99, 51, 102, 98, 53, 102, 99, 57, 100, 99, 49, 102, 52, 101, 57, 55, 52, 50, 54, 57, 54, 101, 48, 57, 98, 102, 56, 51, 56, 100, 48, 48, 51, 55, 53, 57, 102, 55, 51, 97, 51, 56, 98, 51, 56, 53, 55, 57, 100, 54, 102, 49, 53, 49, 32, 99, 117, 116, 32, 97, 116, 32, 101, 115, 116, 111, 118, 101, 114, 115, 47, 101, 115, 116, 111, 118, 101, 114, 115, 108, 97, 119, 52, 50, 46, 87, 97, 105, 116, 103, 114, 97, 112, 104, 68, 101, 109, 97, 110, 100, 115, 32, 101, 115, 116, 111, 118, 101, 114, 115, 47, 101, 115, 116, 111, 118, 101, 114, 115, 108, 97, 119, 52, 50, 46, 87, 97, 105, 116, 103, 114, 97, 112, 104, 69, 100, 103, 101, 115, 32, 101, 115, 116, 111, 118, 101, 114, 115, 47, 101, 115, 116, 111, 118, 101, 114, 115, 108, 97, 119, 52, 50, 46, 87, 97, 105, 116, 103, 114, 97, 112, 104, 71, 114, 97, 112, 104, 115, 32, 101, 115, 116, 111, 118, 101, 114, 115, 47, 101, 115, 116, 111, 118, 101, 114, 115, 108, 97, 119, 52, 50, 46, 87, 97, 105, 116, 103, 114, 97, 112, 104, 67, 121, 99, 108, 101, 115, 32, 101, 115, 116, 111, 118, 101, 114, 115, 47, 101, 115, 116, 111, 118, 101, 114, 115, 108, 97, 119, 52, 50, 46, 87, 97, 105, 116, 103, 114, 97, 112, 104, 76, 101, 118, 101, 108, 115, 32, 101, 115, 116, 111, 118, 101, 114, 115, 47, 101, 115, 116, 111, 118, 101, 114, 115, 108, 97, 119, 52, 50, 46, 87, 97, 105, 116, 103, 114, 97, 112, 104, 67, 111, 109, 112, 111, 110, 101, 110, 116, 115, 32, 101, 115, 116, 111, 118, 101, 114, 115, 47, 101, 115, 116, 111, 118, 101, 114, 115, 116, 111, 112, 46, 84, 111, 112, 65, 115, 99, 101, 110, 100, 105, 110, 103, 32, 101, 115, 116, 111, 118, 101, 114, 115, 47, 101, 115, 116, 111, 118, 101, 114, 115, 108, 97, 119, 52, 50, 46, 87, 97, 105, 116, 103, 114, 97, 112, 104, 72, 111, 108, 100, 115, 32, 101, 115, 116, 111, 118, 101, 114, 115, 47, 101, 115, 116, 111, 118, 101, 114, 115, 108, 97, 119, 52, 52, 46, 69, 120, 112, 108, 111, 114, 101, 67, 104, 101, 99, 107, 115, 32, 101, 115, 116, 111, 118, 101, 114, 115, 47, 101, 115, 116, 111, 118, 101, 114, 115, 116, 111, 112, 46, 84, 111, 112, 78, 101, 118, 101, 114, 83, 116, 111, 112, 115, 32, 101, 115, 116, 111, 118, 101, 114, 115, 47, 101, 115, 116, 111, 118, 101, 114, 115, 108, 97, 119, 52, 52, 46, 69, 120, 112, 108, 111, 114, 101, 82, 101, 97, 99, 104, 101, 115, 32, 101, 115, 116, 111, 118, 101, 114, 115, 47, 101, 115, 116, 111, 118, 101, 114, 115, 108, 97, 119, 52, 52, 46, 69, 120, 112, 108, 111, 114, 101, 82, 101, 112, 108, 97, 121, 115, 32, 101, 115, 116, 111, 118, 101, 114, 115, 47, 101, 115, 116, 111, 118, 101, 114, 115, 108, 97, 119, 52, 52, 46, 69, 120, 112, 108, 111, 114, 101, 84, 97, 107, 101, 114, 115, 32, 101, 115, 116, 111, 118, 101, 114, 115, 47, 101, 115, 116, 111, 118, 101, 114, 115, 108, 97, 119, 52, 52, 46, 69, 120, 112, 108, 111, 114, 101, 80, 104, 105, 108, 111, 115, 111, 112, 104, 101, 114, 115, 32, 101, 115, 116, 111, 118, 101, 114, 115, 47, 101, 115, 116, 111, 118, 101, 114, 115, 108, 97, 119, 52, 52, 46, 69, 120, 112, 108, 111, 114, 101, 83, 116, 101, 112, 115, 32, 101, 115, 116, 111, 118, 101, 114, 115, 47, 101, 115, 116, 111, 118, 101, 114, 115, 108, 97, 119, 52, 52, 46, 69, 120, 112, 108, 111, 114, 101, 83, 97, 102, 101, 32, 101, 115, 116, 111, 118, 101, 114, 115, 47, 101, 115, 116, 111, 118, 101, 114, 115, 108, 97, 119, 52, 51, 46, 67, 101, 114, 116, 105, 102, 105, 99, 97, 116, 101, 77, 97, 107, 101, 115, 32, 101, 115, 116, 111, 118, 101, 114, 115, 47, 101, 115, 116, 111, 118, 101, 114, 115, 108, 97, 119, 52, 51, 46, 67, 101, 114, 116, 105, 102, 105, 99, 97, 116, 101, 86, 101, 114, 105, 102, 105, 101, 115, 32, 101, 115, 116, 111, 118, 101, 114, 115, 47, 101, 115, 116, 111, 118, 101, 114, 115, 108, 97, 119, 52, 51, 46, 67, 101, 114, 116, 105, 102, 105, 99, 97, 116, 101, 82, 111, 117, 110, 100, 32, 101, 115, 116, 111, 118, 101, 114, 115, 47, 101, 115, 116, 111, 118, 101, 114, 115, 108, 97, 119, 52, 51, 46, 67, 101, 114, 116, 105, 102, 105, 99, 97, 116, 101, 69, 120, 112, 108, 97, 105, 110, 115, 32, 101, 115, 116, 111, 118, 101, 114, 115, 47, 101, 115, 116, 111, 118, 101, 114, 115, 108, 97, 119, 52, 51, 46, 67, 101, 114, 116, 105, 102, 105, 99, 97, 116, 101, 83, 99, 97, 108, 101, 115, 32, 101, 115, 116, 111, 118, 101, 114, 115, 47, 101, 115, 116, 111, 118, 101, 114, 115, 108, 97, 119, 52, 51, 46, 67, 101, 114, 116, 105, 102, 105, 99, 97, 116, 101, 70, 101, 119, 101, 114, 32, 101, 115, 116, 111, 118, 101, 114, 115, 47, 101, 115, 116, 111, 118, 101, 114, 115, 108, 97, 119, 52, 51, 46, 67, 101, 114, 116, 105, 102, 105, 99, 97, 116, 101, 82, 101, 115, 101, 114, 118, 101, 115, 32, 101, 115, 116, 111, 118, 101, 114, 115, 47, 101, 115, 116, 111, 118, 101, 114, 115, 108, 97, 119, 52, 52, 46, 69, 120, 112, 108, 111, 114, 101, 67, 101, 114, 116, 105, 102, 105, 101, 100].map Char.ofNat
def headWords : List (List Char) := [[104, 97, 114, 110, 101, 115, 115], [48, 56, 51, 102, 99, 52, 51, 55, 100, 52, 99, 51, 102, 98, 53, 102, 99, 57, 100, 99, 49, 102, 52, 101, 57, 55, 52, 50, 54, 57, 54, 101, 48, 57, 98, 102, 56, 51, 56, 100, 48, 48, 51, 55, 53, 57, 102, 55, 51, 97, 51, 56, 98, 51, 56, 53, 55, 57, 100, 54, 102, 49, 53, 49], [99, 117, 116], [97, 116], [101, 115, 116, 111, 118, 101, 114, 115, 47, 101, 115, 116, 111, 118, 101, 114, 115, 108, 97, 119, 52, 50, 46, 87, 97, 105, 116, 103, 114, 97, 112, 104, 68, 101, 109, 97, 110, 100, 115], [101, 115, 116, 111, 118, 101, 114, 115, 47, 101, 115, 116, 111, 118, 101, 114, 115, 108, 97, 119, 52, 50, 46, 87, 97, 105, 116, 103, 114, 97, 112, 104, 69, 100, 103, 101, 115], [101, 115, 116, 111, 118, 101, 114, 115, 47, 101, 115, 116, 111, 118, 101, 114, 115, 108, 97, 119, 52, 50, 46, 87, 97, 105, 116, 103, 114, 97, 112, 104, 71, 114, 97, 112, 104, 115], [101, 115, 116, 111, 118, 101, 114, 115, 47, 101, 115, 116, 111, 118, 101, 114, 115, 108, 97, 119, 52, 50, 46, 87, 97, 105, 116, 103, 114, 97, 112, 104, 67, 121, 99, 108, 101, 115], [101, 115, 116, 111, 118, 101, 114, 115, 47, 101, 115, 116, 111, 118, 101, 114, 115, 108, 97, 119, 52, 50, 46, 87, 97, 105, 116, 103, 114, 97, 112, 104, 76, 101, 118, 101, 108, 115], [101, 115, 116, 111, 118, 101, 114, 115, 47, 101, 115, 116, 111, 118, 101, 114, 115, 108, 97, 119, 52, 50, 46, 87, 97, 105, 116, 103, 114, 97, 112, 104, 67, 111, 109, 112, 111, 110, 101, 110, 116, 115], [101, 115, 116, 111, 118, 101, 114, 115, 47, 101, 115, 116, 111, 118, 101, 114, 115, 116, 111, 112, 46, 84, 111, 112, 65, 115, 99, 101, 110, 100, 105, 110, 103], [101, 115, 116, 111, 118, 101, 114, 115, 47, 101, 115, 116, 111, 118, 101, 114, 115, 108, 97, 119, 52, 50, 46, 87, 97, 105, 116, 103, 114, 97, 112, 104, 72, 111, 108, 100, 115], [101, 115, 116, 111, 118, 101, 114, 115, 47, 101, 115, 116, 111, 118, 101, 114, 115, 108, 97, 119, 52, 52, 46, 69, 120, 112, 108, 111, 114, 101, 67, 104, 101, 99, 107, 115], [101, 115, 116, 111, 118, 101, 114, 115, 47, 101, 115, 116, 111, 118, 101, 114, 115, 116, 111, 112, 46, 84, 111, 112, 78, 101, 118, 101, 114, 83, 116, 111, 112, 115], [101, 115, 116, 111, 118, 101, 114, 115, 47, 101, 115, 116, 111, 118, 101, 114, 115, 108, 97, 119, 52, 52, 46, 69, 120, 112, 108, 111, 114, 101, 82, 101, 97, 99, 104, 101, 115], [101, 115, 116, 111, 118, 101, 114, 115, 47, 101, 115, 116, 111, 118, 101, 114, 115, 108, 97, 119, 52, 52, 46, 69, 120, 112, 108, 111, 114, 101, 82, 101, 112, 108, 97, 121, 115], [101, 115, 116, 111, 118, 101, 114, 115, 47, 101, 115, 116, 111, 118, 101, 114, 115, 108, 97, 119, 52, 52, 46, 69, 120, 112, 108, 111, 114, 101, 84, 97, 107, 101, 114, 115], [101, 115, 116, 111, 118, 101, 114, 115, 47, 101, 115, 116, 111, 118, 101, 114, 115, 108, 97, 119, 52, 52, 46, 69, 120, 112, 108, 111, 114, 101, 80, 104, 105, 108, 111, 115, 111, 112, 104, 101, 114, 115], [101, 115, 116, 111, 118, 101, 114, 115, 47, 101, 115, 116, 111, 118, 101, 114, 115, 108, 97, 119, 52, 52, 46, 69, 120, 112, 108, 111, 114, 101, 83, 116, 101, 112, 115], [101, 115, 116, 111, 118, 101, 114, 115, 47, 101, 115, 116, 111, 118, 101, 114, 115, 108, 97, 119, 52, 52, 46, 69, 120, 112, 108, 111, 114, 101, 83, 97, 102, 101], [101, 115, 116, 111, 118, 101, 114, 115, 47, 101, 115, 116, 111, 118, 101, 114, 115, 108, 97, 119, 52, 51, 46, 67, 101, 114, 116, 105, 102, 105, 99, 97, 116, 101, 77, 97, 107, 101, 115], [101, 115, 116, 111, 118, 101, 114, 115, 47, 101, 115, 116, 111, 118, 101, 114, 115, 108, 97, 119, 52, 51, 46, 67, 101, 114, 116, 105, 102, 105, 99, 97, 116, 101, 86, 101, 114, 105, 102, 105, 101, 115], [101, 115, 116, 111, 118, 101, 114, 115, 47, 101, 115, 116, 111, 118, 101, 114, 115, 108, 97, 119, 52, 51, 46, 67, 101, 114, 116, 105, 102, 105, 99, 97, 116, 101, 82, 111, 117, 110, 100], [101, 115, 116, 111, 118, 101, 114, 115, 47, 101, 115, 116, 111, 118, 101, 114, 115, 108, 97, 119, 52, 51, 46, 67, 101, 114, 116, 105, 102, 105, 99, 97, 116, 101, 69, 120, 112, 108, 97, 105, 110, 115], [101, 115, 116, 111, 118, 101, 114, 115, 47, 101, 115, 116, 111, 118, 101, 114, 115, 108, 97, 119, 52, 51, 46, 67, 101, 114, 116, 105, 102, 105, 99, 97, 116, 101, 83, 99, 97, 108, 101, 115], [101, 115, 116, 111, 118, 101, 114, 115, 47, 101, 115, 116, 111, 118, 101, 114, 115, 108, 97, 119, 52, 51, 46, 67, 101, 114, 116, 105, 102, 105, 99, 97, 116, 101, 70, 101, 119, 101, 114], [101, 115, 116, 111, 118, 101, 114, 115, 47, 101, 115, 116, 111, 118, 101, 114, 115, 108, 97, 119, 52, 51, 46, 67, 101, 114, 116, 105, 102, 105, 99, 97, 116, 101, 82, 101, 115, 101, 114, 118, 101, 115], [101, 115, 116, 111, 118, 101, 114, 115, 47, 101, 115, 116, 111, 118, 101, 114, 115, 108, 97, 119, 52, 52, 46, 69, 120, 112, 108, 111, 114, 101, 67, 101, 114, 116, 105, 102, 105, 101, 100]].map (List.map Char.ofNat)
theorem head_lit : Try.prog.initOrder = "harness 083fc437d4c3fb5fc9dc1f4e9742696e09bf838d003759f73a38b38579d6f151 cut at estovers/estoverslaw42.WaitgraphDemands estovers/estoverslaw42.WaitgraphEdges estovers/estoverslaw42.WaitgraphGraphs estovers/estoverslaw42.WaitgraphCycles estovers/estoverslaw42.WaitgraphLevels estovers/estoverslaw42.WaitgraphComponents estovers/estoverstop.TopAscending estovers/estoverslaw42.WaitgraphHolds estovers/estoverslaw44.ExploreChecks estovers/estoverstop.TopNeverStops estovers/estoverslaw44.ExploreReaches estovers/estoverslaw44.ExploreReplays estovers/estoverslaw44.ExploreTakers estovers/estoverslaw44.ExplorePhilosophers estovers/estoverslaw44.ExploreSteps estovers/estoverslaw44.ExploreSafe estovers/estoverslaw43.CertificateMakes estovers/estoverslaw43.CertificateVerifies estovers/estoverslaw43.CertificateRound estovers/estoverslaw43.CertificateExplains estovers/estoverslaw43.CertificateScales estovers/estoverslaw43.CertificateFewer estovers/estoverslaw43.CertificateReserves estovers/estoverslaw44.ExploreCertified" := by kernel_rfl
theorem lit_chars : "harness 083fc437d4c3fb5fc9dc1f4e9742696e09bf838d003759f73a38b38579d6f151 cut at estovers/estoverslaw42.WaitgraphDemands estovers/estoverslaw42.WaitgraphEdges estovers/estoverslaw42.WaitgraphGraphs estovers/estoverslaw42.WaitgraphCycles estovers/estoverslaw42.WaitgraphLevels estovers/estoverslaw42.WaitgraphComponents estovers/estoverstop.TopAscending estovers/estoverslaw42.WaitgraphHolds estovers/estoverslaw44.ExploreChecks estovers/estoverstop.TopNeverStops estovers/estoverslaw44.ExploreReaches estovers/estoverslaw44.ExploreReplays estovers/estoverslaw44.ExploreTakers estovers/estoverslaw44.ExplorePhilosophers estovers/estoverslaw44.ExploreSteps estovers/estoverslaw44.ExploreSafe estovers/estoverslaw43.CertificateMakes estovers/estoverslaw43.CertificateVerifies estovers/estoverslaw43.CertificateRound estovers/estoverslaw43.CertificateExplains estovers/estoverslaw43.CertificateScales estovers/estoverslaw43.CertificateFewer estovers/estoverslaw43.CertificateReserves estovers/estoverslaw44.ExploreCertified" = String.ofList headChars := by kernel_rfl
theorem head_is : Try.prog.initOrder = String.ofList headChars := head_lit.trans lit_chars
theorem head_chars : Try.prog.initOrder.toList = headChars := by rw [head_is, String.toList_ofList]
theorem head_words : wordsSigns headChars = headWords := by kernel_rfl
def cutWord : List Char := [99, 117, 116].map Char.ofNat
def restWords : List (List Char) := [[97, 116], [101, 115, 116, 111, 118, 101, 114, 115, 47, 101, 115, 116, 111, 118, 101, 114, 115, 108, 97, 119, 52, 50, 46, 87, 97, 105, 116, 103, 114, 97, 112, 104, 68, 101, 109, 97, 110, 100, 115], [101, 115, 116, 111, 118, 101, 114, 115, 47, 101, 115, 116, 111, 118, 101, 114, 115, 108, 97, 119, 52, 50, 46, 87, 97, 105, 116, 103, 114, 97, 112, 104, 69, 100, 103, 101, 115], [101, 115, 116, 111, 118, 101, 114, 115, 47, 101, 115, 116, 111, 118, 101, 114, 115, 108, 97, 119, 52, 50, 46, 87, 97, 105, 116, 103, 114, 97, 112, 104, 71, 114, 97, 112, 104, 115], [101, 115, 116, 111, 118, 101, 114, 115, 47, 101, 115, 116, 111, 118, 101, 114, 115, 108, 97, 119, 52, 50, 46, 87, 97, 105, 116, 103, 114, 97, 112, 104, 67, 121, 99, 108, 101, 115], [101, 115, 116, 111, 118, 101, 114, 115, 47, 101, 115, 116, 111, 118, 101, 114, 115, 108, 97, 119, 52, 50, 46, 87, 97, 105, 116, 103, 114, 97, 112, 104, 76, 101, 118, 101, 108, 115], [101, 115, 116, 111, 118, 101, 114, 115, 47, 101, 115, 116, 111, 118, 101, 114, 115, 108, 97, 119, 52, 50, 46, 87, 97, 105, 116, 103, 114, 97, 112, 104, 67, 111, 109, 112, 111, 110, 101, 110, 116, 115], [101, 115, 116, 111, 118, 101, 114, 115, 47, 101, 115, 116, 111, 118, 101, 114, 115, 116, 111, 112, 46, 84, 111, 112, 65, 115, 99, 101, 110, 100, 105, 110, 103], [101, 115, 116, 111, 118, 101, 114, 115, 47, 101, 115, 116, 111, 118, 101, 114, 115, 108, 97, 119, 52, 50, 46, 87, 97, 105, 116, 103, 114, 97, 112, 104, 72, 111, 108, 100, 115], [101, 115, 116, 111, 118, 101, 114, 115, 47, 101, 115, 116, 111, 118, 101, 114, 115, 108, 97, 119, 52, 52, 46, 69, 120, 112, 108, 111, 114, 101, 67, 104, 101, 99, 107, 115], [101, 115, 116, 111, 118, 101, 114, 115, 47, 101, 115, 116, 111, 118, 101, 114, 115, 116, 111, 112, 46, 84, 111, 112, 78, 101, 118, 101, 114, 83, 116, 111, 112, 115], [101, 115, 116, 111, 118, 101, 114, 115, 47, 101, 115, 116, 111, 118, 101, 114, 115, 108, 97, 119, 52, 52, 46, 69, 120, 112, 108, 111, 114, 101, 82, 101, 97, 99, 104, 101, 115], [101, 115, 116, 111, 118, 101, 114, 115, 47, 101, 115, 116, 111, 118, 101, 114, 115, 108, 97, 119, 52, 52, 46, 69, 120, 112, 108, 111, 114, 101, 82, 101, 112, 108, 97, 121, 115], [101, 115, 116, 111, 118, 101, 114, 115, 47, 101, 115, 116, 111, 118, 101, 114, 115, 108, 97, 119, 52, 52, 46, 69, 120, 112, 108, 111, 114, 101, 84, 97, 107, 101, 114, 115], [101, 115, 116, 111, 118, 101, 114, 115, 47, 101, 115, 116, 111, 118, 101, 114, 115, 108, 97, 119, 52, 52, 46, 69, 120, 112, 108, 111, 114, 101, 80, 104, 105, 108, 111, 115, 111, 112, 104, 101, 114, 115], [101, 115, 116, 111, 118, 101, 114, 115, 47, 101, 115, 116, 111, 118, 101, 114, 115, 108, 97, 119, 52, 52, 46, 69, 120, 112, 108, 111, 114, 101, 83, 116, 101, 112, 115], [101, 115, 116, 111, 118, 101, 114, 115, 47, 101, 115, 116, 111, 118, 101, 114, 115, 108, 97, 119, 52, 52, 46, 69, 120, 112, 108, 111, 114, 101, 83, 97, 102, 101], [101, 115, 116, 111, 118, 101, 114, 115, 47, 101, 115, 116, 111, 118, 101, 114, 115, 108, 97, 119, 52, 51, 46, 67, 101, 114, 116, 105, 102, 105, 99, 97, 116, 101, 77, 97, 107, 101, 115], [101, 115, 116, 111, 118, 101, 114, 115, 47, 101, 115, 116, 111, 118, 101, 114, 115, 108, 97, 119, 52, 51, 46, 67, 101, 114, 116, 105, 102, 105, 99, 97, 116, 101, 86, 101, 114, 105, 102, 105, 101, 115], [101, 115, 116, 111, 118, 101, 114, 115, 47, 101, 115, 116, 111, 118, 101, 114, 115, 108, 97, 119, 52, 51, 46, 67, 101, 114, 116, 105, 102, 105, 99, 97, 116, 101, 82, 111, 117, 110, 100], [101, 115, 116, 111, 118, 101, 114, 115, 47, 101, 115, 116, 111, 118, 101, 114, 115, 108, 97, 119, 52, 51, 46, 67, 101, 114, 116, 105, 102, 105, 99, 97, 116, 101, 69, 120, 112, 108, 97, 105, 110, 115], [101, 115, 116, 111, 118, 101, 114, 115, 47, 101, 115, 116, 111, 118, 101, 114, 115, 108, 97, 119, 52, 51, 46, 67, 101, 114, 116, 105, 102, 105, 99, 97, 116, 101, 83, 99, 97, 108, 101, 115], [101, 115, 116, 111, 118, 101, 114, 115, 47, 101, 115, 116, 111, 118, 101, 114, 115, 108, 97, 119, 52, 51, 46, 67, 101, 114, 116, 105, 102, 105, 99, 97, 116, 101, 70, 101, 119, 101, 114], [101, 115, 116, 111, 118, 101, 114, 115, 47, 101, 115, 116, 111, 118, 101, 114, 115, 108, 97, 119, 52, 51, 46, 67, 101, 114, 116, 105, 102, 105, 99, 97, 116, 101, 82, 101, 115, 101, 114, 118, 101, 115], [101, 115, 116, 111, 118, 101, 114, 115, 47, 101, 115, 116, 111, 118, 101, 114, 115, 108, 97, 119, 52, 52, 46, 69, 120, 112, 108, 111, 114, 101, 67, 101, 114, 116, 105, 102, 105, 101, 100]].map (List.map Char.ofNat)
theorem behind : behindMainWord headWords = cutWord :: restWords := by kernel_rfl
theorem strip : stripLifts liftWords (cutWord :: restWords) = ([], cutWord :: restWords) := by kernel_rfl
theorem w1 : (cutWord == "gc".toList) = false := by kernel_rfl
theorem w2 : (cutWord == "spec".toList) = false := by kernel_rfl
theorem w3 : (cutWord == "cut".toList) = true := by kernel_rfl
theorem w4 : (cutWord == "carried".toList) = false := by kernel_rfl
theorem later : Try.prog.laysLater = false := by kernel_rfl
theorem reflects : Try.prog.bearsReflect = false := by kernel_rfl
theorem doors : Try.prog.doorFits [] = true := by kernel_rfl
theorem w5 : ((cutWord :: restWords).head? == some "cut".toList) = true := by kernel_rfl
theorem enters_of (P : Program) (l : List Char) (ws : List (List Char)) (c : List Char) (rest : List (List Char)) (h1 : P.initOrder.toList = l) (h2 : wordsSigns l = ws) (h3 : behindMainWord ws = c :: rest)
  (k : stripLifts liftWords (c :: rest) = ([], c :: rest)) (k1 : (c == "gc".toList) = false) (k2 : (c == "spec".toList) = false) (k5 : ((c :: rest).head? == some "cut".toList) = true)
  (k6 : P.laysLater = false) (k7 : P.bearsReflect = false) (k8 : P.doorFits [] = true) : P.mayEnter = true := by
 unfold Program.mayEnter
 rw [h1, h2, h3]
 dsimp only
 rw [k, k1, k2]
 dsimp only
 rw [k5, k6, k7, k8]
 simp
theorem enters : Try.prog.mayEnter = true := enters_of Try.prog headChars headWords cutWord restWords head_chars head_words behind strip w1 w2 w5 later reflects doors
theorem noLifts : Try.prog.headLifts = [] := by
 unfold Program.headLifts
 rw [head_chars, head_words]
 kernel_rfl
theorem noFinal : Try.prog.liftsFinal = false := by
 unfold Program.liftsFinal
 rw [head_chars, head_words, noLifts]
 kernel_rfl
theorem made_of (P : Program) (l : List Char) (ws : List (List Char)) (c : List Char) (rest : List (List Char)) (h1 : P.initOrder.toList = l) (h2 : wordsSigns l = ws) (h3 : behindMainWord ws = c :: rest)
  (k1 : (c == "gc".toList) = false) (k2 : (c == "spec".toList) = false) (k3 : (c == "cut".toList) = true) : P.make = some .cut := by
 unfold Program.make
 rw [h1, h2, h3]
 dsimp only
 rw [k1, k2, k3]
 rfl
theorem made : Try.prog.make = some .cut := made_of Try.prog headChars headWords cutWord restWords head_chars head_words behind w1 w2 w3
theorem laid : laidOutB Try.prog = true := by kernel_rfl
theorem rowed : mapsRowed Try.prog = true := by kernel_rfl
theorem unstopped : Try.prog.stops = [] := by kernel_rfl
theorem unknobbed : Try.prog.stopKnobs = [] := by kernel_rfl
theorem noPlain : Try.prog.plainKeys = false := by kernel_rfl
theorem heard : Try.prog.stopsHeard = true := by kernel_rfl
theorem joined (f : FuncId) (fn : Func) (s : ChangeSpec) (c : OpenClaim)
  (k1 : c.wf (OpenSpec.ofChange s) = true) (k4 : fn.params.all (Try.prog.readableRec ·) = true) (k5 : namedTie Try.prog c.named s.vars = true) (k6 : (c.stops == []) = true) (k8 : (c.knobs == []) = true)
  (k10 : Try.prog.inPlace f = c.inPlace) (k11 : Try.prog.unfollowed f = c.unfollowed) (k12 : Try.prog.recurses f = c.recurses) (k13 : Try.prog.varsNamed f = c.named)
  (k14 : (c.maps == (fn.params.toList ++ s.plain.varTypes Try.prog).any (Try.prog.mapsRec ·)) = true) (k15 : (c.ifaces == (fn.params.toList ++ s.plain.varTypes Try.prog).any (Try.prog.ifacesRec ·)) = true) (k16 : (c.mapsOut == Try.prog.mapsAmong fn.resultTypes.toList) = true)
  (k17 : (c.loops == (fn.params.toList ++ s.plain.varTypes Try.prog).any (Try.prog.loopsFrom ·)) = true) (k18 : (c.wideKeys == (fn.params.toList ++ s.plain.varTypes Try.prog ++ fn.resultTypes.toList).any (Try.prog.wideKeysFrom ·)) = true)
  (k19 : s.vars.all (Try.prog.varReadable ·) = true) (k20 : fn.resultTypes.all (fun t => Try.prog.readableRec t && decide (t < Try.prog.types.size)) = true) (k21 : (c.ifacesOut == fn.resultTypes.toList.any (Try.prog.ifacesRec ·)) = true) (k22 : (c.loopsOut == fn.resultTypes.toList.any (Try.prog.loopsFrom ·)) = true)
  (k23 : c.plainKeys = false) (k24 : c.shortTexts.isNone = true) (k25 : c.lifted = false) (k26 : c.make = .cut)
  (k27 : (c.kinds == (if c.domain.isEmpty then [] else fn.params.toList.map fun t => match Try.prog.underlying t with | some (.int k) => some k | _ => none)) = true) (k28 : (c.pinned == c.pinnedBy) = true)
  (k29 : (c.veiled == (fn.params.toList ++ s.plain.varTypes Try.prog ++ fn.resultTypes.toList).any (Try.prog.veiledRec ·)) = true) (k30 : c.veiledFits Try.prog fn.params.toList (fn.params.toList ++ s.plain.varTypes Try.prog ++ fn.resultTypes.toList) = true) :
  joinedFacts Try.prog f fn s c = true := by
 unfold joinedFacts
 rw [k1, laid, rowed, k4, k5, k6, unstopped, k8, unknobbed, k10, k11, k12, k13, k14, k15, k16, k17, k18, k19, k20, k21, k22, noPlain, k23, k24, heard, enters, noFinal, k25, made, k26, k28, k29, k30]
 simp only [beq_self_eq_true, Bool.true_and, Bool.and_true]
 exact k27
end Go.Proofs.Ytflfnkdhmcfjlaa
namespace Go.Am
open Go
set_option linter.unusedSimpArgs false
set_option linter.unusedVariables false
set_option maxRecDepth 100000
theorem CpS.setp {lo : Nat} {m : Mem} {s : Sys} {hp hl b i : Nat} {C : V} {p' : Pool} (h1 : lo ≤ hp) (h2 : hp < b) (h3 : m.blk hp = some (.row 3 (s.pools.map vPool))) (h4 : lo ≤ hl ∧ hl < b ∧ m.blk hl = some (.row 1 (s.locks.map .str))) (h5 : hp ≠ hl) (h6 : lo ≤ b) (h7 : Cp b m C s.cls) : CpS lo (m.set hp (some (.row 3 ((s.pools.map vPool).set i (vPool p'))))) (.agg [.row 3 hp 0 s.pools.length, .row 1 hl 0 s.locks.length, C]) (setP s i p') := by
 refine ⟨hp, hl, C, b, by simp [setP], ⟨h1, h2, ?_⟩, ⟨h4.1, h4.2.1, ?_⟩, h5, h6, h7.other h2 _⟩
 ·show (m.set hp _).blk hp = some (.row 3 ((s.pools.set i p').map vPool))
  rw [List.map_set]
  simp [Mem.set]
 ·rw [set_ne (Ne.symm h5)]
  exact h4.2.2
theorem CpS.setw {lo : Nat} {m : Mem} {s : Sys} {hp hl b i hC hk : Nat} {es : List V} {c c' : Cls} (h3 : lo ≤ hp ∧ hp < b ∧ m.blk hp = some (.row 3 (s.pools.map vPool))) (h4 : lo ≤ hl ∧ hl < b ∧ m.blk hl = some (.row 1 (s.locks.map .str))) (h5 : hp ≠ hl) (h6 : lo ≤ b) (h7 : Cp b m (.row 4 hC 0 s.cls.length) s.cls) (hbC : b ≤ hC) (hE : m.blk hC = some (.row 4 es)) (hc : s.cls[i]? = some c) (he : es[i]? = some (cpC c hk)) (hs : c'.steps = c.steps) :
  CpS lo (m.set hC (some (.row 4 (es.set i (cpC c' hk))))) (.agg [.row 3 hp 0 s.pools.length, .row 1 hl 0 s.locks.length, .row 4 hC 0 s.cls.length]) (setW s i c') := by
 refine ⟨hp, hl, .row 4 hC 0 s.cls.length, b, rfl, ⟨h3.1, h3.2.1, ?_⟩, ⟨h4.1, h4.2.1, ?_⟩, h5, h6, h7.setw hE hc he hs⟩
 ·rw [set_ne (by omega)]
  exact h3.2.2
 ·rw [set_ne (by omega)]
  exact h4.2.2
theorem Cp.bump {b n : Nat} {m : Mem} {C : V} {cs : List Cls} (H : Cp b m C cs) : Cp b (m.bump n) C cs := by
 obtain ⟨es, h1, h2, h3⟩ := H.ex
 refine ⟨es, h1.mono (Nat.le_add_right _ _) (fun _ _ _ => rfl), h2, fun i v c hv hc => ?_⟩
 obtain ⟨hk, e1, e2, e3, e4, e5⟩ := h3 i v c hv hc
 exact ⟨hk, e1, e2, Nat.lt_of_lt_of_le e3 (Nat.le_add_right _ _), e4, e5⟩
theorem CpS.weak {lo lo' : Nat} {m : Mem} {v : V} {s : Sys} (H : CpS lo m v s) (hl : lo' ≤ lo) : CpS lo' m v s := by
 obtain ⟨hp, hl', C, b, rfl, a1, b1, hpl, hb, hcl⟩ := H.ex
 exact ⟨hp, hl', C, b, rfl, ⟨by omega, a1.2⟩, ⟨by omega, b1.2⟩, hpl, by omega, hcl⟩
theorem law24 (us : List V) (h : HasAll [tSys, .int .u8] us) : ∃ m, callw F43 24 us 0 m0 = some (.bool true, m) := by
 obtain ⟨u1, us, rfl, h1, h⟩ := all_cons h
 obtain ⟨u2, us, rfl, h2, h⟩ := all_cons h
 obtain rfl := all_nil h
 obtain ⟨s, rfl⟩ := open_sys h1
 obtain ⟨a, rfl, ha0⟩ := open_u8 h2
 refine ⟨m0, ?_⟩
 have c28 : ∀ {lo m}, callw F43 28 [vSys s] lo m = some (.bool (few s), m) := fun {lo m} => sp28 hasA s
 refine call_p hasX24.h24 rfl ?_
 have ha : ∀ {lo}, callw F43 79 [] lo m0 = some (.bool true, m0) := aw43
 cases hf : few s with
 | false =>
  simp only [↓sxc, sx, se, ↓reduceIte, Nat.reduceEqDiff, Nat.reduceAdd, Nat.reduceLT, Nat.reduceLeDiff, Nat.reduceSub, Nat.reduceMul, Int.reduceToNat, Int.reduceLT, Int.reduceLE, Int.reduceEq, ml_i0, ↓smc, sm, ha, c28, hf]
 | true =>
  have c50 : ∀ {s lo m}, callw F43 50 [vSys s] lo m = some (.tup [.agg [ints (makE s).1], vi (makE s).2], m) := fun {s lo m} => sp50 hasA hasB hasC hasG s
  by_cases hm : (makE s).2 = 0
  ·have h0 : chkE s = 0 := Classical.byContradiction fun hc => by
    have : (makE s).2 = chkE s := by unfold makE; rw [if_pos hc]
    omega
   have hv := valid_of h0
   have p6 := hv.p6
   have c6 := hv.c6
   have e1 := cv_u8 ha0.1 ha0.2
   have hsl : ∀ c ∈ s.cls, c.steps.length < 100 := fun c hc => by have := (hv.okC c hc).l12; omega
   have l4 := hv.l4
   refine W_cut (st' := ⟨[(1, .int .u8 a)], [(2, vSys s)], [], m0⟩) (fun Q hQ => by simp only [↓sxc, sx, se, ↓reduceIte, Nat.reduceEqDiff, Nat.reduceAdd, Nat.reduceLT, Nat.reduceLeDiff, Nat.reduceSub, Nat.reduceMul, Int.reduceToNat, Int.reduceLT, Int.reduceLE, Int.reduceEq, ml_i0, ↓smc, sm]; exact hQ) ?_
   refine W_cut (st' := ⟨[(1, .int .u8 a), (21, .bool false)], [(2, vSys s)], [], m0⟩) (fun Q hQ => by simp only [↓sxc, sx, se, ↓reduceIte, Nat.reduceEqDiff, Nat.reduceAdd, Nat.reduceLT, Nat.reduceLeDiff, Nat.reduceSub, Nat.reduceMul, Int.reduceToNat, Int.reduceLT, Int.reduceLE, Int.reduceEq, ml_i0, ↓smc, sm, ha, c28, hf]; exact hQ) ?_
   refine W_cut (st' := ⟨[(1, .int .u8 a), (29, .bool false)], [(2, vSys s)], [], m0⟩) (fun Q hQ => by simp only [↓sxc, sx, se, ↓reduceIte, Nat.reduceEqDiff, Nat.reduceAdd, Nat.reduceLT, Nat.reduceLeDiff, Nat.reduceSub, Nat.reduceMul, Int.reduceToNat, Int.reduceLT, Int.reduceLE, Int.reduceEq, ml_i0, ↓smc, sm, c50, hm]; exact hQ) ?_
   have lo0 : m0.next = 0 := rfl
   rw [lo0]
   obtain ⟨v, m1, c89, hcp, hm1, _⟩ := sp89 hasC.h89 (lo := 0) (m := m0) s (Nat.zero_le _) (by omega) (by omega) (by omega) hsl
   rw [lo0] at hcp
   have fr1 := hcp.frv
   obtain ⟨hp', hl', C, b, rfl, a1, b1, hpl, hb, hcl⟩ := hcp.ex
   have hC1 : C.one = true := by
    obtain ⟨es, r1, _⟩ := hcl.ex
    rcases r1 with ⟨rfl, _⟩ | ⟨h, rfl, h1, _⟩ <;> rfl
   refine W_cut (st' := ⟨[(1, .int .u8 a)], [(2, vSys s), (7, .agg [.row 3 hp' 0 s.pools.length, .row 1 hl' 0 s.locks.length, C])], [], m1⟩) (fun Q hQ => by simp only [↓sxc, sx, se, ↓reduceIte, Nat.reduceEqDiff, Nat.reduceAdd, Nat.reduceLT, Nat.reduceLeDiff, Nat.reduceSub, Nat.reduceMul, Int.reduceToNat, Int.reduceLT, Int.reduceLE, Int.reduceEq, ml_i0, ↓smc, sm, c89, hC1]; exact hQ) ?_
   refine W_cutP (fun st => ∃ e m2 s1, st = ⟨(1, .int .u8 a) :: e, [(2, vSys s), (7, .agg [.row 3 hp' 0 s.pools.length, .row 1 hl' 0 s.locks.length, C])], [], m2⟩ ∧ frz 0 m2 3 (.agg [.row 3 hp' 0 s.pools.length, .row 1 hl' 0 s.locks.length, C]) = some (vSys s1) ∧ (makE s1).2 = 0) (fun Q hQ => ?_) ?_
   ·have hlen := hcl.len
    by_cases hn : s.cls = []
    ·have n0 : ¬ (0 : Int) < (s.cls.length : Int) := by rw [hn]; simp
     simp only [↓sxc, sx, se, ↓reduceIte, Nat.reduceEqDiff, Nat.reduceAdd, Nat.reduceLT, Nat.reduceLeDiff, Nat.reduceSub, Nat.reduceMul, Int.reduceToNat, Int.reduceLT, Int.reduceLE, Int.reduceEq, ml_i0, ↓smc, sm, hlen, n0]
     exact hQ _ ⟨_, m1, s, rfl, fr1, hm⟩
    ·have hcp' : 0 < s.cls.length := List.length_pos_iff.2 hn
     have n0 : (0 : Int) < (s.cls.length : Int) := by omega
     obtain ⟨hC, es, rfl, r1, r2, r3, r4⟩ := hcl.row hn
     have e2 := rm_i64 (x := a) (y := (s.cls.length : Int)) ha0.1 (by omega)
     have q1 := Int.emod_nonneg a (b := (s.cls.length : Int)) (by omega)
     have q2 := Int.emod_lt_of_pos a (b := (s.cls.length : Int)) (by omega)
     obtain ⟨i, hi⟩ : ∃ i : Nat, a % (s.cls.length : Int) = i := ⟨(a % (s.cls.length : Int)).toNat, by omega⟩
     rw [hi] at e2 q1 q2
     have hil : i < s.cls.length := by omega
     have hc : s.cls[i]? = some s.cls[i] := List.getElem?_eq_getElem hil
     generalize s.cls[i] = c at hc
     obtain ⟨hk, g1, g2, g3, g4, g5⟩ := r4 i c hc
     have in_ : ((i : Nat) : Int).toNat = i := rfl
     have ck := hv.okC c (List.mem_of_getElem? hc)
     have w0 := ck.w0
     have w4 := ck.w4
     have cc : V.cells (cpC c hk) = [.str c.name, vi c.wk, .bool c.srv, .row 4 hk 0 c.steps.length] := rfl
     by_cases hw : 1 < c.wk
     ·have wr : wrapF .i64 (c.wk - 1) = c.wk - 1 := wr_i64 (by omega) (by omega)
      have sc : setC 1 1 (vi (c.wk - 1)) (cpC c hk) = some (cpC ⟨c.name, c.wk - 1, c.srv, c.steps⟩ hk) := rfl
      have z0 : 0 ≤ hC := Nat.zero_le _
      simp only [↓sxc, sx, se, ↓reduceIte, Nat.reduceEqDiff, Nat.reduceAdd, Nat.reduceLT, Nat.reduceLeDiff, Nat.reduceSub, Nat.reduceMul, Int.reduceToNat, Int.reduceLT, Int.reduceLE, Int.reduceEq, ml_i0, ↓smc, sm, hlen, n0, e1, e2, q1, q2, in_, r2, g1, cc, hw, wr, sc, z0]
      have hcs := CpS.setw (lo := 0) (m := m1.bump 10) (s := s) (i := i) (c := c) (c' := ⟨c.name, c.wk - 1, c.srv, c.steps⟩) (hk := hk) (es := es) a1 b1 hpl hb hcl.bump r1 r2 hc g1 rfl
      exact hQ _ ⟨_, _, setW s i ⟨c.name, c.wk - 1, c.srv, c.steps⟩, rfl, hcs.frv, (setW_lw h0 hc hw).mak hm⟩
     ·have hcs : CpS 0 (m1.bump 10) (.agg [.row 3 hp' 0 s.pools.length, .row 1 hl' 0 s.locks.length, .row 4 hC 0 s.cls.length]) s := ⟨hp', hl', _, b, rfl, a1, b1, hpl, hb, hcl.bump⟩
      simp only [↓sxc, sx, se, ↓reduceIte, Nat.reduceEqDiff, Nat.reduceAdd, Nat.reduceLT, Nat.reduceLeDiff, Nat.reduceSub, Nat.reduceMul, Int.reduceToNat, Int.reduceLT, Int.reduceLE, Int.reduceEq, ml_i0, ↓smc, sm, hlen, n0, e1, e2, q1, q2, in_, r2, g1, cc, hw]
      exact hQ _ ⟨_, _, s, rfl, hcs.frv, hm⟩
   ·rintro _ ⟨e, m2, s1, rfl, fr2, hm2⟩
    refine W_cut (st' := ⟨[(1, .int .u8 a), (10, vi 0)], [(2, vSys s)], [], m2.kill 0⟩) (fun Q hQ => by simp only [↓sxc, sx, se, ↓reduceIte, Nat.reduceEqDiff, Nat.reduceAdd, Nat.reduceLT, Nat.reduceLeDiff, Nat.reduceSub, Nat.reduceMul, Int.reduceToNat, Int.reduceLT, Int.reduceLE, Int.reduceEq, ml_i0, ↓smc, sm, ↓S_frz, fr2, c50, hm2]; exact hQ) ?_
    generalize m2.kill 0 = m3
    obtain ⟨v, m4, c89, hcp, hm1, _⟩ := sp89 hasC.h89 (lo := 0) (m := m3) s (Nat.zero_le _) (by omega) (by omega) (by omega) hsl
    have hcp : CpS 0 m4 v s := hcp.weak (Nat.zero_le _)
    have fr1 := hcp.frv
    obtain ⟨hp', hl', C, b, rfl, a1, b1, hpl, hb, hcl⟩ := hcp.ex
    have hC1 : C.one = true := by
     obtain ⟨es, r1, _⟩ := hcl.ex
     rcases r1 with ⟨rfl, _⟩ | ⟨h, rfl, h1, _⟩ <;> rfl
    refine W_cut (st' := ⟨[(1, .int .u8 a), (10, vi 0)], [(11, .agg [.row 3 hp' 0 s.pools.length, .row 1 hl' 0 s.locks.length, C])], [], m4⟩) (fun Q hQ => by simp only [↓sxc, sx, se, ↓reduceIte, Nat.reduceEqDiff, Nat.reduceAdd, Nat.reduceLT, Nat.reduceLeDiff, Nat.reduceSub, Nat.reduceMul, Int.reduceToNat, Int.reduceLT, Int.reduceLE, Int.reduceEq, ml_i0, ↓smc, sm, c89, hC1]; exact hQ) ?_
    refine W_cutP (fun st => ∃ e m2 s1, st = ⟨e, [(11, .agg [.row 3 hp' 0 s.pools.length, .row 1 hl' 0 s.locks.length, C])], [], m2⟩ ∧ e.get 10 = some (vi 0) ∧ frz 0 m2 3 (.agg [.row 3 hp' 0 s.pools.length, .row 1 hl' 0 s.locks.length, C]) = some (vSys s1) ∧ (makE s1).2 = 0) (fun Q hQ => ?_) ?_
    ·by_cases hn : s.pools.length = 0
     ·have n0 : ¬ (0 : Int) < (s.pools.length : Int) := by rw [hn]; simp
      simp only [↓sxc, sx, se, ↓reduceIte, Nat.reduceEqDiff, Nat.reduceAdd, Nat.reduceLT, Nat.reduceLeDiff, Nat.reduceSub, Nat.reduceMul, Int.reduceToNat, Int.reduceLT, Int.reduceLE, Int.reduceEq, ml_i0, ↓smc, sm, n0]
      exact hQ _ ⟨_, m4, s, rfl, rfl, fr1, hm⟩
     ·have n0 : (0 : Int) < (s.pools.length : Int) := by omega
      have e2 := rm_i64 (x := a) (y := (s.pools.length : Int)) ha0.1 (by omega)
      have q1 := Int.emod_nonneg a (b := (s.pools.length : Int)) (by omega)
      have q2 := Int.emod_lt_of_pos a (b := (s.pools.length : Int)) (by omega)
      obtain ⟨i, hi⟩ : ∃ i : Nat, a % (s.pools.length : Int) = i := ⟨(a % (s.pools.length : Int)).toNat, by omega⟩
      rw [hi] at e2 q1 q2
      have hil : i < s.pools.length := by omega
      have hc : s.pools[i]? = some s.pools[i] := List.getElem?_eq_getElem hil
      generalize s.pools[i] = p at hc
      have in_ : ((i : Nat) : Int).toNat = i := rfl
      have hq := hv.pool p (List.mem_of_getElem? hc)
      have a3 := a1.2.2
      by_cases hw : p.size < 8
      ·have wr : wrapF .i64 (p.size + 1) = p.size + 1 := wr_i64 (by omega) (by omega)
       have sc : setC 1 1 (vi (p.size + 1)) (vPool p) = some (vPool ⟨p.name, p.size + 1, p.res⟩) := rfl
       have z0 : 0 ≤ hp' := Nat.zero_le _
       simp only [↓sxc, sx, se, ↓reduceIte, Nat.reduceEqDiff, Nat.reduceAdd, Nat.reduceLT, Nat.reduceLeDiff, Nat.reduceSub, Nat.reduceMul, Int.reduceToNat, Int.reduceLT, Int.reduceLE, Int.reduceEq, ml_i0, ↓smc, sm, n0, e1, e2, q1, q2, in_, a3, hc, hw, wr, sc, z0]
       have hcs := CpS.setp (lo := 0) (m := m4.bump 10) (s := s) (i := i) (p' := ⟨p.name, p.size + 1, p.res⟩) a1.1 a1.2.1 a1.2.2 b1 hpl hb hcl.bump
       exact hQ _ ⟨_, _, setP s i ⟨p.name, p.size + 1, p.res⟩, rfl, rfl, hcs.frv, (setP_lw h0 hc hw).mak hm⟩
      ·have hcs : CpS 0 (m4.bump 10) (.agg [.row 3 hp' 0 s.pools.length, .row 1 hl' 0 s.locks.length, C]) s := ⟨hp', hl', _, b, rfl, a1, b1, hpl, hb, hcl.bump⟩
       simp only [↓sxc, sx, se, ↓reduceIte, Nat.reduceEqDiff, Nat.reduceAdd, Nat.reduceLT, Nat.reduceLeDiff, Nat.reduceSub, Nat.reduceMul, Int.reduceToNat, Int.reduceLT, Int.reduceLE, Int.reduceEq, ml_i0, ↓smc, sm, n0, e1, e2, q1, q2, in_, a3, hc, hw]
       exact hQ _ ⟨_, _, s, rfl, rfl, hcs.frv, hm⟩
    ·rintro _ ⟨e, m5, s2, rfl, he, fr3, hm3⟩
     simp only [↓sxc, sx, se, ↓reduceIte, Nat.reduceEqDiff, Nat.reduceAdd, Nat.reduceLT, Nat.reduceLeDiff, Nat.reduceSub, Nat.reduceMul, Int.reduceToNat, Int.reduceLT, Int.reduceLE, Int.reduceEq, ml_i0, ↓smc, sm, ↓S_frz, fr3, c50, hm3, he]
  ·simp only [↓sxc, sx, se, ↓reduceIte, Nat.reduceEqDiff, Nat.reduceAdd, Nat.reduceLT, Nat.reduceLeDiff, Nat.reduceSub, Nat.reduceMul, Int.reduceToNat, Int.reduceLT, Int.reduceLE, Int.reduceEq, ml_i0, ↓smc, sm, ha, c28, hf, c50, hm]
end Go.Am
namespace Go.Proofs.Ytflfnkdhmcfjlaa
open Go Go.Am Go.ChangeShapes Go.WideShapes Go.ChangeAt Go.RowKit
set_option linter.unusedVariables false
theorem own : ownKnob Try.prog.godebug = none := by kernel_rfl
theorem kids : Kids Try.prog (· < Try.prog.types.size) := kids_rows (by kernel_rfl) (by kernel_rfl)
theorem full : ∀ t e, t < Try.prog.types.size → Try.prog.underlying t = some (.slice e) → 0 < Try.prog.cellsOf e := slices_full_of Try.prog (by kernel_rfl)
theorem fit : fitAll Try.prog Try.f24.params.toList [tSys, .int .u8] = true := by kernel_rfl
set_option maxRecDepth 100000 in
theorem lifted (os : Os) (started : os.Started) (H : Type) (enc : TypeId × Value → H) :
  ReturnsInHanded {} Try.checked os 24 .any (Rows.certificateFewerSpec.pre6 enc Try.prog Try.f24 Rows.certificateFewerRow.domain false) (Rows.certificateFewerSpec.post enc Try.prog Try.f24 false true false false) := by
 refine returnsInHanded_of_change (C := Try.checked) own started (by kernel_rfl) Try.func24
  (ChangeSpec.witness6 (enc := enc) (C := Try.checked) false ⟨#[], #[.agg #[.slice none 0 0, .slice none 0 0, .slice none 0 0], .int .u8 0], []⟩ 12 (by kernel_rfl) (by kernel_rfl) (by kernel_rfl) (by kernel_rfl)) ?_
 intro W base args ds gs before hval0 hW hcnd _
 have hval : ∀ (j : Nat) t v, Try.f24.params[j]? = some t → args[j]? = some v → Value.okWide Try.prog W .any base t v := hval0
 have hW' := hW
 obtain ⟨p, q, hA0, hV, rfl, hfz, hnd⟩ := hW
 have hA : DataW.TrodAll enc Try.prog W 0 (fun _ => true) true Try.f24.params.toList args.toList ds p := hA0
 obtain ⟨rfl, rfl⟩ := trodVars_none hV
 have hspec : Rows.certificateFewerSpec.fn H (ds ++ []) = { results := [.lit (.bool true)], args := ds } := by
  rw [Try.params24] at hA
  obtain ⟨v0, vs0, d0, ds0, p0, q0, _, rfl, _, _, r0⟩ := trodAll_cons hA
  obtain ⟨v1, vs1, d1, ds1, p1, q1, _, rfl, _, _, r1⟩ := trodAll_cons r0
  obtain ⟨_, rfl, _⟩ := trodAll_nil r1
  rfl
 refine (law_calls (P := Try.prog) (F := F43) mixed okAll (by decide) fit (fun us h => law24 us h) hA (fun j t v ht hv => hval j t v (by rw [← Array.getElem?_toList]; exact ht) hv)).mono fun e W' ⟨he, h1, h2, h3⟩ => ?_
 subst he
 exact ⟨_, rfl, kept_post hW' rfl hspec rfl Try.underlying4 kids full (by rw [Try.params24]; decide) h1 h2 h3⟩
theorem reached : Try.prog.closure 24 = [24, 79, 90, 50, 35, 49, 111, 112, 113, 153, 114, 121, 122, 154, 116, 120, 106, 155, 94, 92, 148, 97, 98, 54, 81, 142, 143, 141, 29, 41, 102, 83, 40, 103, 105, 152, 165, 168, 169, 107, 45, 52, 119, 86, 31, 28, 89] := by kernel_rfl
theorem noPlace : Try.prog.inPlace 24 = [] := by unfold Program.inPlace; rw [reached]; kernel_rfl
theorem follows : Try.prog.unfollowed 24 = true := by unfold Program.unfollowed; rw [reached]; kernel_rfl
theorem recurs : Try.prog.recurses 24 = true := by unfold Program.recurses; rw [follows]; rfl
theorem names : Try.prog.varsNamed 24 = [] := by unfold Program.varsNamed; rw [reached]; kernel_rfl
theorem shut : joinedFacts Try.prog 24 Try.f24 Rows.certificateFewerSpec Rows.certificateFewerRow = true :=
 joined 24 Try.f24 Rows.certificateFewerSpec Rows.certificateFewerRow (by kernel_rfl) (by kernel_rfl) (by kernel_rfl) (by kernel_rfl) (by kernel_rfl) noPlace follows recurs names
  (by kernel_rfl) (by kernel_rfl) (by kernel_rfl) (by kernel_rfl) (by kernel_rfl) (by kernel_rfl) (by kernel_rfl) (by kernel_rfl) (by kernel_rfl) rfl rfl rfl rfl (by kernel_rfl) (by kernel_rfl) (by kernel_rfl) (by kernel_rfl)
theorem over : Rows.certificateFewerRow.holds Try.pinned (OpenSpec.ofChange Rows.certificateFewerSpec) :=
 OpenClaim.holds_of_wide 24 Try.f24 rfl rfl rfl rfl rfl rfl rfl ⟨rfl, rfl, rfl, rfl, rfl⟩ rfl rfl rfl rfl rfl (by kernel_rfl) Try.func24 shut
  (of_decide_eq_true (by kernel_rfl)) (by unfold Func.isWrapper; first | (rw [if_pos (by decide +kernel)]; kernel_rfl) | (rw [if_neg (by decide +kernel)]; exact ⟨rfl, rfl⟩))
  (fun os started H enc _ => lifted os started H enc)
theorem certificateFewer_holds : Rows.CertificateFewerSaid := over
end Go.Proofs.Ytflfnkdhmcfjlaa
