/- The law CertificateReserves holds: with the reserve that Enough returns no step with Deep from the pool may wait, and with a smaller one it may, unless the pool is ample; no conditions. -/
import Derived.Test.YtflfnkdhmcfjlaaN25g
import Derived.Test.YtflfnkdhmcfjlaaRows
namespace Go.Proofs.Ytflfnkdhmcfjlaa
open Go Go.ChangeShapes Go.WideShapes Go.ChangeAt Go.RowKit
set_option maxRecDepth 100000
def headChars : List Char := [104, 97, 114, 110, 101, 115, 115, 32, 48, 56, 51, 102, 99, 52, 51, 55, 100, 52, 99, 51, 102, 98, 53, 102, 99, 57, 100, 99, 49, 102, 52, 101, 57, 55, 52, 50, 54, 57, 54, 101, 48, 57, 98, 102, 56, 51, 56, 100, 48, 48, 51, 55, 53, 57, 102, 55, 51, 97, 51, 56, 98, 51, 56, 53, 55, 57, 100, 54, 102, 49, 53, 49, 32, 99, 117, 116, 32, 97, 116, 32, 101, 115, 116, 111, 118, 101, 114, 115, 47, 101, 115, 116, 111, 118, 101, 114, 115, 108, 97, 119, 52, 50, 46, 87, 97, 105, 116, 103, 114, 97, 112, 104, 68, 101, 109, 97, 110, 100, 115, 32, 101, 115, 116, 111, 118, 101, 114, 115, 47, 101, 115, 116, 111, 118, 101, 114, 115, 108, 97, 119, 52, 50, 46, 87, 97, 105, 116, 103, 114, 97, 112, 104, 69, 100, 103, 101, 115, 32, 101, 115, 116, 111, 118, 101, 114, 115, 47, 101, 115, 116, 111, 118, 101, 114, 115, 108, 97, 119, 52, 50, 46, 87, 97, 105, 116, 103, 114, 97, 112, 104, 71, 114, 97, 112, 104, 115, 32, 101, 115, 116, 111, 118, 101, 114, 115, 47, 101, 115, 116, 111, 118, 101, 114, 115, 108, 97, 119, 52, 50, 46, 87, 97, 105, 116, 103, 114, 97, 112, 104, 67, 121, 99, 108, 101, 115, 32, 101, 115, 116, 111, 118, 101, 114, 115, 47, 101, 115, 116, 111, 118, 101, 114, 115, 108, 97, 119, 52, 50, 46, 87, 97, 105, 116, 103, 114, 97, 112, 104, 76, 101, 118, 101, 108, 115, 32, 101, 115, 116, 111, 118, 101, 114, 115, 47, 101, 115, 116, 111, 118, 101, 114, 115, 108, 97, 119, 52, 50, 46, 87, 97, 105, 116, 103, 114, 97, 112, 104, 67, 111, 109, 112, 111, 110, 101, 110, 116, 115, 32, 101, 115, 116, 111, 118, 101, 114, 115, 47, 101, 115, 116, 111, 118, 101, 114, 115, 116, 111, 112, 46, 84, 111, 112, 65, 115, 99, 101, 110, 100, 105, 110, 103, 32, 101, 115, 116, 111, 118, 101, 114, 115, 47, 101, 115, 116, 111, 118, 101, 114, 115, 108, 97, 119, 52, 50, 46, 87, 97, 105, 116, 103, 114, 97, 112, 104, 72, 111, 108, 100, 115, 32, 101, 115, 116, 111, 118, 101, 114, 115, 47, 101, 115, 116, 111, 118, 101, 114, 115, 108, 97, 119, 52, 52, 46, 69, 120, 112, 108, 111, 114, 101, 67, 104, 101, 99, 107, 115, 32, 101, 115, 116, 111, 118, 101, 114, 115, 47, 101, 115, 116, 111, 118, 101, 114, 115, 116, 111, 112, 46, 84, 111, 112, 78, 101, 118, 101, 114, 83, 116, 111, 112, 115, 32, 101, 115, 116, 111, 118, 101, 114, 115, 47, 101, 115, 116, 111, 118, 101, 114, 115, 108, 97, 119, 52, 52, 46, 69, 120, 112, 108, 111, 114, 101, 82, 101, 97, 99, 104, 101, 115, 32, 101, 115, 116, 111, 118, 101, 114, 115, 47, 101, 115, 116, 111, 118, 101, 114, 115, 108, 97, 119, 52, 52, 46, 69, 120, 112, 108, 111, 114, 101, 82, 101, 112, 108, 97, 121, 115, 32, 101, 115, 116, 111, 118, 101, 114, 115, 47, 101, 115, 116, 111, 118, 101, 114, 115, 108, 97, 119, 52, 52, 46, 69, 120, 112, 108, 111, 114, 101, 84, 97, 107, 101, 114, 115, 32, 101, 115, 116, 111, 118, 101, 114, 115, 47, 101, 115, 116, 111, 118, 101, 114, 115, 108, 97, 119, 52, 52, 46, 69, 120, 112, 108, 111, 114, 101, 80, 104, 105, 108, 111, 115, 111, 112, 104, 101, 114, 115, 32, 101, 115, 116, 111, 118, 101, 114, 115, 47, 101, 115, 116, 111, 118, 101, 114, 115, 108, 97, 119, 52, 52, 46, 69, 120, 112, 108, 111, 114, 101, 83, 116, 101, 112, 115, 32, 101, 115, 116, 111, 118, 101, 114, 115, 47, 101, 115, 116, 111, 118, 101, 114, 115, 108, 97, 119, 52, 52, 46, 69, 120, 112, 108, 111, 114, 101, 83, 97, 102, 101, 32, 101, 115, 116, 111, 118, 101, 114, 115, 47, 101, 115, 116, 111, 118, 101, 114, 115, 108, 97, 119, 52, 51, 46, 67, 101, 114, 116, 105, 102, 105, 99, 97, 116, 101, 77, 97, 107, 101, 115, 32, 101, 115, 116, 111, 118, 101, 114, 115, 47, 101, 115, 116, 111, 118, 101, 114, 115, 108, 97, 119, 52, 51, 46, 67, 101, 114, 116, 105, 102, 105, 99, 97, 116, 101, 86, 101, 114, 105, 102, 105, 101, 115, 32, 101, 115, 116, 111, 118, 101, 114, 115, 47, 101, 115, 116, 111, 118, 101, 114, 115, 108, 97, 119, 52, 51, 46, 67, 101, 114, 116, 105, 102, 105, 99, 97, 116, 101, 82, 111, 117, 110, 100, 32, 101, 115, 116, 111, 118, 101, 114, 115, 47, 101, 115, 116, 111, 118, 101, 114, 115, 108, 97, 119, 52, 51, 46, 67, 101, 114, 116, 105, 102, 105, 99, 97, 116, 101, 69, 120, 112, 108, 97, 105, 110, 115, 32, 101, 115, 116, 111, 118, 101, 114, 115, 47, 101, 115, 116, 111, 118, 101, 114, 115, 108, 97, 119, 52, 51, 46, 67, 101, 114, 116, 105, 102, 105, 99, 97, 116, 101, 83, 99, 97, 108, 101, 115, 32, 101, 115, 116, 111, 118, 101, 114, 115, 47, 101, 115, 116, 111, 118, 101, 114, 115, 108, 97, 119, 52, 51, 46, 67, 101, 114, 116, 105, 102, 105, 99, 97, 116, 101, 70, 101, 119, 101, 114, 32, 101, 115, 116, 111, 118, 101, 114, 115, 47, 101, 115, 116, 111, 118, 101, 114, 115, 108, 97, 119, 52, 51, 46, 67, 101, 114, 116, 105, 102, 105, 99, 97, 116, 101, 82, 101, 115, 101, 114, 118, 101, 115, 32, 101, 115, 116, 111, 118, 101, 114, 115, 47, 101, 115, 116, 111, 118, 101, 114, 115, 108, 97, 119, 52, 52, 46, 69, 120, 112, 108, 111, 114, 101, 67, 101, 114, 116, 105, 102, 105, 101, 100].map Char.ofNat
def headWords : List (List Char) := [[104, 97, 114, 110, 101, 115, 115], [48, 56, 51, 102, 99, 52, 51, 55, 100, 52, 99, 51, 102, 98, 53, 102, 99, 57, 100, 99, 49, 102, 52, 101, 57, 55, 52, 50, 54, 57, 54, 101, 48, 57, 98, 102, 56, 51, 56, 100, 48, 48, 51, 55, 53, 57, 102, 55, 51, 97, 51, 56, 98, 51, 56, 53, 55, 57, 100, 54, 102, 49, 53, 49], [99, 117, 116], [97, 116], [101, 115, 116, 111, 118, 101, 114, 115, 47, 101, 115, 116, 111, 118, 101, 114, 115, 108, 97, 119, 52, 50, 46, 87, 97, 105, 116, 103, 114, 97, 112, 104, 68, 101, 109, 97, 110, 100, 115], [101, 115, 116, 111, 118, 101, 114, 115, 47, 101, 115, 116, 111, 118, 101, 114, 115, 108, 97, 119, 52, 50, 46, 87, 97, 105, 116, 103, 114, 97, 112, 104, 69, 100, 103, 101, 115], [101, 115, 116, 111, 118, 101, 114, 115, 47, 101, 115, 116, 111, 118, 101, 114, 115, 108, 97, 119, 52, 50, 46, 87, 97, 105, 116, 103, 114, 97, 112, 104, 71, 114, 97, 112, 104, 115], [101, 115, 116, 111, 118, 101, 114, 115, 47, 101, 115, 116, 111, 118, 101, 114, 115, 108, 97, 119, 52, 50, 46, 87, 97, 105, 116, 103, 114, 97, 112, 104, 67, 121, 99, 108, 101, 115], [101, 115, 116, 111, 118, 101, 114, 115, 47, 101, 115, 116, 111, 118, 101, 114, 115, 108, 97, 119, 52, 50, 46, 87, 97, 105, 116, 103, 114, 97, 112, 104, 76, 101, 118, 101, 108, 115], [101, 115, 116, 111, 118, 101, 114, 115, 47, 101, 115, 116, 111, 118, 101, 114, 115, 108, 97, 119, 52, 50, 46, 87, 97, 105, 116, 103, 114, 97, 112, 104, 67, 111, 109, 112, 111, 110, 101, 110, 116, 115], [101, 115, 116, 111, 118, 101, 114, 115, 47, 101, 115, 116, 111, 118, 101, 114, 115, 116, 111, 112, 46, 84, 111, 112, 65, 115, 99, 101, 110, 100, 105, 110, 103], [101, 115, 116, 111, 118, 101, 114, 115, 47, 101, 115, 116, 111, 118, 101, 114, 115, 108, 97, 119, 52, 50, 46, 87, 97, 105, 116, 103, 114, 97, 112, 104, 72, 111, 108, 100, 115], [101, 115, 116, 111, 118, 101, 114, 115, 47, 101, 115, 116, 111, 118, 101, 114, 115, 108, 97, 119, 52, 52, 46, 69, 120, 112, 108, 111, 114, 101, 67, 104, 101, 99, 107, 115], [101, 115, 116, 111, 118, 101, 114, 115, 47, 101, 115, 116, 111, 118, 101, 114, 115, 116, 111, 112, 46, 84, 111, 112, 78, 101, 118, 101, 114, 83, 116, 111, 112, 115], [101, 115, 116, 111, 118, 101, 114, 115, 47, 101, 115, 116, 111, 118, 101, 114, 115, 108, 97, 119, 52, 52, 46, 69, 120, 112, 108, 111, 114, 101, 82, 101, 97, 99, 104, 101, 115], [101, 115, 116, 111, 118, 101, 114, 115, 47, 101, 115, 116, 111, 118, 101, 114, 115, 108, 97, 119, 52, 52, 46, 69, 120, 112, 108, 111, 114, 101, 82, 101, 112, 108, 97, 121, 115], [101, 115, 116, 111, 118, 101, 114, 115, 47, 101, 115, 116, 111, 118, 101, 114, 115, 108, 97, 119, 52, 52, 46, 69, 120, 112, 108, 111, 114, 101, 84, 97, 107, 101, 114, 115], [101, 115, 116, 111, 118, 101, 114, 115, 47, 101, 115, 116, 111, 118, 101, 114, 115, 108, 97, 119, 52, 52, 46, 69, 120, 112, 108, 111, 114, 101, 80, 104, 105, 108, 111, 115, 111, 112, 104, 101, 114, 115], [101, 115, 116, 111, 118, 101, 114, 115, 47, 101, 115, 116, 111, 118, 101, 114, 115, 108, 97, 119, 52, 52, 46, 69, 120, 112, 108, 111, 114, 101, 83, 116, 101, 112, 115], [101, 115, 116, 111, 118, 101, 114, 115, 47, 101, 115, 116, 111, 118, 101, 114, 115, 108, 97, 119, 52, 52, 46, 69, 120, 112, 108, 111, 114, 101, 83, 97, 102, 101], [101, 115, 116, 111, 118, 101, 114, 115, 47, 101, 115, 116, 111, 118, 101, 114, 115, 108, 97, 119, 52, 51, 46, 67, 101, 114, 116, 105, 102, 105, 99, 97, 116, 101, 77, 97, 107, 101, 115], [101, 115, 116, 111, 118, 101, 114, 115, 47, 101, 115, 116, 111, 118, 101, 114, 115, 108, 97, 119, 52, 51, 46, 67, 101, 114, 116, 105, 102, 105, 99, 97, 116, 101, 86, 101, 114, 105, 102, 105, 101, 115], [101, 115, 116, 111, 118, 101, 114, 115, 47, 101, 115, 116, 111, 118, 101, 114, 115, 108, 97, 119, 52, 51, 46, 67, 101, 114, 116, 105, 102, 105, 99, 97, 116, 101, 82, 111, 117, 110, 100], [101, 115, 116, 111, 118, 101, 114, 115, 47, 101, 115, 116, 111, 118, 101, 114, 115, 108, 97, 119, 52, 51, 46, 67, 101, 114, 116, 105, 102, 105, 99, 97, 116, 101, 69, 120, 112, 108, 97, 105, 110, 115], [101, 115, 116, 111, 118, 101, 114, 115, 47, 101, 115, 116, 111, 118, 101, 114, 115, 108, 97, 119, 52, 51, 46, 67, 101, 114, 116, 105, 102, 105, 99, 97, 116, 101, 83, 99, 97, 108, 101, 115], [101, 115, 116, 111, 118, 101, 114, 115, 47, 101, 115, 116, 111, 118, 101, 114, 115, 108, 97, 119, 52, 51, 46, 67, 101, 114, 116, 105, 102, 105, 99, 97, 116, 101, 70, 101, 119, 101, 114], [101, 115, 116, 111, 118, 101, 114, 115, 47, 101, 115, 116, 111, 118, 101, 114, 115, 108, 97, 119, 52, 51, 46, 67, 101, 114, 116, 105, 102, 105, 99, 97, 116, 101, 82, 101, 115, 101, 114, 118, 101, 115], [101, 115, 116, 111, 118, 101, 114, 115, 47, 101, 115, 116, 111, 118, 101, 114, 115, 108, 97, 119, 52, 52, 46, 69, 120, 112, 108, 111, 114, 101, 67, 101, 114, 116, 105, 102, 105, 101, 100]].map (List.map Char.ofNat)
theorem head_lit : Try.prog.initOrder = "harness 083fc437d4c3fb5fc9dc1f4e9742696e09bf838d003759f73a38b38579d6f151 cut at estovers/estoverslaw42.WaitgraphDemands estovers/estoverslaw42.WaitgraphEdges estovers/estoverslaw42.WaitgraphGraphs estovers/estoverslaw42.WaitgraphCycles estovers/estoverslaw42.WaitgraphLevels estovers/estoverslaw42.WaitgraphComponents estovers/estoverstop.TopAscending estovers/estoverslaw42.WaitgraphHolds estovers/estoverslaw44.ExploreChecks estovers/estoverstop.TopNeverStops estovers/estoverslaw44.ExploreReaches estovers/estoverslaw44.ExploreReplays estovers/estoverslaw44.ExploreTakers estovers/estoverslaw44.ExplorePhilosophers estovers/estoverslaw44.ExploreSteps estovers/estoverslaw44.ExploreSafe estovers/estoverslaw43.CertificateMakes estovers/estoverslaw43.CertificateVerifies estovers/estoverslaw43.CertificateRound estovers/estoverslaw43.CertificateExplains estovers/estoverslaw43.CertificateScales estovers/estoverslaw43.CertificateFewer estovers/estoverslaw43.CertificateReserves estovers/estoverslaw44.ExploreCertified" := by kernel_rfl
theorem lit_chars : "harness 083fc437d4c3fb5fc9dc1f4e9742696e09bf838d003759f73a38b38579d6f151 cut at estovers/estoverslaw42.WaitgraphDemands estovers/estoverslaw42.WaitgraphEdges estovers/estoverslaw42.WaitgraphGraphs estovers/estoverslaw42.WaitgraphCycles estovers/estoverslaw42.WaitgraphLevels estovers/estoverslaw42.WaitgraphComponents estovers/estoverstop.TopAscending estovers/estoverslaw42.WaitgraphHolds estovers/estoverslaw44.ExploreChecks estovers/estoverstop.TopNeverStops estovers/estoverslaw44.ExploreReaches estovers/estoverslaw44.ExploreReplays estovers/estoverslaw44.ExploreTakers estovers/estoverslaw44.ExplorePhilosophers estovers/estoverslaw44.ExploreSteps estovers/estoverslaw44.ExploreSafe estovers/estoverslaw43.CertificateMakes estovers/estoverslaw43.CertificateVerifies estovers/estoverslaw43.CertificateRound estovers/estoverslaw43.CertificateExplains estovers/estoverslaw43.CertificateScales estovers/estoverslaw43.CertificateFewer estovers/estoverslaw43.CertificateReserves estovers/estoverslaw44.ExploreCertified" = String.ofList headChars := by kernel_rfl
theorem head_is : Try.prog.initOrder = String.ofList headChars := head_lit.trans lit_chars
theorem head_chars : Try.prog.initOrder.toList = headChars := by rw [head_is, String.toList_ofList]
theorem head_words : wordsSigns headChars = headWords := by kernel_rfl
def cutWord : List Char := [99, 117, 116].map Char.ofNat
def restWords : List (List Char) := [[97, 116], [101, 115, 116, 111, 118, 101, 114, 115, 47, 101, 115, 116, 111, 118, 101, 114, 115, 108, 97, 119, 52, 50, 46, 87, 97, 105, 116, 103, 114, 97, 112, 104, 68, 101, 109, 97, 110, 100, 115], [101, 115, 116, 111, 118, 101, 114, 115, 47, 101, 115, 116, 111, 118, 101, 114, 115, 108, 97, 119, 52, 50, 46, 87, 97, 105, 116, 103, 114, 97, 112, 104, 69, 100, 103, 101, 115], [101, 115, 116, 111, 118, 101, 114, 115, 47, 101, 115, 116, 111, 118, 101, 114, 115, 108, 97, 119, 52, 50, 46, 87, 97, 105, 116, 103, 114, 97, 112, 104, 71, 114, 97, 112, 104, 115], [101, 115, 116, 111, 118, 101, 114, 115, 47, 101, 115, 116, 111, 118, 101, 114, 115, 108, 97, 119, 52, 50, 46, 87, 97, 105, 116, 103, 114, 97, 112, 104, 67, 121, 99, 108, 101, 115], [101, 115, 116, 111, 118, 101, 114, 115, 47, 101, 115, 116, 111, 118, 101, 114, 115, 108, 97, 119, 52, 50, 46, 87, 97, 105, 116, 103, 114, 97, 112, 104, 76, 101, 118, 101, 108, 115], [101, 115, 116, 111, 118, 101, 114, 115, 47, 101, 115, 116, 111, 118, 101, 114, 115, 108, 97, 119, 52, 50, 46, 87, 97, 105, 116, 103, 114, 97, 112, 104, 67, 111, 109, 112, 111, 110, 101, 110, 116, 115], [101, 115, 116, 111, 118, 101, 114, 115, 47, 101, 115, 116, 111, 118, 101, 114, 115, 116, 111, 112, 46, 84, 111, 112, 65, 115, 99, 101, 110, 100, 105, 110, 103], [101, 115, 116, 111, 118, 101, 114, 115, 47, 101, 115, 116, 111, 118, 101, 114, 115, 108, 97, 119, 52, 50, 46, 87, 97, 105, 116, 103, 114, 97, 112, 104, 72, 111, 108, 100, 115], [101, 115, 116, 111, 118, 101, 114, 115, 47, 101, 115, 116, 111, 118, 101, 114, 115, 108, 97, 119, 52, 52, 46, 69, 120, 112, 108, 111, 114, 101, 67, 104, 101, 99, 107, 115], [101, 115, 116, 111, 118, 101, 114, 115, 47, 101, 115, 116, 111, 118, 101, 114, 115, 116, 111, 112, 46, 84, 111, 112, 78, 101, 118, 101, 114, 83, 116, 111, 112, 115], [101, 115, 116, 111, 118, 101, 114, 115, 47, 101, 115, 116, 111, 118, 101, 114, 115, 108, 97, 119, 52, 52, 46, 69, 120, 112, 108, 111, 114, 101, 82, 101, 97, 99, 104, 101, 115], [101, 115, 116, 111, 118, 101, 114, 115, 47, 101, 115, 116, 111, 118, 101, 114, 115, 108, 97, 119, 52, 52, 46, 69, 120, 112, 108, 111, 114, 101, 82, 101, 112, 108, 97, 121, 115], [101, 115, 116, 111, 118, 101, 114, 115, 47, 101, 115, 116, 111, 118, 101, 114, 115, 108, 97, 119, 52, 52, 46, 69, 120, 112, 108, 111, 114, 101, 84, 97, 107, 101, 114, 115], [101, 115, 116, 111, 118, 101, 114, 115, 47, 101, 115, 116, 111, 118, 101, 114, 115, 108, 97, 119, 52, 52, 46, 69, 120, 112, 108, 111, 114, 101, 80, 104, 105, 108, 111, 115, 111, 112, 104, 101, 114, 115], [101, 115, 116, 111, 118, 101, 114, 115, 47, 101, 115, 116, 111, 118, 101, 114, 115, 108, 97, 119, 52, 52, 46, 69, 120, 112, 108, 111, 114, 101, 83, 116, 101, 112, 115], [101, 115, 116, 111, 118, 101, 114, 115, 47, 101, 115, 116, 111, 118, 101, 114, 115, 108, 97, 119, 52, 52, 46, 69, 120, 112, 108, 111, 114, 101, 83, 97, 102, 101], [101, 115, 116, 111, 118, 101, 114, 115, 47, 101, 115, 116, 111, 118, 101, 114, 115, 108, 97, 119, 52, 51, 46, 67, 101, 114, 116, 105, 102, 105, 99, 97, 116, 101, 77, 97, 107, 101, 115], [101, 115, 116, 111, 118, 101, 114, 115, 47, 101, 115, 116, 111, 118, 101, 114, 115, 108, 97, 119, 52, 51, 46, 67, 101, 114, 116, 105, 102, 105, 99, 97, 116, 101, 86, 101, 114, 105, 102, 105, 101, 115], [101, 115, 116, 111, 118, 101, 114, 115, 47, 101, 115, 116, 111, 118, 101, 114, 115, 108, 97, 119, 52, 51, 46, 67, 101, 114, 116, 105, 102, 105, 99, 97, 116, 101, 82, 111, 117, 110, 100], [101, 115, 116, 111, 118, 101, 114, 115, 47, 101, 115, 116, 111, 118, 101, 114, 115, 108, 97, 119, 52, 51, 46, 67, 101, 114, 116, 105, 102, 105, 99, 97, 116, 101, 69, 120, 112, 108, 97, 105, 110, 115], [101, 115, 116, 111, 118, 101, 114, 115, 47, 101, 115, 116, 111, 118, 101, 114, 115, 108, 97, 119, 52, 51, 46, 67, 101, 114, 116, 105, 102, 105, 99, 97, 116, 101, 83, 99, 97, 108, 101, 115], [101, 115, 116, 111, 118, 101, 114, 115, 47, 101, 115, 116, 111, 118, 101, 114, 115, 108, 97, 119, 52, 51, 46, 67, 101, 114, 116, 105, 102, 105, 99, 97, 116, 101, 70, 101, 119, 101, 114], [101, 115, 116, 111, 118, 101, 114, 115, 47, 101, 115, 116, 111, 118, 101, 114, 115, 108, 97, 119, 52, 51, 46, 67, 101, 114, 116, 105, 102, 105, 99, 97, 116, 101, 82, 101, 115, 101, 114, 118, 101, 115], [101, 115, 116, 111, 118, 101, 114, 115, 47, 101, 115, 116, 111, 118, 101, 114, 115, 108, 97, 119, 52, 52, 46, 69, 120, 112, 108, 111, 114, 101, 67, 101, 114, 116, 105, 102, 105, 101, 100]].map (List.map Char.ofNat)
theorem behind : behindMainWord headWords = cutWord :: restWords := by kernel_rfl
theorem strip : stripLifts liftWords (cutWord :: restWords) = ([], cutWord :: restWords) := by kernel_rfl
theorem w1 : (cutWord == "gc".toList) = false := by kernel_rfl
theorem w2 : (cutWord == "spec".toList) = false := by kernel_rfl
theorem w3 : (cutWord == "cut".toList) = true := by kernel_rfl
theorem w4 : (cutWord == "carried".toList) = false := by kernel_rfl
theorem later : Try.prog.laysLater = false := by kernel_rfl
theorem reflects : Try.prog.bearsReflect = false := by kernel_rfl
theorem doors : Try.prog.doorFits [] = true := by kernel_rfl
theorem w5 : ((cutWord :: restWords).head? == some "cut".toList) = true := by kernel_rfl
theorem enters_of (P : Program) (l : List Char) (ws : List (List Char)) (c : List Char) (rest : List (List Char)) (h1 : P.initOrder.toList = l) (h2 : wordsSigns l = ws) (h3 : behindMainWord ws = c :: rest)
  (k : stripLifts liftWords (c :: rest) = ([], c :: rest)) (k1 : (c == "gc".toList) = false) (k2 : (c == "spec".toList) = false) (k5 : ((c :: rest).head? == some "cut".toList) = true)
  (k6 : P.laysLater = false) (k7 : P.bearsReflect = false) (k8 : P.doorFits [] = true) : P.mayEnter = true := by
 unfold Program.mayEnter
 rw [h1, h2, h3]
 dsimp only
 rw [k, k1, k2]
 dsimp only
 rw [k5, k6, k7, k8]
 simp
theorem enters : Try.prog.mayEnter = true := enters_of Try.prog headChars headWords cutWord restWords head_chars head_words behind strip w1 w2 w5 later reflects doors
theorem noLifts : Try.prog.headLifts = [] := by
 unfold Program.headLifts
 rw [head_chars, head_words]
 kernel_rfl
theorem noFinal : Try.prog.liftsFinal = false := by
 unfold Program.liftsFinal
 rw [head_chars, head_words, noLifts]
 kernel_rfl
theorem made_of (P : Program) (l : List Char) (ws : List (List Char)) (c : List Char) (rest : List (List Char)) (h1 : P.initOrder.toList = l) (h2 : wordsSigns l = ws) (h3 : behindMainWord ws = c :: rest)
  (k1 : (c == "gc".toList) = false) (k2 : (c == "spec".toList) = false) (k3 : (c == "cut".toList) = true) : P.make = some .cut := by
 unfold Program.make
 rw [h1, h2, h3]
 dsimp only
 rw [k1, k2, k3]
 rfl
theorem made : Try.prog.make = some .cut := made_of Try.prog headChars headWords cutWord restWords head_chars head_words behind w1 w2 w3
theorem laid : laidOutB Try.prog = true := by kernel_rfl
theorem rowed : mapsRowed Try.prog = true := by kernel_rfl
theorem unstopped : Try.prog.stops = [] := by kernel_rfl
theorem unknobbed : Try.prog.stopKnobs = [] := by kernel_rfl
theorem noPlain : Try.prog.plainKeys = false := by kernel_rfl
theorem heard : Try.prog.stopsHeard = true := by kernel_rfl
theorem joined (f : FuncId) (fn : Func) (s : ChangeSpec) (c : OpenClaim)
  (k1 : c.wf (OpenSpec.ofChange s) = true) (k4 : fn.params.all (Try.prog.readableRec ·) = true) (k5 : namedTie Try.prog c.named s.vars = true) (k6 : (c.stops == []) = true) (k8 : (c.knobs == []) = true)
  (k10 : Try.prog.inPlace f = c.inPlace) (k11 : Try.prog.unfollowed f = c.unfollowed) (k12 : Try.prog.recurses f = c.recurses) (k13 : Try.prog.varsNamed f = c.named)
  (k14 : (c.maps == (fn.params.toList ++ s.plain.varTypes Try.prog).any (Try.prog.mapsRec ·)) = true) (k15 : (c.ifaces == (fn.params.toList ++ s.plain.varTypes Try.prog).any (Try.prog.ifacesRec ·)) = true) (k16 : (c.mapsOut == Try.prog.mapsAmong fn.resultTypes.toList) = true)
  (k17 : (c.loops == (fn.params.toList ++ s.plain.varTypes Try.prog).any (Try.prog.loopsFrom ·)) = true) (k18 : (c.wideKeys == (fn.params.toList ++ s.plain.varTypes Try.prog ++ fn.resultTypes.toList).any (Try.prog.wideKeysFrom ·)) = true)
  (k19 : s.vars.all (Try.prog.varReadable ·) = true) (k20 : fn.resultTypes.all (fun t => Try.prog.readableRec t && decide (t < Try.prog.types.size)) = true) (k21 : (c.ifacesOut == fn.resultTypes.toList.any (Try.prog.ifacesRec ·)) = true) (k22 : (c.loopsOut == fn.resultTypes.toList.any (Try.prog.loopsFrom ·)) = true)
  (k23 : c.plainKeys = false) (k24 : c.shortTexts.isNone = true) (k25 : c.lifted = false) (k26 : c.make = .cut)
  (k27 : (c.kinds == (if c.domain.isEmpty then [] else fn.params.toList.map fun t => match Try.prog.underlying t with | some (.int k) => some k | _ => none)) = true) (k28 : (c.pinned == c.pinnedBy) = true)
  (k29 : (c.veiled == (fn.params.toList ++ s.plain.varTypes Try.prog ++ fn.resultTypes.toList).any (Try.prog.veiledRec ·)) = true) (k30 : c.veiledFits Try.prog fn.params.toList (fn.params.toList ++ s.plain.varTypes Try.prog ++ fn.resultTypes.toList) = true) :
  joinedFacts Try.prog f fn s c = true := by
 unfold joinedFacts
 rw [k1, laid, rowed, k4, k5, k6, unstopped, k8, unknobbed, k10, k11, k12, k13, k14, k15, k16, k17, k18, k19, k20, k21, k22, noPlain, k23, k24, heard, enters, noFinal, k25, made, k26, k28, k29, k30]
 simp only [beq_self_eq_true, Bool.true_and, Bool.and_true]
 exact k27
end Go.Proofs.Ytflfnkdhmcfjlaa
namespace Go.Am
open Go
set_option linter.unusedSimpArgs false
set_option linter.unusedVariables false
set_option maxRecDepth 100000
theorem w25_1 {F : Nat → Option Fn} (hA : HasA F) (hB : HasB F) {lo : Nat} (s : Sys) (h0 : chkE s = 0) (i : Nat) (n z : Int) (p : Pool) (hp : s.pools[i]? = some p) (r : Int) (hr : 0 ≤ r ∧ r ≤ p.size) (hn : n = (dem i s.cls).2) (h1 : chkE (setP s i ⟨p.name, p.size, r⟩) = 0) (ci : Nat) (c : Cls) (hc : s.cls[ci]? = some c) :
  ∀ (t : List Stp) (k : Nat) (m : Mem) (Q : Ex → St → Prop), c.steps.drop k = t →
   (∀ m e, Q (.exit 4) ⟨(5, vi i) :: (6, vi n) :: (7, vi p.size) :: (8, vi r) :: (10, .bool (decide ((dem i s.cls).1 ≤ p.size - r))) :: (11, vi ci) :: (60, vi z) :: (61, vi r) :: (80, vClss s.cls) :: (81, vi s.cls.length) :: (82, vi ci) :: e, [(2, vSys s), (9, vSys (setP s i ⟨p.name, p.size, r⟩))], [], m⟩) →
   W F lo L25_1 ⟨[(5, vi i), (6, vi n), (7, vi p.size), (8, vi r), (10, .bool (decide ((dem i s.cls).1 ≤ p.size - r))), (11, vi ci), (60, vi z), (61, vi r), (80, vClss s.cls), (81, vi s.cls.length), (82, vi ci), (88, vStps c.steps), (89, vi c.steps.length), (90, vi k)], [(2, vSys s), (9, vSys (setP s i ⟨p.name, p.size, r⟩))], [], m⟩ Q := by
 have hv := valid_of h0
 have hl12 := (hv.okC c (List.mem_of_getElem? hc)).l12
 have hat := setP_at (p' := ⟨p.name, p.size, r⟩) hp
 intro t
 induction t with
 | nil =>
  intro k m Q hd hQ
  have hlt := drop_nil hd
  rw [W_L (c := L25_1) rfl]
  have : ¬ ((k : Nat) : Int) < (c.steps.length : Int) := by omega
  simp only [↓sxc, sx, se, ↓reduceIte, Nat.reduceEqDiff, Nat.reduceAdd, Nat.reduceLT, Nat.reduceLeDiff, Nat.reduceSub, Nat.reduceMul, Int.reduceToNat, Int.reduceLT, Int.reduceLE, Int.reduceEq, ml_i0, ↓smc, sm, this]
  exact hQ _ _
 | cons x t ih =>
  intro k m Q hd hQ
  obtain ⟨hg, hd', hlt⟩ := drop_cons hd
  rw [W_L (c := L25_1) rfl]
  have c0 : ((k : Nat) : Int) < (c.steps.length : Int) := by omega
  have wr : wrapF .i64 ((k : Int) + 1) = ((k + 1 : Nat) : Int) := by rw [wr_i64 (by omega) (by omega)]; rfl
  by_cases e1 : x.kind = 1
  ·by_cases e2 : x.on = (i : Int)
   ·cases e3 : x.deep with
    | false =>
     simp only [↓sxc, sx, se, ↓reduceIte, Nat.reduceEqDiff, Nat.reduceAdd, Nat.reduceLT, Nat.reduceLeDiff, Nat.reduceSub, Nat.reduceMul, Int.reduceToNat, Int.reduceLT, Int.reduceLE, Int.reduceEq, ml_i0, ↓smc, sm, c0, hg, e1, e2, e3, wr]
     exact ih (k + 1) m Q hd' hQ
    | true =>
     have hmw : mayWait (setP s i ⟨p.name, p.size, r⟩) ci k = (decide (p.size - r < (dem i s.cls).1) && !decide ((dem i s.cls).2 ≤ r)) := by
      have a1 : ¬ ((ci : Int) < 0) := by omega
      have a2 : ¬ ((k : Int) < 0) := by omega
      have hst : stepAt (setP s i ⟨p.name, p.size, r⟩) ci k = some x := by simp [stepAt, setP, hc, hg]
      have ew : waitsE (setP s i ⟨p.name, p.size, r⟩) x = (decide (p.size - r < (dem i s.cls).1) && !decide ((dem i s.cls).2 ≤ r)) := by
       unfold waitsE
       rw [if_neg (by omega), if_pos e1, e2, hat.1, hat.2.1, e3, Bool.true_and]
       rfl
      unfold mayWait
      rw [if_neg (by omega), hst]
      exact ew
     have c33 : ∀ {lo m}, callw F 33 [vSys (setP s i ⟨p.name, p.size, r⟩), vi ci, vi k] lo m = some (.bool (decide (p.size - r < (dem i s.cls).1) && !decide ((dem i s.cls).2 ≤ r)), m) := fun {lo m} => by
      rw [← hmw]
      exact sp33 hA hB _ ci k
     by_cases g1 : (dem i s.cls).1 ≤ p.size - r
     ·have g1' : ¬ p.size - r < (dem i s.cls).1 := by omega
      have ed : decide (p.size - r < (dem i s.cls).1) = false := decide_eq_false g1'
      rw [ed, Bool.false_and] at c33
      have ed2 : decide ((dem i s.cls).1 ≤ p.size - r) = true := decide_eq_true g1
      rw [ed2] at ih hQ ⊢
      by_cases g2 : r < n
      ·simp only [↓sxc, sx, se, ↓reduceIte, Nat.reduceEqDiff, Nat.reduceAdd, Nat.reduceLT, Nat.reduceLeDiff, Nat.reduceSub, Nat.reduceMul, Int.reduceToNat, Int.reduceLT, Int.reduceLE, Int.reduceEq, ml_i0, ↓smc, sm, ↓S_frz, frz_sys, c0, hg, e1, e2, e3, c33, g2, wr, decide_true, decide_false]
       exact ih (k + 1) _ Q hd' hQ
      ·simp only [↓sxc, sx, se, ↓reduceIte, Nat.reduceEqDiff, Nat.reduceAdd, Nat.reduceLT, Nat.reduceLeDiff, Nat.reduceSub, Nat.reduceMul, Int.reduceToNat, Int.reduceLT, Int.reduceLE, Int.reduceEq, ml_i0, ↓smc, sm, ↓S_frz, frz_sys, c0, hg, e1, e2, e3, c33, g2, wr, decide_true, decide_false]
       exact ih (k + 1) _ Q hd' hQ
     ·have g1' : p.size - r < (dem i s.cls).1 := by omega
      have ed : decide (p.size - r < (dem i s.cls).1) = true := decide_eq_true g1'
      rw [ed, Bool.true_and] at c33
      have ed2 : decide ((dem i s.cls).1 ≤ p.size - r) = false := decide_eq_false g1
      rw [ed2] at ih hQ ⊢
      by_cases g2 : r < n
      ·have g3 : decide ((dem i s.cls).2 ≤ r) = false := decide_eq_false (by omega)
       rw [g3] at c33
       simp only [↓sxc, sx, se, ↓reduceIte, Nat.reduceEqDiff, Nat.reduceAdd, Nat.reduceLT, Nat.reduceLeDiff, Nat.reduceSub, Nat.reduceMul, Int.reduceToNat, Int.reduceLT, Int.reduceLE, Int.reduceEq, ml_i0, ↓smc, sm, ↓S_frz, frz_sys, c0, hg, e1, e2, e3, c33, g2, wr, decide_true, decide_false]
       exact ih (k + 1) _ Q hd' hQ
      ·have g3 : decide ((dem i s.cls).2 ≤ r) = true := decide_eq_true (by omega)
       rw [g3] at c33
       simp only [↓sxc, sx, se, ↓reduceIte, Nat.reduceEqDiff, Nat.reduceAdd, Nat.reduceLT, Nat.reduceLeDiff, Nat.reduceSub, Nat.reduceMul, Int.reduceToNat, Int.reduceLT, Int.reduceLE, Int.reduceEq, ml_i0, ↓smc, sm, ↓S_frz, frz_sys, c0, hg, e1, e2, e3, c33, g2, wr, decide_true, decide_false]
       exact ih (k + 1) _ Q hd' hQ
   ·simp only [↓sxc, sx, se, ↓reduceIte, Nat.reduceEqDiff, Nat.reduceAdd, Nat.reduceLT, Nat.reduceLeDiff, Nat.reduceSub, Nat.reduceMul, Int.reduceToNat, Int.reduceLT, Int.reduceLE, Int.reduceEq, ml_i0, ↓smc, sm, c0, hg, e1, e2, wr]
    exact ih (k + 1) m Q hd' hQ
  ·simp only [↓sxc, sx, se, ↓reduceIte, Nat.reduceEqDiff, Nat.reduceAdd, Nat.reduceLT, Nat.reduceLeDiff, Nat.reduceSub, Nat.reduceMul, Int.reduceToNat, Int.reduceLT, Int.reduceLE, Int.reduceEq, ml_i0, ↓smc, sm, c0, hg, e1, wr]
   exact ih (k + 1) m Q hd' hQ
theorem w25_2 {F : Nat → Option Fn} (hA : HasA F) (hB : HasB F) {lo : Nat} (s : Sys) (h0 : chkE s = 0) (i : Nat) (n z : Int) (p : Pool) (hp : s.pools[i]? = some p) (r : Int) (hr : 0 ≤ r ∧ r ≤ p.size) (hn : n = (dem i s.cls).2) (h1 : chkE (setP s i ⟨p.name, p.size, r⟩) = 0) :
  ∀ (t : List Cls) (ci : Nat) (m : Mem) (Q : Ex → St → Prop), s.cls.drop ci = t →
   (∀ m e, Q (.exit 2) ⟨(5, vi i) :: (6, vi n) :: (7, vi p.size) :: (8, vi r) :: (10, .bool (decide ((dem i s.cls).1 ≤ p.size - r))) :: (60, vi z) :: (61, vi r) :: e, [(2, vSys s), (9, vSys (setP s i ⟨p.name, p.size, r⟩))], [], m⟩) →
   W F lo L25_2 ⟨[(5, vi i), (6, vi n), (7, vi p.size), (8, vi r), (10, .bool (decide ((dem i s.cls).1 ≤ p.size - r))), (60, vi z), (61, vi r), (80, vClss s.cls), (81, vi s.cls.length), (82, vi ci)], [(2, vSys s), (9, vSys (setP s i ⟨p.name, p.size, r⟩))], [], m⟩ Q := by
 have hv := valid_of h0
 have hc6 := hv.c6
 intro t
 induction t with
 | nil =>
  intro ci m Q hd hQ
  have hlt := drop_nil hd
  rw [W_L (c := L25_2) rfl]
  have : ¬ ((ci : Nat) : Int) < (s.cls.length : Int) := by omega
  simp only [↓sxc, sx, se, ↓reduceIte, Nat.reduceEqDiff, Nat.reduceAdd, Nat.reduceLT, Nat.reduceLeDiff, Nat.reduceSub, Nat.reduceMul, Int.reduceToNat, Int.reduceLT, Int.reduceLE, Int.reduceEq, ml_i0, ↓smc, sm, this]
  exact hQ _ _
 | cons c t ih =>
  intro ci m Q hd hQ
  obtain ⟨hg, hd', hlt⟩ := drop_cons hd
  rw [W_L (c := L25_2) rfl]
  have c0 : ((ci : Nat) : Int) < (s.cls.length : Int) := by omega
  have wr : wrapF .i64 ((ci : Int) + 1) = ((ci + 1 : Nat) : Int) := by rw [wr_i64 (by omega) (by omega)]; rfl
  simp only [↓sxc, sx, se, ↓reduceIte, Nat.reduceEqDiff, Nat.reduceAdd, Nat.reduceLT, Nat.reduceLeDiff, Nat.reduceSub, Nat.reduceMul, Int.reduceToNat, Int.reduceLT, Int.reduceLE, Int.reduceEq, ml_i0, ↓smc, sm, c0, hg]
  refine w25_1 hA hB s h0 i n z p hp r hr hn h1 ci c hg c.steps 0 m _ rfl (fun m e => ?_)
  simp only [↓sxc, sx, se, ↓reduceIte, Nat.reduceEqDiff, Nat.reduceAdd, Nat.reduceLT, Nat.reduceLeDiff, Nat.reduceSub, Nat.reduceMul, Int.reduceToNat, Int.reduceLT, Int.reduceLE, Int.reduceEq, ml_i0, ↓smc, sm, wr]
  exact ih (ci + 1) m Q hd' hQ
theorem w25_3 {F : Nat → Option Fn} (hA : HasA F) (hB : HasB F) (hC : HasC F) {lo : Nat} (s : Sys) (h0 : chkE s = 0) (i : Nat) (n : Int) (p : Pool) (hp : s.pools[i]? = some p) (hn : n = (dem i s.cls).2) (hlo0 : lo = 0) :
    ∀ (q : Nat) (r : Int) (m : Mem) (Q : Ex → St → Prop), r + q = p.size + 1 → 0 ≤ r →
      (∀ m e, Q (.exit 0) ⟨e, [(2, vSys s)], [], m⟩) →
      W F lo L25_3 ⟨[(5, vi i), (6, vi n), (7, vi p.size), (60, vi (p.size + 1)), (61, vi r)], [(2, vSys s)], [], m⟩ Q := by
  have hv := valid_of h0
  have hq := hv.pool p (List.mem_of_getElem? hp)
  have hil := (List.getElem?_eq_some_iff.1 hp).1
  have p6 := hv.p6
  intro q
  induction q with
  | zero =>
    intro r m Q hr hr0 hQ
    rw [W_L (c := L25_3) rfl]
    have : ¬ r < p.size + 1 := by omega
    simp only [↓sxc, sx, se, ↓reduceIte, Nat.reduceEqDiff, Nat.reduceAdd, Nat.reduceLT, Nat.reduceLeDiff, Nat.reduceSub, Nat.reduceMul, Int.reduceToNat, Int.reduceLT, Int.reduceLE, Int.reduceEq, ml_i0, ↓smc, sm, this]
    exact hQ _ _
  | succ q ih =>
    intro r m Q hr hr0 hQ
    have hm : lo ≤ m.next := by omega
    rw [W_L (c := L25_3) rfl]
    have c0 : r < p.size + 1 := by omega
    have wr : wrapF .i64 (r + 1) = r + 1 := wr_i64 (by omega) (by omega)
    obtain ⟨v, m1, c89, hcp, hm1, _⟩ := sp89 hC.h89 (lo := lo) (m := m) s hm (by have := hv.p6; omega) (by have := hv.l4; omega) (by have := hv.c6; omega) (fun c hc => by have := (hv.okC c hc).l12; omega)
    obtain ⟨hp', hl', C, b, rfl, ⟨a1, a2, a3⟩, ⟨b1, b2, b3⟩, hpl, hb, hcl⟩ := hcp.ex
    have h1 : chkE (setP s i ⟨p.name, p.size, r⟩) = 0 := (setP_ext (p' := ⟨p.name, p.size, r⟩) h0 hp rfl (Int.le_refl _) (by simp [poolBad]; omega)).chk h0
    have i0 : (0 : Int) ≤ i := by omega
    have in_ : ((i : Nat) : Int).toNat = i := rfl
    have iN : (i : Int) < (s.pools.length : Int) := by omega
    have hgp : (s.pools.map vPool)[i]? = some (vPool p) := by rw [List.getElem?_map, hp]; rfl
    have hlo1 : lo ≤ hp' := by omega
    have sc2 : setC 2 1 (vi r) (vPool p) = some (vPool ⟨p.name, p.size, r⟩) := rfl
    let m2 : Mem := m1.set hp' (some (.row 3 ((s.pools.set i ⟨p.name, p.size, r⟩).map vPool)))
    have em2 : m1.set hp' (some (.row 3 ((s.pools.map vPool).set i (vPool ⟨p.name, p.size, r⟩)))) = m2 := by
      show _ = m1.set hp' (some (.row 3 ((s.pools.set i ⟨p.name, p.size, r⟩).map vPool)))
      rw [List.map_set]
    have hcp2 : CpS lo m2 (.agg [.row 3 hp' 0 s.pools.length, .row 1 hl' 0 s.locks.length, C]) (setP s i ⟨p.name, p.size, r⟩) := by
      refine ⟨hp', hl', C, b, by simp [setP], ⟨hlo1, a2, by show (m1.set hp' _).blk hp' = _; simp [Mem.set, setP]⟩, ⟨by omega, b2, ?_⟩, hpl, by omega, hcl.other a2 _⟩
      show (m1.set hp' _).blk hl' = _
      rw [set_ne (Ne.symm hpl)]
      exact b3
    have n2 : m2.next = m1.next := rfl
    clear_value m2
    have fr := hcp2.frv
    have hd : demE (setP s i ⟨p.name, p.size, r⟩) i false = (dem i s.cls).1 := by
      unfold demE
      rw [if_neg (by have : (setP s i ⟨p.name, p.size, r⟩).pools.length = s.pools.length := by simp [setP]
                     omega), if_neg (by simp)]
      rfl
    have c31 : ∀ {lo m}, callw F 31 [vSys (setP s i ⟨p.name, p.size, r⟩), vi i, .bool false] lo m = some (vi (dem i s.cls).1, m) := fun {lo m} => by
      rw [← hd]
      exact sp31 hA hB _ i false
    have w2 : wrapF .i64 (p.size - r) = p.size - r := wr_i64 (by omega) (by omega)
    have hC1 : C.one = true := by
      obtain ⟨es, r1, _⟩ := hcl.ex
      rcases r1 with ⟨rfl, _⟩ | ⟨h, rfl, h1, _⟩ <;> rfl
    have ecl : (setP s i ⟨p.name, p.size, r⟩).cls = s.cls := rfl
    simp only [↓sxc, sx, se, ↓reduceIte, Nat.reduceEqDiff, Nat.reduceAdd, Nat.reduceLT, Nat.reduceLeDiff, Nat.reduceSub, Nat.reduceMul, Int.reduceToNat, Int.reduceLT, Int.reduceLE, Int.reduceEq, ml_i0, ↓smc, sm, ↓S_frz, c0, c89, hC1, i0, in_, iN, a3, hlo1, hgp, sc2, em2, fr, c31, w2, ecl]
    refine w25_2 hA hB s h0 i n (p.size + 1) p hp r ⟨hr0, by omega⟩ hn h1 s.cls 0 _ _ rfl (fun m e => ?_)
    simp only [↓sxc, sx, se, ↓reduceIte, Nat.reduceEqDiff, Nat.reduceAdd, Nat.reduceLT, Nat.reduceLeDiff, Nat.reduceSub, Nat.reduceMul, Int.reduceToNat, Int.reduceLT, Int.reduceLE, Int.reduceEq, ml_i0, ↓smc, sm, wr]
    exact ih (r + 1) m Q (by omega) (by omega) hQ
theorem dem_pos {s : Sys} (hv : Valid s) {pool : Int} : 0 ≤ (dem pool s.cls).2 := by
 have : ∀ l : List Cls, (∀ c ∈ l, OkC c) → 0 ≤ (dem pool l).2 := by
  intro l
  induction l with
  | nil => intro _; exact Int.le_refl _
  | cons c l ih =>
   intro hc
   have h2 := ih fun c hc' => hc c (by simp [hc'])
   have h3 := pk_bd (pool := pool) (hc c (by simp))
   have h4 := (hc c (by simp)).w0
   simp only [dem]
   have := Int.mul_nonneg h4 h3.2.1
   omega
 exact this _ hv.okC
theorem law25 (us : List V) (h : HasAll [tSys, .int .u8] us) : ∃ m, callw F43 25 us 0 m0 = some (.bool true, m) := by
 obtain ⟨u1, us, rfl, h1, h⟩ := all_cons h
 obtain ⟨u2, us, rfl, h2, h⟩ := all_cons h
 obtain rfl := all_nil h
 obtain ⟨s, rfl⟩ := open_sys h1
 obtain ⟨a, rfl, ha0⟩ := open_u8 h2
 refine ⟨m0, ?_⟩
 have c28 : ∀ {lo m}, callw F43 28 [vSys s] lo m = some (.bool (few s), m) := fun {lo m} => sp28 hasA s
 refine call_p hasX25.h25 rfl ?_
 have ha : ∀ {lo}, callw F43 79 [] lo m0 = some (.bool true, m0) := aw43
 cases hf : few s with
 | false =>
  simp only [↓sxc, sx, se, ↓reduceIte, Nat.reduceEqDiff, Nat.reduceAdd, Nat.reduceLT, Nat.reduceLeDiff, Nat.reduceSub, Nat.reduceMul, Int.reduceToNat, Int.reduceLT, Int.reduceLE, Int.reduceEq, ml_i0, ↓smc, sm, ha, c28, hf]
 | true =>
  by_cases hp0 : (s.pools.length : Int) = 0
  ·simp only [↓sxc, sx, se, ↓reduceIte, Nat.reduceEqDiff, Nat.reduceAdd, Nat.reduceLT, Nat.reduceLeDiff, Nat.reduceSub, Nat.reduceMul, Int.reduceToNat, Int.reduceLT, Int.reduceLE, Int.reduceEq, ml_i0, ↓smc, sm, ha, c28, hf, hp0]
  ·have c29 : ∀ {lo m}, callw F43 29 [vSys s] lo m = some (vi (resE s), m) := fun {lo m} => sp29 hasA hasB s
   by_cases hr0 : resE s = 0
   ·simp only [↓sxc, sx, se, ↓reduceIte, Nat.reduceEqDiff, Nat.reduceAdd, Nat.reduceLT, Nat.reduceLeDiff, Nat.reduceSub, Nat.reduceMul, Int.reduceToNat, Int.reduceLT, Int.reduceLE, Int.reduceEq, ml_i0, ↓smc, sm, ha, c28, hf, hp0, c29, hr0]
   ·have h0 : chkE s = 0 := Classical.byContradiction fun hc => hr0 (by unfold resE; rw [if_pos hc])
    have hv := valid_of h0
    have p6 := hv.p6
    have e1 := cv_u8 ha0.1 ha0.2
    have e2 := rm_i64 (x := a) (y := (s.pools.length : Int)) ha0.1 (by omega)
    have r1 := Int.emod_nonneg a (b := (s.pools.length : Int)) (by omega)
    have r2 := Int.emod_lt_of_pos a (b := (s.pools.length : Int)) (by omega)
    obtain ⟨i, hi⟩ : ∃ i : Nat, a % (s.pools.length : Int) = i := ⟨(a % (s.pools.length : Int)).toNat, by omega⟩
    rw [hi] at e2 r1 r2
    have hil : i < s.pools.length := by omega
    have hp : s.pools[i]? = some s.pools[i] := List.getElem?_eq_getElem hil
    generalize s.pools[i] = p at hp
    have hq := hv.pool p (List.mem_of_getElem? hp)
    have in_ : ((i : Nat) : Int).toNat = i := rfl
    have c86 : ∀ {lo m}, callw F43 86 [vSys s, vi i] lo m = some (vi (enoE s i), m) := fun {lo m} => sp86 hasA hasB hasC s i
    have hd : demE s i true = (dem i s.cls).2 := by
     unfold demE
     rw [if_neg (by omega), if_pos rfl]
    have hz : sizeAt s i = p.size := by
     unfold sizeAt
     rw [in_, hp]
    have hnn := dem_pos hv (pool := (i : Int))
    by_cases h5 : p.size < (dem i s.cls).2
    ·have he : enoE s i = -1 := by
      unfold enoE
      rw [if_pos ⟨by rw [hd]; omega, by rw [hd, hz]; exact h5⟩]
     rw [he] at c86
     have c31 : ∀ {lo m}, callw F43 31 [vSys s, vi i, .bool true] lo m = some (vi (dem i s.cls).2, m) := fun {lo m} => by
      rw [← hd]
      exact sp31 hasA hasB s i true
     have n1 : (-1 : Int) < 0 := by omega
     simp only [↓sxc, sx, se, ↓reduceIte, Nat.reduceEqDiff, Nat.reduceAdd, Nat.reduceLT, Nat.reduceLeDiff, Nat.reduceSub, Nat.reduceMul, Int.reduceToNat, Int.reduceLT, Int.reduceLE, Int.reduceEq, ml_i0, ↓smc, sm, ha, c28, hf, hp0, c29, hr0, e1, e2, c86, r1, r2, in_, hp, n1, c31, h5]
    ·have he : enoE s i = (dem i s.cls).2 := by
      unfold enoE
      rw [if_neg (by rw [hd, hz]; omega), hd]
     rw [he] at c86
     have n1 : ¬ (dem i s.cls).2 < 0 := by omega
     have w1 : wrapF .i64 (p.size + 1) = p.size + 1 := wr_i64 (by omega) (by omega)
     simp only [↓sxc, sx, se, ↓reduceIte, Nat.reduceEqDiff, Nat.reduceAdd, Nat.reduceLT, Nat.reduceLeDiff, Nat.reduceSub, Nat.reduceMul, Int.reduceToNat, Int.reduceLT, Int.reduceLE, Int.reduceEq, ml_i0, ↓smc, sm, ha, c28, hf, hp0, c29, hr0, e1, e2, c86, r1, r2, in_, hp, n1, h5, w1]
     refine w25_3 hasA hasB hasC s h0 i _ p hp rfl rfl (p.size + 1).toNat 0 m0 _ (by omega) (by omega) (fun m e => ?_)
     simp only [↓sxc, sx, se, ↓reduceIte, Nat.reduceEqDiff, Nat.reduceAdd, Nat.reduceLT, Nat.reduceLeDiff, Nat.reduceSub, Nat.reduceMul, Int.reduceToNat, Int.reduceLT, Int.reduceLE, Int.reduceEq, ml_i0, ↓smc, sm]
end Go.Am
namespace Go.Proofs.Ytflfnkdhmcfjlaa
open Go Go.Am Go.ChangeShapes Go.WideShapes Go.ChangeAt Go.RowKit
set_option linter.unusedVariables false
theorem own : ownKnob Try.prog.godebug = none := by kernel_rfl
theorem kids : Kids Try.prog (· < Try.prog.types.size) := kids_rows (by kernel_rfl) (by kernel_rfl)
theorem full : ∀ t e, t < Try.prog.types.size → Try.prog.underlying t = some (.slice e) → 0 < Try.prog.cellsOf e := slices_full_of Try.prog (by kernel_rfl)
theorem fit : fitAll Try.prog Try.f25.params.toList [tSys, .int .u8] = true := by kernel_rfl
set_option maxRecDepth 100000 in
theorem lifted (os : Os) (started : os.Started) (H : Type) (enc : TypeId × Value → H) :
  ReturnsInHanded {} Try.checked os 25 .any (Rows.certificateReservesSpec.pre6 enc Try.prog Try.f25 Rows.certificateReservesRow.domain false) (Rows.certificateReservesSpec.post enc Try.prog Try.f25 false true false false) := by
 refine returnsInHanded_of_change (C := Try.checked) own started (by kernel_rfl) Try.func25
  (ChangeSpec.witness6 (enc := enc) (C := Try.checked) false ⟨#[], #[.agg #[.slice none 0 0, .slice none 0 0, .slice none 0 0], .int .u8 0], []⟩ 12 (by kernel_rfl) (by kernel_rfl) (by kernel_rfl) (by kernel_rfl)) ?_
 intro W base args ds gs before hval0 hW hcnd _
 have hval : ∀ (j : Nat) t v, Try.f25.params[j]? = some t → args[j]? = some v → Value.okWide Try.prog W .any base t v := hval0
 have hW' := hW
 obtain ⟨p, q, hA0, hV, rfl, hfz, hnd⟩ := hW
 have hA : DataW.TrodAll enc Try.prog W 0 (fun _ => true) true Try.f25.params.toList args.toList ds p := hA0
 obtain ⟨rfl, rfl⟩ := trodVars_none hV
 have hspec : Rows.certificateReservesSpec.fn H (ds ++ []) = { results := [.lit (.bool true)], args := ds } := by
  rw [Try.params25] at hA
  obtain ⟨v0, vs0, d0, ds0, p0, q0, _, rfl, _, _, r0⟩ := trodAll_cons hA
  obtain ⟨v1, vs1, d1, ds1, p1, q1, _, rfl, _, _, r1⟩ := trodAll_cons r0
  obtain ⟨_, rfl, _⟩ := trodAll_nil r1
  rfl
 refine (law_calls (P := Try.prog) (F := F43) mixed okAll (by decide) fit (fun us h => law25 us h) hA (fun j t v ht hv => hval j t v (by rw [← Array.getElem?_toList]; exact ht) hv)).mono fun e W' ⟨he, h1, h2, h3⟩ => ?_
 subst he
 exact ⟨_, rfl, kept_post hW' rfl hspec rfl Try.underlying4 kids full (by rw [Try.params25]; decide) h1 h2 h3⟩
theorem reached : Try.prog.closure 25 = [25, 79, 90, 50, 35, 49, 111, 112, 113, 153, 114, 121, 122, 154, 116, 120, 106, 155, 94, 92, 148, 97, 98, 54, 81, 142, 143, 141, 29, 41, 102, 83, 40, 103, 105, 152, 165, 168, 169, 107, 45, 52, 119, 86, 31, 28, 89, 33] := by kernel_rfl
theorem noPlace : Try.prog.inPlace 25 = [] := by unfold Program.inPlace; rw [reached]; kernel_rfl
theorem follows : Try.prog.unfollowed 25 = true := by unfold Program.unfollowed; rw [reached]; kernel_rfl
theorem recurs : Try.prog.recurses 25 = true := by unfold Program.recurses; rw [follows]; rfl
theorem names : Try.prog.varsNamed 25 = [] := by unfold Program.varsNamed; rw [reached]; kernel_rfl
theorem shut : joinedFacts Try.prog 25 Try.f25 Rows.certificateReservesSpec Rows.certificateReservesRow = true :=
 joined 25 Try.f25 Rows.certificateReservesSpec Rows.certificateReservesRow (by kernel_rfl) (by kernel_rfl) (by kernel_rfl) (by kernel_rfl) (by kernel_rfl) noPlace follows recurs names
  (by kernel_rfl) (by kernel_rfl) (by kernel_rfl) (by kernel_rfl) (by kernel_rfl) (by kernel_rfl) (by kernel_rfl) (by kernel_rfl) (by kernel_rfl) rfl rfl rfl rfl (by kernel_rfl) (by kernel_rfl) (by kernel_rfl) (by kernel_rfl)
theorem over : Rows.certificateReservesRow.holds Try.pinned (OpenSpec.ofChange Rows.certificateReservesSpec) :=
 OpenClaim.holds_of_wide 25 Try.f25 rfl rfl rfl rfl rfl rfl rfl ⟨rfl, rfl, rfl, rfl, rfl⟩ rfl rfl rfl rfl rfl (by kernel_rfl) Try.func25 shut
  (of_decide_eq_true (by kernel_rfl)) (by unfold Func.isWrapper; first | (rw [if_pos (by decide +kernel)]; kernel_rfl) | (rw [if_neg (by decide +kernel)]; exact ⟨rfl, rfl⟩))
  (fun os started H enc _ => lifted os started H enc)
theorem certificateReserves_holds : Rows.CertificateReservesSaid := over
end Go.Proofs.Ytflfnkdhmcfjlaa
