/- The law CertificateScales holds: levels that are changed in a way that keeps their order are accepted again; no conditions. -/
import Derived.Test.YtflfnkdhmcfjlaaN23g
import Derived.Test.YtflfnkdhmcfjlaaRows
namespace Go.Proofs.Ytflfnkdhmcfjlaa
open Go Go.ChangeShapes Go.WideShapes Go.ChangeAt Go.RowKit
set_option maxRecDepth 100000
def headChars : List Char := [104, 97, 114, 110, 101, 115, 115, 32, 48, 56, 51, 102, 99, 52, 51, 55, 100, 52, 99, 51, 102, 98, 53, 102, 99, 57, 100, 99, 49, 102, 52, 101, 57, 55, 52, 50, 54, 57, 54, 101, 48, 57, 98, 102, 56, 51, 56, 100, 48, 48, 51, 55, 53, 57, 102, 55, 51, 97, 51, 56, 98, 51, 56, 53, 55, 57, 100, 54, 102, 49, 53, 49, 32, 99, 117, 116, 32, 97, 116, 32, 101, 115, 116, 111, 118, 101, 114, 115, 47, 101, 115, 116, 111, 118, 101, 114, 115, 108, 97, 119, 52, 50, 46, 87, 97, 105, 116, 103, 114, 97, 112, 104, 68, 101, 109, 97, 110, 100, 115, 32, 101, 115, 116, 111, 118, 101, 114, 115, 47, 101, 115, 116, 111, 118, 101, 114, 115, 108, 97, 119, 52, 50, 46, 87, 97, 105, 116, 103, 114, 97, 112, 104, 69, 100, 103, 101, 115, 32, 101, 115, 116, 111, 118, 101, 114, 115, 47, 101, 115, 116, 111, 118, 101, 114, 115, 108, 97, 119, 52, 50, 46, 87, 97, 105, 116, 103, 114, 97, 112, 104, 71, 114, 97, 112, 104, 115, 32, 101, 115, 116, 111, 118, 101, 114, 115, 47, 101, 115, 116, 111, 118, 101, 114, 115, 108, 97, 119, 52, 50, 46, 87, 97, 105, 116, 103, 114, 97, 112, 104, 67, 121, 99, 108, 101, 115, 32, 101, 115, 116, 111, 118, 101, 114, 115, 47, 101, 115, 116, 111, 118, 101, 114, 115, 108, 97, 119, 52, 50, 46, 87, 97, 105, 116, 103, 114, 97, 112, 104, 76, 101, 118, 101, 108, 115, 32, 101, 115, 116, 111, 118, 101, 114, 115, 47, 101, 115, 116, 111, 118, 101, 114, 115, 108, 97, 119, 52, 50, 46, 87, 97, 105, 116, 103, 114, 97, 112, 104, 67, 111, 109, 112, 111, 110, 101, 110, 116, 115, 32, 101, 115, 116, 111, 118, 101, 114, 115, 47, 101, 115, 116, 111, 118, 101, 114, 115, 116, 111, 112, 46, 84, 111, 112, 65, 115, 99, 101, 110, 100, 105, 110, 103, 32, 101, 115, 116, 111, 118, 101, 114, 115, 47, 101, 115, 116, 111, 118, 101, 114, 115, 108, 97, 119, 52, 50, 46, 87, 97, 105, 116, 103, 114, 97, 112, 104, 72, 111, 108, 100, 115, 32, 101, 115, 116, 111, 118, 101, 114, 115, 47, 101, 115, 116, 111, 118, 101, 114, 115, 108, 97, 119, 52, 52, 46, 69, 120, 112, 108, 111, 114, 101, 67, 104, 101, 99, 107, 115, 32, 101, 115, 116, 111, 118, 101, 114, 115, 47, 101, 115, 116, 111, 118, 101, 114, 115, 116, 111, 112, 46, 84, 111, 112, 78, 101, 118, 101, 114, 83, 116, 111, 112, 115, 32, 101, 115, 116, 111, 118, 101, 114, 115, 47, 101, 115, 116, 111, 118, 101, 114, 115, 108, 97, 119, 52, 52, 46, 69, 120, 112, 108, 111, 114, 101, 82, 101, 97, 99, 104, 101, 115, 32, 101, 115, 116, 111, 118, 101, 114, 115, 47, 101, 115, 116, 111, 118, 101, 114, 115, 108, 97, 119, 52, 52, 46, 69, 120, 112, 108, 111, 114, 101, 82, 101, 112, 108, 97, 121, 115, 32, 101, 115, 116, 111, 118, 101, 114, 115, 47, 101, 115, 116, 111, 118, 101, 114, 115, 108, 97, 119, 52, 52, 46, 69, 120, 112, 108, 111, 114, 101, 84, 97, 107, 101, 114, 115, 32, 101, 115, 116, 111, 118, 101, 114, 115, 47, 101, 115, 116, 111, 118, 101, 114, 115, 108, 97, 119, 52, 52, 46, 69, 120, 112, 108, 111, 114, 101, 80, 104, 105, 108, 111, 115, 111, 112, 104, 101, 114, 115, 32, 101, 115, 116, 111, 118, 101, 114, 115, 47, 101, 115, 116, 111, 118, 101, 114, 115, 108, 97, 119, 52, 52, 46, 69, 120, 112, 108, 111, 114, 101, 83, 116, 101, 112, 115, 32, 101, 115, 116, 111, 118, 101, 114, 115, 47, 101, 115, 116, 111, 118, 101, 114, 115, 108, 97, 119, 52, 52, 46, 69, 120, 112, 108, 111, 114, 101, 83, 97, 102, 101, 32, 101, 115, 116, 111, 118, 101, 114, 115, 47, 101, 115, 116, 111, 118, 101, 114, 115, 108, 97, 119, 52, 51, 46, 67, 101, 114, 116, 105, 102, 105, 99, 97, 116, 101, 77, 97, 107, 101, 115, 32, 101, 115, 116, 111, 118, 101, 114, 115, 47, 101, 115, 116, 111, 118, 101, 114, 115, 108, 97, 119, 52, 51, 46, 67, 101, 114, 116, 105, 102, 105, 99, 97, 116, 101, 86, 101, 114, 105, 102, 105, 101, 115, 32, 101, 115, 116, 111, 118, 101, 114, 115, 47, 101, 115, 116, 111, 118, 101, 114, 115, 108, 97, 119, 52, 51, 46, 67, 101, 114, 116, 105, 102, 105, 99, 97, 116, 101, 82, 111, 117, 110, 100, 32, 101, 115, 116, 111, 118, 101, 114, 115, 47, 101, 115, 116, 111, 118, 101, 114, 115, 108, 97, 119, 52, 51, 46, 67, 101, 114, 116, 105, 102, 105, 99, 97, 116, 101, 69, 120, 112, 108, 97, 105, 110, 115, 32, 101, 115, 116, 111, 118, 101, 114, 115, 47, 101, 115, 116, 111, 118, 101, 114, 115, 108, 97, 119, 52, 51, 46, 67, 101, 114, 116, 105, 102, 105, 99, 97, 116, 101, 83, 99, 97, 108, 101, 115, 32, 101, 115, 116, 111, 118, 101, 114, 115, 47, 101, 115, 116, 111, 118, 101, 114, 115, 108, 97, 119, 52, 51, 46, 67, 101, 114, 116, 105, 102, 105, 99, 97, 116, 101, 70, 101, 119, 101, 114, 32, 101, 115, 116, 111, 118, 101, 114, 115, 47, 101, 115, 116, 111, 118, 101, 114, 115, 108, 97, 119, 52, 51, 46, 67, 101, 114, 116, 105, 102, 105, 99, 97, 116, 101, 82, 101, 115, 101, 114, 118, 101, 115, 32, 101, 115, 116, 111, 118, 101, 114, 115, 47, 101, 115, 116, 111, 118, 101, 114, 115, 108, 97, 119, 52, 52, 46, 69, 120, 112, 108, 111, 114, 101, 67, 101, 114, 116, 105, 102, 105, 101, 100].map Char.ofNat
def headWords : List (List Char) := [[104, 97, 114, 110, 101, 115, 115], [48, 56, 51, 102, 99, 52, 51, 55, 100, 52, 99, 51, 102, 98, 53, 102, 99, 57, 100, 99, 49, 102, 52, 101, 57, 55, 52, 50, 54, 57, 54, 101, 48, 57, 98, 102, 56, 51, 56, 100, 48, 48, 51, 55, 53, 57, 102, 55, 51, 97, 51, 56, 98, 51, 56, 53, 55, 57, 100, 54, 102, 49, 53, 49], [99, 117, 116], [97, 116], [101, 115, 116, 111, 118, 101, 114, 115, 47, 101, 115, 116, 111, 118, 101, 114, 115, 108, 97, 119, 52, 50, 46, 87, 97, 105, 116, 103, 114, 97, 112, 104, 68, 101, 109, 97, 110, 100, 115], [101, 115, 116, 111, 118, 101, 114, 115, 47, 101, 115, 116, 111, 118, 101, 114, 115, 108, 97, 119, 52, 50, 46, 87, 97, 105, 116, 103, 114, 97, 112, 104, 69, 100, 103, 101, 115], [101, 115, 116, 111, 118, 101, 114, 115, 47, 101, 115, 116, 111, 118, 101, 114, 115, 108, 97, 119, 52, 50, 46, 87, 97, 105, 116, 103, 114, 97, 112, 104, 71, 114, 97, 112, 104, 115], [101, 115, 116, 111, 118, 101, 114, 115, 47, 101, 115, 116, 111, 118, 101, 114, 115, 108, 97, 119, 52, 50, 46, 87, 97, 105, 116, 103, 114, 97, 112, 104, 67, 121, 99, 108, 101, 115], [101, 115, 116, 111, 118, 101, 114, 115, 47, 101, 115, 116, 111, 118, 101, 114, 115, 108, 97, 119, 52, 50, 46, 87, 97, 105, 116, 103, 114, 97, 112, 104, 76, 101, 118, 101, 108, 115], [101, 115, 116, 111, 118, 101, 114, 115, 47, 101, 115, 116, 111, 118, 101, 114, 115, 108, 97, 119, 52, 50, 46, 87, 97, 105, 116, 103, 114, 97, 112, 104, 67, 111, 109, 112, 111, 110, 101, 110, 116, 115], [101, 115, 116, 111, 118, 101, 114, 115, 47, 101, 115, 116, 111, 118, 101, 114, 115, 116, 111, 112, 46, 84, 111, 112, 65, 115, 99, 101, 110, 100, 105, 110, 103], [101, 115, 116, 111, 118, 101, 114, 115, 47, 101, 115, 116, 111, 118, 101, 114, 115, 108, 97, 119, 52, 50, 46, 87, 97, 105, 116, 103, 114, 97, 112, 104, 72, 111, 108, 100, 115], [101, 115, 116, 111, 118, 101, 114, 115, 47, 101, 115, 116, 111, 118, 101, 114, 115, 108, 97, 119, 52, 52, 46, 69, 120, 112, 108, 111, 114, 101, 67, 104, 101, 99, 107, 115], [101, 115, 116, 111, 118, 101, 114, 115, 47, 101, 115, 116, 111, 118, 101, 114, 115, 116, 111, 112, 46, 84, 111, 112, 78, 101, 118, 101, 114, 83, 116, 111, 112, 115], [101, 115, 116, 111, 118, 101, 114, 115, 47, 101, 115, 116, 111, 118, 101, 114, 115, 108, 97, 119, 52, 52, 46, 69, 120, 112, 108, 111, 114, 101, 82, 101, 97, 99, 104, 101, 115], [101, 115, 116, 111, 118, 101, 114, 115, 47, 101, 115, 116, 111, 118, 101, 114, 115, 108, 97, 119, 52, 52, 46, 69, 120, 112, 108, 111, 114, 101, 82, 101, 112, 108, 97, 121, 115], [101, 115, 116, 111, 118, 101, 114, 115, 47, 101, 115, 116, 111, 118, 101, 114, 115, 108, 97, 119, 52, 52, 46, 69, 120, 112, 108, 111, 114, 101, 84, 97, 107, 101, 114, 115], [101, 115, 116, 111, 118, 101, 114, 115, 47, 101, 115, 116, 111, 118, 101, 114, 115, 108, 97, 119, 52, 52, 46, 69, 120, 112, 108, 111, 114, 101, 80, 104, 105, 108, 111, 115, 111, 112, 104, 101, 114, 115], [101, 115, 116, 111, 118, 101, 114, 115, 47, 101, 115, 116, 111, 118, 101, 114, 115, 108, 97, 119, 52, 52, 46, 69, 120, 112, 108, 111, 114, 101, 83, 116, 101, 112, 115], [101, 115, 116, 111, 118, 101, 114, 115, 47, 101, 115, 116, 111, 118, 101, 114, 115, 108, 97, 119, 52, 52, 46, 69, 120, 112, 108, 111, 114, 101, 83, 97, 102, 101], [101, 115, 116, 111, 118, 101, 114, 115, 47, 101, 115, 116, 111, 118, 101, 114, 115, 108, 97, 119, 52, 51, 46, 67, 101, 114, 116, 105, 102, 105, 99, 97, 116, 101, 77, 97, 107, 101, 115], [101, 115, 116, 111, 118, 101, 114, 115, 47, 101, 115, 116, 111, 118, 101, 114, 115, 108, 97, 119, 52, 51, 46, 67, 101, 114, 116, 105, 102, 105, 99, 97, 116, 101, 86, 101, 114, 105, 102, 105, 101, 115], [101, 115, 116, 111, 118, 101, 114, 115, 47, 101, 115, 116, 111, 118, 101, 114, 115, 108, 97, 119, 52, 51, 46, 67, 101, 114, 116, 105, 102, 105, 99, 97, 116, 101, 82, 111, 117, 110, 100], [101, 115, 116, 111, 118, 101, 114, 115, 47, 101, 115, 116, 111, 118, 101, 114, 115, 108, 97, 119, 52, 51, 46, 67, 101, 114, 116, 105, 102, 105, 99, 97, 116, 101, 69, 120, 112, 108, 97, 105, 110, 115], [101, 115, 116, 111, 118, 101, 114, 115, 47, 101, 115, 116, 111, 118, 101, 114, 115, 108, 97, 119, 52, 51, 46, 67, 101, 114, 116, 105, 102, 105, 99, 97, 116, 101, 83, 99, 97, 108, 101, 115], [101, 115, 116, 111, 118, 101, 114, 115, 47, 101, 115, 116, 111, 118, 101, 114, 115, 108, 97, 119, 52, 51, 46, 67, 101, 114, 116, 105, 102, 105, 99, 97, 116, 101, 70, 101, 119, 101, 114], [101, 115, 116, 111, 118, 101, 114, 115, 47, 101, 115, 116, 111, 118, 101, 114, 115, 108, 97, 119, 52, 51, 46, 67, 101, 114, 116, 105, 102, 105, 99, 97, 116, 101, 82, 101, 115, 101, 114, 118, 101, 115], [101, 115, 116, 111, 118, 101, 114, 115, 47, 101, 115, 116, 111, 118, 101, 114, 115, 108, 97, 119, 52, 52, 46, 69, 120, 112, 108, 111, 114, 101, 67, 101, 114, 116, 105, 102, 105, 101, 100]].map (List.map Char.ofNat)
theorem head_lit : Try.prog.initOrder = "harness 083fc437d4c3fb5fc9dc1f4e9742696e09bf838d003759f73a38b38579d6f151 cut at estovers/estoverslaw42.WaitgraphDemands estovers/estoverslaw42.WaitgraphEdges estovers/estoverslaw42.WaitgraphGraphs estovers/estoverslaw42.WaitgraphCycles estovers/estoverslaw42.WaitgraphLevels estovers/estoverslaw42.WaitgraphComponents estovers/estoverstop.TopAscending estovers/estoverslaw42.WaitgraphHolds estovers/estoverslaw44.ExploreChecks estovers/estoverstop.TopNeverStops estovers/estoverslaw44.ExploreReaches estovers/estoverslaw44.ExploreReplays estovers/estoverslaw44.ExploreTakers estovers/estoverslaw44.ExplorePhilosophers estovers/estoverslaw44.ExploreSteps estovers/estoverslaw44.ExploreSafe estovers/estoverslaw43.CertificateMakes estovers/estoverslaw43.CertificateVerifies estovers/estoverslaw43.CertificateRound estovers/estoverslaw43.CertificateExplains estovers/estoverslaw43.CertificateScales estovers/estoverslaw43.CertificateFewer estovers/estoverslaw43.CertificateReserves estovers/estoverslaw44.ExploreCertified" := by kernel_rfl
theorem lit_chars : "harness 083fc437d4c3fb5fc9dc1f4e9742696e09bf838d003759f73a38b38579d6f151 cut at estovers/estoverslaw42.WaitgraphDemands estovers/estoverslaw42.WaitgraphEdges estovers/estoverslaw42.WaitgraphGraphs estovers/estoverslaw42.WaitgraphCycles estovers/estoverslaw42.WaitgraphLevels estovers/estoverslaw42.WaitgraphComponents estovers/estoverstop.TopAscending estovers/estoverslaw42.WaitgraphHolds estovers/estoverslaw44.ExploreChecks estovers/estoverstop.TopNeverStops estovers/estoverslaw44.ExploreReaches estovers/estoverslaw44.ExploreReplays estovers/estoverslaw44.ExploreTakers estovers/estoverslaw44.ExplorePhilosophers estovers/estoverslaw44.ExploreSteps estovers/estoverslaw44.ExploreSafe estovers/estoverslaw43.CertificateMakes estovers/estoverslaw43.CertificateVerifies estovers/estoverslaw43.CertificateRound estovers/estoverslaw43.CertificateExplains estovers/estoverslaw43.CertificateScales estovers/estoverslaw43.CertificateFewer estovers/estoverslaw43.CertificateReserves estovers/estoverslaw44.ExploreCertified" = String.ofList headChars := by kernel_rfl
theorem head_is : Try.prog.initOrder = String.ofList headChars := head_lit.trans lit_chars
theorem head_chars : Try.prog.initOrder.toList = headChars := by rw [head_is, String.toList_ofList]
theorem head_words : wordsSigns headChars = headWords := by kernel_rfl
def cutWord : List Char := [99, 117, 116].map Char.ofNat
def restWords : List (List Char) := [[97, 116], [101, 115, 116, 111, 118, 101, 114, 115, 47, 101, 115, 116, 111, 118, 101, 114, 115, 108, 97, 119, 52, 50, 46, 87, 97, 105, 116, 103, 114, 97, 112, 104, 68, 101, 109, 97, 110, 100, 115], [101, 115, 116, 111, 118, 101, 114, 115, 47, 101, 115, 116, 111, 118, 101, 114, 115, 108, 97, 119, 52, 50, 46, 87, 97, 105, 116, 103, 114, 97, 112, 104, 69, 100, 103, 101, 115], [101, 115, 116, 111, 118, 101, 114, 115, 47, 101, 115, 116, 111, 118, 101, 114, 115, 108, 97, 119, 52, 50, 46, 87, 97, 105, 116, 103, 114, 97, 112, 104, 71, 114, 97, 112, 104, 115], [101, 115, 116, 111, 118, 101, 114, 115, 47, 101, 115, 116, 111, 118, 101, 114, 115, 108, 97, 119, 52, 50, 46, 87, 97, 105, 116, 103, 114, 97, 112, 104, 67, 121, 99, 108, 101, 115], [101, 115, 116, 111, 118, 101, 114, 115, 47, 101, 115, 116, 111, 118, 101, 114, 115, 108, 97, 119, 52, 50, 46, 87, 97, 105, 116, 103, 114, 97, 112, 104, 76, 101, 118, 101, 108, 115], [101, 115, 116, 111, 118, 101, 114, 115, 47, 101, 115, 116, 111, 118, 101, 114, 115, 108, 97, 119, 52, 50, 46, 87, 97, 105, 116, 103, 114, 97, 112, 104, 67, 111, 109, 112, 111, 110, 101, 110, 116, 115], [101, 115, 116, 111, 118, 101, 114, 115, 47, 101, 115, 116, 111, 118, 101, 114, 115, 116, 111, 112, 46, 84, 111, 112, 65, 115, 99, 101, 110, 100, 105, 110, 103], [101, 115, 116, 111, 118, 101, 114, 115, 47, 101, 115, 116, 111, 118, 101, 114, 115, 108, 97, 119, 52, 50, 46, 87, 97, 105, 116, 103, 114, 97, 112, 104, 72, 111, 108, 100, 115], [101, 115, 116, 111, 118, 101, 114, 115, 47, 101, 115, 116, 111, 118, 101, 114, 115, 108, 97, 119, 52, 52, 46, 69, 120, 112, 108, 111, 114, 101, 67, 104, 101, 99, 107, 115], [101, 115, 116, 111, 118, 101, 114, 115, 47, 101, 115, 116, 111, 118, 101, 114, 115, 116, 111, 112, 46, 84, 111, 112, 78, 101, 118, 101, 114, 83, 116, 111, 112, 115], [101, 115, 116, 111, 118, 101, 114, 115, 47, 101, 115, 116, 111, 118, 101, 114, 115, 108, 97, 119, 52, 52, 46, 69, 120, 112, 108, 111, 114, 101, 82, 101, 97, 99, 104, 101, 115], [101, 115, 116, 111, 118, 101, 114, 115, 47, 101, 115, 116, 111, 118, 101, 114, 115, 108, 97, 119, 52, 52, 46, 69, 120, 112, 108, 111, 114, 101, 82, 101, 112, 108, 97, 121, 115], [101, 115, 116, 111, 118, 101, 114, 115, 47, 101, 115, 116, 111, 118, 101, 114, 115, 108, 97, 119, 52, 52, 46, 69, 120, 112, 108, 111, 114, 101, 84, 97, 107, 101, 114, 115], [101, 115, 116, 111, 118, 101, 114, 115, 47, 101, 115, 116, 111, 118, 101, 114, 115, 108, 97, 119, 52, 52, 46, 69, 120, 112, 108, 111, 114, 101, 80, 104, 105, 108, 111, 115, 111, 112, 104, 101, 114, 115], [101, 115, 116, 111, 118, 101, 114, 115, 47, 101, 115, 116, 111, 118, 101, 114, 115, 108, 97, 119, 52, 52, 46, 69, 120, 112, 108, 111, 114, 101, 83, 116, 101, 112, 115], [101, 115, 116, 111, 118, 101, 114, 115, 47, 101, 115, 116, 111, 118, 101, 114, 115, 108, 97, 119, 52, 52, 46, 69, 120, 112, 108, 111, 114, 101, 83, 97, 102, 101], [101, 115, 116, 111, 118, 101, 114, 115, 47, 101, 115, 116, 111, 118, 101, 114, 115, 108, 97, 119, 52, 51, 46, 67, 101, 114, 116, 105, 102, 105, 99, 97, 116, 101, 77, 97, 107, 101, 115], [101, 115, 116, 111, 118, 101, 114, 115, 47, 101, 115, 116, 111, 118, 101, 114, 115, 108, 97, 119, 52, 51, 46, 67, 101, 114, 116, 105, 102, 105, 99, 97, 116, 101, 86, 101, 114, 105, 102, 105, 101, 115], [101, 115, 116, 111, 118, 101, 114, 115, 47, 101, 115, 116, 111, 118, 101, 114, 115, 108, 97, 119, 52, 51, 46, 67, 101, 114, 116, 105, 102, 105, 99, 97, 116, 101, 82, 111, 117, 110, 100], [101, 115, 116, 111, 118, 101, 114, 115, 47, 101, 115, 116, 111, 118, 101, 114, 115, 108, 97, 119, 52, 51, 46, 67, 101, 114, 116, 105, 102, 105, 99, 97, 116, 101, 69, 120, 112, 108, 97, 105, 110, 115], [101, 115, 116, 111, 118, 101, 114, 115, 47, 101, 115, 116, 111, 118, 101, 114, 115, 108, 97, 119, 52, 51, 46, 67, 101, 114, 116, 105, 102, 105, 99, 97, 116, 101, 83, 99, 97, 108, 101, 115], [101, 115, 116, 111, 118, 101, 114, 115, 47, 101, 115, 116, 111, 118, 101, 114, 115, 108, 97, 119, 52, 51, 46, 67, 101, 114, 116, 105, 102, 105, 99, 97, 116, 101, 70, 101, 119, 101, 114], [101, 115, 116, 111, 118, 101, 114, 115, 47, 101, 115, 116, 111, 118, 101, 114, 115, 108, 97, 119, 52, 51, 46, 67, 101, 114, 116, 105, 102, 105, 99, 97, 116, 101, 82, 101, 115, 101, 114, 118, 101, 115], [101, 115, 116, 111, 118, 101, 114, 115, 47, 101, 115, 116, 111, 118, 101, 114, 115, 108, 97, 119, 52, 52, 46, 69, 120, 112, 108, 111, 114, 101, 67, 101, 114, 116, 105, 102, 105, 101, 100]].map (List.map Char.ofNat)
theorem behind : behindMainWord headWords = cutWord :: restWords := by kernel_rfl
theorem strip : stripLifts liftWords (cutWord :: restWords) = ([], cutWord :: restWords) := by kernel_rfl
theorem w1 : (cutWord == "gc".toList) = false := by kernel_rfl
theorem w2 : (cutWord == "spec".toList) = false := by kernel_rfl
theorem w3 : (cutWord == "cut".toList) = true := by kernel_rfl
theorem w4 : (cutWord == "carried".toList) = false := by kernel_rfl
theorem later : Try.prog.laysLater = false := by kernel_rfl
theorem reflects : Try.prog.bearsReflect = false := by kernel_rfl
theorem doors : Try.prog.doorFits [] = true := by kernel_rfl
theorem w5 : ((cutWord :: restWords).head? == some "cut".toList) = true := by kernel_rfl
theorem enters_of (P : Program) (l : List Char) (ws : List (List Char)) (c : List Char) (rest : List (List Char)) (h1 : P.initOrder.toList = l) (h2 : wordsSigns l = ws) (h3 : behindMainWord ws = c :: rest)
  (k : stripLifts liftWords (c :: rest) = ([], c :: rest)) (k1 : (c == "gc".toList) = false) (k2 : (c == "spec".toList) = false) (k5 : ((c :: rest).head? == some "cut".toList) = true)
  (k6 : P.laysLater = false) (k7 : P.bearsReflect = false) (k8 : P.doorFits [] = true) : P.mayEnter = true := by
 unfold Program.mayEnter
 rw [h1, h2, h3]
 dsimp only
 rw [k, k1, k2]
 dsimp only
 rw [k5, k6, k7, k8]
 simp
theorem enters : Try.prog.mayEnter = true := enters_of Try.prog headChars headWords cutWord restWords head_chars head_words behind strip w1 w2 w5 later reflects doors
theorem noLifts : Try.prog.headLifts = [] := by
 unfold Program.headLifts
 rw [head_chars, head_words]
 kernel_rfl
theorem noFinal : Try.prog.liftsFinal = false := by
 unfold Program.liftsFinal
 rw [head_chars, head_words, noLifts]
 kernel_rfl
theorem made_of (P : Program) (l : List Char) (ws : List (List Char)) (c : List Char) (rest : List (List Char)) (h1 : P.initOrder.toList = l) (h2 : wordsSigns l = ws) (h3 : behindMainWord ws = c :: rest)
  (k1 : (c == "gc".toList) = false) (k2 : (c == "spec".toList) = false) (k3 : (c == "cut".toList) = true) : P.make = some .cut := by
 unfold Program.make
 rw [h1, h2, h3]
 dsimp only
 rw [k1, k2, k3]
 rfl
theorem made : Try.prog.make = some .cut := made_of Try.prog headChars headWords cutWord restWords head_chars head_words behind w1 w2 w3
theorem laid : laidOutB Try.prog = true := by kernel_rfl
theorem rowed : mapsRowed Try.prog = true := by kernel_rfl
theorem unstopped : Try.prog.stops = [] := by kernel_rfl
theorem unknobbed : Try.prog.stopKnobs = [] := by kernel_rfl
theorem noPlain : Try.prog.plainKeys = false := by kernel_rfl
theorem heard : Try.prog.stopsHeard = true := by kernel_rfl
theorem joined (f : FuncId) (fn : Func) (s : ChangeSpec) (c : OpenClaim)
  (k1 : c.wf (OpenSpec.ofChange s) = true) (k4 : fn.params.all (Try.prog.readableRec ·) = true) (k5 : namedTie Try.prog c.named s.vars = true) (k6 : (c.stops == []) = true) (k8 : (c.knobs == []) = true)
  (k10 : Try.prog.inPlace f = c.inPlace) (k11 : Try.prog.unfollowed f = c.unfollowed) (k12 : Try.prog.recurses f = c.recurses) (k13 : Try.prog.varsNamed f = c.named)
  (k14 : (c.maps == (fn.params.toList ++ s.plain.varTypes Try.prog).any (Try.prog.mapsRec ·)) = true) (k15 : (c.ifaces == (fn.params.toList ++ s.plain.varTypes Try.prog).any (Try.prog.ifacesRec ·)) = true) (k16 : (c.mapsOut == Try.prog.mapsAmong fn.resultTypes.toList) = true)
  (k17 : (c.loops == (fn.params.toList ++ s.plain.varTypes Try.prog).any (Try.prog.loopsFrom ·)) = true) (k18 : (c.wideKeys == (fn.params.toList ++ s.plain.varTypes Try.prog ++ fn.resultTypes.toList).any (Try.prog.wideKeysFrom ·)) = true)
  (k19 : s.vars.all (Try.prog.varReadable ·) = true) (k20 : fn.resultTypes.all (fun t => Try.prog.readableRec t && decide (t < Try.prog.types.size)) = true) (k21 : (c.ifacesOut == fn.resultTypes.toList.any (Try.prog.ifacesRec ·)) = true) (k22 : (c.loopsOut == fn.resultTypes.toList.any (Try.prog.loopsFrom ·)) = true)
  (k23 : c.plainKeys = false) (k24 : c.shortTexts.isNone = true) (k25 : c.lifted = false) (k26 : c.make = .cut)
  (k27 : (c.kinds == (if c.domain.isEmpty then [] else fn.params.toList.map fun t => match Try.prog.underlying t with | some (.int k) => some k | _ => none)) = true) (k28 : (c.pinned == c.pinnedBy) = true)
  (k29 : (c.veiled == (fn.params.toList ++ s.plain.varTypes Try.prog ++ fn.resultTypes.toList).any (Try.prog.veiledRec ·)) = true) (k30 : c.veiledFits Try.prog fn.params.toList (fn.params.toList ++ s.plain.varTypes Try.prog ++ fn.resultTypes.toList) = true) :
  joinedFacts Try.prog f fn s c = true := by
 unfold joinedFacts
 rw [k1, laid, rowed, k4, k5, k6, unstopped, k8, unknobbed, k10, k11, k12, k13, k14, k15, k16, k17, k18, k19, k20, k21, k22, noPlain, k23, k24, heard, enters, noFinal, k25, made, k26, k28, k29, k30]
 simp only [beq_self_eq_true, Bool.true_and, Bool.and_true]
 exact k27
end Go.Proofs.Ytflfnkdhmcfjlaa
namespace Go.Am
open Go
set_option linter.unusedSimpArgs false
set_option linter.unusedVariables false
set_option maxRecDepth 100000
theorem w23_1 {F : Nat → Option Fn} {lo : Nat} (s : Sys) (f o : Int) (hf : 0 ≤ f ∧ f ≤ 255) (ho : 0 ≤ o ∧ o ≤ 255) (u : List Int) (hul : u.length < 100000) (hu : ∀ x ∈ u, 0 ≤ x ∧ x ≤ 30) (m0' : Mem) : ∀ (t : List Int) (i : Nat) (v : V) (m : Mem) (Q : Ex → St → Prop), u.drop i = t → lo ≤ m.next → Rw lo m 1 v (((u.take i).map fun x => x * (1 + f % 64) + o).map vi) →
  (∀ v m' e, m.next ≤ m'.next → Rw lo m' 1 v ((u.map fun x => x * (1 + f % 64) + o).map vi) → Q (.exit 0) ⟨(1, .int .u8 f) :: (2, .int .u8 o) :: (9, v) :: e, [(3, vSys s)], [], m'⟩) →
  W F lo L23_1 ⟨[(1, .int .u8 f), (2, .int .u8 o), (9, v), (32, ints u), (33, vi u.length), (34, vi i)], [(3, vSys s)], [], m⟩ Q := by
 intro t
 induction t with
 | nil =>
  intro i v m Q hd hm hr hQ
  have hlt := drop_nil hd
  rw [W_L (c := L23_1) rfl]
  have : ¬ ((i : Nat) : Int) < (u.length : Int) := by omega
  simp only [↓sxc, sx, se, ↓reduceIte, Nat.reduceEqDiff, Nat.reduceAdd, Nat.reduceLT, Nat.reduceLeDiff, Nat.reduceSub, Nat.reduceMul, Int.reduceToNat, Int.reduceLT, Int.reduceLE, Int.reduceEq, ml_i0, ↓smc, sm, this]
  rw [List.take_of_length_le hlt] at hr
  exact hQ v m _ (Nat.le_refl _) hr
 | cons x t ih =>
  intro i v m Q hd hm hr hQ
  obtain ⟨hg, hd', hlt⟩ := drop_cons hd
  have hx := hu x (List.mem_of_getElem? hg)
  rw [W_L (c := L23_1) rfl]
  have c0 : ((i : Nat) : Int) < (u.length : Int) := by omega
  have wr : wrapF .i64 ((i : Int) + 1) = ((i + 1 : Nat) : Int) := by rw [wr_i64 (by omega) (by omega)]; rfl
  have i0 : (0 : Int) ≤ i := by omega
  have in_ : ((i : Nat) : Int).toNat = i := rfl
  have x1 : ¬ x < 0 := by omega
  have x2 : ¬ 30 < x := by omega
  have e1 := cv_u8 hf.1 hf.2
  have e2 := rm_i64 (x := f) (y := 64) hf.1 (by omega)
  have e3 : wrapF .i64 (1 + f % 64) = 1 + f % 64 := wr_i64 (by omega) (by omega)
  have hy : 1 ≤ 1 + f % 64 ∧ 1 + f % 64 ≤ 64 := by omega
  have e6 := cv_u8 ho.1 ho.2
  have hxy : 0 ≤ x * (1 + f % 64) ∧ x * (1 + f % 64) ≤ 30 * 64 := ⟨Int.mul_nonneg hx.1 (by omega), Int.mul_le_mul hx.2 hy.2 (by omega) (by omega)⟩
  have e4 : wrapF .i64 (x * (1 + f % 64)) = x * (1 + f % 64) := wr_i64 (by omega) (by omega)
  have e5 : wrapF .i64 (x * (1 + f % 64) + o) = x * (1 + f % 64) + o := wr_i64 (by omega) (by omega)
  obtain ⟨v', m', hap, hr', hn, _⟩ := hr.app (y := .lst false 1 [vi (x * (1 + f % 64) + o)]) hm vw_lst (.inl rfl) (by simp [big]; omega)
  simp only [↓sxc, sx, se, ↓reduceIte, Nat.reduceEqDiff, Nat.reduceAdd, Nat.reduceLT, Nat.reduceLeDiff, Nat.reduceSub, Nat.reduceMul, Int.reduceToNat, Int.reduceLT, Int.reduceLE, Int.reduceEq, ml_i0, ↓smc, sm, c0, i0, in_, hg, x1, x2, e1, e2, e3, e4, e6, e5, hap, wr]
  refine ih (i + 1) v' (m'.bump 1) Q hd' ?_ ?_ (fun v m2 e q1 q2 => hQ v m2 e ?_ q2)
  ·show lo ≤ m'.next + 1; omega
  ·rw [take_succ_drop hd, List.map_append, List.map_append]
   exact hr'
  ·have q1' : m'.next + 1 ≤ m2.next := q1
   omega
theorem law23 (us : List V) (h : HasAll [tSys, .int .u8, .int .u8] us) : ∃ m, callw F43 23 us 0 m0 = some (.bool true, m) := by
 obtain ⟨u1, us, rfl, h1, h⟩ := all_cons h
 obtain ⟨u2, us, rfl, h2, h⟩ := all_cons h
 obtain ⟨u3, us, rfl, h3, h⟩ := all_cons h
 obtain rfl := all_nil h
 obtain ⟨s, rfl⟩ := open_sys h1
 obtain ⟨f, rfl, hf0⟩ := open_u8 h2
 obtain ⟨o, rfl, ho0⟩ := open_u8 h3
 refine ⟨m0, ?_⟩
 have c28 : ∀ {lo m}, callw F43 28 [vSys s] lo m = some (.bool (few s), m) := fun {lo m} => sp28 hasA s
 refine call_p hasX23.h23 rfl ?_
 have ha : ∀ {lo}, callw F43 79 [] lo m0 = some (.bool true, m0) := aw43
 cases hf : few s with
 | false =>
  simp only [↓sxc, sx, se, ↓reduceIte, Nat.reduceEqDiff, Nat.reduceAdd, Nat.reduceLT, Nat.reduceLeDiff, Nat.reduceSub, Nat.reduceMul, Int.reduceToNat, Int.reduceLT, Int.reduceLE, Int.reduceEq, ml_i0, ↓smc, sm, ha, c28, hf]
 | true =>
  have c50 : ∀ {lo m}, callw F43 50 [vSys s] lo m = some (.tup [.agg [ints (makE s).1], vi (makE s).2], m) := fun {lo m} => sp50 hasA hasB hasC hasG s
  by_cases h0 : (makE s).2 = 0
  ·have hc : chkE s = 0 := Classical.byContradiction fun hc => by
    have : (makE s).2 = chkE s := by unfold makE; rw [if_pos hc]
    omega
   have hg := sys_chkG hc
   obtain ⟨N, hN, hN2⟩ := res_nat (s := s)
   have hv := valid_of hc
   have p6 := hv.p6
   have l4 := hv.l4
   have c6 := hv.c6
   have hN16 : N ≤ 16 := by have := hN2 hc; omega
   have him : (impA s).2.2 = false := by
    rcases mak_cases hc with ⟨_, h⟩ | ⟨h, _⟩ | ⟨_, h, _⟩
    ·omega
    ·exact h
    ·omega
   obtain ⟨g, hg1, hg2⟩ : ∃ g, LevEq N (edgesE s) g ∧ makE s = (g, 0) := by
    rcases lev_cases hg hN with ⟨g, h1, h2⟩ | ⟨_, h2⟩
    ·exact ⟨g, h1, by unfold makE; rw [if_neg (by simpa using hc), if_neg (by simp [him]), h2]; rfl⟩
    ·exfalso
     have : makE s = ([], 20) := by unfold makE; rw [if_neg (by simpa using hc), if_neg (by simp [him]), h2]; rfl
     rw [this] at h0
     cases h0
   rw [hg2] at c50
   have hgr : ∀ x ∈ g, 0 ≤ x ∧ x ≤ 16 := fun x hx => by
    obtain ⟨v, hv1, rfl⟩ := gAt_mem hx
    rw [hg1.ln] at hv1
    have := hg1.nn v hv1
    have := hg1.small (gr_of hg) hN v hv1
    omega
   have hfm : 0 ≤ f % 64 ∧ f % 64 ≤ 63 := by omega
   have bd : ∀ x : Int, 0 ≤ x → x ≤ 16 → 0 ≤ x * (1 + f % 64) ∧ x * (1 + f % 64) ≤ 16 * 64 := fun x h1 h2 => ⟨Int.mul_nonneg h1 (by omega), Int.mul_le_mul h2 (by omega) (by omega) (by omega)⟩
   have hvo : verE s (g.map fun x => x * (1 + f % 64) + o) = 0 := by
    have hvo : verE s (g.map fun x => x * (1 + f % 64) + o) = 0 := by
     refine ver_ok hc (by rw [List.length_map, hg1.ln, hN]) (fun n hn => ?_) him (fun e he => ?_)
     ·obtain ⟨x, hx, rfl⟩ := List.mem_map.1 hn
      have h4 := hgr x hx
      have h5 := bd x h4.1 h4.2
      omega
     ·obtain ⟨a, b, q1, q2, q3, q4⟩ := (gr_of hg).e e he
      have h4 := hg1.ge e he
      rw [q1, q2] at h4 ⊢
      have ga : ∀ v : Nat, v < N → gAt (g.map fun x => x * (1 + f % 64) + o) v = gAt g v * (1 + f % 64) + o := fun v hv => by
       have e1 := gAt_get (xs := g) (v := v) (by rw [hg1.ln]; exact hv)
       have e2 := gAt_get (xs := g.map fun x => x * (1 + f % 64) + o) (v := v) (by rw [List.length_map, hg1.ln]; exact hv)
       rw [List.getElem?_map, e1] at e2
       exact (Option.some.inj e2).symm
      rw [ga a (by omega), ga b (by omega)]
      have h5 : (gAt g b + 1) * (1 + f % 64) ≤ gAt g a * (1 + f % 64) := Int.mul_le_mul_of_nonneg_right h4 (by omega)
      have h6 : (gAt g b + 1) * (1 + f % 64) = gAt g b * (1 + f % 64) + (1 + f % 64) := by rw [Int.add_mul, Int.one_mul]
      omega
    exact hvo
   simp only [↓sxc, sx, se, ↓reduceIte, Nat.reduceEqDiff, Nat.reduceAdd, Nat.reduceLT, Nat.reduceLeDiff, Nat.reduceSub, Nat.reduceMul, Int.reduceToNat, Int.reduceLT, Int.reduceLE, Int.reduceEq, ml_i0, ↓smc, sm, ha, c28, hf, c50]
   refine w23_1 s f o hf0 ho0 g (by rw [hg1.ln]; omega) (fun x hx => by have := hgr x hx; omega) m0 g 0 .nil m0 _ rfl (Nat.le_refl _) .nil (fun v m' e q1 q2 => ?_)
   have hgl : (g.map fun x => x * (1 + f % 64) + o).length < 1000000 := by rw [List.length_map, hg1.ln]; omega
   generalize (g.map fun x => x * (1 + f % 64) + o) = r at hvo hgl q2
   rcases q2 with ⟨rfl, e1⟩ | ⟨k, rfl, k1, k2, k3⟩
   ·have er : r = [] := by simpa using e1
    subst er
    have c52 : ∀ {lo m}, callw F43 52 [vSys s, .agg [.nil]] lo m = some (vi 0, m) := fun {lo m} => by
     exact sp52n hasA hasB hasC (lo := lo) (m := m) s hvo
    simp only [↓sxc, sx, se, ↓reduceIte, Nat.reduceEqDiff, Nat.reduceAdd, Nat.reduceLT, Nat.reduceLeDiff, Nat.reduceSub, Nat.reduceMul, Int.reduceToNat, Int.reduceLT, Int.reduceLE, Int.reduceEq, ml_i0, ↓smc, sm, c52]
   ·have c52 := sp52r hasA hasB hasC (lo := m0.next) (m := m') s r hgl k3
    rw [hvo] at c52
    simp only [List.length_map]
    simp only [↓sxc, sx, se, ↓reduceIte, Nat.reduceEqDiff, Nat.reduceAdd, Nat.reduceLT, Nat.reduceLeDiff, Nat.reduceSub, Nat.reduceMul, Int.reduceToNat, Int.reduceLT, Int.reduceLE, Int.reduceEq, ml_i0, ↓smc, sm, c52]
  ·have he : (makE s).1 = [] := by
    unfold makE at h0 ⊢
    split
    ·rfl
    ·rename_i h4
     rw [if_neg h4] at h0
     split
     ·rfl
     ·rename_i h5
      rw [if_neg h5] at h0
      split
      ·rfl
      ·rename_i h6
       rw [if_neg h6] at h0
       exact absurd rfl h0
   rw [he] at c50
   simp only [↓sxc, sx, se, ↓reduceIte, Nat.reduceEqDiff, Nat.reduceAdd, Nat.reduceLT, Nat.reduceLeDiff, Nat.reduceSub, Nat.reduceMul, Int.reduceToNat, Int.reduceLT, Int.reduceLE, Int.reduceEq, ml_i0, ↓smc, sm, ha, c28, hf, c50, h0]
end Go.Am
namespace Go.Proofs.Ytflfnkdhmcfjlaa
open Go Go.Am Go.ChangeShapes Go.WideShapes Go.ChangeAt Go.RowKit
set_option linter.unusedVariables false
theorem own : ownKnob Try.prog.godebug = none := by kernel_rfl
theorem kids : Kids Try.prog (· < Try.prog.types.size) := kids_rows (by kernel_rfl) (by kernel_rfl)
theorem full : ∀ t e, t < Try.prog.types.size → Try.prog.underlying t = some (.slice e) → 0 < Try.prog.cellsOf e := slices_full_of Try.prog (by kernel_rfl)
theorem fit : fitAll Try.prog Try.f23.params.toList [tSys, .int .u8, .int .u8] = true := by kernel_rfl
set_option maxRecDepth 100000 in
theorem lifted (os : Os) (started : os.Started) (H : Type) (enc : TypeId × Value → H) :
  ReturnsInHanded {} Try.checked os 23 .any (Rows.certificateScalesSpec.pre6 enc Try.prog Try.f23 Rows.certificateScalesRow.domain false) (Rows.certificateScalesSpec.post enc Try.prog Try.f23 false true false false) := by
 refine returnsInHanded_of_change (C := Try.checked) own started (by kernel_rfl) Try.func23
  (ChangeSpec.witness6 (enc := enc) (C := Try.checked) false ⟨#[], #[.agg #[.slice none 0 0, .slice none 0 0, .slice none 0 0], .int .u8 0, .int .u8 0], []⟩ 12 (by kernel_rfl) (by kernel_rfl) (by kernel_rfl) (by kernel_rfl)) ?_
 intro W base args ds gs before hval0 hW hcnd _
 have hval : ∀ (j : Nat) t v, Try.f23.params[j]? = some t → args[j]? = some v → Value.okWide Try.prog W .any base t v := hval0
 have hW' := hW
 obtain ⟨p, q, hA0, hV, rfl, hfz, hnd⟩ := hW
 have hA : DataW.TrodAll enc Try.prog W 0 (fun _ => true) true Try.f23.params.toList args.toList ds p := hA0
 obtain ⟨rfl, rfl⟩ := trodVars_none hV
 have hspec : Rows.certificateScalesSpec.fn H (ds ++ []) = { results := [.lit (.bool true)], args := ds } := by
  rw [Try.params23] at hA
  obtain ⟨v0, vs0, d0, ds0, p0, q0, _, rfl, _, _, r0⟩ := trodAll_cons hA
  obtain ⟨v1, vs1, d1, ds1, p1, q1, _, rfl, _, _, r1⟩ := trodAll_cons r0
  obtain ⟨v2, vs2, d2, ds2, p2, q2, _, rfl, _, _, r2⟩ := trodAll_cons r1
  obtain ⟨_, rfl, _⟩ := trodAll_nil r2
  rfl
 refine (law_calls (P := Try.prog) (F := F43) mixed okAll (by decide) fit (fun us h => law23 us h) hA (fun j t v ht hv => hval j t v (by rw [← Array.getElem?_toList]; exact ht) hv)).mono fun e W' ⟨he, h1, h2, h3⟩ => ?_
 subst he
 exact ⟨_, rfl, kept_post hW' rfl hspec rfl Try.underlying4 kids full (by rw [Try.params23]; decide) h1 h2 h3⟩
theorem reached : Try.prog.closure 23 = [23, 79, 90, 50, 35, 49, 111, 112, 113, 153, 114, 121, 122, 154, 116, 120, 106, 155, 94, 92, 148, 97, 98, 54, 81, 142, 143, 141, 29, 41, 102, 83, 40, 103, 105, 152, 165, 168, 169, 107, 45, 52, 119, 86, 31, 28] := by kernel_rfl
theorem noPlace : Try.prog.inPlace 23 = [] := by unfold Program.inPlace; rw [reached]; kernel_rfl
theorem follows : Try.prog.unfollowed 23 = true := by unfold Program.unfollowed; rw [reached]; kernel_rfl
theorem recurs : Try.prog.recurses 23 = true := by unfold Program.recurses; rw [follows]; rfl
theorem names : Try.prog.varsNamed 23 = [] := by unfold Program.varsNamed; rw [reached]; kernel_rfl
theorem shut : joinedFacts Try.prog 23 Try.f23 Rows.certificateScalesSpec Rows.certificateScalesRow = true :=
 joined 23 Try.f23 Rows.certificateScalesSpec Rows.certificateScalesRow (by kernel_rfl) (by kernel_rfl) (by kernel_rfl) (by kernel_rfl) (by kernel_rfl) noPlace follows recurs names
  (by kernel_rfl) (by kernel_rfl) (by kernel_rfl) (by kernel_rfl) (by kernel_rfl) (by kernel_rfl) (by kernel_rfl) (by kernel_rfl) (by kernel_rfl) rfl rfl rfl rfl (by kernel_rfl) (by kernel_rfl) (by kernel_rfl) (by kernel_rfl)
theorem over : Rows.certificateScalesRow.holds Try.pinned (OpenSpec.ofChange Rows.certificateScalesSpec) :=
 OpenClaim.holds_of_wide 23 Try.f23 rfl rfl rfl rfl rfl rfl rfl ⟨rfl, rfl, rfl, rfl, rfl⟩ rfl rfl rfl rfl rfl (by kernel_rfl) Try.func23 shut
  (of_decide_eq_true (by kernel_rfl)) (by unfold Func.isWrapper; first | (rw [if_pos (by decide +kernel)]; kernel_rfl) | (rw [if_neg (by decide +kernel)]; exact ⟨rfl, rfl⟩))
  (fun os started H enc _ => lifted os started H enc)
theorem certificateScales_holds : Rows.CertificateScalesSaid := over
end Go.Proofs.Ytflfnkdhmcfjlaa
