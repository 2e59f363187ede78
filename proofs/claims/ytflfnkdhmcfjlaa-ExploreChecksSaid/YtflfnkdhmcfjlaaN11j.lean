/- The law ExploreChecks holds: any state of any system has the specified error, and a step of an invalid one returns it; no conditions. -/
import Derived.Test.YtflfnkdhmcfjlaaN11i
import Derived.Test.YtflfnkdhmcfjlaaRows
namespace Go.Proofs.Ytflfnkdhmcfjlaa
open Go Go.ChangeShapes Go.WideShapes Go.ChangeAt Go.RowKit
set_option maxRecDepth 100000
def headChars : List Char := [104, 97, 114, 110, 101, 115, 115, 32, 48, 56, 51, 102, 99, 52, 51, 55, 100, 52, 99, 51, 102, 98, 53, 102, 99, 57, 100, 99, 49, 102, 52, 101, 57, 55, 52, 50, 54, 57, 54, 101, 48, 57, 98, 102, 56, 51, 56, 100, 48, 48, 51, 55, 53, 57, 102, 55, 51, 97, 51, 56, 98, 51, 56, 53, 55, 57, 100, 54, 102, 49, 53, 49, 32, 99, 117, 116, 32, 97, 116, 32, 101, 115, 116, 111, 118, 101, 114, 115, 47, 101, 115, 116, 111, 118, 101, 114, 115, 108, 97, 119, 52, 50, 46, 87, 97, 105, 116, 103, 114, 97, 112, 104, 68, 101, 109, 97, 110, 100, 115, 32, 101, 115, 116, 111, 118, 101, 114, 115, 47, 101, 115, 116, 111, 118, 101, 114, 115, 108, 97, 119, 52, 50, 46, 87, 97, 105, 116, 103, 114, 97, 112, 104, 69, 100, 103, 101, 115, 32, 101, 115, 116, 111, 118, 101, 114, 115, 47, 101, 115, 116, 111, 118, 101, 114, 115, 108, 97, 119, 52, 50, 46, 87, 97, 105, 116, 103, 114, 97, 112, 104, 71, 114, 97, 112, 104, 115, 32, 101, 115, 116, 111, 118, 101, 114, 115, 47, 101, 115, 116, 111, 118, 101, 114, 115, 108, 97, 119, 52, 50, 46, 87, 97, 105, 116, 103, 114, 97, 112, 104, 67, 121, 99, 108, 101, 115, 32, 101, 115, 116, 111, 118, 101, 114, 115, 47, 101, 115, 116, 111, 118, 101, 114, 115, 108, 97, 119, 52, 50, 46, 87, 97, 105, 116, 103, 114, 97, 112, 104, 76, 101, 118, 101, 108, 115, 32, 101, 115, 116, 111, 118, 101, 114, 115, 47, 101, 115, 116, 111, 118, 101, 114, 115, 108, 97, 119, 52, 50, 46, 87, 97, 105, 116, 103, 114, 97, 112, 104, 67, 111, 109, 112, 111, 110, 101, 110, 116, 115, 32, 101, 115, 116, 111, 118, 101, 114, 115, 47, 101, 115, 116, 111, 118, 101, 114, 115, 116, 111, 112, 46, 84, 111, 112, 65, 115, 99, 101, 110, 100, 105, 110, 103, 32, 101, 115, 116, 111, 118, 101, 114, 115, 47, 101, 115, 116, 111, 118, 101, 114, 115, 108, 97, 119, 52, 50, 46, 87, 97, 105, 116, 103, 114, 97, 112, 104, 72, 111, 108, 100, 115, 32, 101, 115, 116, 111, 118, 101, 114, 115, 47, 101, 115, 116, 111, 118, 101, 114, 115, 108, 97, 119, 52, 52, 46, 69, 120, 112, 108, 111, 114, 101, 67, 104, 101, 99, 107, 115, 32, 101, 115, 116, 111, 118, 101, 114, 115, 47, 101, 115, 116, 111, 118, 101, 114, 115, 116, 111, 112, 46, 84, 111, 112, 78, 101, 118, 101, 114, 83, 116, 111, 112, 115, 32, 101, 115, 116, 111, 118, 101, 114, 115, 47, 101, 115, 116, 111, 118, 101, 114, 115, 108, 97, 119, 52, 52, 46, 69, 120, 112, 108, 111, 114, 101, 82, 101, 97, 99, 104, 101, 115, 32, 101, 115, 116, 111, 118, 101, 114, 115, 47, 101, 115, 116, 111, 118, 101, 114, 115, 108, 97, 119, 52, 52, 46, 69, 120, 112, 108, 111, 114, 101, 82, 101, 112, 108, 97, 121, 115, 32, 101, 115, 116, 111, 118, 101, 114, 115, 47, 101, 115, 116, 111, 118, 101, 114, 115, 108, 97, 119, 52, 52, 46, 69, 120, 112, 108, 111, 114, 101, 84, 97, 107, 101, 114, 115, 32, 101, 115, 116, 111, 118, 101, 114, 115, 47, 101, 115, 116, 111, 118, 101, 114, 115, 108, 97, 119, 52, 52, 46, 69, 120, 112, 108, 111, 114, 101, 80, 104, 105, 108, 111, 115, 111, 112, 104, 101, 114, 115, 32, 101, 115, 116, 111, 118, 101, 114, 115, 47, 101, 115, 116, 111, 118, 101, 114, 115, 108, 97, 119, 52, 52, 46, 69, 120, 112, 108, 111, 114, 101, 83, 116, 101, 112, 115, 32, 101, 115, 116, 111, 118, 101, 114, 115, 47, 101, 115, 116, 111, 118, 101, 114, 115, 108, 97, 119, 52, 52, 46, 69, 120, 112, 108, 111, 114, 101, 83, 97, 102, 101, 32, 101, 115, 116, 111, 118, 101, 114, 115, 47, 101, 115, 116, 111, 118, 101, 114, 115, 108, 97, 119, 52, 51, 46, 67, 101, 114, 116, 105, 102, 105, 99, 97, 116, 101, 77, 97, 107, 101, 115, 32, 101, 115, 116, 111, 118, 101, 114, 115, 47, 101, 115, 116, 111, 118, 101, 114, 115, 108, 97, 119, 52, 51, 46, 67, 101, 114, 116, 105, 102, 105, 99, 97, 116, 101, 86, 101, 114, 105, 102, 105, 101, 115, 32, 101, 115, 116, 111, 118, 101, 114, 115, 47, 101, 115, 116, 111, 118, 101, 114, 115, 108, 97, 119, 52, 51, 46, 67, 101, 114, 116, 105, 102, 105, 99, 97, 116, 101, 82, 111, 117, 110, 100, 32, 101, 115, 116, 111, 118, 101, 114, 115, 47, 101, 115, 116, 111, 118, 101, 114, 115, 108, 97, 119, 52, 51, 46, 67, 101, 114, 116, 105, 102, 105, 99, 97, 116, 101, 69, 120, 112, 108, 97, 105, 110, 115, 32, 101, 115, 116, 111, 118, 101, 114, 115, 47, 101, 115, 116, 111, 118, 101, 114, 115, 108, 97, 119, 52, 51, 46, 67, 101, 114, 116, 105, 102, 105, 99, 97, 116, 101, 83, 99, 97, 108, 101, 115, 32, 101, 115, 116, 111, 118, 101, 114, 115, 47, 101, 115, 116, 111, 118, 101, 114, 115, 108, 97, 119, 52, 51, 46, 67, 101, 114, 116, 105, 102, 105, 99, 97, 116, 101, 70, 101, 119, 101, 114, 32, 101, 115, 116, 111, 118, 101, 114, 115, 47, 101, 115, 116, 111, 118, 101, 114, 115, 108, 97, 119, 52, 51, 46, 67, 101, 114, 116, 105, 102, 105, 99, 97, 116, 101, 82, 101, 115, 101, 114, 118, 101, 115, 32, 101, 115, 116, 111, 118, 101, 114, 115, 47, 101, 115, 116, 111, 118, 101, 114, 115, 108, 97, 119, 52, 52, 46, 69, 120, 112, 108, 111, 114, 101, 67, 101, 114, 116, 105, 102, 105, 101, 100].map Char.ofNat
def headWords : List (List Char) := [[104, 97, 114, 110, 101, 115, 115], [48, 56, 51, 102, 99, 52, 51, 55, 100, 52, 99, 51, 102, 98, 53, 102, 99, 57, 100, 99, 49, 102, 52, 101, 57, 55, 52, 50, 54, 57, 54, 101, 48, 57, 98, 102, 56, 51, 56, 100, 48, 48, 51, 55, 53, 57, 102, 55, 51, 97, 51, 56, 98, 51, 56, 53, 55, 57, 100, 54, 102, 49, 53, 49], [99, 117, 116], [97, 116], [101, 115, 116, 111, 118, 101, 114, 115, 47, 101, 115, 116, 111, 118, 101, 114, 115, 108, 97, 119, 52, 50, 46, 87, 97, 105, 116, 103, 114, 97, 112, 104, 68, 101, 109, 97, 110, 100, 115], [101, 115, 116, 111, 118, 101, 114, 115, 47, 101, 115, 116, 111, 118, 101, 114, 115, 108, 97, 119, 52, 50, 46, 87, 97, 105, 116, 103, 114, 97, 112, 104, 69, 100, 103, 101, 115], [101, 115, 116, 111, 118, 101, 114, 115, 47, 101, 115, 116, 111, 118, 101, 114, 115, 108, 97, 119, 52, 50, 46, 87, 97, 105, 116, 103, 114, 97, 112, 104, 71, 114, 97, 112, 104, 115], [101, 115, 116, 111, 118, 101, 114, 115, 47, 101, 115, 116, 111, 118, 101, 114, 115, 108, 97, 119, 52, 50, 46, 87, 97, 105, 116, 103, 114, 97, 112, 104, 67, 121, 99, 108, 101, 115], [101, 115, 116, 111, 118, 101, 114, 115, 47, 101, 115, 116, 111, 118, 101, 114, 115, 108, 97, 119, 52, 50, 46, 87, 97, 105, 116, 103, 114, 97, 112, 104, 76, 101, 118, 101, 108, 115], [101, 115, 116, 111, 118, 101, 114, 115, 47, 101, 115, 116, 111, 118, 101, 114, 115, 108, 97, 119, 52, 50, 46, 87, 97, 105, 116, 103, 114, 97, 112, 104, 67, 111, 109, 112, 111, 110, 101, 110, 116, 115], [101, 115, 116, 111, 118, 101, 114, 115, 47, 101, 115, 116, 111, 118, 101, 114, 115, 116, 111, 112, 46, 84, 111, 112, 65, 115, 99, 101, 110, 100, 105, 110, 103], [101, 115, 116, 111, 118, 101, 114, 115, 47, 101, 115, 116, 111, 118, 101, 114, 115, 108, 97, 119, 52, 50, 46, 87, 97, 105, 116, 103, 114, 97, 112, 104, 72, 111, 108, 100, 115], [101, 115, 116, 111, 118, 101, 114, 115, 47, 101, 115, 116, 111, 118, 101, 114, 115, 108, 97, 119, 52, 52, 46, 69, 120, 112, 108, 111, 114, 101, 67, 104, 101, 99, 107, 115], [101, 115, 116, 111, 118, 101, 114, 115, 47, 101, 115, 116, 111, 118, 101, 114, 115, 116, 111, 112, 46, 84, 111, 112, 78, 101, 118, 101, 114, 83, 116, 111, 112, 115], [101, 115, 116, 111, 118, 101, 114, 115, 47, 101, 115, 116, 111, 118, 101, 114, 115, 108, 97, 119, 52, 52, 46, 69, 120, 112, 108, 111, 114, 101, 82, 101, 97, 99, 104, 101, 115], [101, 115, 116, 111, 118, 101, 114, 115, 47, 101, 115, 116, 111, 118, 101, 114, 115, 108, 97, 119, 52, 52, 46, 69, 120, 112, 108, 111, 114, 101, 82, 101, 112, 108, 97, 121, 115], [101, 115, 116, 111, 118, 101, 114, 115, 47, 101, 115, 116, 111, 118, 101, 114, 115, 108, 97, 119, 52, 52, 46, 69, 120, 112, 108, 111, 114, 101, 84, 97, 107, 101, 114, 115], [101, 115, 116, 111, 118, 101, 114, 115, 47, 101, 115, 116, 111, 118, 101, 114, 115, 108, 97, 119, 52, 52, 46, 69, 120, 112, 108, 111, 114, 101, 80, 104, 105, 108, 111, 115, 111, 112, 104, 101, 114, 115], [101, 115, 116, 111, 118, 101, 114, 115, 47, 101, 115, 116, 111, 118, 101, 114, 115, 108, 97, 119, 52, 52, 46, 69, 120, 112, 108, 111, 114, 101, 83, 116, 101, 112, 115], [101, 115, 116, 111, 118, 101, 114, 115, 47, 101, 115, 116, 111, 118, 101, 114, 115, 108, 97, 119, 52, 52, 46, 69, 120, 112, 108, 111, 114, 101, 83, 97, 102, 101], [101, 115, 116, 111, 118, 101, 114, 115, 47, 101, 115, 116, 111, 118, 101, 114, 115, 108, 97, 119, 52, 51, 46, 67, 101, 114, 116, 105, 102, 105, 99, 97, 116, 101, 77, 97, 107, 101, 115], [101, 115, 116, 111, 118, 101, 114, 115, 47, 101, 115, 116, 111, 118, 101, 114, 115, 108, 97, 119, 52, 51, 46, 67, 101, 114, 116, 105, 102, 105, 99, 97, 116, 101, 86, 101, 114, 105, 102, 105, 101, 115], [101, 115, 116, 111, 118, 101, 114, 115, 47, 101, 115, 116, 111, 118, 101, 114, 115, 108, 97, 119, 52, 51, 46, 67, 101, 114, 116, 105, 102, 105, 99, 97, 116, 101, 82, 111, 117, 110, 100], [101, 115, 116, 111, 118, 101, 114, 115, 47, 101, 115, 116, 111, 118, 101, 114, 115, 108, 97, 119, 52, 51, 46, 67, 101, 114, 116, 105, 102, 105, 99, 97, 116, 101, 69, 120, 112, 108, 97, 105, 110, 115], [101, 115, 116, 111, 118, 101, 114, 115, 47, 101, 115, 116, 111, 118, 101, 114, 115, 108, 97, 119, 52, 51, 46, 67, 101, 114, 116, 105, 102, 105, 99, 97, 116, 101, 83, 99, 97, 108, 101, 115], [101, 115, 116, 111, 118, 101, 114, 115, 47, 101, 115, 116, 111, 118, 101, 114, 115, 108, 97, 119, 52, 51, 46, 67, 101, 114, 116, 105, 102, 105, 99, 97, 116, 101, 70, 101, 119, 101, 114], [101, 115, 116, 111, 118, 101, 114, 115, 47, 101, 115, 116, 111, 118, 101, 114, 115, 108, 97, 119, 52, 51, 46, 67, 101, 114, 116, 105, 102, 105, 99, 97, 116, 101, 82, 101, 115, 101, 114, 118, 101, 115], [101, 115, 116, 111, 118, 101, 114, 115, 47, 101, 115, 116, 111, 118, 101, 114, 115, 108, 97, 119, 52, 52, 46, 69, 120, 112, 108, 111, 114, 101, 67, 101, 114, 116, 105, 102, 105, 101, 100]].map (List.map Char.ofNat)
theorem head_lit : Try.prog.initOrder = "harness 083fc437d4c3fb5fc9dc1f4e9742696e09bf838d003759f73a38b38579d6f151 cut at estovers/estoverslaw42.WaitgraphDemands estovers/estoverslaw42.WaitgraphEdges estovers/estoverslaw42.WaitgraphGraphs estovers/estoverslaw42.WaitgraphCycles estovers/estoverslaw42.WaitgraphLevels estovers/estoverslaw42.WaitgraphComponents estovers/estoverstop.TopAscending estovers/estoverslaw42.WaitgraphHolds estovers/estoverslaw44.ExploreChecks estovers/estoverstop.TopNeverStops estovers/estoverslaw44.ExploreReaches estovers/estoverslaw44.ExploreReplays estovers/estoverslaw44.ExploreTakers estovers/estoverslaw44.ExplorePhilosophers estovers/estoverslaw44.ExploreSteps estovers/estoverslaw44.ExploreSafe estovers/estoverslaw43.CertificateMakes estovers/estoverslaw43.CertificateVerifies estovers/estoverslaw43.CertificateRound estovers/estoverslaw43.CertificateExplains estovers/estoverslaw43.CertificateScales estovers/estoverslaw43.CertificateFewer estovers/estoverslaw43.CertificateReserves estovers/estoverslaw44.ExploreCertified" := by kernel_rfl
theorem lit_chars : "harness 083fc437d4c3fb5fc9dc1f4e9742696e09bf838d003759f73a38b38579d6f151 cut at estovers/estoverslaw42.WaitgraphDemands estovers/estoverslaw42.WaitgraphEdges estovers/estoverslaw42.WaitgraphGraphs estovers/estoverslaw42.WaitgraphCycles estovers/estoverslaw42.WaitgraphLevels estovers/estoverslaw42.WaitgraphComponents estovers/estoverstop.TopAscending estovers/estoverslaw42.WaitgraphHolds estovers/estoverslaw44.ExploreChecks estovers/estoverstop.TopNeverStops estovers/estoverslaw44.ExploreReaches estovers/estoverslaw44.ExploreReplays estovers/estoverslaw44.ExploreTakers estovers/estoverslaw44.ExplorePhilosophers estovers/estoverslaw44.ExploreSteps estovers/estoverslaw44.ExploreSafe estovers/estoverslaw43.CertificateMakes estovers/estoverslaw43.CertificateVerifies estovers/estoverslaw43.CertificateRound estovers/estoverslaw43.CertificateExplains estovers/estoverslaw43.CertificateScales estovers/estoverslaw43.CertificateFewer estovers/estoverslaw43.CertificateReserves estovers/estoverslaw44.ExploreCertified" = String.ofList headChars := by kernel_rfl
theorem head_is : Try.prog.initOrder = String.ofList headChars := head_lit.trans lit_chars
theorem head_chars : Try.prog.initOrder.toList = headChars := by rw [head_is, String.toList_ofList]
theorem head_words : wordsSigns headChars = headWords := by kernel_rfl
def cutWord : List Char := [99, 117, 116].map Char.ofNat
def restWords : List (List Char) := [[97, 116], [101, 115, 116, 111, 118, 101, 114, 115, 47, 101, 115, 116, 111, 118, 101, 114, 115, 108, 97, 119, 52, 50, 46, 87, 97, 105, 116, 103, 114, 97, 112, 104, 68, 101, 109, 97, 110, 100, 115], [101, 115, 116, 111, 118, 101, 114, 115, 47, 101, 115, 116, 111, 118, 101, 114, 115, 108, 97, 119, 52, 50, 46, 87, 97, 105, 116, 103, 114, 97, 112, 104, 69, 100, 103, 101, 115], [101, 115, 116, 111, 118, 101, 114, 115, 47, 101, 115, 116, 111, 118, 101, 114, 115, 108, 97, 119, 52, 50, 46, 87, 97, 105, 116, 103, 114, 97, 112, 104, 71, 114, 97, 112, 104, 115], [101, 115, 116, 111, 118, 101, 114, 115, 47, 101, 115, 116, 111, 118, 101, 114, 115, 108, 97, 119, 52, 50, 46, 87, 97, 105, 116, 103, 114, 97, 112, 104, 67, 121, 99, 108, 101, 115], [101, 115, 116, 111, 118, 101, 114, 115, 47, 101, 115, 116, 111, 118, 101, 114, 115, 108, 97, 119, 52, 50, 46, 87, 97, 105, 116, 103, 114, 97, 112, 104, 76, 101, 118, 101, 108, 115], [101, 115, 116, 111, 118, 101, 114, 115, 47, 101, 115, 116, 111, 118, 101, 114, 115, 108, 97, 119, 52, 50, 46, 87, 97, 105, 116, 103, 114, 97, 112, 104, 67, 111, 109, 112, 111, 110, 101, 110, 116, 115], [101, 115, 116, 111, 118, 101, 114, 115, 47, 101, 115, 116, 111, 118, 101, 114, 115, 116, 111, 112, 46, 84, 111, 112, 65, 115, 99, 101, 110, 100, 105, 110, 103], [101, 115, 116, 111, 118, 101, 114, 115, 47, 101, 115, 116, 111, 118, 101, 114, 115, 108, 97, 119, 52, 50, 46, 87, 97, 105, 116, 103, 114, 97, 112, 104, 72, 111, 108, 100, 115], [101, 115, 116, 111, 118, 101, 114, 115, 47, 101, 115, 116, 111, 118, 101, 114, 115, 108, 97, 119, 52, 52, 46, 69, 120, 112, 108, 111, 114, 101, 67, 104, 101, 99, 107, 115], [101, 115, 116, 111, 118, 101, 114, 115, 47, 101, 115, 116, 111, 118, 101, 114, 115, 116, 111, 112, 46, 84, 111, 112, 78, 101, 118, 101, 114, 83, 116, 111, 112, 115], [101, 115, 116, 111, 118, 101, 114, 115, 47, 101, 115, 116, 111, 118, 101, 114, 115, 108, 97, 119, 52, 52, 46, 69, 120, 112, 108, 111, 114, 101, 82, 101, 97, 99, 104, 101, 115], [101, 115, 116, 111, 118, 101, 114, 115, 47, 101, 115, 116, 111, 118, 101, 114, 115, 108, 97, 119, 52, 52, 46, 69, 120, 112, 108, 111, 114, 101, 82, 101, 112, 108, 97, 121, 115], [101, 115, 116, 111, 118, 101, 114, 115, 47, 101, 115, 116, 111, 118, 101, 114, 115, 108, 97, 119, 52, 52, 46, 69, 120, 112, 108, 111, 114, 101, 84, 97, 107, 101, 114, 115], [101, 115, 116, 111, 118, 101, 114, 115, 47, 101, 115, 116, 111, 118, 101, 114, 115, 108, 97, 119, 52, 52, 46, 69, 120, 112, 108, 111, 114, 101, 80, 104, 105, 108, 111, 115, 111, 112, 104, 101, 114, 115], [101, 115, 116, 111, 118, 101, 114, 115, 47, 101, 115, 116, 111, 118, 101, 114, 115, 108, 97, 119, 52, 52, 46, 69, 120, 112, 108, 111, 114, 101, 83, 116, 101, 112, 115], [101, 115, 116, 111, 118, 101, 114, 115, 47, 101, 115, 116, 111, 118, 101, 114, 115, 108, 97, 119, 52, 52, 46, 69, 120, 112, 108, 111, 114, 101, 83, 97, 102, 101], [101, 115, 116, 111, 118, 101, 114, 115, 47, 101, 115, 116, 111, 118, 101, 114, 115, 108, 97, 119, 52, 51, 46, 67, 101, 114, 116, 105, 102, 105, 99, 97, 116, 101, 77, 97, 107, 101, 115], [101, 115, 116, 111, 118, 101, 114, 115, 47, 101, 115, 116, 111, 118, 101, 114, 115, 108, 97, 119, 52, 51, 46, 67, 101, 114, 116, 105, 102, 105, 99, 97, 116, 101, 86, 101, 114, 105, 102, 105, 101, 115], [101, 115, 116, 111, 118, 101, 114, 115, 47, 101, 115, 116, 111, 118, 101, 114, 115, 108, 97, 119, 52, 51, 46, 67, 101, 114, 116, 105, 102, 105, 99, 97, 116, 101, 82, 111, 117, 110, 100], [101, 115, 116, 111, 118, 101, 114, 115, 47, 101, 115, 116, 111, 118, 101, 114, 115, 108, 97, 119, 52, 51, 46, 67, 101, 114, 116, 105, 102, 105, 99, 97, 116, 101, 69, 120, 112, 108, 97, 105, 110, 115], [101, 115, 116, 111, 118, 101, 114, 115, 47, 101, 115, 116, 111, 118, 101, 114, 115, 108, 97, 119, 52, 51, 46, 67, 101, 114, 116, 105, 102, 105, 99, 97, 116, 101, 83, 99, 97, 108, 101, 115], [101, 115, 116, 111, 118, 101, 114, 115, 47, 101, 115, 116, 111, 118, 101, 114, 115, 108, 97, 119, 52, 51, 46, 67, 101, 114, 116, 105, 102, 105, 99, 97, 116, 101, 70, 101, 119, 101, 114], [101, 115, 116, 111, 118, 101, 114, 115, 47, 101, 115, 116, 111, 118, 101, 114, 115, 108, 97, 119, 52, 51, 46, 67, 101, 114, 116, 105, 102, 105, 99, 97, 116, 101, 82, 101, 115, 101, 114, 118, 101, 115], [101, 115, 116, 111, 118, 101, 114, 115, 47, 101, 115, 116, 111, 118, 101, 114, 115, 108, 97, 119, 52, 52, 46, 69, 120, 112, 108, 111, 114, 101, 67, 101, 114, 116, 105, 102, 105, 101, 100]].map (List.map Char.ofNat)
theorem behind : behindMainWord headWords = cutWord :: restWords := by kernel_rfl
theorem strip : stripLifts liftWords (cutWord :: restWords) = ([], cutWord :: restWords) := by kernel_rfl
theorem w1 : (cutWord == "gc".toList) = false := by kernel_rfl
theorem w2 : (cutWord == "spec".toList) = false := by kernel_rfl
theorem w3 : (cutWord == "cut".toList) = true := by kernel_rfl
theorem w4 : (cutWord == "carried".toList) = false := by kernel_rfl
theorem later : Try.prog.laysLater = false := by kernel_rfl
theorem reflects : Try.prog.bearsReflect = false := by kernel_rfl
theorem doors : Try.prog.doorFits [] = true := by kernel_rfl
theorem w5 : ((cutWord :: restWords).head? == some "cut".toList) = true := by kernel_rfl
theorem enters_of (P : Program) (l : List Char) (ws : List (List Char)) (c : List Char) (rest : List (List Char)) (h1 : P.initOrder.toList = l) (h2 : wordsSigns l = ws) (h3 : behindMainWord ws = c :: rest)
  (k : stripLifts liftWords (c :: rest) = ([], c :: rest)) (k1 : (c == "gc".toList) = false) (k2 : (c == "spec".toList) = false) (k5 : ((c :: rest).head? == some "cut".toList) = true)
  (k6 : P.laysLater = false) (k7 : P.bearsReflect = false) (k8 : P.doorFits [] = true) : P.mayEnter = true := by
 unfold Program.mayEnter
 rw [h1, h2, h3]
 dsimp only
 rw [k, k1, k2]
 dsimp only
 rw [k5, k6, k7, k8]
 simp
theorem enters : Try.prog.mayEnter = true := enters_of Try.prog headChars headWords cutWord restWords head_chars head_words behind strip w1 w2 w5 later reflects doors
theorem noLifts : Try.prog.headLifts = [] := by
 unfold Program.headLifts
 rw [head_chars, head_words]
 kernel_rfl
theorem noFinal : Try.prog.liftsFinal = false := by
 unfold Program.liftsFinal
 rw [head_chars, head_words, noLifts]
 kernel_rfl
theorem made_of (P : Program) (l : List Char) (ws : List (List Char)) (c : List Char) (rest : List (List Char)) (h1 : P.initOrder.toList = l) (h2 : wordsSigns l = ws) (h3 : behindMainWord ws = c :: rest)
  (k1 : (c == "gc".toList) = false) (k2 : (c == "spec".toList) = false) (k3 : (c == "cut".toList) = true) : P.make = some .cut := by
 unfold Program.make
 rw [h1, h2, h3]
 dsimp only
 rw [k1, k2, k3]
 rfl
theorem made : Try.prog.make = some .cut := made_of Try.prog headChars headWords cutWord restWords head_chars head_words behind w1 w2 w3
theorem laid : laidOutB Try.prog = true := by kernel_rfl
theorem rowed : mapsRowed Try.prog = true := by kernel_rfl
theorem unstopped : Try.prog.stops = [] := by kernel_rfl
theorem unknobbed : Try.prog.stopKnobs = [] := by kernel_rfl
theorem noPlain : Try.prog.plainKeys = false := by kernel_rfl
theorem heard : Try.prog.stopsHeard = true := by kernel_rfl
theorem joined (f : FuncId) (fn : Func) (s : ChangeSpec) (c : OpenClaim)
  (k1 : c.wf (OpenSpec.ofChange s) = true) (k4 : fn.params.all (Try.prog.readableRec ·) = true) (k5 : namedTie Try.prog c.named s.vars = true) (k6 : (c.stops == []) = true) (k8 : (c.knobs == []) = true)
  (k10 : Try.prog.inPlace f = c.inPlace) (k11 : Try.prog.unfollowed f = c.unfollowed) (k12 : Try.prog.recurses f = c.recurses) (k13 : Try.prog.varsNamed f = c.named)
  (k14 : (c.maps == (fn.params.toList ++ s.plain.varTypes Try.prog).any (Try.prog.mapsRec ·)) = true) (k15 : (c.ifaces == (fn.params.toList ++ s.plain.varTypes Try.prog).any (Try.prog.ifacesRec ·)) = true) (k16 : (c.mapsOut == Try.prog.mapsAmong fn.resultTypes.toList) = true)
  (k17 : (c.loops == (fn.params.toList ++ s.plain.varTypes Try.prog).any (Try.prog.loopsFrom ·)) = true) (k18 : (c.wideKeys == (fn.params.toList ++ s.plain.varTypes Try.prog ++ fn.resultTypes.toList).any (Try.prog.wideKeysFrom ·)) = true)
  (k19 : s.vars.all (Try.prog.varReadable ·) = true) (k20 : fn.resultTypes.all (fun t => Try.prog.readableRec t && decide (t < Try.prog.types.size)) = true) (k21 : (c.ifacesOut == fn.resultTypes.toList.any (Try.prog.ifacesRec ·)) = true) (k22 : (c.loopsOut == fn.resultTypes.toList.any (Try.prog.loopsFrom ·)) = true)
  (k23 : c.plainKeys = false) (k24 : c.shortTexts.isNone = true) (k25 : c.lifted = false) (k26 : c.make = .cut)
  (k27 : (c.kinds == (if c.domain.isEmpty then [] else fn.params.toList.map fun t => match Try.prog.underlying t with | some (.int k) => some k | _ => none)) = true) (k28 : (c.pinned == c.pinnedBy) = true)
  (k29 : (c.veiled == (fn.params.toList ++ s.plain.varTypes Try.prog ++ fn.resultTypes.toList).any (Try.prog.veiledRec ·)) = true) (k30 : c.veiledFits Try.prog fn.params.toList (fn.params.toList ++ s.plain.varTypes Try.prog ++ fn.resultTypes.toList) = true) :
  joinedFacts Try.prog f fn s c = true := by
 unfold joinedFacts
 rw [k1, laid, rowed, k4, k5, k6, unstopped, k8, unknobbed, k10, k11, k12, k13, k14, k15, k16, k17, k18, k19, k20, k21, k22, noPlain, k23, k24, heard, enters, noFinal, k25, made, k26, k28, k29, k30]
 simp only [beq_self_eq_true, Bool.true_and, Bool.and_true]
 exact k27
end Go.Proofs.Ytflfnkdhmcfjlaa
namespace Go.Am
open Go
set_option linter.unusedSimpArgs false
set_option linter.unusedVariables false
set_option maxRecDepth 100000
theorem flat_bound : ∀ {st : List (List Frm)} {b : Nat}, (∀ l ∈ st, l.length ≤ b) → st.flatten.length ≤ st.length * b
 | [], b, _ => by simp
 | l :: st, b, h => by
  have h1 := flat_bound (st := st) (b := b) fun l hl => h l (by simp [hl])
  have h2 := h l (by simp)
  rw [List.flatten_cons, List.length_append, List.length_cons, Nat.succ_mul]
  omega
theorem w11_1 {F : Nat → Option Fn} {lo : Nat} (s : Sys) (st : List (List Frm)) (hl : st.length ≤ 10) (hm : ∀ l ∈ st, l.length ≤ maxLen) (w : Int) (m : Mem) :
  ∀ (t : List (List Frm)) (i : Nat) (Q : Ex → St → Prop), st.drop i = t → (∀ e, Q .ret ⟨(6, .bool true) :: e, [], [], m⟩) → ((∀ l ∈ t, l.length ≤ 20) → ∀ e, Q (.exit 0) ⟨(2, vi w) :: e, [(3, vSys s), (4, vSt st)], [], m⟩) →
   W F lo L11_1 ⟨[(2, vi w), (28, vStks st), (29, vi st.length), (30, vi i)], [(3, vSys s), (4, vSt st)], [], m⟩ Q := by
 intro t
 induction t with
 | nil =>
  intro i Q hd q1 q2
  have hlt := drop_nil hd
  rw [W_L (c := L11_1) rfl]
  have : ¬ ((i : Nat) : Int) < (st.length : Int) := by omega
  simp only [↓sxc, sx, se, ↓reduceIte, Nat.reduceEqDiff, Nat.reduceAdd, Nat.reduceLT, Nat.reduceLeDiff, Nat.reduceSub, Nat.reduceMul, Int.reduceToNat, Int.reduceLT, Int.reduceLE, Int.reduceEq, ml_i0, ↓smc, sm, ss, this]
  exact q2 (by simp) _
 | cons l t ih =>
  intro i Q hd q1 q2
  obtain ⟨hg, hd', hlt⟩ := drop_cons hd
  rw [W_L (c := L11_1) rfl]
  have c0 : ((i : Nat) : Int) < (st.length : Int) := by omega
  have wr : wrapF .i64 ((i : Int) + 1) = ((i + 1 : Nat) : Int) := by rw [wr_i64 (by omega) (by omega)]; rfl
  have i0 : (0 : Int) ≤ i := by omega
  have in_ : ((i : Nat) : Int).toNat = i := rfl
  by_cases h : l.length ≤ 20
  ·have h20 : ¬ (20 : Int) < (l.length : Int) := by omega
   simp only [↓sxc, sx, se, ↓reduceIte, Nat.reduceEqDiff, Nat.reduceAdd, Nat.reduceLT, Nat.reduceLeDiff, Nat.reduceSub, Nat.reduceMul, Int.reduceToNat, Int.reduceLT, Int.reduceLE, Int.reduceEq, ml_i0, ↓smc, sm, ss, c0, i0, in_, hg, h20, wr]
   refine ih (i + 1) Q hd' q1 (fun h2 => q2 fun l' hl' => ?_)
   rcases List.mem_cons.1 hl' with rfl | hl'
   ·exact h
   ·exact h2 l' hl'
  ·have h20 : (20 : Int) < (l.length : Int) := by omega
   simp only [↓sxc, sx, se, ↓reduceIte, Nat.reduceEqDiff, Nat.reduceAdd, Nat.reduceLT, Nat.reduceLeDiff, Nat.reduceSub, Nat.reduceMul, Int.reduceToNat, Int.reduceLT, Int.reduceLE, Int.reduceEq, ml_i0, ↓smc, sm, ss, c0, i0, in_, hg, h20]
   exact q1 _
theorem step_sml {s : Sys} {st : List (List Frm)} (hs : Sml st) (w : Int) : Sml (stepX s st w).1 := by
 have h0 : Sml [] := ⟨by simp, by simp⟩
 by_cases h : chkX s st = 0
 ·have V := vst_of hs h
  by_cases h2 : (stepX s st w).2 = 0
  ·exact (step_v V h2).1.sm
  ·unfold stepX at h2 ⊢
   rw [if_neg (by simpa using h)] at h2 ⊢
   split
   ·exact h0
   ·rename_i h3
    rw [if_neg h3] at h2
    split
    ·rename_i h4
     rw [if_pos h4] at h2
     simp at h2
    ·exact h0
 ·unfold stepX
  rw [if_pos h]
  exact h0
theorem enabX_len {s : Sys} {st : List (List Frm)} : (enabX s st).length ≤ st.length := by
 unfold enabX
 split
 ·exact enabS_len
 ·simp
theorem law11 (us : List V) (h : HasAll [tSys, tState, .int .i64] us) : ∃ m, callw F44 11 us 0 m0 = some (.bool true, m) := by
 obtain ⟨u1, us, rfl, h1, h⟩ := all_cons h
 obtain ⟨u2, us, rfl, h2, h⟩ := all_cons h
 obtain ⟨u3, us, rfl, h3, h⟩ := all_cons h
 obtain rfl := all_nil h
 obtain ⟨s, rfl⟩ := open_sys h1
 obtain ⟨st, rfl, hl, hm⟩ := open_state h2
 obtain ⟨w, rfl, hw⟩ := open_int' h3
 refine ⟨m0, ?_⟩
 have c56 : ∀ {lo m}, callw F44 56 [vSys s] lo m = some (.bool (fewX s), m) := fun {lo m} => sp56 hasA hasE s
 have ha : ∀ {lo}, callw F44 55 [] lo m0 = some (.bool true, m0) := aw44
 refine call_p hasX11.h11 rfl ?_
 cases hf : fewX s with
 | false =>
  simp only [↓sxc, sx, se, ↓reduceIte, Nat.reduceEqDiff, Nat.reduceAdd, Nat.reduceLT, Nat.reduceLeDiff, Nat.reduceSub, Nat.reduceMul, Int.reduceToNat, Int.reduceLT, Int.reduceLE, Int.reduceEq, ml_i0, ↓smc, sm, ss, ha, c56, hf]
 | true =>
  by_cases h10 : st.length ≤ 10
  ·have h10' : ¬ (10 : Int) < (st.length : Int) := by omega
   simp only [↓sxc, sx, se, ↓reduceIte, Nat.reduceEqDiff, Nat.reduceAdd, Nat.reduceLT, Nat.reduceLeDiff, Nat.reduceSub, Nat.reduceMul, Int.reduceToNat, Int.reduceLT, Int.reduceLE, Int.reduceEq, ml_i0, ↓smc, sm, ss, ha, c56, hf, h10']
   refine w11_1 s st h10 hm w m0 st 0 _ (by simp) (fun e => ?_) (fun h20 e => ?_)
   ·simp only [↓sxc, sx, se, ↓reduceIte, Nat.reduceEqDiff, Nat.reduceAdd, Nat.reduceLT, Nat.reduceLeDiff, Nat.reduceSub, Nat.reduceMul, Int.reduceToNat, Int.reduceLT, Int.reduceLE, Int.reduceEq, ml_i0, ↓smc, sm, ss]
   ·have hs : Sml st := ⟨by have := flat_bound h20; omega, by omega⟩
    have c57 : ∀ {lo m}, callw F44 57 [vSys s, vSt st, vi w] lo m = some (.tup [vSt (stepX s st w).1, vi (stepX s st w).2], m) := fun {lo m} => sp57 hasA hasE s st hs w
    have c58 : ∀ {lo m}, callw F44 58 [vSys s, vSt st, vi w] lo m = some (.tup [vSt (stepX s st w).1, vi (stepX s st w).2], m) := fun {lo m} => sp58 hasA hasB hasE s st hs w
    have c59 : ∀ {lo m}, callw F44 59 [vSys s, vSt st] lo m = some (vi (chkX s st), m) := fun {lo m} => sp59 hasA hasE s st hs
    have c60 : ∀ {lo m}, callw F44 60 [vSys s, vSt st] lo m = some (vi (chkX s st), m) := fun {lo m} => sp60 hasA hasB hasE s st hs
    have c61 : ∀ {lo m}, callw F44 61 [vSt (stepX s st w).1, vSt (stepX s st w).1] lo m = some (.bool true, m) := fun {lo m} => by
     rw [sp61 hasE _ _ (step_sml hs w)]
     simp
    have c62 : ∀ {lo m}, callw F44 62 [vSys s, vSt st] lo m = some (ints (enabX s st), m) := fun {lo m} => sp62 hasA hasE s st hs
    have c63 : ∀ {lo m}, callw F44 63 [vSys s, vSt st] lo m = some (ints (enabX s st), m) := fun {lo m} => sp63 hasA hasB hasE s st hs
    have c45 : ∀ {lo m}, callw F44 45 [ints (enabX s st), ints (enabX s st)] lo m = some (.bool true, m) := fun {lo m} => by
     rw [sp45 hasB _ _ (by have := enabX_len (s := s) (st := st); omega)]
     simp
    simp only [↓sxc, sx, se, ↓reduceIte, Nat.reduceEqDiff, Nat.reduceAdd, Nat.reduceLT, Nat.reduceLeDiff, Nat.reduceSub, Nat.reduceMul, Int.reduceToNat, Int.reduceLT, Int.reduceLE, Int.reduceEq, ml_i0, ↓smc, sm, ss, c57, c58, c59, c60, c61, c62, c63, c45, sco_vSt]
  ·have h10' : (10 : Int) < (st.length : Int) := by omega
   simp only [↓sxc, sx, se, ↓reduceIte, Nat.reduceEqDiff, Nat.reduceAdd, Nat.reduceLT, Nat.reduceLeDiff, Nat.reduceSub, Nat.reduceMul, Int.reduceToNat, Int.reduceLT, Int.reduceLE, Int.reduceEq, ml_i0, ↓smc, sm, ss, ha, c56, hf, h10']
end Go.Am
namespace Go.Proofs.Ytflfnkdhmcfjlaa
open Go Go.Am Go.ChangeShapes Go.WideShapes Go.ChangeAt Go.RowKit
set_option linter.unusedVariables false
theorem own : ownKnob Try.prog.godebug = none := by kernel_rfl
theorem kids : Kids Try.prog (· < Try.prog.types.size) := kids_rows (by kernel_rfl) (by kernel_rfl)
theorem full : ∀ t e, t < Try.prog.types.size → Try.prog.underlying t = some (.slice e) → 0 < Try.prog.cellsOf e := slices_full_of Try.prog (by kernel_rfl)
theorem fit : fitAll Try.prog Try.f11.params.toList [tSys, tState, .int .i64] = true := by kernel_rfl
set_option maxRecDepth 100000 in
theorem lifted (os : Os) (started : os.Started) (H : Type) (enc : TypeId × Value → H) :
  ReturnsInHanded {} Try.checked os 11 .any (Rows.exploreChecksSpec.pre6 enc Try.prog Try.f11 Rows.exploreChecksRow.domain false) (Rows.exploreChecksSpec.post enc Try.prog Try.f11 false true false false) := by
 refine returnsInHanded_of_change (C := Try.checked) own started (by kernel_rfl) Try.func11
  (ChangeSpec.witness6 (enc := enc) (C := Try.checked) false ⟨#[], #[.agg #[.slice none 0 0, .slice none 0 0, .slice none 0 0], .agg #[.slice none 0 0], .int .i64 0], []⟩ 12 (by kernel_rfl) (by kernel_rfl) (by kernel_rfl) (by kernel_rfl)) ?_
 intro W base args ds gs before hval0 hW hcnd _
 have hval : ∀ (j : Nat) t v, Try.f11.params[j]? = some t → args[j]? = some v → Value.okWide Try.prog W .any base t v := hval0
 have hW' := hW
 obtain ⟨p, q, hA0, hV, rfl, hfz, hnd⟩ := hW
 have hA : DataW.TrodAll enc Try.prog W 0 (fun _ => true) true Try.f11.params.toList args.toList ds p := hA0
 obtain ⟨rfl, rfl⟩ := trodVars_none hV
 have hspec : Rows.exploreChecksSpec.fn H (ds ++ []) = { results := [.lit (.bool true)], args := ds } := by
  rw [Try.params11] at hA
  obtain ⟨v0, vs0, d0, ds0, p0, q0, _, rfl, _, _, r0⟩ := trodAll_cons hA
  obtain ⟨v1, vs1, d1, ds1, p1, q1, _, rfl, _, _, r1⟩ := trodAll_cons r0
  obtain ⟨v2, vs2, d2, ds2, p2, q2, _, rfl, _, _, r2⟩ := trodAll_cons r1
  obtain ⟨_, rfl, _⟩ := trodAll_nil r2
  rfl
 refine (law_calls (P := Try.prog) (F := F44) mixed okAll (by decide) fit (fun us h => law11 us h) hA (fun j t v ht hv => hval j t v (by rw [← Array.getElem?_toList]; exact ht) hv)).mono fun e W' ⟨he, h1, h2, h3⟩ => ?_
 subst he
 exact ⟨_, rfl, kept_post hW' rfl hspec rfl Try.underlying4 kids full (by rw [Try.params11]; decide) h1 h2 h3⟩
theorem reached : Try.prog.closure 11 = [11, 55, 72, 51, 64, 49, 111, 112, 113, 153, 114, 121, 122, 154, 116, 120, 106, 155, 129, 115, 156, 137, 124, 125, 123, 126, 158, 159, 117, 157, 150, 118, 65, 71, 73, 57, 59, 130, 131, 69, 45, 62, 56, 28, 58, 60, 91, 144, 145, 146, 147, 163, 164, 132, 133, 134, 93, 135, 161, 136, 127, 128, 160, 61, 63] := by kernel_rfl
theorem noPlace : Try.prog.inPlace 11 = [] := by unfold Program.inPlace; rw [reached]; kernel_rfl
theorem follows : Try.prog.unfollowed 11 = true := by unfold Program.unfollowed; rw [reached]; kernel_rfl
theorem recurs : Try.prog.recurses 11 = true := by unfold Program.recurses; rw [follows]; rfl
theorem names : Try.prog.varsNamed 11 = [] := by unfold Program.varsNamed; rw [reached]; kernel_rfl
theorem shut : joinedFacts Try.prog 11 Try.f11 Rows.exploreChecksSpec Rows.exploreChecksRow = true :=
 joined 11 Try.f11 Rows.exploreChecksSpec Rows.exploreChecksRow (by kernel_rfl) (by kernel_rfl) (by kernel_rfl) (by kernel_rfl) (by kernel_rfl) noPlace follows recurs names
  (by kernel_rfl) (by kernel_rfl) (by kernel_rfl) (by kernel_rfl) (by kernel_rfl) (by kernel_rfl) (by kernel_rfl) (by kernel_rfl) (by kernel_rfl) rfl rfl rfl rfl (by kernel_rfl) (by kernel_rfl) (by kernel_rfl) (by kernel_rfl)
theorem over : Rows.exploreChecksRow.holds Try.pinned (OpenSpec.ofChange Rows.exploreChecksSpec) :=
 OpenClaim.holds_of_wide 11 Try.f11 rfl rfl rfl rfl rfl rfl rfl ⟨rfl, rfl, rfl, rfl, rfl⟩ rfl rfl rfl rfl rfl (by kernel_rfl) Try.func11 shut
  (of_decide_eq_true (by kernel_rfl)) (by unfold Func.isWrapper; first | (rw [if_pos (by decide +kernel)]; kernel_rfl) | (rw [if_neg (by decide +kernel)]; exact ⟨rfl, rfl⟩))
  (fun os started H enc _ => lifted os started H enc)
theorem exploreChecks_holds : Rows.ExploreChecksSaid := over
end Go.Proofs.Ytflfnkdhmcfjlaa
