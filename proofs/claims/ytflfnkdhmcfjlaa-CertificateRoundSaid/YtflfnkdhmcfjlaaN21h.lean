/- The law CertificateRound holds: what Make returns is accepted, if any certificate is accepted Make returns one, and Make returns ErrDead exactly if Explain shows a cycle; no conditions. -/
import Derived.Test.YtflfnkdhmcfjlaaN21g
import Derived.Test.YtflfnkdhmcfjlaaRows
namespace Go.Proofs.Ytflfnkdhmcfjlaa
open Go Go.ChangeShapes Go.WideShapes Go.ChangeAt Go.RowKit
set_option maxRecDepth 100000
def headChars : List Char := [104, 97, 114, 110, 101, 115, 115, 32, 48, 56, 51, 102, 99, 52, 51, 55, 100, 52, 99, 51, 102, 98, 53, 102, 99, 57, 100, 99, 49, 102, 52, 101, 57, 55, 52, 50, 54, 57, 54, 101, 48, 57, 98, 102, 56, 51, 56, 100, 48, 48, 51, 55, 53, 57, 102, 55, 51, 97, 51, 56, 98, 51, 56, 53, 55, 57, 100, 54, 102, 49, 53, 49, 32, 99, 117, 116, 32, 97, 116, 32, 101, 115, 116, 111, 118, 101, 114, 115, 47, 101, 115, 116, 111, 118, 101, 114, 115, 108, 97, 119, 52, 50, 46, 87, 97, 105, 116, 103, 114, 97, 112, 104, 68, 101, 109, 97, 110, 100, 115, 32, 101, 115, 116, 111, 118, 101, 114, 115, 47, 101, 115, 116, 111, 118, 101, 114, 115, 108, 97, 119, 52, 50, 46, 87, 97, 105, 116, 103, 114, 97, 112, 104, 69, 100, 103, 101, 115, 32, 101, 115, 116, 111, 118, 101, 114, 115, 47, 101, 115, 116, 111, 118, 101, 114, 115, 108, 97, 119, 52, 50, 46, 87, 97, 105, 116, 103, 114, 97, 112, 104, 71, 114, 97, 112, 104, 115, 32, 101, 115, 116, 111, 118, 101, 114, 115, 47, 101, 115, 116, 111, 118, 101, 114, 115, 108, 97, 119, 52, 50, 46, 87, 97, 105, 116, 103, 114, 97, 112, 104, 67, 121, 99, 108, 101, 115, 32, 101, 115, 116, 111, 118, 101, 114, 115, 47, 101, 115, 116, 111, 118, 101, 114, 115, 108, 97, 119, 52, 50, 46, 87, 97, 105, 116, 103, 114, 97, 112, 104, 76, 101, 118, 101, 108, 115, 32, 101, 115, 116, 111, 118, 101, 114, 115, 47, 101, 115, 116, 111, 118, 101, 114, 115, 108, 97, 119, 52, 50, 46, 87, 97, 105, 116, 103, 114, 97, 112, 104, 67, 111, 109, 112, 111, 110, 101, 110, 116, 115, 32, 101, 115, 116, 111, 118, 101, 114, 115, 47, 101, 115, 116, 111, 118, 101, 114, 115, 116, 111, 112, 46, 84, 111, 112, 65, 115, 99, 101, 110, 100, 105, 110, 103, 32, 101, 115, 116, 111, 118, 101, 114, 115, 47, 101, 115, 116, 111, 118, 101, 114, 115, 108, 97, 119, 52, 50, 46, 87, 97, 105, 116, 103, 114, 97, 112, 104, 72, 111, 108, 100, 115, 32, 101, 115, 116, 111, 118, 101, 114, 115, 47, 101, 115, 116, 111, 118, 101, 114, 115, 108, 97, 119, 52, 52, 46, 69, 120, 112, 108, 111, 114, 101, 67, 104, 101, 99, 107, 115, 32, 101, 115, 116, 111, 118, 101, 114, 115, 47, 101, 115, 116, 111, 118, 101, 114, 115, 116, 111, 112, 46, 84, 111, 112, 78, 101, 118, 101, 114, 83, 116, 111, 112, 115, 32, 101, 115, 116, 111, 118, 101, 114, 115, 47, 101, 115, 116, 111, 118, 101, 114, 115, 108, 97, 119, 52, 52, 46, 69, 120, 112, 108, 111, 114, 101, 82, 101, 97, 99, 104, 101, 115, 32, 101, 115, 116, 111, 118, 101, 114, 115, 47, 101, 115, 116, 111, 118, 101, 114, 115, 108, 97, 119, 52, 52, 46, 69, 120, 112, 108, 111, 114, 101, 82, 101, 112, 108, 97, 121, 115, 32, 101, 115, 116, 111, 118, 101, 114, 115, 47, 101, 115, 116, 111, 118, 101, 114, 115, 108, 97, 119, 52, 52, 46, 69, 120, 112, 108, 111, 114, 101, 84, 97, 107, 101, 114, 115, 32, 101, 115, 116, 111, 118, 101, 114, 115, 47, 101, 115, 116, 111, 118, 101, 114, 115, 108, 97, 119, 52, 52, 46, 69, 120, 112, 108, 111, 114, 101, 80, 104, 105, 108, 111, 115, 111, 112, 104, 101, 114, 115, 32, 101, 115, 116, 111, 118, 101, 114, 115, 47, 101, 115, 116, 111, 118, 101, 114, 115, 108, 97, 119, 52, 52, 46, 69, 120, 112, 108, 111, 114, 101, 83, 116, 101, 112, 115, 32, 101, 115, 116, 111, 118, 101, 114, 115, 47, 101, 115, 116, 111, 118, 101, 114, 115, 108, 97, 119, 52, 52, 46, 69, 120, 112, 108, 111, 114, 101, 83, 97, 102, 101, 32, 101, 115, 116, 111, 118, 101, 114, 115, 47, 101, 115, 116, 111, 118, 101, 114, 115, 108, 97, 119, 52, 51, 46, 67, 101, 114, 116, 105, 102, 105, 99, 97, 116, 101, 77, 97, 107, 101, 115, 32, 101, 115, 116, 111, 118, 101, 114, 115, 47, 101, 115, 116, 111, 118, 101, 114, 115, 108, 97, 119, 52, 51, 46, 67, 101, 114, 116, 105, 102, 105, 99, 97, 116, 101, 86, 101, 114, 105, 102, 105, 101, 115, 32, 101, 115, 116, 111, 118, 101, 114, 115, 47, 101, 115, 116, 111, 118, 101, 114, 115, 108, 97, 119, 52, 51, 46, 67, 101, 114, 116, 105, 102, 105, 99, 97, 116, 101, 82, 111, 117, 110, 100, 32, 101, 115, 116, 111, 118, 101, 114, 115, 47, 101, 115, 116, 111, 118, 101, 114, 115, 108, 97, 119, 52, 51, 46, 67, 101, 114, 116, 105, 102, 105, 99, 97, 116, 101, 69, 120, 112, 108, 97, 105, 110, 115, 32, 101, 115, 116, 111, 118, 101, 114, 115, 47, 101, 115, 116, 111, 118, 101, 114, 115, 108, 97, 119, 52, 51, 46, 67, 101, 114, 116, 105, 102, 105, 99, 97, 116, 101, 83, 99, 97, 108, 101, 115, 32, 101, 115, 116, 111, 118, 101, 114, 115, 47, 101, 115, 116, 111, 118, 101, 114, 115, 108, 97, 119, 52, 51, 46, 67, 101, 114, 116, 105, 102, 105, 99, 97, 116, 101, 70, 101, 119, 101, 114, 32, 101, 115, 116, 111, 118, 101, 114, 115, 47, 101, 115, 116, 111, 118, 101, 114, 115, 108, 97, 119, 52, 51, 46, 67, 101, 114, 116, 105, 102, 105, 99, 97, 116, 101, 82, 101, 115, 101, 114, 118, 101, 115, 32, 101, 115, 116, 111, 118, 101, 114, 115, 47, 101, 115, 116, 111, 118, 101, 114, 115, 108, 97, 119, 52, 52, 46, 69, 120, 112, 108, 111, 114, 101, 67, 101, 114, 116, 105, 102, 105, 101, 100].map Char.ofNat
def headWords : List (List Char) := [[104, 97, 114, 110, 101, 115, 115], [48, 56, 51, 102, 99, 52, 51, 55, 100, 52, 99, 51, 102, 98, 53, 102, 99, 57, 100, 99, 49, 102, 52, 101, 57, 55, 52, 50, 54, 57, 54, 101, 48, 57, 98, 102, 56, 51, 56, 100, 48, 48, 51, 55, 53, 57, 102, 55, 51, 97, 51, 56, 98, 51, 56, 53, 55, 57, 100, 54, 102, 49, 53, 49], [99, 117, 116], [97, 116], [101, 115, 116, 111, 118, 101, 114, 115, 47, 101, 115, 116, 111, 118, 101, 114, 115, 108, 97, 119, 52, 50, 46, 87, 97, 105, 116, 103, 114, 97, 112, 104, 68, 101, 109, 97, 110, 100, 115], [101, 115, 116, 111, 118, 101, 114, 115, 47, 101, 115, 116, 111, 118, 101, 114, 115, 108, 97, 119, 52, 50, 46, 87, 97, 105, 116, 103, 114, 97, 112, 104, 69, 100, 103, 101, 115], [101, 115, 116, 111, 118, 101, 114, 115, 47, 101, 115, 116, 111, 118, 101, 114, 115, 108, 97, 119, 52, 50, 46, 87, 97, 105, 116, 103, 114, 97, 112, 104, 71, 114, 97, 112, 104, 115], [101, 115, 116, 111, 118, 101, 114, 115, 47, 101, 115, 116, 111, 118, 101, 114, 115, 108, 97, 119, 52, 50, 46, 87, 97, 105, 116, 103, 114, 97, 112, 104, 67, 121, 99, 108, 101, 115], [101, 115, 116, 111, 118, 101, 114, 115, 47, 101, 115, 116, 111, 118, 101, 114, 115, 108, 97, 119, 52, 50, 46, 87, 97, 105, 116, 103, 114, 97, 112, 104, 76, 101, 118, 101, 108, 115], [101, 115, 116, 111, 118, 101, 114, 115, 47, 101, 115, 116, 111, 118, 101, 114, 115, 108, 97, 119, 52, 50, 46, 87, 97, 105, 116, 103, 114, 97, 112, 104, 67, 111, 109, 112, 111, 110, 101, 110, 116, 115], [101, 115, 116, 111, 118, 101, 114, 115, 47, 101, 115, 116, 111, 118, 101, 114, 115, 116, 111, 112, 46, 84, 111, 112, 65, 115, 99, 101, 110, 100, 105, 110, 103], [101, 115, 116, 111, 118, 101, 114, 115, 47, 101, 115, 116, 111, 118, 101, 114, 115, 108, 97, 119, 52, 50, 46, 87, 97, 105, 116, 103, 114, 97, 112, 104, 72, 111, 108, 100, 115], [101, 115, 116, 111, 118, 101, 114, 115, 47, 101, 115, 116, 111, 118, 101, 114, 115, 108, 97, 119, 52, 52, 46, 69, 120, 112, 108, 111, 114, 101, 67, 104, 101, 99, 107, 115], [101, 115, 116, 111, 118, 101, 114, 115, 47, 101, 115, 116, 111, 118, 101, 114, 115, 116, 111, 112, 46, 84, 111, 112, 78, 101, 118, 101, 114, 83, 116, 111, 112, 115], [101, 115, 116, 111, 118, 101, 114, 115, 47, 101, 115, 116, 111, 118, 101, 114, 115, 108, 97, 119, 52, 52, 46, 69, 120, 112, 108, 111, 114, 101, 82, 101, 97, 99, 104, 101, 115], [101, 115, 116, 111, 118, 101, 114, 115, 47, 101, 115, 116, 111, 118, 101, 114, 115, 108, 97, 119, 52, 52, 46, 69, 120, 112, 108, 111, 114, 101, 82, 101, 112, 108, 97, 121, 115], [101, 115, 116, 111, 118, 101, 114, 115, 47, 101, 115, 116, 111, 118, 101, 114, 115, 108, 97, 119, 52, 52, 46, 69, 120, 112, 108, 111, 114, 101, 84, 97, 107, 101, 114, 115], [101, 115, 116, 111, 118, 101, 114, 115, 47, 101, 115, 116, 111, 118, 101, 114, 115, 108, 97, 119, 52, 52, 46, 69, 120, 112, 108, 111, 114, 101, 80, 104, 105, 108, 111, 115, 111, 112, 104, 101, 114, 115], [101, 115, 116, 111, 118, 101, 114, 115, 47, 101, 115, 116, 111, 118, 101, 114, 115, 108, 97, 119, 52, 52, 46, 69, 120, 112, 108, 111, 114, 101, 83, 116, 101, 112, 115], [101, 115, 116, 111, 118, 101, 114, 115, 47, 101, 115, 116, 111, 118, 101, 114, 115, 108, 97, 119, 52, 52, 46, 69, 120, 112, 108, 111, 114, 101, 83, 97, 102, 101], [101, 115, 116, 111, 118, 101, 114, 115, 47, 101, 115, 116, 111, 118, 101, 114, 115, 108, 97, 119, 52, 51, 46, 67, 101, 114, 116, 105, 102, 105, 99, 97, 116, 101, 77, 97, 107, 101, 115], [101, 115, 116, 111, 118, 101, 114, 115, 47, 101, 115, 116, 111, 118, 101, 114, 115, 108, 97, 119, 52, 51, 46, 67, 101, 114, 116, 105, 102, 105, 99, 97, 116, 101, 86, 101, 114, 105, 102, 105, 101, 115], [101, 115, 116, 111, 118, 101, 114, 115, 47, 101, 115, 116, 111, 118, 101, 114, 115, 108, 97, 119, 52, 51, 46, 67, 101, 114, 116, 105, 102, 105, 99, 97, 116, 101, 82, 111, 117, 110, 100], [101, 115, 116, 111, 118, 101, 114, 115, 47, 101, 115, 116, 111, 118, 101, 114, 115, 108, 97, 119, 52, 51, 46, 67, 101, 114, 116, 105, 102, 105, 99, 97, 116, 101, 69, 120, 112, 108, 97, 105, 110, 115], [101, 115, 116, 111, 118, 101, 114, 115, 47, 101, 115, 116, 111, 118, 101, 114, 115, 108, 97, 119, 52, 51, 46, 67, 101, 114, 116, 105, 102, 105, 99, 97, 116, 101, 83, 99, 97, 108, 101, 115], [101, 115, 116, 111, 118, 101, 114, 115, 47, 101, 115, 116, 111, 118, 101, 114, 115, 108, 97, 119, 52, 51, 46, 67, 101, 114, 116, 105, 102, 105, 99, 97, 116, 101, 70, 101, 119, 101, 114], [101, 115, 116, 111, 118, 101, 114, 115, 47, 101, 115, 116, 111, 118, 101, 114, 115, 108, 97, 119, 52, 51, 46, 67, 101, 114, 116, 105, 102, 105, 99, 97, 116, 101, 82, 101, 115, 101, 114, 118, 101, 115], [101, 115, 116, 111, 118, 101, 114, 115, 47, 101, 115, 116, 111, 118, 101, 114, 115, 108, 97, 119, 52, 52, 46, 69, 120, 112, 108, 111, 114, 101, 67, 101, 114, 116, 105, 102, 105, 101, 100]].map (List.map Char.ofNat)
theorem head_lit : Try.prog.initOrder = "harness 083fc437d4c3fb5fc9dc1f4e9742696e09bf838d003759f73a38b38579d6f151 cut at estovers/estoverslaw42.WaitgraphDemands estovers/estoverslaw42.WaitgraphEdges estovers/estoverslaw42.WaitgraphGraphs estovers/estoverslaw42.WaitgraphCycles estovers/estoverslaw42.WaitgraphLevels estovers/estoverslaw42.WaitgraphComponents estovers/estoverstop.TopAscending estovers/estoverslaw42.WaitgraphHolds estovers/estoverslaw44.ExploreChecks estovers/estoverstop.TopNeverStops estovers/estoverslaw44.ExploreReaches estovers/estoverslaw44.ExploreReplays estovers/estoverslaw44.ExploreTakers estovers/estoverslaw44.ExplorePhilosophers estovers/estoverslaw44.ExploreSteps estovers/estoverslaw44.ExploreSafe estovers/estoverslaw43.CertificateMakes estovers/estoverslaw43.CertificateVerifies estovers/estoverslaw43.CertificateRound estovers/estoverslaw43.CertificateExplains estovers/estoverslaw43.CertificateScales estovers/estoverslaw43.CertificateFewer estovers/estoverslaw43.CertificateReserves estovers/estoverslaw44.ExploreCertified" := by kernel_rfl
theorem lit_chars : "harness 083fc437d4c3fb5fc9dc1f4e9742696e09bf838d003759f73a38b38579d6f151 cut at estovers/estoverslaw42.WaitgraphDemands estovers/estoverslaw42.WaitgraphEdges estovers/estoverslaw42.WaitgraphGraphs estovers/estoverslaw42.WaitgraphCycles estovers/estoverslaw42.WaitgraphLevels estovers/estoverslaw42.WaitgraphComponents estovers/estoverstop.TopAscending estovers/estoverslaw42.WaitgraphHolds estovers/estoverslaw44.ExploreChecks estovers/estoverstop.TopNeverStops estovers/estoverslaw44.ExploreReaches estovers/estoverslaw44.ExploreReplays estovers/estoverslaw44.ExploreTakers estovers/estoverslaw44.ExplorePhilosophers estovers/estoverslaw44.ExploreSteps estovers/estoverslaw44.ExploreSafe estovers/estoverslaw43.CertificateMakes estovers/estoverslaw43.CertificateVerifies estovers/estoverslaw43.CertificateRound estovers/estoverslaw43.CertificateExplains estovers/estoverslaw43.CertificateScales estovers/estoverslaw43.CertificateFewer estovers/estoverslaw43.CertificateReserves estovers/estoverslaw44.ExploreCertified" = String.ofList headChars := by kernel_rfl
theorem head_is : Try.prog.initOrder = String.ofList headChars := head_lit.trans lit_chars
theorem head_chars : Try.prog.initOrder.toList = headChars := by rw [head_is, String.toList_ofList]
theorem head_words : wordsSigns headChars = headWords := by kernel_rfl
def cutWord : List Char := [99, 117, 116].map Char.ofNat
def restWords : List (List Char) := [[97, 116], [101, 115, 116, 111, 118, 101, 114, 115, 47, 101, 115, 116, 111, 118, 101, 114, 115, 108, 97, 119, 52, 50, 46, 87, 97, 105, 116, 103, 114, 97, 112, 104, 68, 101, 109, 97, 110, 100, 115], [101, 115, 116, 111, 118, 101, 114, 115, 47, 101, 115, 116, 111, 118, 101, 114, 115, 108, 97, 119, 52, 50, 46, 87, 97, 105, 116, 103, 114, 97, 112, 104, 69, 100, 103, 101, 115], [101, 115, 116, 111, 118, 101, 114, 115, 47, 101, 115, 116, 111, 118, 101, 114, 115, 108, 97, 119, 52, 50, 46, 87, 97, 105, 116, 103, 114, 97, 112, 104, 71, 114, 97, 112, 104, 115], [101, 115, 116, 111, 118, 101, 114, 115, 47, 101, 115, 116, 111, 118, 101, 114, 115, 108, 97, 119, 52, 50, 46, 87, 97, 105, 116, 103, 114, 97, 112, 104, 67, 121, 99, 108, 101, 115], [101, 115, 116, 111, 118, 101, 114, 115, 47, 101, 115, 116, 111, 118, 101, 114, 115, 108, 97, 119, 52, 50, 46, 87, 97, 105, 116, 103, 114, 97, 112, 104, 76, 101, 118, 101, 108, 115], [101, 115, 116, 111, 118, 101, 114, 115, 47, 101, 115, 116, 111, 118, 101, 114, 115, 108, 97, 119, 52, 50, 46, 87, 97, 105, 116, 103, 114, 97, 112, 104, 67, 111, 109, 112, 111, 110, 101, 110, 116, 115], [101, 115, 116, 111, 118, 101, 114, 115, 47, 101, 115, 116, 111, 118, 101, 114, 115, 116, 111, 112, 46, 84, 111, 112, 65, 115, 99, 101, 110, 100, 105, 110, 103], [101, 115, 116, 111, 118, 101, 114, 115, 47, 101, 115, 116, 111, 118, 101, 114, 115, 108, 97, 119, 52, 50, 46, 87, 97, 105, 116, 103, 114, 97, 112, 104, 72, 111, 108, 100, 115], [101, 115, 116, 111, 118, 101, 114, 115, 47, 101, 115, 116, 111, 118, 101, 114, 115, 108, 97, 119, 52, 52, 46, 69, 120, 112, 108, 111, 114, 101, 67, 104, 101, 99, 107, 115], [101, 115, 116, 111, 118, 101, 114, 115, 47, 101, 115, 116, 111, 118, 101, 114, 115, 116, 111, 112, 46, 84, 111, 112, 78, 101, 118, 101, 114, 83, 116, 111, 112, 115], [101, 115, 116, 111, 118, 101, 114, 115, 47, 101, 115, 116, 111, 118, 101, 114, 115, 108, 97, 119, 52, 52, 46, 69, 120, 112, 108, 111, 114, 101, 82, 101, 97, 99, 104, 101, 115], [101, 115, 116, 111, 118, 101, 114, 115, 47, 101, 115, 116, 111, 118, 101, 114, 115, 108, 97, 119, 52, 52, 46, 69, 120, 112, 108, 111, 114, 101, 82, 101, 112, 108, 97, 121, 115], [101, 115, 116, 111, 118, 101, 114, 115, 47, 101, 115, 116, 111, 118, 101, 114, 115, 108, 97, 119, 52, 52, 46, 69, 120, 112, 108, 111, 114, 101, 84, 97, 107, 101, 114, 115], [101, 115, 116, 111, 118, 101, 114, 115, 47, 101, 115, 116, 111, 118, 101, 114, 115, 108, 97, 119, 52, 52, 46, 69, 120, 112, 108, 111, 114, 101, 80, 104, 105, 108, 111, 115, 111, 112, 104, 101, 114, 115], [101, 115, 116, 111, 118, 101, 114, 115, 47, 101, 115, 116, 111, 118, 101, 114, 115, 108, 97, 119, 52, 52, 46, 69, 120, 112, 108, 111, 114, 101, 83, 116, 101, 112, 115], [101, 115, 116, 111, 118, 101, 114, 115, 47, 101, 115, 116, 111, 118, 101, 114, 115, 108, 97, 119, 52, 52, 46, 69, 120, 112, 108, 111, 114, 101, 83, 97, 102, 101], [101, 115, 116, 111, 118, 101, 114, 115, 47, 101, 115, 116, 111, 118, 101, 114, 115, 108, 97, 119, 52, 51, 46, 67, 101, 114, 116, 105, 102, 105, 99, 97, 116, 101, 77, 97, 107, 101, 115], [101, 115, 116, 111, 118, 101, 114, 115, 47, 101, 115, 116, 111, 118, 101, 114, 115, 108, 97, 119, 52, 51, 46, 67, 101, 114, 116, 105, 102, 105, 99, 97, 116, 101, 86, 101, 114, 105, 102, 105, 101, 115], [101, 115, 116, 111, 118, 101, 114, 115, 47, 101, 115, 116, 111, 118, 101, 114, 115, 108, 97, 119, 52, 51, 46, 67, 101, 114, 116, 105, 102, 105, 99, 97, 116, 101, 82, 111, 117, 110, 100], [101, 115, 116, 111, 118, 101, 114, 115, 47, 101, 115, 116, 111, 118, 101, 114, 115, 108, 97, 119, 52, 51, 46, 67, 101, 114, 116, 105, 102, 105, 99, 97, 116, 101, 69, 120, 112, 108, 97, 105, 110, 115], [101, 115, 116, 111, 118, 101, 114, 115, 47, 101, 115, 116, 111, 118, 101, 114, 115, 108, 97, 119, 52, 51, 46, 67, 101, 114, 116, 105, 102, 105, 99, 97, 116, 101, 83, 99, 97, 108, 101, 115], [101, 115, 116, 111, 118, 101, 114, 115, 47, 101, 115, 116, 111, 118, 101, 114, 115, 108, 97, 119, 52, 51, 46, 67, 101, 114, 116, 105, 102, 105, 99, 97, 116, 101, 70, 101, 119, 101, 114], [101, 115, 116, 111, 118, 101, 114, 115, 47, 101, 115, 116, 111, 118, 101, 114, 115, 108, 97, 119, 52, 51, 46, 67, 101, 114, 116, 105, 102, 105, 99, 97, 116, 101, 82, 101, 115, 101, 114, 118, 101, 115], [101, 115, 116, 111, 118, 101, 114, 115, 47, 101, 115, 116, 111, 118, 101, 114, 115, 108, 97, 119, 52, 52, 46, 69, 120, 112, 108, 111, 114, 101, 67, 101, 114, 116, 105, 102, 105, 101, 100]].map (List.map Char.ofNat)
theorem behind : behindMainWord headWords = cutWord :: restWords := by kernel_rfl
theorem strip : stripLifts liftWords (cutWord :: restWords) = ([], cutWord :: restWords) := by kernel_rfl
theorem w1 : (cutWord == "gc".toList) = false := by kernel_rfl
theorem w2 : (cutWord == "spec".toList) = false := by kernel_rfl
theorem w3 : (cutWord == "cut".toList) = true := by kernel_rfl
theorem w4 : (cutWord == "carried".toList) = false := by kernel_rfl
theorem later : Try.prog.laysLater = false := by kernel_rfl
theorem reflects : Try.prog.bearsReflect = false := by kernel_rfl
theorem doors : Try.prog.doorFits [] = true := by kernel_rfl
theorem w5 : ((cutWord :: restWords).head? == some "cut".toList) = true := by kernel_rfl
theorem enters_of (P : Program) (l : List Char) (ws : List (List Char)) (c : List Char) (rest : List (List Char)) (h1 : P.initOrder.toList = l) (h2 : wordsSigns l = ws) (h3 : behindMainWord ws = c :: rest)
  (k : stripLifts liftWords (c :: rest) = ([], c :: rest)) (k1 : (c == "gc".toList) = false) (k2 : (c == "spec".toList) = false) (k5 : ((c :: rest).head? == some "cut".toList) = true)
  (k6 : P.laysLater = false) (k7 : P.bearsReflect = false) (k8 : P.doorFits [] = true) : P.mayEnter = true := by
 unfold Program.mayEnter
 rw [h1, h2, h3]
 dsimp only
 rw [k, k1, k2]
 dsimp only
 rw [k5, k6, k7, k8]
 simp
theorem enters : Try.prog.mayEnter = true := enters_of Try.prog headChars headWords cutWord restWords head_chars head_words behind strip w1 w2 w5 later reflects doors
theorem noLifts : Try.prog.headLifts = [] := by
 unfold Program.headLifts
 rw [head_chars, head_words]
 kernel_rfl
theorem noFinal : Try.prog.liftsFinal = false := by
 unfold Program.liftsFinal
 rw [head_chars, head_words, noLifts]
 kernel_rfl
theorem made_of (P : Program) (l : List Char) (ws : List (List Char)) (c : List Char) (rest : List (List Char)) (h1 : P.initOrder.toList = l) (h2 : wordsSigns l = ws) (h3 : behindMainWord ws = c :: rest)
  (k1 : (c == "gc".toList) = false) (k2 : (c == "spec".toList) = false) (k3 : (c == "cut".toList) = true) : P.make = some .cut := by
 unfold Program.make
 rw [h1, h2, h3]
 dsimp only
 rw [k1, k2, k3]
 rfl
theorem made : Try.prog.make = some .cut := made_of Try.prog headChars headWords cutWord restWords head_chars head_words behind w1 w2 w3
theorem laid : laidOutB Try.prog = true := by kernel_rfl
theorem rowed : mapsRowed Try.prog = true := by kernel_rfl
theorem unstopped : Try.prog.stops = [] := by kernel_rfl
theorem unknobbed : Try.prog.stopKnobs = [] := by kernel_rfl
theorem noPlain : Try.prog.plainKeys = false := by kernel_rfl
theorem heard : Try.prog.stopsHeard = true := by kernel_rfl
theorem joined (f : FuncId) (fn : Func) (s : ChangeSpec) (c : OpenClaim)
  (k1 : c.wf (OpenSpec.ofChange s) = true) (k4 : fn.params.all (Try.prog.readableRec ·) = true) (k5 : namedTie Try.prog c.named s.vars = true) (k6 : (c.stops == []) = true) (k8 : (c.knobs == []) = true)
  (k10 : Try.prog.inPlace f = c.inPlace) (k11 : Try.prog.unfollowed f = c.unfollowed) (k12 : Try.prog.recurses f = c.recurses) (k13 : Try.prog.varsNamed f = c.named)
  (k14 : (c.maps == (fn.params.toList ++ s.plain.varTypes Try.prog).any (Try.prog.mapsRec ·)) = true) (k15 : (c.ifaces == (fn.params.toList ++ s.plain.varTypes Try.prog).any (Try.prog.ifacesRec ·)) = true) (k16 : (c.mapsOut == Try.prog.mapsAmong fn.resultTypes.toList) = true)
  (k17 : (c.loops == (fn.params.toList ++ s.plain.varTypes Try.prog).any (Try.prog.loopsFrom ·)) = true) (k18 : (c.wideKeys == (fn.params.toList ++ s.plain.varTypes Try.prog ++ fn.resultTypes.toList).any (Try.prog.wideKeysFrom ·)) = true)
  (k19 : s.vars.all (Try.prog.varReadable ·) = true) (k20 : fn.resultTypes.all (fun t => Try.prog.readableRec t && decide (t < Try.prog.types.size)) = true) (k21 : (c.ifacesOut == fn.resultTypes.toList.any (Try.prog.ifacesRec ·)) = true) (k22 : (c.loopsOut == fn.resultTypes.toList.any (Try.prog.loopsFrom ·)) = true)
  (k23 : c.plainKeys = false) (k24 : c.shortTexts.isNone = true) (k25 : c.lifted = false) (k26 : c.make = .cut)
  (k27 : (c.kinds == (if c.domain.isEmpty then [] else fn.params.toList.map fun t => match Try.prog.underlying t with | some (.int k) => some k | _ => none)) = true) (k28 : (c.pinned == c.pinnedBy) = true)
  (k29 : (c.veiled == (fn.params.toList ++ s.plain.varTypes Try.prog ++ fn.resultTypes.toList).any (Try.prog.veiledRec ·)) = true) (k30 : c.veiledFits Try.prog fn.params.toList (fn.params.toList ++ s.plain.varTypes Try.prog ++ fn.resultTypes.toList) = true) :
  joinedFacts Try.prog f fn s c = true := by
 unfold joinedFacts
 rw [k1, laid, rowed, k4, k5, k6, unstopped, k8, unknobbed, k10, k11, k12, k13, k14, k15, k16, k17, k18, k19, k20, k21, k22, noPlain, k23, k24, heard, enters, noFinal, k25, made, k26, k28, k29, k30]
 simp only [beq_self_eq_true, Bool.true_and, Bool.and_true]
 exact k27
end Go.Proofs.Ytflfnkdhmcfjlaa
namespace Go.Am
open Go
set_option linter.unusedSimpArgs false
set_option linter.unusedVariables false
set_option maxRecDepth 100000
theorem law21 (us : List V) (h : HasAll [tSys, .sl (.int .i64)] us) : ∃ m, callw F43 21 us 0 m0 = some (.bool true, m) := by
 obtain ⟨u1, us, rfl, h1, h⟩ := all_cons h
 obtain ⟨u2, us, rfl, h2, h⟩ := all_cons h
 obtain rfl := all_nil h
 obtain ⟨s, rfl⟩ := open_sys h1
 obtain ⟨l, rfl, _, _⟩ := open_ints h2
 refine ⟨m0, ?_⟩
 have c28 : ∀ {lo m}, callw F43 28 [vSys s] lo m = some (.bool (few s), m) := fun {lo m} => sp28 hasA s
 refine call_p hasX21.h21 rfl ?_
 have ha : ∀ {lo}, callw F43 79 [] lo m0 = some (.bool true, m0) := aw43
 cases hf : few s with
 | false =>
  simp only [↓sxc, sx, se, ↓reduceIte, Nat.reduceEqDiff, Nat.reduceAdd, Nat.reduceLT, Nat.reduceLeDiff, Nat.reduceSub, Nat.reduceMul, Int.reduceToNat, Int.reduceLT, Int.reduceLE, Int.reduceEq, ml_i0, ↓smc, sm, ha, c28, hf]
 | true =>
  by_cases h40 : 40 < (l.length : Int)
  ·simp only [↓sxc, sx, se, ↓reduceIte, Nat.reduceEqDiff, Nat.reduceAdd, Nat.reduceLT, Nat.reduceLeDiff, Nat.reduceSub, Nat.reduceMul, Int.reduceToNat, Int.reduceLT, Int.reduceLE, Int.reduceEq, ml_i0, ↓smc, sm, ha, c28, hf, h40]
  ·have c50 : ∀ {lo m}, callw F43 50 [vSys s] lo m = some (.tup [.agg [ints (makE s).1], vi (makE s).2], m) := fun {lo m} => sp50 hasA hasB hasC hasG s
   have c81 : ∀ {lo m}, callw F43 81 [vSys s] lo m = some (.tup [vi (impA s).1, vi (impA s).2.1, .bool (impA s).2.2], m) := fun {lo m} => sp81 hasA hasC s
   have c83 : ∀ {lo m}, callw F43 83 [vSys s] lo m = some (.tup [vEdges (expE s), vi (chkE s)], m) := fun {lo m} => sp83 hasA hasB hasC hasG s
   have c52 : ∀ {lo m}, callw F43 52 [vSys s, .agg [ints (makE s).1]] lo m = some (vi (verE s (makE s).1), m) := fun {lo m} => sp52 hasA hasB hasC s (makE s).1 (makE_len s)
   have c52l : ∀ {lo m}, callw F43 52 [vSys s, .agg [ints l]] lo m = some (vi (verE s l), m) := fun {lo m} => sp52 hasA hasB hasC s l (by omega)
   by_cases h0 : chkE s = 0
   ·rcases mak_cases h0 with ⟨h3, h4⟩ | ⟨h3, h4, h5, h6⟩ | ⟨h3, h4, h5, h6⟩
    ·have hv : ¬ verE s l = 0 := ver_bad h0 h3 l
     by_cases h9 : (0 : Int) < ((expE s).length : Int)
     ·simp only [↓sxc, sx, se, ↓reduceIte, Nat.reduceEqDiff, Nat.reduceAdd, Nat.reduceLT, Nat.reduceLeDiff, Nat.reduceSub, Nat.reduceMul, Int.reduceToNat, Int.reduceLT, Int.reduceLE, Int.reduceEq, ml_i0, ↓smc, sm, ha, c28, hf, h40, c50, c81, c83, h0, h3, h4, c52, c52l, hv, h9]
     ·simp only [↓sxc, sx, se, ↓reduceIte, Nat.reduceEqDiff, Nat.reduceAdd, Nat.reduceLT, Nat.reduceLeDiff, Nat.reduceSub, Nat.reduceMul, Int.reduceToNat, Int.reduceLT, Int.reduceLE, Int.reduceEq, ml_i0, ↓smc, sm, ha, c28, hf, h40, c50, c81, c83, h0, h3, h4, c52, c52l, hv, h9]
    ·have h9 : ¬ (0 : Int) < ((expE s).length : Int) := by rw [h5]; simp
     by_cases hvl : verE s l = 0
     ·simp only [↓sxc, sx, se, ↓reduceIte, Nat.reduceEqDiff, Nat.reduceAdd, Nat.reduceLT, Nat.reduceLeDiff, Nat.reduceSub, Nat.reduceMul, Int.reduceToNat, Int.reduceLT, Int.reduceLE, Int.reduceEq, ml_i0, ↓smc, sm, ha, c28, hf, h40, c50, c81, c83, h0, h3, h4, h6, c52, c52l, h9, hvl]
     ·simp only [↓sxc, sx, se, ↓reduceIte, Nat.reduceEqDiff, Nat.reduceAdd, Nat.reduceLT, Nat.reduceLeDiff, Nat.reduceSub, Nat.reduceMul, Int.reduceToNat, Int.reduceLT, Int.reduceLE, Int.reduceEq, ml_i0, ↓smc, sm, ha, c28, hf, h40, c50, c81, c83, h0, h3, h4, h6, c52, c52l, h9, hvl]
    ·have hv : ¬ verE s l = 0 := h6 l
     have h9 : (0 : Int) < ((expE s).length : Int) := by
      have := List.length_pos_iff.2 h5
      omega
     simp only [↓sxc, sx, se, ↓reduceIte, Nat.reduceEqDiff, Nat.reduceAdd, Nat.reduceLT, Nat.reduceLeDiff, Nat.reduceSub, Nat.reduceMul, Int.reduceToNat, Int.reduceLT, Int.reduceLE, Int.reduceEq, ml_i0, ↓smc, sm, ha, c28, hf, h40, c50, c81, c83, h0, h3, h4, c52, c52l, hv, h9]
   ·have e1 : (makE s).2 = chkE s := by unfold makE; rw [if_pos h0]
    have e2 : ∀ l, verE s l = chkE s := fun l => by unfold verE; rw [if_pos h0]
    simp only [↓sxc, sx, se, ↓reduceIte, Nat.reduceEqDiff, Nat.reduceAdd, Nat.reduceLT, Nat.reduceLeDiff, Nat.reduceSub, Nat.reduceMul, Int.reduceToNat, Int.reduceLT, Int.reduceLE, Int.reduceEq, ml_i0, ↓smc, sm, ha, c28, hf, h40, c50, c81, c83, h0, e1, e2, c52, c52l]
end Go.Am
namespace Go.Proofs.Ytflfnkdhmcfjlaa
open Go Go.Am Go.ChangeShapes Go.WideShapes Go.ChangeAt Go.RowKit
set_option linter.unusedVariables false
theorem own : ownKnob Try.prog.godebug = none := by kernel_rfl
theorem kids : Kids Try.prog (· < Try.prog.types.size) := kids_rows (by kernel_rfl) (by kernel_rfl)
theorem full : ∀ t e, t < Try.prog.types.size → Try.prog.underlying t = some (.slice e) → 0 < Try.prog.cellsOf e := slices_full_of Try.prog (by kernel_rfl)
theorem fit : fitAll Try.prog Try.f21.params.toList [tSys, .sl (.int .i64)] = true := by kernel_rfl
set_option maxRecDepth 100000 in
theorem lifted (os : Os) (started : os.Started) (H : Type) (enc : TypeId × Value → H) :
  ReturnsInHanded {} Try.checked os 21 .any (Rows.certificateRoundSpec.pre6 enc Try.prog Try.f21 Rows.certificateRoundRow.domain false) (Rows.certificateRoundSpec.post enc Try.prog Try.f21 false true false false) := by
 refine returnsInHanded_of_change (C := Try.checked) own started (by kernel_rfl) Try.func21
  (ChangeSpec.witness6 (enc := enc) (C := Try.checked) false ⟨#[], #[.agg #[.slice none 0 0, .slice none 0 0, .slice none 0 0], .slice none 0 0], []⟩ 12 (by kernel_rfl) (by kernel_rfl) (by kernel_rfl) (by kernel_rfl)) ?_
 intro W base args ds gs before hval0 hW hcnd _
 have hval : ∀ (j : Nat) t v, Try.f21.params[j]? = some t → args[j]? = some v → Value.okWide Try.prog W .any base t v := hval0
 have hW' := hW
 obtain ⟨p, q, hA0, hV, rfl, hfz, hnd⟩ := hW
 have hA : DataW.TrodAll enc Try.prog W 0 (fun _ => true) true Try.f21.params.toList args.toList ds p := hA0
 obtain ⟨rfl, rfl⟩ := trodVars_none hV
 have hspec : Rows.certificateRoundSpec.fn H (ds ++ []) = { results := [.lit (.bool true)], args := ds } := by
  rw [Try.params21] at hA
  obtain ⟨v0, vs0, d0, ds0, p0, q0, _, rfl, _, _, r0⟩ := trodAll_cons hA
  obtain ⟨v1, vs1, d1, ds1, p1, q1, _, rfl, _, _, r1⟩ := trodAll_cons r0
  obtain ⟨_, rfl, _⟩ := trodAll_nil r1
  rfl
 refine (law_calls (P := Try.prog) (F := F43) mixed okAll (by decide) fit (fun us h => law21 us h) hA (fun j t v ht hv => hval j t v (by rw [← Array.getElem?_toList]; exact ht) hv)).mono fun e W' ⟨he, h1, h2, h3⟩ => ?_
 subst he
 exact ⟨_, rfl, kept_post hW' rfl hspec rfl Try.underlying4 kids full (by rw [Try.params21]; decide) h1 h2 h3⟩
theorem reached : Try.prog.closure 21 = [21, 79, 90, 50, 35, 49, 111, 112, 113, 153, 114, 121, 122, 154, 116, 120, 106, 155, 94, 92, 148, 97, 98, 54, 81, 142, 143, 141, 29, 41, 102, 83, 40, 103, 105, 152, 165, 168, 169, 107, 45, 52, 119, 86, 31, 28] := by kernel_rfl
theorem noPlace : Try.prog.inPlace 21 = [] := by unfold Program.inPlace; rw [reached]; kernel_rfl
theorem follows : Try.prog.unfollowed 21 = true := by unfold Program.unfollowed; rw [reached]; kernel_rfl
theorem recurs : Try.prog.recurses 21 = true := by unfold Program.recurses; rw [follows]; rfl
theorem names : Try.prog.varsNamed 21 = [] := by unfold Program.varsNamed; rw [reached]; kernel_rfl
theorem shut : joinedFacts Try.prog 21 Try.f21 Rows.certificateRoundSpec Rows.certificateRoundRow = true :=
 joined 21 Try.f21 Rows.certificateRoundSpec Rows.certificateRoundRow (by kernel_rfl) (by kernel_rfl) (by kernel_rfl) (by kernel_rfl) (by kernel_rfl) noPlace follows recurs names
  (by kernel_rfl) (by kernel_rfl) (by kernel_rfl) (by kernel_rfl) (by kernel_rfl) (by kernel_rfl) (by kernel_rfl) (by kernel_rfl) (by kernel_rfl) rfl rfl rfl rfl (by kernel_rfl) (by kernel_rfl) (by kernel_rfl) (by kernel_rfl)
theorem over : Rows.certificateRoundRow.holds Try.pinned (OpenSpec.ofChange Rows.certificateRoundSpec) :=
 OpenClaim.holds_of_wide 21 Try.f21 rfl rfl rfl rfl rfl rfl rfl ⟨rfl, rfl, rfl, rfl, rfl⟩ rfl rfl rfl rfl rfl (by kernel_rfl) Try.func21 shut
  (of_decide_eq_true (by kernel_rfl)) (by unfold Func.isWrapper; first | (rw [if_pos (by decide +kernel)]; kernel_rfl) | (rw [if_neg (by decide +kernel)]; exact ⟨rfl, rfl⟩))
  (fun os started H enc _ => lifted os started H enc)
theorem certificateRound_holds : Rows.CertificateRoundSaid := over
end Go.Proofs.Ytflfnkdhmcfjlaa
