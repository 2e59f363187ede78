/-
  No cell of these rows narrows 'for every input' (looked for: loops, veiled, ifaces, maps, wideKeys, modest, calm, conditions, laid).
  DERIVED. THE GIVEN ROWS OF THIS SEAT. 24 by the template 'for every input the law returns true; each argument reads behind the call as it read before'; 0 by the template 'total and deterministic' (their statements: YtflfnkdhmcfjlaaTotals.lean).
  GIVEN WITH THE SEED: the statements are not yours to turn. If you find one false, say at which input.
  Laid BY PROGRAM, IN A SANDBOX (cutbox-rows.mjs): the forced cells as the released guide's own fill.sh prints them over the translation c9463adb1c5b1a8d… (all of the seat's roots in one cut). By AI agents, Wed Nov 11 2026. No macro, syntax, notation, axiom, sorry.
-/
import Derived.Test.YtflfnkdhmcfjlaaChecked
import GoSem.Claim
import GoSem.ClaimJoined
import GoSem.ClaimMapViews
import Derived.JoinedTies
import Derived.KernelRfl
namespace Go.Proofs.Ytflfnkdhmcfjlaa
/- THE CELL 'sum', in the pinned program and in every row, IS THE sha256 OF THE DUMP (.gsa) THAT YtflfnkdhmcfjlaaProg.lean LOADS. Nothing in Lean hashes anything: it is a label: what it is worth is what the hold of that sum in a sandbox is worth. -/
noncomputable def Try.pinned : Pinned := { name := "ytflfnkdhmcfjlaa", sum := "c9463adb1c5b1a8d8ae3adcee04cb889386f0115b99ca684921dac23c09aa2c9", checked := Try.checked }
namespace Rows
def none {H : Type} : Left H := { results := [], args := [] }

/-- 'estoverslaw42.WaitgraphDemands': WHATEVER THE INPUT: true; the input reads as it did. -/
def waitgraphDemandsSpec : ChangeSpec := { name := "waitgraphDemands", fn := fun _ => fun
  | [d1, d2, d3] => { results := [.lit (.bool true)], args := [d1, d2, d3] }
  | _ => none }
def waitgraphDemandsRow : OpenClaim := { program := "ytflfnkdhmcfjlaa", sum := "c9463adb1c5b1a8d8ae3adcee04cb889386f0115b99ca684921dac23c09aa2c9", func := "estovers/estoverslaw42.WaitgraphDemands", spec := "waitgraphDemands", unfollowed := true, recurses := true, plainKeys := false, apart := false }
def WaitgraphDemandsSaid : Prop := waitgraphDemandsRow.holds Try.pinned (OpenSpec.ofChange waitgraphDemandsSpec)

/-- ITS FALSE NEIGHBOUR: 'it returns false'. Refute it at one input. -/
def waitgraphDemandsWrong : ChangeSpec := { name := "waitgraphDemands", fn := fun _ => fun
  | [d1, d2, d3] => { results := [.lit (.bool false)], args := [d1, d2, d3] }
  | _ => none }
def WaitgraphDemandsWrongFalsely : Prop := waitgraphDemandsRow.holds Try.pinned (OpenSpec.ofChange waitgraphDemandsWrong)

/-- 'estoverslaw42.WaitgraphEdges': WHATEVER THE INPUT: true; the input reads as it did. -/
def waitgraphEdgesSpec : ChangeSpec := { name := "waitgraphEdges", fn := fun _ => fun
  | [d] => { results := [.lit (.bool true)], args := [d] }
  | _ => none }
def waitgraphEdgesRow : OpenClaim := { program := "ytflfnkdhmcfjlaa", sum := "c9463adb1c5b1a8d8ae3adcee04cb889386f0115b99ca684921dac23c09aa2c9", func := "estovers/estoverslaw42.WaitgraphEdges", spec := "waitgraphEdges", unfollowed := true, recurses := true, plainKeys := false, apart := false }
def WaitgraphEdgesSaid : Prop := waitgraphEdgesRow.holds Try.pinned (OpenSpec.ofChange waitgraphEdgesSpec)

/-- ITS FALSE NEIGHBOUR: 'it returns false'. Refute it at one input. -/
def waitgraphEdgesWrong : ChangeSpec := { name := "waitgraphEdges", fn := fun _ => fun
  | [d] => { results := [.lit (.bool false)], args := [d] }
  | _ => none }
def WaitgraphEdgesWrongFalsely : Prop := waitgraphEdgesRow.holds Try.pinned (OpenSpec.ofChange waitgraphEdgesWrong)

/-- 'estoverslaw42.WaitgraphGraphs': WHATEVER THE INPUT: true; the input reads as it did. -/
def waitgraphGraphsSpec : ChangeSpec := { name := "waitgraphGraphs", fn := fun _ => fun
  | [d1, d2] => { results := [.lit (.bool true)], args := [d1, d2] }
  | _ => none }
def waitgraphGraphsRow : OpenClaim := { program := "ytflfnkdhmcfjlaa", sum := "c9463adb1c5b1a8d8ae3adcee04cb889386f0115b99ca684921dac23c09aa2c9", func := "estovers/estoverslaw42.WaitgraphGraphs", spec := "waitgraphGraphs", unfollowed := true, recurses := true, plainKeys := false, apart := false }
def WaitgraphGraphsSaid : Prop := waitgraphGraphsRow.holds Try.pinned (OpenSpec.ofChange waitgraphGraphsSpec)

/-- ITS FALSE NEIGHBOUR: 'it returns false'. Refute it at one input. -/
def waitgraphGraphsWrong : ChangeSpec := { name := "waitgraphGraphs", fn := fun _ => fun
  | [d1, d2] => { results := [.lit (.bool false)], args := [d1, d2] }
  | _ => none }
def WaitgraphGraphsWrongFalsely : Prop := waitgraphGraphsRow.holds Try.pinned (OpenSpec.ofChange waitgraphGraphsWrong)

/-- 'estoverslaw42.WaitgraphCycles': WHATEVER THE INPUT: true; the input reads as it did. -/
def waitgraphCyclesSpec : ChangeSpec := { name := "waitgraphCycles", fn := fun _ => fun
  | [d1, d2] => { results := [.lit (.bool true)], args := [d1, d2] }
  | _ => none }
def waitgraphCyclesRow : OpenClaim := { program := "ytflfnkdhmcfjlaa", sum := "c9463adb1c5b1a8d8ae3adcee04cb889386f0115b99ca684921dac23c09aa2c9", func := "estovers/estoverslaw42.WaitgraphCycles", spec := "waitgraphCycles", unfollowed := true, recurses := true, plainKeys := false, apart := false }
def WaitgraphCyclesSaid : Prop := waitgraphCyclesRow.holds Try.pinned (OpenSpec.ofChange waitgraphCyclesSpec)

/-- ITS FALSE NEIGHBOUR: 'it returns false'. Refute it at one input. -/
def waitgraphCyclesWrong : ChangeSpec := { name := "waitgraphCycles", fn := fun _ => fun
  | [d1, d2] => { results := [.lit (.bool false)], args := [d1, d2] }
  | _ => none }
def WaitgraphCyclesWrongFalsely : Prop := waitgraphCyclesRow.holds Try.pinned (OpenSpec.ofChange waitgraphCyclesWrong)

/-- 'estoverslaw42.WaitgraphLevels': WHATEVER THE INPUT: true; the input reads as it did. -/
def waitgraphLevelsSpec : ChangeSpec := { name := "waitgraphLevels", fn := fun _ => fun
  | [d1, d2] => { results := [.lit (.bool true)], args := [d1, d2] }
  | _ => none }
def waitgraphLevelsRow : OpenClaim := { program := "ytflfnkdhmcfjlaa", sum := "c9463adb1c5b1a8d8ae3adcee04cb889386f0115b99ca684921dac23c09aa2c9", func := "estovers/estoverslaw42.WaitgraphLevels", spec := "waitgraphLevels", unfollowed := true, recurses := true, plainKeys := false, apart := false }
def WaitgraphLevelsSaid : Prop := waitgraphLevelsRow.holds Try.pinned (OpenSpec.ofChange waitgraphLevelsSpec)

/-- ITS FALSE NEIGHBOUR: 'it returns false'. Refute it at one input. -/
def waitgraphLevelsWrong : ChangeSpec := { name := "waitgraphLevels", fn := fun _ => fun
  | [d1, d2] => { results := [.lit (.bool false)], args := [d1, d2] }
  | _ => none }
def WaitgraphLevelsWrongFalsely : Prop := waitgraphLevelsRow.holds Try.pinned (OpenSpec.ofChange waitgraphLevelsWrong)

/-- 'estoverslaw42.WaitgraphComponents': WHATEVER THE INPUT: true; the input reads as it did. -/
def waitgraphComponentsSpec : ChangeSpec := { name := "waitgraphComponents", fn := fun _ => fun
  | [d1, d2] => { results := [.lit (.bool true)], args := [d1, d2] }
  | _ => none }
def waitgraphComponentsRow : OpenClaim := { program := "ytflfnkdhmcfjlaa", sum := "c9463adb1c5b1a8d8ae3adcee04cb889386f0115b99ca684921dac23c09aa2c9", func := "estovers/estoverslaw42.WaitgraphComponents", spec := "waitgraphComponents", unfollowed := true, recurses := true, plainKeys := false, apart := false }
def WaitgraphComponentsSaid : Prop := waitgraphComponentsRow.holds Try.pinned (OpenSpec.ofChange waitgraphComponentsSpec)

/-- ITS FALSE NEIGHBOUR: 'it returns false'. Refute it at one input. -/
def waitgraphComponentsWrong : ChangeSpec := { name := "waitgraphComponents", fn := fun _ => fun
  | [d1, d2] => { results := [.lit (.bool false)], args := [d1, d2] }
  | _ => none }
def WaitgraphComponentsWrongFalsely : Prop := waitgraphComponentsRow.holds Try.pinned (OpenSpec.ofChange waitgraphComponentsWrong)

/-- 'estoverstop.TopAscending': WHATEVER THE INPUT: true; the input reads as it did. -/
def topAscendingSpec : ChangeSpec := { name := "topAscending", fn := fun _ => fun
  | [d] => { results := [.lit (.bool true)], args := [d] }
  | _ => none }
def topAscendingRow : OpenClaim := { program := "ytflfnkdhmcfjlaa", sum := "c9463adb1c5b1a8d8ae3adcee04cb889386f0115b99ca684921dac23c09aa2c9", func := "estovers/estoverstop.TopAscending", spec := "topAscending", unfollowed := true, recurses := true, plainKeys := false, apart := false }
def TopAscendingSaid : Prop := topAscendingRow.holds Try.pinned (OpenSpec.ofChange topAscendingSpec)

/-- ITS FALSE NEIGHBOUR: 'it returns false'. Refute it at one input. -/
def topAscendingWrong : ChangeSpec := { name := "topAscending", fn := fun _ => fun
  | [d] => { results := [.lit (.bool false)], args := [d] }
  | _ => none }
def TopAscendingWrongFalsely : Prop := topAscendingRow.holds Try.pinned (OpenSpec.ofChange topAscendingWrong)

/-- 'estoverslaw42.WaitgraphHolds': WHATEVER THE INPUT: true; the input reads as it did. -/
def waitgraphHoldsSpec : ChangeSpec := { name := "waitgraphHolds", fn := fun _ => fun
  | [d] => { results := [.lit (.bool true)], args := [d] }
  | _ => none }
def waitgraphHoldsRow : OpenClaim := { program := "ytflfnkdhmcfjlaa", sum := "c9463adb1c5b1a8d8ae3adcee04cb889386f0115b99ca684921dac23c09aa2c9", func := "estovers/estoverslaw42.WaitgraphHolds", spec := "waitgraphHolds", unfollowed := true, recurses := true, plainKeys := false, apart := false }
def WaitgraphHoldsSaid : Prop := waitgraphHoldsRow.holds Try.pinned (OpenSpec.ofChange waitgraphHoldsSpec)

/-- ITS FALSE NEIGHBOUR: 'it returns false'. Refute it at one input. -/
def waitgraphHoldsWrong : ChangeSpec := { name := "waitgraphHolds", fn := fun _ => fun
  | [d] => { results := [.lit (.bool false)], args := [d] }
  | _ => none }
def WaitgraphHoldsWrongFalsely : Prop := waitgraphHoldsRow.holds Try.pinned (OpenSpec.ofChange waitgraphHoldsWrong)

/-- 'estoverslaw44.ExploreChecks': WHATEVER THE INPUT: true; the input reads as it did. -/
def exploreChecksSpec : ChangeSpec := { name := "exploreChecks", fn := fun _ => fun
  | [d1, d2, d3] => { results := [.lit (.bool true)], args := [d1, d2, d3] }
  | _ => none }
def exploreChecksRow : OpenClaim := { program := "ytflfnkdhmcfjlaa", sum := "c9463adb1c5b1a8d8ae3adcee04cb889386f0115b99ca684921dac23c09aa2c9", func := "estovers/estoverslaw44.ExploreChecks", spec := "exploreChecks", unfollowed := true, recurses := true, plainKeys := false, apart := false }
def ExploreChecksSaid : Prop := exploreChecksRow.holds Try.pinned (OpenSpec.ofChange exploreChecksSpec)

/-- ITS FALSE NEIGHBOUR: 'it returns false'. Refute it at one input. -/
def exploreChecksWrong : ChangeSpec := { name := "exploreChecks", fn := fun _ => fun
  | [d1, d2, d3] => { results := [.lit (.bool false)], args := [d1, d2, d3] }
  | _ => none }
def ExploreChecksWrongFalsely : Prop := exploreChecksRow.holds Try.pinned (OpenSpec.ofChange exploreChecksWrong)

/-- 'estoverstop.TopNeverStops': WHATEVER THE INPUT: true; the input reads as it did. -/
def topNeverStopsSpec : ChangeSpec := { name := "topNeverStops", fn := fun _ => fun
  | [d1, d2] => { results := [.lit (.bool true)], args := [d1, d2] }
  | _ => none }
def topNeverStopsRow : OpenClaim := { program := "ytflfnkdhmcfjlaa", sum := "c9463adb1c5b1a8d8ae3adcee04cb889386f0115b99ca684921dac23c09aa2c9", func := "estovers/estoverstop.TopNeverStops", spec := "topNeverStops", unfollowed := true, recurses := true, plainKeys := false, apart := false }
def TopNeverStopsSaid : Prop := topNeverStopsRow.holds Try.pinned (OpenSpec.ofChange topNeverStopsSpec)

/-- ITS FALSE NEIGHBOUR: 'it returns false'. Refute it at one input. -/
def topNeverStopsWrong : ChangeSpec := { name := "topNeverStops", fn := fun _ => fun
  | [d1, d2] => { results := [.lit (.bool false)], args := [d1, d2] }
  | _ => none }
def TopNeverStopsWrongFalsely : Prop := topNeverStopsRow.holds Try.pinned (OpenSpec.ofChange topNeverStopsWrong)

/-- 'estoverslaw44.ExploreReaches': WHATEVER THE INPUT: true; the input reads as it did. -/
def exploreReachesSpec : ChangeSpec := { name := "exploreReaches", fn := fun _ => fun
  | [d1, d2] => { results := [.lit (.bool true)], args := [d1, d2] }
  | _ => none }
def exploreReachesRow : OpenClaim := { program := "ytflfnkdhmcfjlaa", sum := "c9463adb1c5b1a8d8ae3adcee04cb889386f0115b99ca684921dac23c09aa2c9", func := "estovers/estoverslaw44.ExploreReaches", spec := "exploreReaches", unfollowed := true, recurses := true, plainKeys := false, apart := false }
def ExploreReachesSaid : Prop := exploreReachesRow.holds Try.pinned (OpenSpec.ofChange exploreReachesSpec)

/-- ITS FALSE NEIGHBOUR: 'it returns false'. Refute it at one input. -/
def exploreReachesWrong : ChangeSpec := { name := "exploreReaches", fn := fun _ => fun
  | [d1, d2] => { results := [.lit (.bool false)], args := [d1, d2] }
  | _ => none }
def ExploreReachesWrongFalsely : Prop := exploreReachesRow.holds Try.pinned (OpenSpec.ofChange exploreReachesWrong)

/-- 'estoverslaw44.ExploreReplays': WHATEVER THE INPUT: true; the input reads as it did. -/
def exploreReplaysSpec : ChangeSpec := { name := "exploreReplays", fn := fun _ => fun
  | [d1, d2] => { results := [.lit (.bool true)], args := [d1, d2] }
  | _ => none }
def exploreReplaysRow : OpenClaim := { program := "ytflfnkdhmcfjlaa", sum := "c9463adb1c5b1a8d8ae3adcee04cb889386f0115b99ca684921dac23c09aa2c9", func := "estovers/estoverslaw44.ExploreReplays", spec := "exploreReplays", unfollowed := true, recurses := true, plainKeys := false, apart := false }
def ExploreReplaysSaid : Prop := exploreReplaysRow.holds Try.pinned (OpenSpec.ofChange exploreReplaysSpec)

/-- ITS FALSE NEIGHBOUR: 'it returns false'. Refute it at one input. -/
def exploreReplaysWrong : ChangeSpec := { name := "exploreReplays", fn := fun _ => fun
  | [d1, d2] => { results := [.lit (.bool false)], args := [d1, d2] }
  | _ => none }
def ExploreReplaysWrongFalsely : Prop := exploreReplaysRow.holds Try.pinned (OpenSpec.ofChange exploreReplaysWrong)

/-- 'estoverslaw44.ExploreTakers': WHATEVER THE INPUT: true; the input reads as it did. -/
def exploreTakersSpec : ChangeSpec := { name := "exploreTakers", fn := fun _ => fun
  | [d1, d2, d3] => { results := [.lit (.bool true)], args := [d1, d2, d3] }
  | _ => none }
def exploreTakersRow : OpenClaim := { program := "ytflfnkdhmcfjlaa", sum := "c9463adb1c5b1a8d8ae3adcee04cb889386f0115b99ca684921dac23c09aa2c9", func := "estovers/estoverslaw44.ExploreTakers", spec := "exploreTakers", unfollowed := true, recurses := true, plainKeys := false, apart := false }
def ExploreTakersSaid : Prop := exploreTakersRow.holds Try.pinned (OpenSpec.ofChange exploreTakersSpec)

/-- ITS FALSE NEIGHBOUR: 'it returns false'. Refute it at one input. -/
def exploreTakersWrong : ChangeSpec := { name := "exploreTakers", fn := fun _ => fun
  | [d1, d2, d3] => { results := [.lit (.bool false)], args := [d1, d2, d3] }
  | _ => none }
def ExploreTakersWrongFalsely : Prop := exploreTakersRow.holds Try.pinned (OpenSpec.ofChange exploreTakersWrong)

/-- 'estoverslaw44.ExplorePhilosophers': WHATEVER THE INPUT: true; the input reads as it did. -/
def explorePhilosophersSpec : ChangeSpec := { name := "explorePhilosophers", fn := fun _ => fun
  | [d] => { results := [.lit (.bool true)], args := [d] }
  | _ => none }
def explorePhilosophersRow : OpenClaim := { program := "ytflfnkdhmcfjlaa", sum := "c9463adb1c5b1a8d8ae3adcee04cb889386f0115b99ca684921dac23c09aa2c9", func := "estovers/estoverslaw44.ExplorePhilosophers", spec := "explorePhilosophers", unfollowed := true, recurses := true, plainKeys := false, apart := false }
def ExplorePhilosophersSaid : Prop := explorePhilosophersRow.holds Try.pinned (OpenSpec.ofChange explorePhilosophersSpec)

/-- ITS FALSE NEIGHBOUR: 'it returns false'. Refute it at one input. -/
def explorePhilosophersWrong : ChangeSpec := { name := "explorePhilosophers", fn := fun _ => fun
  | [d] => { results := [.lit (.bool false)], args := [d] }
  | _ => none }
def ExplorePhilosophersWrongFalsely : Prop := explorePhilosophersRow.holds Try.pinned (OpenSpec.ofChange explorePhilosophersWrong)

/-- 'estoverslaw44.ExploreSteps': WHATEVER THE INPUT: true; the input reads as it did. -/
def exploreStepsSpec : ChangeSpec := { name := "exploreSteps", fn := fun _ => fun
  | [d1, d2, d3] => { results := [.lit (.bool true)], args := [d1, d2, d3] }
  | _ => none }
def exploreStepsRow : OpenClaim := { program := "ytflfnkdhmcfjlaa", sum := "c9463adb1c5b1a8d8ae3adcee04cb889386f0115b99ca684921dac23c09aa2c9", func := "estovers/estoverslaw44.ExploreSteps", spec := "exploreSteps", unfollowed := true, recurses := true, plainKeys := false, apart := false }
def ExploreStepsSaid : Prop := exploreStepsRow.holds Try.pinned (OpenSpec.ofChange exploreStepsSpec)

/-- ITS FALSE NEIGHBOUR: 'it returns false'. Refute it at one input. -/
def exploreStepsWrong : ChangeSpec := { name := "exploreSteps", fn := fun _ => fun
  | [d1, d2, d3] => { results := [.lit (.bool false)], args := [d1, d2, d3] }
  | _ => none }
def ExploreStepsWrongFalsely : Prop := exploreStepsRow.holds Try.pinned (OpenSpec.ofChange exploreStepsWrong)

/-- 'estoverslaw44.ExploreSafe': WHATEVER THE INPUT: true; the input reads as it did. -/
def exploreSafeSpec : ChangeSpec := { name := "exploreSafe", fn := fun _ => fun
  | [d1, d2] => { results := [.lit (.bool true)], args := [d1, d2] }
  | _ => none }
def exploreSafeRow : OpenClaim := { program := "ytflfnkdhmcfjlaa", sum := "c9463adb1c5b1a8d8ae3adcee04cb889386f0115b99ca684921dac23c09aa2c9", func := "estovers/estoverslaw44.ExploreSafe", spec := "exploreSafe", unfollowed := true, recurses := true, plainKeys := false, apart := false }
def ExploreSafeSaid : Prop := exploreSafeRow.holds Try.pinned (OpenSpec.ofChange exploreSafeSpec)

/-- ITS FALSE NEIGHBOUR: 'it returns false'. Refute it at one input. -/
def exploreSafeWrong : ChangeSpec := { name := "exploreSafe", fn := fun _ => fun
  | [d1, d2] => { results := [.lit (.bool false)], args := [d1, d2] }
  | _ => none }
def ExploreSafeWrongFalsely : Prop := exploreSafeRow.holds Try.pinned (OpenSpec.ofChange exploreSafeWrong)

/-- 'estoverslaw43.CertificateMakes': WHATEVER THE INPUT: true; the input reads as it did. -/
def certificateMakesSpec : ChangeSpec := { name := "certificateMakes", fn := fun _ => fun
  | [d1, d2] => { results := [.lit (.bool true)], args := [d1, d2] }
  | _ => none }
def certificateMakesRow : OpenClaim := { program := "ytflfnkdhmcfjlaa", sum := "c9463adb1c5b1a8d8ae3adcee04cb889386f0115b99ca684921dac23c09aa2c9", func := "estovers/estoverslaw43.CertificateMakes", spec := "certificateMakes", unfollowed := true, recurses := true, plainKeys := false, apart := false }
def CertificateMakesSaid : Prop := certificateMakesRow.holds Try.pinned (OpenSpec.ofChange certificateMakesSpec)

/-- ITS FALSE NEIGHBOUR: 'it returns false'. Refute it at one input. -/
def certificateMakesWrong : ChangeSpec := { name := "certificateMakes", fn := fun _ => fun
  | [d1, d2] => { results := [.lit (.bool false)], args := [d1, d2] }
  | _ => none }
def CertificateMakesWrongFalsely : Prop := certificateMakesRow.holds Try.pinned (OpenSpec.ofChange certificateMakesWrong)

/-- 'estoverslaw43.CertificateVerifies': WHATEVER THE INPUT: true; the input reads as it did. -/
def certificateVerifiesSpec : ChangeSpec := { name := "certificateVerifies", fn := fun _ => fun
  | [d1, d2] => { results := [.lit (.bool true)], args := [d1, d2] }
  | _ => none }
def certificateVerifiesRow : OpenClaim := { program := "ytflfnkdhmcfjlaa", sum := "c9463adb1c5b1a8d8ae3adcee04cb889386f0115b99ca684921dac23c09aa2c9", func := "estovers/estoverslaw43.CertificateVerifies", spec := "certificateVerifies", unfollowed := true, recurses := true, plainKeys := false, apart := false }
def CertificateVerifiesSaid : Prop := certificateVerifiesRow.holds Try.pinned (OpenSpec.ofChange certificateVerifiesSpec)

/-- ITS FALSE NEIGHBOUR: 'it returns false'. Refute it at one input. -/
def certificateVerifiesWrong : ChangeSpec := { name := "certificateVerifies", fn := fun _ => fun
  | [d1, d2] => { results := [.lit (.bool false)], args := [d1, d2] }
  | _ => none }
def CertificateVerifiesWrongFalsely : Prop := certificateVerifiesRow.holds Try.pinned (OpenSpec.ofChange certificateVerifiesWrong)

/-- 'estoverslaw43.CertificateRound': WHATEVER THE INPUT: true; the input reads as it did. -/
def certificateRoundSpec : ChangeSpec := { name := "certificateRound", fn := fun _ => fun
  | [d1, d2] => { results := [.lit (.bool true)], args := [d1, d2] }
  | _ => none }
def certificateRoundRow : OpenClaim := { program := "ytflfnkdhmcfjlaa", sum := "c9463adb1c5b1a8d8ae3adcee04cb889386f0115b99ca684921dac23c09aa2c9", func := "estovers/estoverslaw43.CertificateRound", spec := "certificateRound", unfollowed := true, recurses := true, plainKeys := false, apart := false }
def CertificateRoundSaid : Prop := certificateRoundRow.holds Try.pinned (OpenSpec.ofChange certificateRoundSpec)

/-- ITS FALSE NEIGHBOUR: 'it returns false'. Refute it at one input. -/
def certificateRoundWrong : ChangeSpec := { name := "certificateRound", fn := fun _ => fun
  | [d1, d2] => { results := [.lit (.bool false)], args := [d1, d2] }
  | _ => none }
def CertificateRoundWrongFalsely : Prop := certificateRoundRow.holds Try.pinned (OpenSpec.ofChange certificateRoundWrong)

/-- 'estoverslaw43.CertificateExplains': WHATEVER THE INPUT: true; the input reads as it did. -/
def certificateExplainsSpec : ChangeSpec := { name := "certificateExplains", fn := fun _ => fun
  | [d] => { results := [.lit (.bool true)], args := [d] }
  | _ => none }
def certificateExplainsRow : OpenClaim := { program := "ytflfnkdhmcfjlaa", sum := "c9463adb1c5b1a8d8ae3adcee04cb889386f0115b99ca684921dac23c09aa2c9", func := "estovers/estoverslaw43.CertificateExplains", spec := "certificateExplains", unfollowed := true, recurses := true, plainKeys := false, apart := false }
def CertificateExplainsSaid : Prop := certificateExplainsRow.holds Try.pinned (OpenSpec.ofChange certificateExplainsSpec)

/-- ITS FALSE NEIGHBOUR: 'it returns false'. Refute it at one input. -/
def certificateExplainsWrong : ChangeSpec := { name := "certificateExplains", fn := fun _ => fun
  | [d] => { results := [.lit (.bool false)], args := [d] }
  | _ => none }
def CertificateExplainsWrongFalsely : Prop := certificateExplainsRow.holds Try.pinned (OpenSpec.ofChange certificateExplainsWrong)

/-- 'estoverslaw43.CertificateScales': WHATEVER THE INPUT: true; the input reads as it did. -/
def certificateScalesSpec : ChangeSpec := { name := "certificateScales", fn := fun _ => fun
  | [d1, d2, d3] => { results := [.lit (.bool true)], args := [d1, d2, d3] }
  | _ => none }
def certificateScalesRow : OpenClaim := { program := "ytflfnkdhmcfjlaa", sum := "c9463adb1c5b1a8d8ae3adcee04cb889386f0115b99ca684921dac23c09aa2c9", func := "estovers/estoverslaw43.CertificateScales", spec := "certificateScales", unfollowed := true, recurses := true, plainKeys := false, apart := false }
def CertificateScalesSaid : Prop := certificateScalesRow.holds Try.pinned (OpenSpec.ofChange certificateScalesSpec)

/-- ITS FALSE NEIGHBOUR: 'it returns false'. Refute it at one input. -/
def certificateScalesWrong : ChangeSpec := { name := "certificateScales", fn := fun _ => fun
  | [d1, d2, d3] => { results := [.lit (.bool false)], args := [d1, d2, d3] }
  | _ => none }
def CertificateScalesWrongFalsely : Prop := certificateScalesRow.holds Try.pinned (OpenSpec.ofChange certificateScalesWrong)

/-- 'estoverslaw43.CertificateFewer': WHATEVER THE INPUT: true; the input reads as it did. -/
def certificateFewerSpec : ChangeSpec := { name := "certificateFewer", fn := fun _ => fun
  | [d1, d2] => { results := [.lit (.bool true)], args := [d1, d2] }
  | _ => none }
def certificateFewerRow : OpenClaim := { program := "ytflfnkdhmcfjlaa", sum := "c9463adb1c5b1a8d8ae3adcee04cb889386f0115b99ca684921dac23c09aa2c9", func := "estovers/estoverslaw43.CertificateFewer", spec := "certificateFewer", unfollowed := true, recurses := true, plainKeys := false, apart := false }
def CertificateFewerSaid : Prop := certificateFewerRow.holds Try.pinned (OpenSpec.ofChange certificateFewerSpec)

/-- ITS FALSE NEIGHBOUR: 'it returns false'. Refute it at one input. -/
def certificateFewerWrong : ChangeSpec := { name := "certificateFewer", fn := fun _ => fun
  | [d1, d2] => { results := [.lit (.bool false)], args := [d1, d2] }
  | _ => none }
def CertificateFewerWrongFalsely : Prop := certificateFewerRow.holds Try.pinned (OpenSpec.ofChange certificateFewerWrong)

/-- 'estoverslaw43.CertificateReserves': WHATEVER THE INPUT: true; the input reads as it did. -/
def certificateReservesSpec : ChangeSpec := { name := "certificateReserves", fn := fun _ => fun
  | [d1, d2] => { results := [.lit (.bool true)], args := [d1, d2] }
  | _ => none }
def certificateReservesRow : OpenClaim := { program := "ytflfnkdhmcfjlaa", sum := "c9463adb1c5b1a8d8ae3adcee04cb889386f0115b99ca684921dac23c09aa2c9", func := "estovers/estoverslaw43.CertificateReserves", spec := "certificateReserves", unfollowed := true, recurses := true, plainKeys := false, apart := false }
def CertificateReservesSaid : Prop := certificateReservesRow.holds Try.pinned (OpenSpec.ofChange certificateReservesSpec)

/-- ITS FALSE NEIGHBOUR: 'it returns false'. Refute it at one input. -/
def certificateReservesWrong : ChangeSpec := { name := "certificateReserves", fn := fun _ => fun
  | [d1, d2] => { results := [.lit (.bool false)], args := [d1, d2] }
  | _ => none }
def CertificateReservesWrongFalsely : Prop := certificateReservesRow.holds Try.pinned (OpenSpec.ofChange certificateReservesWrong)

/-- 'estoverslaw44.ExploreCertified': WHATEVER THE INPUT: true; the input reads as it did. -/
def exploreCertifiedSpec : ChangeSpec := { name := "exploreCertified", fn := fun _ => fun
  | [d1, d2] => { results := [.lit (.bool true)], args := [d1, d2] }
  | _ => none }
def exploreCertifiedRow : OpenClaim := { program := "ytflfnkdhmcfjlaa", sum := "c9463adb1c5b1a8d8ae3adcee04cb889386f0115b99ca684921dac23c09aa2c9", func := "estovers/estoverslaw44.ExploreCertified", spec := "exploreCertified", unfollowed := true, recurses := true, plainKeys := false, apart := false }
def ExploreCertifiedSaid : Prop := exploreCertifiedRow.holds Try.pinned (OpenSpec.ofChange exploreCertifiedSpec)

/-- ITS FALSE NEIGHBOUR: 'it returns false'. Refute it at one input. -/
def exploreCertifiedWrong : ChangeSpec := { name := "exploreCertified", fn := fun _ => fun
  | [d1, d2] => { results := [.lit (.bool false)], args := [d1, d2] }
  | _ => none }
def ExploreCertifiedWrongFalsely : Prop := exploreCertifiedRow.holds Try.pinned (OpenSpec.ofChange exploreCertifiedWrong)

/- THE SECOND FORM. 'bulk': how many values and letters a reading holds, each counted each time it is reached (what is shared counts as often as it is met; a slice's spare places count too). A statement '..UptoSaid' is the law's where the arguments, and the package variables that the reading takes, are together of bulk at most 1048576: NARROWER than '..Said'. Prove '..Said' where nothing that the law and all that it calls make is longer than what came in: it says more and counts as full. Else prove '..UptoSaid'. A law counts once. -/
mutual
def uptoBulk {H : Type} : DataW H → Nat
  | .lit (.string bytes) => bytes.length + 1
  | .lit _ => 1
  | .nil => 1
  | .ptr d => uptoBulk d + 1
  | .slice elems spare => uptoBulkAll elems + uptoBulkAll spare + 1
  | .agg parts => uptoBulkAll parts + 1
  | .iface _ d => uptoBulk d + 1
  | .map entries => uptoBulkEntries entries + 1
  | .held _ => 1
def uptoBulkAll {H : Type} : List (DataW H) → Nat
  | [] => 0
  | d :: r => uptoBulk d + uptoBulkAll r
def uptoBulkEntries {H : Type} : List (Lit × DataW H) → Nat
  | [] => 0
  | x :: r => uptoBulkEntry x + uptoBulkEntries r
def uptoBulkEntry {H : Type} : Lit × DataW H → Nat
  | (.string bytes, d) => bytes.length + uptoBulk d + 1
  | (_, d) => uptoBulk d + 1
 end
def uptoSmall : (H : Type) → List (DataW H) → Bool := fun _ ds => decide (uptoBulkAll ds ≤ 1048576)
def OpenSpec.upto (s : _root_.Go.ChangeSpec) : _root_.Go.OpenSpec := { _root_.Go.OpenSpec.ofChange s with cond := some uptoSmall }

/-- 'estoverslaw42.WaitgraphDemands', WHERE WHAT IT READS IS OF BULK AT MOST 1048576: true; the input reads as it did. -/
def waitgraphDemandsUptoRow : OpenClaim := { program := "ytflfnkdhmcfjlaa", sum := "c9463adb1c5b1a8d8ae3adcee04cb889386f0115b99ca684921dac23c09aa2c9", func := "estovers/estoverslaw42.WaitgraphDemands", spec := "waitgraphDemands", unfollowed := true, recurses := true, plainKeys := false, apart := false, narrowed := true }
def WaitgraphDemandsUptoSaid : Prop := waitgraphDemandsUptoRow.holds Try.pinned (OpenSpec.upto waitgraphDemandsSpec)

/-- 'estoverslaw42.WaitgraphEdges', WHERE WHAT IT READS IS OF BULK AT MOST 1048576: true; the input reads as it did. -/
def waitgraphEdgesUptoRow : OpenClaim := { program := "ytflfnkdhmcfjlaa", sum := "c9463adb1c5b1a8d8ae3adcee04cb889386f0115b99ca684921dac23c09aa2c9", func := "estovers/estoverslaw42.WaitgraphEdges", spec := "waitgraphEdges", unfollowed := true, recurses := true, plainKeys := false, apart := false, narrowed := true }
def WaitgraphEdgesUptoSaid : Prop := waitgraphEdgesUptoRow.holds Try.pinned (OpenSpec.upto waitgraphEdgesSpec)

/-- 'estoverslaw42.WaitgraphGraphs', WHERE WHAT IT READS IS OF BULK AT MOST 1048576: true; the input reads as it did. -/
def waitgraphGraphsUptoRow : OpenClaim := { program := "ytflfnkdhmcfjlaa", sum := "c9463adb1c5b1a8d8ae3adcee04cb889386f0115b99ca684921dac23c09aa2c9", func := "estovers/estoverslaw42.WaitgraphGraphs", spec := "waitgraphGraphs", unfollowed := true, recurses := true, plainKeys := false, apart := false, narrowed := true }
def WaitgraphGraphsUptoSaid : Prop := waitgraphGraphsUptoRow.holds Try.pinned (OpenSpec.upto waitgraphGraphsSpec)

/-- 'estoverslaw42.WaitgraphCycles', WHERE WHAT IT READS IS OF BULK AT MOST 1048576: true; the input reads as it did. -/
def waitgraphCyclesUptoRow : OpenClaim := { program := "ytflfnkdhmcfjlaa", sum := "c9463adb1c5b1a8d8ae3adcee04cb889386f0115b99ca684921dac23c09aa2c9", func := "estovers/estoverslaw42.WaitgraphCycles", spec := "waitgraphCycles", unfollowed := true, recurses := true, plainKeys := false, apart := false, narrowed := true }
def WaitgraphCyclesUptoSaid : Prop := waitgraphCyclesUptoRow.holds Try.pinned (OpenSpec.upto waitgraphCyclesSpec)

/-- 'estoverslaw42.WaitgraphLevels', WHERE WHAT IT READS IS OF BULK AT MOST 1048576: true; the input reads as it did. -/
def waitgraphLevelsUptoRow : OpenClaim := { program := "ytflfnkdhmcfjlaa", sum := "c9463adb1c5b1a8d8ae3adcee04cb889386f0115b99ca684921dac23c09aa2c9", func := "estovers/estoverslaw42.WaitgraphLevels", spec := "waitgraphLevels", unfollowed := true, recurses := true, plainKeys := false, apart := false, narrowed := true }
def WaitgraphLevelsUptoSaid : Prop := waitgraphLevelsUptoRow.holds Try.pinned (OpenSpec.upto waitgraphLevelsSpec)

/-- 'estoverslaw42.WaitgraphComponents', WHERE WHAT IT READS IS OF BULK AT MOST 1048576: true; the input reads as it did. -/
def waitgraphComponentsUptoRow : OpenClaim := { program := "ytflfnkdhmcfjlaa", sum := "c9463adb1c5b1a8d8ae3adcee04cb889386f0115b99ca684921dac23c09aa2c9", func := "estovers/estoverslaw42.WaitgraphComponents", spec := "waitgraphComponents", unfollowed := true, recurses := true, plainKeys := false, apart := false, narrowed := true }
def WaitgraphComponentsUptoSaid : Prop := waitgraphComponentsUptoRow.holds Try.pinned (OpenSpec.upto waitgraphComponentsSpec)

/-- 'estoverstop.TopAscending', WHERE WHAT IT READS IS OF BULK AT MOST 1048576: true; the input reads as it did. -/
def topAscendingUptoRow : OpenClaim := { program := "ytflfnkdhmcfjlaa", sum := "c9463adb1c5b1a8d8ae3adcee04cb889386f0115b99ca684921dac23c09aa2c9", func := "estovers/estoverstop.TopAscending", spec := "topAscending", unfollowed := true, recurses := true, plainKeys := false, apart := false, narrowed := true }
def TopAscendingUptoSaid : Prop := topAscendingUptoRow.holds Try.pinned (OpenSpec.upto topAscendingSpec)

/-- 'estoverslaw42.WaitgraphHolds', WHERE WHAT IT READS IS OF BULK AT MOST 1048576: true; the input reads as it did. -/
def waitgraphHoldsUptoRow : OpenClaim := { program := "ytflfnkdhmcfjlaa", sum := "c9463adb1c5b1a8d8ae3adcee04cb889386f0115b99ca684921dac23c09aa2c9", func := "estovers/estoverslaw42.WaitgraphHolds", spec := "waitgraphHolds", unfollowed := true, recurses := true, plainKeys := false, apart := false, narrowed := true }
def WaitgraphHoldsUptoSaid : Prop := waitgraphHoldsUptoRow.holds Try.pinned (OpenSpec.upto waitgraphHoldsSpec)

/-- 'estoverslaw44.ExploreChecks', WHERE WHAT IT READS IS OF BULK AT MOST 1048576: true; the input reads as it did. -/
def exploreChecksUptoRow : OpenClaim := { program := "ytflfnkdhmcfjlaa", sum := "c9463adb1c5b1a8d8ae3adcee04cb889386f0115b99ca684921dac23c09aa2c9", func := "estovers/estoverslaw44.ExploreChecks", spec := "exploreChecks", unfollowed := true, recurses := true, plainKeys := false, apart := false, narrowed := true }
def ExploreChecksUptoSaid : Prop := exploreChecksUptoRow.holds Try.pinned (OpenSpec.upto exploreChecksSpec)

/-- 'estoverstop.TopNeverStops', WHERE WHAT IT READS IS OF BULK AT MOST 1048576: true; the input reads as it did. -/
def topNeverStopsUptoRow : OpenClaim := { program := "ytflfnkdhmcfjlaa", sum := "c9463adb1c5b1a8d8ae3adcee04cb889386f0115b99ca684921dac23c09aa2c9", func := "estovers/estoverstop.TopNeverStops", spec := "topNeverStops", unfollowed := true, recurses := true, plainKeys := false, apart := false, narrowed := true }
def TopNeverStopsUptoSaid : Prop := topNeverStopsUptoRow.holds Try.pinned (OpenSpec.upto topNeverStopsSpec)

/-- 'estoverslaw44.ExploreReaches', WHERE WHAT IT READS IS OF BULK AT MOST 1048576: true; the input reads as it did. -/
def exploreReachesUptoRow : OpenClaim := { program := "ytflfnkdhmcfjlaa", sum := "c9463adb1c5b1a8d8ae3adcee04cb889386f0115b99ca684921dac23c09aa2c9", func := "estovers/estoverslaw44.ExploreReaches", spec := "exploreReaches", unfollowed := true, recurses := true, plainKeys := false, apart := false, narrowed := true }
def ExploreReachesUptoSaid : Prop := exploreReachesUptoRow.holds Try.pinned (OpenSpec.upto exploreReachesSpec)

/-- 'estoverslaw44.ExploreReplays', WHERE WHAT IT READS IS OF BULK AT MOST 1048576: true; the input reads as it did. -/
def exploreReplaysUptoRow : OpenClaim := { program := "ytflfnkdhmcfjlaa", sum := "c9463adb1c5b1a8d8ae3adcee04cb889386f0115b99ca684921dac23c09aa2c9", func := "estovers/estoverslaw44.ExploreReplays", spec := "exploreReplays", unfollowed := true, recurses := true, plainKeys := false, apart := false, narrowed := true }
def ExploreReplaysUptoSaid : Prop := exploreReplaysUptoRow.holds Try.pinned (OpenSpec.upto exploreReplaysSpec)

/-- 'estoverslaw44.ExploreTakers', WHERE WHAT IT READS IS OF BULK AT MOST 1048576: true; the input reads as it did. -/
def exploreTakersUptoRow : OpenClaim := { program := "ytflfnkdhmcfjlaa", sum := "c9463adb1c5b1a8d8ae3adcee04cb889386f0115b99ca684921dac23c09aa2c9", func := "estovers/estoverslaw44.ExploreTakers", spec := "exploreTakers", unfollowed := true, recurses := true, plainKeys := false, apart := false, narrowed := true }
def ExploreTakersUptoSaid : Prop := exploreTakersUptoRow.holds Try.pinned (OpenSpec.upto exploreTakersSpec)

/-- 'estoverslaw44.ExplorePhilosophers', WHERE WHAT IT READS IS OF BULK AT MOST 1048576: true; the input reads as it did. -/
def explorePhilosophersUptoRow : OpenClaim := { program := "ytflfnkdhmcfjlaa", sum := "c9463adb1c5b1a8d8ae3adcee04cb889386f0115b99ca684921dac23c09aa2c9", func := "estovers/estoverslaw44.ExplorePhilosophers", spec := "explorePhilosophers", unfollowed := true, recurses := true, plainKeys := false, apart := false, narrowed := true }
def ExplorePhilosophersUptoSaid : Prop := explorePhilosophersUptoRow.holds Try.pinned (OpenSpec.upto explorePhilosophersSpec)

/-- 'estoverslaw44.ExploreSteps', WHERE WHAT IT READS IS OF BULK AT MOST 1048576: true; the input reads as it did. -/
def exploreStepsUptoRow : OpenClaim := { program := "ytflfnkdhmcfjlaa", sum := "c9463adb1c5b1a8d8ae3adcee04cb889386f0115b99ca684921dac23c09aa2c9", func := "estovers/estoverslaw44.ExploreSteps", spec := "exploreSteps", unfollowed := true, recurses := true, plainKeys := false, apart := false, narrowed := true }
def ExploreStepsUptoSaid : Prop := exploreStepsUptoRow.holds Try.pinned (OpenSpec.upto exploreStepsSpec)

/-- 'estoverslaw44.ExploreSafe', WHERE WHAT IT READS IS OF BULK AT MOST 1048576: true; the input reads as it did. -/
def exploreSafeUptoRow : OpenClaim := { program := "ytflfnkdhmcfjlaa", sum := "c9463adb1c5b1a8d8ae3adcee04cb889386f0115b99ca684921dac23c09aa2c9", func := "estovers/estoverslaw44.ExploreSafe", spec := "exploreSafe", unfollowed := true, recurses := true, plainKeys := false, apart := false, narrowed := true }
def ExploreSafeUptoSaid : Prop := exploreSafeUptoRow.holds Try.pinned (OpenSpec.upto exploreSafeSpec)

/-- 'estoverslaw43.CertificateMakes', WHERE WHAT IT READS IS OF BULK AT MOST 1048576: true; the input reads as it did. -/
def certificateMakesUptoRow : OpenClaim := { program := "ytflfnkdhmcfjlaa", sum := "c9463adb1c5b1a8d8ae3adcee04cb889386f0115b99ca684921dac23c09aa2c9", func := "estovers/estoverslaw43.CertificateMakes", spec := "certificateMakes", unfollowed := true, recurses := true, plainKeys := false, apart := false, narrowed := true }
def CertificateMakesUptoSaid : Prop := certificateMakesUptoRow.holds Try.pinned (OpenSpec.upto certificateMakesSpec)

/-- 'estoverslaw43.CertificateVerifies', WHERE WHAT IT READS IS OF BULK AT MOST 1048576: true; the input reads as it did. -/
def certificateVerifiesUptoRow : OpenClaim := { program := "ytflfnkdhmcfjlaa", sum := "c9463adb1c5b1a8d8ae3adcee04cb889386f0115b99ca684921dac23c09aa2c9", func := "estovers/estoverslaw43.CertificateVerifies", spec := "certificateVerifies", unfollowed := true, recurses := true, plainKeys := false, apart := false, narrowed := true }
def CertificateVerifiesUptoSaid : Prop := certificateVerifiesUptoRow.holds Try.pinned (OpenSpec.upto certificateVerifiesSpec)

/-- 'estoverslaw43.CertificateRound', WHERE WHAT IT READS IS OF BULK AT MOST 1048576: true; the input reads as it did. -/
def certificateRoundUptoRow : OpenClaim := { program := "ytflfnkdhmcfjlaa", sum := "c9463adb1c5b1a8d8ae3adcee04cb889386f0115b99ca684921dac23c09aa2c9", func := "estovers/estoverslaw43.CertificateRound", spec := "certificateRound", unfollowed := true, recurses := true, plainKeys := false, apart := false, narrowed := true }
def CertificateRoundUptoSaid : Prop := certificateRoundUptoRow.holds Try.pinned (OpenSpec.upto certificateRoundSpec)

/-- 'estoverslaw43.CertificateExplains', WHERE WHAT IT READS IS OF BULK AT MOST 1048576: true; the input reads as it did. -/
def certificateExplainsUptoRow : OpenClaim := { program := "ytflfnkdhmcfjlaa", sum := "c9463adb1c5b1a8d8ae3adcee04cb889386f0115b99ca684921dac23c09aa2c9", func := "estovers/estoverslaw43.CertificateExplains", spec := "certificateExplains", unfollowed := true, recurses := true, plainKeys := false, apart := false, narrowed := true }
def CertificateExplainsUptoSaid : Prop := certificateExplainsUptoRow.holds Try.pinned (OpenSpec.upto certificateExplainsSpec)

/-- 'estoverslaw43.CertificateScales', WHERE WHAT IT READS IS OF BULK AT MOST 1048576: true; the input reads as it did. -/
def certificateScalesUptoRow : OpenClaim := { program := "ytflfnkdhmcfjlaa", sum := "c9463adb1c5b1a8d8ae3adcee04cb889386f0115b99ca684921dac23c09aa2c9", func := "estovers/estoverslaw43.CertificateScales", spec := "certificateScales", unfollowed := true, recurses := true, plainKeys := false, apart := false, narrowed := true }
def CertificateScalesUptoSaid : Prop := certificateScalesUptoRow.holds Try.pinned (OpenSpec.upto certificateScalesSpec)

/-- 'estoverslaw43.CertificateFewer', WHERE WHAT IT READS IS OF BULK AT MOST 1048576: true; the input reads as it did. -/
def certificateFewerUptoRow : OpenClaim := { program := "ytflfnkdhmcfjlaa", sum := "c9463adb1c5b1a8d8ae3adcee04cb889386f0115b99ca684921dac23c09aa2c9", func := "estovers/estoverslaw43.CertificateFewer", spec := "certificateFewer", unfollowed := true, recurses := true, plainKeys := false, apart := false, narrowed := true }
def CertificateFewerUptoSaid : Prop := certificateFewerUptoRow.holds Try.pinned (OpenSpec.upto certificateFewerSpec)

/-- 'estoverslaw43.CertificateReserves', WHERE WHAT IT READS IS OF BULK AT MOST 1048576: true; the input reads as it did. -/
def certificateReservesUptoRow : OpenClaim := { program := "ytflfnkdhmcfjlaa", sum := "c9463adb1c5b1a8d8ae3adcee04cb889386f0115b99ca684921dac23c09aa2c9", func := "estovers/estoverslaw43.CertificateReserves", spec := "certificateReserves", unfollowed := true, recurses := true, plainKeys := false, apart := false, narrowed := true }
def CertificateReservesUptoSaid : Prop := certificateReservesUptoRow.holds Try.pinned (OpenSpec.upto certificateReservesSpec)

/-- 'estoverslaw44.ExploreCertified', WHERE WHAT IT READS IS OF BULK AT MOST 1048576: true; the input reads as it did. -/
def exploreCertifiedUptoRow : OpenClaim := { program := "ytflfnkdhmcfjlaa", sum := "c9463adb1c5b1a8d8ae3adcee04cb889386f0115b99ca684921dac23c09aa2c9", func := "estovers/estoverslaw44.ExploreCertified", spec := "exploreCertified", unfollowed := true, recurses := true, plainKeys := false, apart := false, narrowed := true }
def ExploreCertifiedUptoSaid : Prop := exploreCertifiedUptoRow.holds Try.pinned (OpenSpec.upto exploreCertifiedSpec)

end Rows
end Go.Proofs.Ytflfnkdhmcfjlaa
