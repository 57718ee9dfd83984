/-
  No cell of these rows narrows 'for every input' (looked for: loops, veiled, ifaces, maps, wideKeys, modest, calm, conditions, laid).
  DERIVED. THE GIVEN ROWS OF THIS SEAT. 5 by the template 'for every input the law returns true; each argument reads behind the call as it read before'; 0 by the template 'total and deterministic' (their statements: YtibojlpeaolfbaaTotals.lean).
  GIVEN WITH THE SEED: the statements are not yours to turn. If you find one false, say at which input.
  Laid BY PROGRAM, IN A SANDBOX (cutbox-rows.mjs): the forced cells as the released guide's own fill.sh prints them over the translation 402298f916285477… (all of the seat's roots in one cut). By AI agents, Wed Nov 11 2026. No macro, syntax, notation, axiom, sorry.
-/
import Derived.Test.YtibojlpeaolfbaaChecked
import GoSem.Claim
import GoSem.ClaimJoined
import GoSem.ClaimMapViews
import Derived.JoinedTies
import Derived.KernelRfl
namespace Go.Proofs.Ytibojlpeaolfbaa
/- THE CELL 'sum', in the pinned program and in every row, IS THE sha256 OF THE DUMP (.gsa) THAT YtibojlpeaolfbaaProg.lean LOADS. Nothing in Lean hashes anything: it is a label: what it is worth is what the hold of that sum in a sandbox is worth. -/
noncomputable def Try.pinned : Pinned := { name := "ytibojlpeaolfbaa", sum := "402298f9162854771d7198e283b9c9bd340d3a51e7974ddd0bcf95b2840cc88e", checked := Try.checked }
namespace Rows
def none {H : Type} : Left H := { results := [], args := [] }

/-- 'laws.FnStored': WHATEVER THE INPUT: true; the input reads as it did. -/
def fnStoredSpec : ChangeSpec := { name := "fnStored", fn := fun _ => fun
  | [d1, d2] => { results := [.lit (.bool true)], args := [d1, d2] }
  | _ => none }
def fnStoredRow : OpenClaim := { program := "ytibojlpeaolfbaa", sum := "402298f9162854771d7198e283b9c9bd340d3a51e7974ddd0bcf95b2840cc88e", func := "loop.example/g01231/laws.FnStored", spec := "fnStored", inPlace := ["math.Float64bits", "math.Float64frombits", "math.RoundToEven", "math.Float32bits"], unfollowed := true, recurses := true, named := ["encoding/binary.LittleEndian"], apart := false }
def FnStoredSaid : Prop := fnStoredRow.holds Try.pinned (OpenSpec.ofChange fnStoredSpec)

/-- ITS FALSE NEIGHBOUR: 'it returns false'. Refute it at one input. -/
def fnStoredWrong : ChangeSpec := { name := "fnStored", fn := fun _ => fun
  | [d1, d2] => { results := [.lit (.bool false)], args := [d1, d2] }
  | _ => none }
def FnStoredWrongFalsely : Prop := fnStoredRow.holds Try.pinned (OpenSpec.ofChange fnStoredWrong)

/-- 'laws.FnRounded': WHATEVER THE INPUT: true; the input reads as it did. -/
def fnRoundedSpec : ChangeSpec := { name := "fnRounded", fn := fun _ => fun
  | [d1, d2] => { results := [.lit (.bool true)], args := [d1, d2] }
  | _ => none }
def fnRoundedRow : OpenClaim := { program := "ytibojlpeaolfbaa", sum := "402298f9162854771d7198e283b9c9bd340d3a51e7974ddd0bcf95b2840cc88e", func := "loop.example/g01231/laws.FnRounded", spec := "fnRounded", inPlace := ["math.Float64bits", "math.Float64frombits", "math.RoundToEven", "math.Float32bits"], unfollowed := true, recurses := true, named := ["encoding/binary.LittleEndian"], apart := false }
def FnRoundedSaid : Prop := fnRoundedRow.holds Try.pinned (OpenSpec.ofChange fnRoundedSpec)

/-- ITS FALSE NEIGHBOUR: 'it returns false'. Refute it at one input. -/
def fnRoundedWrong : ChangeSpec := { name := "fnRounded", fn := fun _ => fun
  | [d1, d2] => { results := [.lit (.bool false)], args := [d1, d2] }
  | _ => none }
def FnRoundedWrongFalsely : Prop := fnRoundedRow.holds Try.pinned (OpenSpec.ofChange fnRoundedWrong)

/-- 'laws.FnExactRecoverFrames': WHATEVER THE INPUT: true; the input reads as it did. -/
def fnExactRecoverFramesSpec : ChangeSpec := { name := "fnExactRecoverFrames", fn := fun _ => fun
  | [d] => { results := [.lit (.bool true)], args := [d] }
  | _ => none }
def fnExactRecoverFramesRow : OpenClaim := { program := "ytibojlpeaolfbaa", sum := "402298f9162854771d7198e283b9c9bd340d3a51e7974ddd0bcf95b2840cc88e", func := "loop.example/g01231/laws.FnExactRecoverFrames", spec := "fnExactRecoverFrames", inPlace := ["math.Float64bits", "math.Float64frombits", "math.archMax", "math.RoundToEven"], unfollowed := true, recurses := true, named := ["encoding/binary.LittleEndian"], apart := false }
def FnExactRecoverFramesSaid : Prop := fnExactRecoverFramesRow.holds Try.pinned (OpenSpec.ofChange fnExactRecoverFramesSpec)

/-- ITS FALSE NEIGHBOUR: 'it returns false'. Refute it at one input. -/
def fnExactRecoverFramesWrong : ChangeSpec := { name := "fnExactRecoverFrames", fn := fun _ => fun
  | [d] => { results := [.lit (.bool false)], args := [d] }
  | _ => none }
def FnExactRecoverFramesWrongFalsely : Prop := fnExactRecoverFramesRow.holds Try.pinned (OpenSpec.ofChange fnExactRecoverFramesWrong)

/-- 'laws.FnExactLoadFrames': WHATEVER THE INPUT: true; the input reads as it did. -/
def fnExactLoadFramesSpec : ChangeSpec := { name := "fnExactLoadFrames", fn := fun _ => fun
  | [d] => { results := [.lit (.bool true)], args := [d] }
  | _ => none }
def fnExactLoadFramesRow : OpenClaim := { program := "ytibojlpeaolfbaa", sum := "402298f9162854771d7198e283b9c9bd340d3a51e7974ddd0bcf95b2840cc88e", func := "loop.example/g01231/laws.FnExactLoadFrames", spec := "fnExactLoadFrames", inPlace := ["math.Float64bits", "math.Float64frombits", "math.archMax", "math.RoundToEven"], unfollowed := true, recurses := true, named := ["encoding/binary.LittleEndian"], apart := false }
def FnExactLoadFramesSaid : Prop := fnExactLoadFramesRow.holds Try.pinned (OpenSpec.ofChange fnExactLoadFramesSpec)

/-- ITS FALSE NEIGHBOUR: 'it returns false'. Refute it at one input. -/
def fnExactLoadFramesWrong : ChangeSpec := { name := "fnExactLoadFrames", fn := fun _ => fun
  | [d] => { results := [.lit (.bool false)], args := [d] }
  | _ => none }
def FnExactLoadFramesWrongFalsely : Prop := fnExactLoadFramesRow.holds Try.pinned (OpenSpec.ofChange fnExactLoadFramesWrong)

/-- 'laws.FnStations': WHATEVER THE INPUT: true; the input reads as it did. -/
def fnStationsSpec : ChangeSpec := { name := "fnStations", fn := fun _ => fun
  | [d1, d2] => { results := [.lit (.bool true)], args := [d1, d2] }
  | _ => none }
def fnStationsRow : OpenClaim := { program := "ytibojlpeaolfbaa", sum := "402298f9162854771d7198e283b9c9bd340d3a51e7974ddd0bcf95b2840cc88e", func := "loop.example/g01231/laws.FnStations", spec := "fnStations", inPlace := ["math.Float64bits", "math.Float64frombits", "math.Float32bits"], unfollowed := true, recurses := true, apart := false }
def FnStationsSaid : Prop := fnStationsRow.holds Try.pinned (OpenSpec.ofChange fnStationsSpec)

/-- ITS FALSE NEIGHBOUR: 'it returns false'. Refute it at one input. -/
def fnStationsWrong : ChangeSpec := { name := "fnStations", fn := fun _ => fun
  | [d1, d2] => { results := [.lit (.bool false)], args := [d1, d2] }
  | _ => none }
def FnStationsWrongFalsely : Prop := fnStationsRow.holds Try.pinned (OpenSpec.ofChange fnStationsWrong)

/- THE SECOND FORM. 'bulk': how many values and letters a reading holds, each counted each time it is reached (what is shared counts as often as it is met; a slice's spare places count too). A statement '..UptoSaid' is the law's where the arguments, and the package variables that the reading takes, are together of bulk at most 1048576: NARROWER than '..Said'. Prove '..Said' where nothing that the law and all that it calls make is longer than what came in: it says more and counts as full. Else prove '..UptoSaid'. A law counts once. -/
mutual
def uptoBulk {H : Type} : DataW H → Nat
  | .lit (.string bytes) => bytes.length + 1
  | .lit _ => 1
  | .nil => 1
  | .ptr d => uptoBulk d + 1
  | .slice elems spare => uptoBulkAll elems + uptoBulkAll spare + 1
  | .agg parts => uptoBulkAll parts + 1
  | .iface _ d => uptoBulk d + 1
  | .map entries => uptoBulkEntries entries + 1
  | .held _ => 1
def uptoBulkAll {H : Type} : List (DataW H) → Nat
  | [] => 0
  | d :: r => uptoBulk d + uptoBulkAll r
def uptoBulkEntries {H : Type} : List (Lit × DataW H) → Nat
  | [] => 0
  | x :: r => uptoBulkEntry x + uptoBulkEntries r
def uptoBulkEntry {H : Type} : Lit × DataW H → Nat
  | (.string bytes, d) => bytes.length + uptoBulk d + 1
  | (_, d) => uptoBulk d + 1
 end
def uptoSmall : (H : Type) → List (DataW H) → Bool := fun _ ds => decide (uptoBulkAll ds ≤ 1048576)
def OpenSpec.upto (s : _root_.Go.ChangeSpec) : _root_.Go.OpenSpec := { _root_.Go.OpenSpec.ofChange s with cond := some uptoSmall }

/-- 'laws.FnStored', WHERE WHAT IT READS IS OF BULK AT MOST 1048576: true; the input reads as it did. -/
def fnStoredUptoRow : OpenClaim := { program := "ytibojlpeaolfbaa", sum := "402298f9162854771d7198e283b9c9bd340d3a51e7974ddd0bcf95b2840cc88e", func := "loop.example/g01231/laws.FnStored", spec := "fnStored", inPlace := ["math.Float64bits", "math.Float64frombits", "math.RoundToEven", "math.Float32bits"], unfollowed := true, recurses := true, named := ["encoding/binary.LittleEndian"], apart := false, narrowed := true }
def FnStoredUptoSaid : Prop := fnStoredUptoRow.holds Try.pinned (OpenSpec.upto fnStoredSpec)

/-- 'laws.FnRounded', WHERE WHAT IT READS IS OF BULK AT MOST 1048576: true; the input reads as it did. -/
def fnRoundedUptoRow : OpenClaim := { program := "ytibojlpeaolfbaa", sum := "402298f9162854771d7198e283b9c9bd340d3a51e7974ddd0bcf95b2840cc88e", func := "loop.example/g01231/laws.FnRounded", spec := "fnRounded", inPlace := ["math.Float64bits", "math.Float64frombits", "math.RoundToEven", "math.Float32bits"], unfollowed := true, recurses := true, named := ["encoding/binary.LittleEndian"], apart := false, narrowed := true }
def FnRoundedUptoSaid : Prop := fnRoundedUptoRow.holds Try.pinned (OpenSpec.upto fnRoundedSpec)

/-- 'laws.FnExactRecoverFrames', WHERE WHAT IT READS IS OF BULK AT MOST 1048576: true; the input reads as it did. -/
def fnExactRecoverFramesUptoRow : OpenClaim := { program := "ytibojlpeaolfbaa", sum := "402298f9162854771d7198e283b9c9bd340d3a51e7974ddd0bcf95b2840cc88e", func := "loop.example/g01231/laws.FnExactRecoverFrames", spec := "fnExactRecoverFrames", inPlace := ["math.Float64bits", "math.Float64frombits", "math.archMax", "math.RoundToEven"], unfollowed := true, recurses := true, named := ["encoding/binary.LittleEndian"], apart := false, narrowed := true }
def FnExactRecoverFramesUptoSaid : Prop := fnExactRecoverFramesUptoRow.holds Try.pinned (OpenSpec.upto fnExactRecoverFramesSpec)

/-- 'laws.FnExactLoadFrames', WHERE WHAT IT READS IS OF BULK AT MOST 1048576: true; the input reads as it did. -/
def fnExactLoadFramesUptoRow : OpenClaim := { program := "ytibojlpeaolfbaa", sum := "402298f9162854771d7198e283b9c9bd340d3a51e7974ddd0bcf95b2840cc88e", func := "loop.example/g01231/laws.FnExactLoadFrames", spec := "fnExactLoadFrames", inPlace := ["math.Float64bits", "math.Float64frombits", "math.archMax", "math.RoundToEven"], unfollowed := true, recurses := true, named := ["encoding/binary.LittleEndian"], apart := false, narrowed := true }
def FnExactLoadFramesUptoSaid : Prop := fnExactLoadFramesUptoRow.holds Try.pinned (OpenSpec.upto fnExactLoadFramesSpec)

/-- 'laws.FnStations', WHERE WHAT IT READS IS OF BULK AT MOST 1048576: true; the input reads as it did. -/
def fnStationsUptoRow : OpenClaim := { program := "ytibojlpeaolfbaa", sum := "402298f9162854771d7198e283b9c9bd340d3a51e7974ddd0bcf95b2840cc88e", func := "loop.example/g01231/laws.FnStations", spec := "fnStations", inPlace := ["math.Float64bits", "math.Float64frombits", "math.Float32bits"], unfollowed := true, recurses := true, apart := false, narrowed := true }
def FnStationsUptoSaid : Prop := fnStationsUptoRow.holds Try.pinned (OpenSpec.upto fnStationsSpec)

end Rows
end Go.Proofs.Ytibojlpeaolfbaa
