/-
  No cell of these rows narrows 'for every input' (looked for: loops, veiled, ifaces, maps, wideKeys, modest, calm, conditions, laid).
  DERIVED. THE GIVEN ROWS OF THIS SEAT. 4 by the template 'for every input the law returns true; each argument reads behind the call as it read before'; 0 by the template 'total and deterministic' (their statements: YtpijiidbjcbdhaaTotals.lean).
  GIVEN WITH THE SEED: the statements are not yours to turn. If you find one false, say at which input.
  Laid BY PROGRAM, IN A SANDBOX (cutbox-rows.mjs): the forced cells as the released guide's own fill.sh prints them over the translation c830c34b2f129090… (all of the seat's roots in one cut). By AI agents, Wed Nov 11 2026. No macro, syntax, notation, axiom, sorry.
-/
import Derived.Test.YtpijiidbjcbdhaaChecked
import GoSem.Claim
import GoSem.ClaimJoined
import GoSem.ClaimMapViews
import Derived.JoinedTies
import Derived.KernelRfl
namespace Go.Proofs.Ytpijiidbjcbdhaa
/- THE CELL 'sum', in the pinned program and in every row, IS THE sha256 OF THE DUMP (.gsa) THAT YtpijiidbjcbdhaaProg.lean LOADS. Nothing in Lean hashes anything: it is a label: what it is worth is what the hold of that sum in a sandbox is worth. -/
noncomputable def Try.pinned : Pinned := { name := "ytpijiidbjcbdhaa", sum := "c830c34b2f1290909df5c152cd2fea614a4fad951e4ed9889bb40863f1caa6c1", checked := Try.checked }
namespace Rows
def none {H : Type} : Left H := { results := [], args := [] }

/-- 'laws.FnExactFillFrames': WHATEVER THE INPUT: true; the input reads as it did. -/
def fnExactFillFramesSpec : ChangeSpec := { name := "fnExactFillFrames", fn := fun _ => fun
  | [d1, d2, d3, d4] => { results := [.lit (.bool true)], args := [d1, d2, d3, d4] }
  | _ => none }
def fnExactFillFramesRow : OpenClaim := { program := "ytpijiidbjcbdhaa", sum := "c830c34b2f1290909df5c152cd2fea614a4fad951e4ed9889bb40863f1caa6c1", func := "loop.example/g01231/laws.FnExactFillFrames", spec := "fnExactFillFrames", inPlace := ["math.Float64bits", "math.Float64frombits"], unfollowed := true, recurses := true, apart := false }
def FnExactFillFramesSaid : Prop := fnExactFillFramesRow.holds Try.pinned (OpenSpec.ofChange fnExactFillFramesSpec)

/-- ITS FALSE NEIGHBOUR: 'it returns false'. Refute it at one input. -/
def fnExactFillFramesWrong : ChangeSpec := { name := "fnExactFillFrames", fn := fun _ => fun
  | [d1, d2, d3, d4] => { results := [.lit (.bool false)], args := [d1, d2, d3, d4] }
  | _ => none }
def FnExactFillFramesWrongFalsely : Prop := fnExactFillFramesRow.holds Try.pinned (OpenSpec.ofChange fnExactFillFramesWrong)

/-- 'laws.FnExactGapsOf': WHATEVER THE INPUT: true; the input reads as it did. -/
def fnExactGapsOfSpec : ChangeSpec := { name := "fnExactGapsOf", fn := fun _ => fun
  | [d1, d2] => { results := [.lit (.bool true)], args := [d1, d2] }
  | _ => none }
def fnExactGapsOfRow : OpenClaim := { program := "ytpijiidbjcbdhaa", sum := "c830c34b2f1290909df5c152cd2fea614a4fad951e4ed9889bb40863f1caa6c1", func := "loop.example/g01231/laws.FnExactGapsOf", spec := "fnExactGapsOf", inPlace := ["math.Float64bits", "math.Float64frombits"], unfollowed := true, recurses := true, apart := false }
def FnExactGapsOfSaid : Prop := fnExactGapsOfRow.holds Try.pinned (OpenSpec.ofChange fnExactGapsOfSpec)

/-- ITS FALSE NEIGHBOUR: 'it returns false'. Refute it at one input. -/
def fnExactGapsOfWrong : ChangeSpec := { name := "fnExactGapsOf", fn := fun _ => fun
  | [d1, d2] => { results := [.lit (.bool false)], args := [d1, d2] }
  | _ => none }
def FnExactGapsOfWrongFalsely : Prop := fnExactGapsOfRow.holds Try.pinned (OpenSpec.ofChange fnExactGapsOfWrong)

/-- 'laws.FnExactStationsOf': WHATEVER THE INPUT: true; the input reads as it did. -/
def fnExactStationsOfSpec : ChangeSpec := { name := "fnExactStationsOf", fn := fun _ => fun
  | [d] => { results := [.lit (.bool true)], args := [d] }
  | _ => none }
def fnExactStationsOfRow : OpenClaim := { program := "ytpijiidbjcbdhaa", sum := "c830c34b2f1290909df5c152cd2fea614a4fad951e4ed9889bb40863f1caa6c1", func := "loop.example/g01231/laws.FnExactStationsOf", spec := "fnExactStationsOf", inPlace := ["math.Float64bits", "math.Float64frombits"], unfollowed := true, recurses := true, apart := false }
def FnExactStationsOfSaid : Prop := fnExactStationsOfRow.holds Try.pinned (OpenSpec.ofChange fnExactStationsOfSpec)

/-- ITS FALSE NEIGHBOUR: 'it returns false'. Refute it at one input. -/
def fnExactStationsOfWrong : ChangeSpec := { name := "fnExactStationsOf", fn := fun _ => fun
  | [d] => { results := [.lit (.bool false)], args := [d] }
  | _ => none }
def FnExactStationsOfWrongFalsely : Prop := fnExactStationsOfRow.holds Try.pinned (OpenSpec.ofChange fnExactStationsOfWrong)

/-- 'laws.FnExactSumStations': WHATEVER THE INPUT: true; the input reads as it did. -/
def fnExactSumStationsSpec : ChangeSpec := { name := "fnExactSumStations", fn := fun _ => fun
  | [d1, d2, d3] => { results := [.lit (.bool true)], args := [d1, d2, d3] }
  | _ => none }
def fnExactSumStationsRow : OpenClaim := { program := "ytpijiidbjcbdhaa", sum := "c830c34b2f1290909df5c152cd2fea614a4fad951e4ed9889bb40863f1caa6c1", func := "loop.example/g01231/laws.FnExactSumStations", spec := "fnExactSumStations", inPlace := ["math.Float64bits", "math.Float64frombits"], unfollowed := true, recurses := true, apart := false }
def FnExactSumStationsSaid : Prop := fnExactSumStationsRow.holds Try.pinned (OpenSpec.ofChange fnExactSumStationsSpec)

/-- ITS FALSE NEIGHBOUR: 'it returns false'. Refute it at one input. -/
def fnExactSumStationsWrong : ChangeSpec := { name := "fnExactSumStations", fn := fun _ => fun
  | [d1, d2, d3] => { results := [.lit (.bool false)], args := [d1, d2, d3] }
  | _ => none }
def FnExactSumStationsWrongFalsely : Prop := fnExactSumStationsRow.holds Try.pinned (OpenSpec.ofChange fnExactSumStationsWrong)

/- THE SECOND FORM. 'bulk': how many values and letters a reading holds, each counted each time it is reached (what is shared counts as often as it is met; a slice's spare places count too). A statement '..UptoSaid' is the law's where the arguments, and the package variables that the reading takes, are together of bulk at most 1048576: NARROWER than '..Said'. Prove '..Said' where nothing that the law and all that it calls make is longer than what came in: it says more and counts as full. Else prove '..UptoSaid'. A law counts once. -/
mutual
def uptoBulk {H : Type} : DataW H → Nat
  | .lit (.string bytes) => bytes.length + 1
  | .lit _ => 1
  | .nil => 1
  | .ptr d => uptoBulk d + 1
  | .slice elems spare => uptoBulkAll elems + uptoBulkAll spare + 1
  | .agg parts => uptoBulkAll parts + 1
  | .iface _ d => uptoBulk d + 1
  | .map entries => uptoBulkEntries entries + 1
  | .held _ => 1
def uptoBulkAll {H : Type} : List (DataW H) → Nat
  | [] => 0
  | d :: r => uptoBulk d + uptoBulkAll r
def uptoBulkEntries {H : Type} : List (Lit × DataW H) → Nat
  | [] => 0
  | x :: r => uptoBulkEntry x + uptoBulkEntries r
def uptoBulkEntry {H : Type} : Lit × DataW H → Nat
  | (.string bytes, d) => bytes.length + uptoBulk d + 1
  | (_, d) => uptoBulk d + 1
 end
def uptoSmall : (H : Type) → List (DataW H) → Bool := fun _ ds => decide (uptoBulkAll ds ≤ 1048576)
def OpenSpec.upto (s : _root_.Go.ChangeSpec) : _root_.Go.OpenSpec := { _root_.Go.OpenSpec.ofChange s with cond := some uptoSmall }

/-- 'laws.FnExactFillFrames', WHERE WHAT IT READS IS OF BULK AT MOST 1048576: true; the input reads as it did. -/
def fnExactFillFramesUptoRow : OpenClaim := { program := "ytpijiidbjcbdhaa", sum := "c830c34b2f1290909df5c152cd2fea614a4fad951e4ed9889bb40863f1caa6c1", func := "loop.example/g01231/laws.FnExactFillFrames", spec := "fnExactFillFrames", inPlace := ["math.Float64bits", "math.Float64frombits"], unfollowed := true, recurses := true, apart := false, narrowed := true }
def FnExactFillFramesUptoSaid : Prop := fnExactFillFramesUptoRow.holds Try.pinned (OpenSpec.upto fnExactFillFramesSpec)

/-- 'laws.FnExactGapsOf', WHERE WHAT IT READS IS OF BULK AT MOST 1048576: true; the input reads as it did. -/
def fnExactGapsOfUptoRow : OpenClaim := { program := "ytpijiidbjcbdhaa", sum := "c830c34b2f1290909df5c152cd2fea614a4fad951e4ed9889bb40863f1caa6c1", func := "loop.example/g01231/laws.FnExactGapsOf", spec := "fnExactGapsOf", inPlace := ["math.Float64bits", "math.Float64frombits"], unfollowed := true, recurses := true, apart := false, narrowed := true }
def FnExactGapsOfUptoSaid : Prop := fnExactGapsOfUptoRow.holds Try.pinned (OpenSpec.upto fnExactGapsOfSpec)

/-- 'laws.FnExactStationsOf', WHERE WHAT IT READS IS OF BULK AT MOST 1048576: true; the input reads as it did. -/
def fnExactStationsOfUptoRow : OpenClaim := { program := "ytpijiidbjcbdhaa", sum := "c830c34b2f1290909df5c152cd2fea614a4fad951e4ed9889bb40863f1caa6c1", func := "loop.example/g01231/laws.FnExactStationsOf", spec := "fnExactStationsOf", inPlace := ["math.Float64bits", "math.Float64frombits"], unfollowed := true, recurses := true, apart := false, narrowed := true }
def FnExactStationsOfUptoSaid : Prop := fnExactStationsOfUptoRow.holds Try.pinned (OpenSpec.upto fnExactStationsOfSpec)

/-- 'laws.FnExactSumStations', WHERE WHAT IT READS IS OF BULK AT MOST 1048576: true; the input reads as it did. -/
def fnExactSumStationsUptoRow : OpenClaim := { program := "ytpijiidbjcbdhaa", sum := "c830c34b2f1290909df5c152cd2fea614a4fad951e4ed9889bb40863f1caa6c1", func := "loop.example/g01231/laws.FnExactSumStations", spec := "fnExactSumStations", inPlace := ["math.Float64bits", "math.Float64frombits"], unfollowed := true, recurses := true, apart := false, narrowed := true }
def FnExactSumStationsUptoSaid : Prop := fnExactSumStationsUptoRow.holds Try.pinned (OpenSpec.upto fnExactSumStationsSpec)

end Rows
end Go.Proofs.Ytpijiidbjcbdhaa
