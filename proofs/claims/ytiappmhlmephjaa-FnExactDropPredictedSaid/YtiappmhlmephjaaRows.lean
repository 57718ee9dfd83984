/-
  No cell of these rows narrows 'for every input' (looked for: loops, veiled, ifaces, maps, wideKeys, modest, calm, conditions, laid).
  DERIVED. THE GIVEN ROWS OF THIS SEAT. 6 by the template 'for every input the law returns true; each argument reads behind the call as it read before'; 0 by the template 'total and deterministic' (their statements: YtiappmhlmephjaaTotals.lean).
  GIVEN WITH THE SEED: the statements are not yours to turn. If you find one false, say at which input.
  Laid BY PROGRAM, IN A SANDBOX (cutbox-rows.mjs): the forced cells as the released guide's own fill.sh prints them over the translation ece3c6742d582ae6… (all of the seat's roots in one cut). By AI agents, Wed Nov 11 2026. No macro, syntax, notation, axiom, sorry.
-/
import Derived.Test.YtiappmhlmephjaaChecked
import GoSem.Claim
import GoSem.ClaimJoined
import GoSem.ClaimMapViews
import Derived.JoinedTies
import Derived.KernelRfl
namespace Go.Proofs.Ytiappmhlmephjaa
/- THE CELL 'sum', in the pinned program and in every row, IS THE sha256 OF THE DUMP (.gsa) THAT YtiappmhlmephjaaProg.lean LOADS. Nothing in Lean hashes anything: it is a label: what it is worth is what the hold of that sum in a sandbox is worth. -/
noncomputable def Try.pinned : Pinned := { name := "ytiappmhlmephjaa", sum := "ece3c6742d582ae6c2210bd0aa80bf9b5e41c7da952028c59c88c2f72fe3d0a8", checked := Try.checked }
namespace Rows
def none {H : Type} : Left H := { results := [], args := [] }

/-- 'laws.FnExactPredictionOf': WHATEVER THE INPUT: true; the input reads as it did. -/
def fnExactPredictionOfSpec : ChangeSpec := { name := "fnExactPredictionOf", fn := fun _ => fun
  | [d1, d2, d3, d4] => { results := [.lit (.bool true)], args := [d1, d2, d3, d4] }
  | _ => none }
def fnExactPredictionOfRow : OpenClaim := { program := "ytiappmhlmephjaa", sum := "ece3c6742d582ae6c2210bd0aa80bf9b5e41c7da952028c59c88c2f72fe3d0a8", func := "loop.example/g01231/laws.FnExactPredictionOf", spec := "fnExactPredictionOf", apart := false }
def FnExactPredictionOfSaid : Prop := fnExactPredictionOfRow.holds Try.pinned (OpenSpec.ofChange fnExactPredictionOfSpec)

/-- ITS FALSE NEIGHBOUR: 'it returns false'. Refute it at one input. -/
def fnExactPredictionOfWrong : ChangeSpec := { name := "fnExactPredictionOf", fn := fun _ => fun
  | [d1, d2, d3, d4] => { results := [.lit (.bool false)], args := [d1, d2, d3, d4] }
  | _ => none }
def FnExactPredictionOfWrongFalsely : Prop := fnExactPredictionOfRow.holds Try.pinned (OpenSpec.ofChange fnExactPredictionOfWrong)

/-- 'laws.FnExactShapeFilter': WHATEVER THE INPUT: true; the input reads as it did. -/
def fnExactShapeFilterSpec : ChangeSpec := { name := "fnExactShapeFilter", fn := fun _ => fun
  | [d1, d2, d3, d4] => { results := [.lit (.bool true)], args := [d1, d2, d3, d4] }
  | _ => none }
def fnExactShapeFilterRow : OpenClaim := { program := "ytiappmhlmephjaa", sum := "ece3c6742d582ae6c2210bd0aa80bf9b5e41c7da952028c59c88c2f72fe3d0a8", func := "loop.example/g01231/laws.FnExactShapeFilter", spec := "fnExactShapeFilter", apart := false }
def FnExactShapeFilterSaid : Prop := fnExactShapeFilterRow.holds Try.pinned (OpenSpec.ofChange fnExactShapeFilterSpec)

/-- ITS FALSE NEIGHBOUR: 'it returns false'. Refute it at one input. -/
def fnExactShapeFilterWrong : ChangeSpec := { name := "fnExactShapeFilter", fn := fun _ => fun
  | [d1, d2, d3, d4] => { results := [.lit (.bool false)], args := [d1, d2, d3, d4] }
  | _ => none }
def FnExactShapeFilterWrongFalsely : Prop := fnExactShapeFilterRow.holds Try.pinned (OpenSpec.ofChange fnExactShapeFilterWrong)

/-- 'laws.FnExactNewDesk': WHATEVER THE INPUT: true; the input reads as it did. -/
def fnExactNewDeskSpec : ChangeSpec := { name := "fnExactNewDesk", fn := fun _ => fun
  | [] => { results := [.lit (.bool true)], args := [] }
  | _ => none }
def fnExactNewDeskRow : OpenClaim := { program := "ytiappmhlmephjaa", sum := "ece3c6742d582ae6c2210bd0aa80bf9b5e41c7da952028c59c88c2f72fe3d0a8", func := "loop.example/g01231/laws.FnExactNewDesk", spec := "fnExactNewDesk", apart := false }
def FnExactNewDeskSaid : Prop := fnExactNewDeskRow.holds Try.pinned (OpenSpec.ofChange fnExactNewDeskSpec)

/-- ITS FALSE NEIGHBOUR: 'it returns false'. Refute it at one input. -/
def fnExactNewDeskWrong : ChangeSpec := { name := "fnExactNewDesk", fn := fun _ => fun
  | [] => { results := [.lit (.bool false)], args := [] }
  | _ => none }
def FnExactNewDeskWrongFalsely : Prop := fnExactNewDeskRow.holds Try.pinned (OpenSpec.ofChange fnExactNewDeskWrong)

/-- 'laws.FnExactSpikeFilter': WHATEVER THE INPUT: true; the input reads as it did. -/
def fnExactSpikeFilterSpec : ChangeSpec := { name := "fnExactSpikeFilter", fn := fun _ => fun
  | [d1, d2, d3] => { results := [.lit (.bool true)], args := [d1, d2, d3] }
  | _ => none }
def fnExactSpikeFilterRow : OpenClaim := { program := "ytiappmhlmephjaa", sum := "ece3c6742d582ae6c2210bd0aa80bf9b5e41c7da952028c59c88c2f72fe3d0a8", func := "loop.example/g01231/laws.FnExactSpikeFilter", spec := "fnExactSpikeFilter", apart := false }
def FnExactSpikeFilterSaid : Prop := fnExactSpikeFilterRow.holds Try.pinned (OpenSpec.ofChange fnExactSpikeFilterSpec)

/-- ITS FALSE NEIGHBOUR: 'it returns false'. Refute it at one input. -/
def fnExactSpikeFilterWrong : ChangeSpec := { name := "fnExactSpikeFilter", fn := fun _ => fun
  | [d1, d2, d3] => { results := [.lit (.bool false)], args := [d1, d2, d3] }
  | _ => none }
def FnExactSpikeFilterWrongFalsely : Prop := fnExactSpikeFilterRow.holds Try.pinned (OpenSpec.ofChange fnExactSpikeFilterWrong)

/-- 'laws.FnExactDropPredicted': WHATEVER THE INPUT: true; the input reads as it did. -/
def fnExactDropPredictedSpec : ChangeSpec := { name := "fnExactDropPredicted", fn := fun _ => fun
  | [d1, d2, d3, d4] => { results := [.lit (.bool true)], args := [d1, d2, d3, d4] }
  | _ => none }
def fnExactDropPredictedRow : OpenClaim := { program := "ytiappmhlmephjaa", sum := "ece3c6742d582ae6c2210bd0aa80bf9b5e41c7da952028c59c88c2f72fe3d0a8", func := "loop.example/g01231/laws.FnExactDropPredicted", spec := "fnExactDropPredicted", apart := false }
def FnExactDropPredictedSaid : Prop := fnExactDropPredictedRow.holds Try.pinned (OpenSpec.ofChange fnExactDropPredictedSpec)

/-- ITS FALSE NEIGHBOUR: 'it returns false'. Refute it at one input. -/
def fnExactDropPredictedWrong : ChangeSpec := { name := "fnExactDropPredicted", fn := fun _ => fun
  | [d1, d2, d3, d4] => { results := [.lit (.bool false)], args := [d1, d2, d3, d4] }
  | _ => none }
def FnExactDropPredictedWrongFalsely : Prop := fnExactDropPredictedRow.holds Try.pinned (OpenSpec.ofChange fnExactDropPredictedWrong)

/-- 'laws.FnExactSameDesk': WHATEVER THE INPUT: true; the input reads as it did. -/
def fnExactSameDeskSpec : ChangeSpec := { name := "fnExactSameDesk", fn := fun _ => fun
  | [d1, d2] => { results := [.lit (.bool true)], args := [d1, d2] }
  | _ => none }
def fnExactSameDeskRow : OpenClaim := { program := "ytiappmhlmephjaa", sum := "ece3c6742d582ae6c2210bd0aa80bf9b5e41c7da952028c59c88c2f72fe3d0a8", func := "loop.example/g01231/laws.FnExactSameDesk", spec := "fnExactSameDesk", inPlace := ["math.Float32bits"], unfollowed := true, recurses := true, apart := false }
def FnExactSameDeskSaid : Prop := fnExactSameDeskRow.holds Try.pinned (OpenSpec.ofChange fnExactSameDeskSpec)

/-- ITS FALSE NEIGHBOUR: 'it returns false'. Refute it at one input. -/
def fnExactSameDeskWrong : ChangeSpec := { name := "fnExactSameDesk", fn := fun _ => fun
  | [d1, d2] => { results := [.lit (.bool false)], args := [d1, d2] }
  | _ => none }
def FnExactSameDeskWrongFalsely : Prop := fnExactSameDeskRow.holds Try.pinned (OpenSpec.ofChange fnExactSameDeskWrong)

/- THE SECOND FORM. 'bulk': how many values and letters a reading holds, each counted each time it is reached (what is shared counts as often as it is met; a slice's spare places count too). A statement '..UptoSaid' is the law's where the arguments, and the package variables that the reading takes, are together of bulk at most 1048576: NARROWER than '..Said'. Prove '..Said' where nothing that the law and all that it calls make is longer than what came in: it says more and counts as full. Else prove '..UptoSaid'. A law counts once. -/
mutual
def uptoBulk {H : Type} : DataW H → Nat
  | .lit (.string bytes) => bytes.length + 1
  | .lit _ => 1
  | .nil => 1
  | .ptr d => uptoBulk d + 1
  | .slice elems spare => uptoBulkAll elems + uptoBulkAll spare + 1
  | .agg parts => uptoBulkAll parts + 1
  | .iface _ d => uptoBulk d + 1
  | .map entries => uptoBulkEntries entries + 1
  | .held _ => 1
def uptoBulkAll {H : Type} : List (DataW H) → Nat
  | [] => 0
  | d :: r => uptoBulk d + uptoBulkAll r
def uptoBulkEntries {H : Type} : List (Lit × DataW H) → Nat
  | [] => 0
  | x :: r => uptoBulkEntry x + uptoBulkEntries r
def uptoBulkEntry {H : Type} : Lit × DataW H → Nat
  | (.string bytes, d) => bytes.length + uptoBulk d + 1
  | (_, d) => uptoBulk d + 1
 end
def uptoSmall : (H : Type) → List (DataW H) → Bool := fun _ ds => decide (uptoBulkAll ds ≤ 1048576)
def OpenSpec.upto (s : _root_.Go.ChangeSpec) : _root_.Go.OpenSpec := { _root_.Go.OpenSpec.ofChange s with cond := some uptoSmall }

/-- 'laws.FnExactPredictionOf', WHERE WHAT IT READS IS OF BULK AT MOST 1048576: true; the input reads as it did. -/
def fnExactPredictionOfUptoRow : OpenClaim := { program := "ytiappmhlmephjaa", sum := "ece3c6742d582ae6c2210bd0aa80bf9b5e41c7da952028c59c88c2f72fe3d0a8", func := "loop.example/g01231/laws.FnExactPredictionOf", spec := "fnExactPredictionOf", apart := false, narrowed := true }
def FnExactPredictionOfUptoSaid : Prop := fnExactPredictionOfUptoRow.holds Try.pinned (OpenSpec.upto fnExactPredictionOfSpec)

/-- 'laws.FnExactShapeFilter', WHERE WHAT IT READS IS OF BULK AT MOST 1048576: true; the input reads as it did. -/
def fnExactShapeFilterUptoRow : OpenClaim := { program := "ytiappmhlmephjaa", sum := "ece3c6742d582ae6c2210bd0aa80bf9b5e41c7da952028c59c88c2f72fe3d0a8", func := "loop.example/g01231/laws.FnExactShapeFilter", spec := "fnExactShapeFilter", apart := false, narrowed := true }
def FnExactShapeFilterUptoSaid : Prop := fnExactShapeFilterUptoRow.holds Try.pinned (OpenSpec.upto fnExactShapeFilterSpec)

/-- 'laws.FnExactNewDesk', WHERE WHAT IT READS IS OF BULK AT MOST 1048576: true; the input reads as it did. -/
def fnExactNewDeskUptoRow : OpenClaim := { program := "ytiappmhlmephjaa", sum := "ece3c6742d582ae6c2210bd0aa80bf9b5e41c7da952028c59c88c2f72fe3d0a8", func := "loop.example/g01231/laws.FnExactNewDesk", spec := "fnExactNewDesk", apart := false, narrowed := true }
def FnExactNewDeskUptoSaid : Prop := fnExactNewDeskUptoRow.holds Try.pinned (OpenSpec.upto fnExactNewDeskSpec)

/-- 'laws.FnExactSpikeFilter', WHERE WHAT IT READS IS OF BULK AT MOST 1048576: true; the input reads as it did. -/
def fnExactSpikeFilterUptoRow : OpenClaim := { program := "ytiappmhlmephjaa", sum := "ece3c6742d582ae6c2210bd0aa80bf9b5e41c7da952028c59c88c2f72fe3d0a8", func := "loop.example/g01231/laws.FnExactSpikeFilter", spec := "fnExactSpikeFilter", apart := false, narrowed := true }
def FnExactSpikeFilterUptoSaid : Prop := fnExactSpikeFilterUptoRow.holds Try.pinned (OpenSpec.upto fnExactSpikeFilterSpec)

/-- 'laws.FnExactDropPredicted', WHERE WHAT IT READS IS OF BULK AT MOST 1048576: true; the input reads as it did. -/
def fnExactDropPredictedUptoRow : OpenClaim := { program := "ytiappmhlmephjaa", sum := "ece3c6742d582ae6c2210bd0aa80bf9b5e41c7da952028c59c88c2f72fe3d0a8", func := "loop.example/g01231/laws.FnExactDropPredicted", spec := "fnExactDropPredicted", apart := false, narrowed := true }
def FnExactDropPredictedUptoSaid : Prop := fnExactDropPredictedUptoRow.holds Try.pinned (OpenSpec.upto fnExactDropPredictedSpec)

/-- 'laws.FnExactSameDesk', WHERE WHAT IT READS IS OF BULK AT MOST 1048576: true; the input reads as it did. -/
def fnExactSameDeskUptoRow : OpenClaim := { program := "ytiappmhlmephjaa", sum := "ece3c6742d582ae6c2210bd0aa80bf9b5e41c7da952028c59c88c2f72fe3d0a8", func := "loop.example/g01231/laws.FnExactSameDesk", spec := "fnExactSameDesk", inPlace := ["math.Float32bits"], unfollowed := true, recurses := true, apart := false, narrowed := true }
def FnExactSameDeskUptoSaid : Prop := fnExactSameDeskUptoRow.holds Try.pinned (OpenSpec.upto fnExactSameDeskSpec)

end Rows
end Go.Proofs.Ytiappmhlmephjaa
