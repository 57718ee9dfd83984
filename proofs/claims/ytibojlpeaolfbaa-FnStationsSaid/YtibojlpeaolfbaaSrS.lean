/- Walks: the frames in order: the reference's. -/
import Derived.Test.YtibojlpeaolfbaaCln
import Derived.Deep.QuietTactic
import Derived.BigQuiet
import Derived.Deep.CutRange
import Derived.Deep.CutBlock
import Derived.Deep.DeepCutAuto
namespace Go.Proofs.Ytibojlpeaolfbaa
open Go Go.RowKit

theorem srt_take (Fs : List FM) (j : Nat) (h : j < Fs.length) : insAll ltF [] (Fs.take (j + 1)) = insR ltF (frAt Fs j) (insAll ltF [] (Fs.take j)) := by
  rw [List.take_add_one, List.getElem?_eq_getElem h]
  show insAll ltF [] (Fs.take j ++ [Fs[j]]) = _
  rw [insAll_snoc]
  congr 1
  simp [frAt, List.getD_eq_getElem?_getD, List.getElem?_eq_getElem h]

end Go.Proofs.Ytibojlpeaolfbaa
