/- The tied card of FnExactJournalOf. -/
import Derived.Test.YtalajgjdceoleaaDoorPrJo
import Derived.Test.YtalajgjdceoleaaDoorTie
import Derived.Test.YtalajgjdceoleaaDoorCards
import Derived.SevenTiedAt
namespace Go.Proofs.YtalajgjdceoleaaDoor.lawJournalOf
open Go

theorem card : Rows.FnExactJournalOfCardSaid :=
  Claim7.holds_tied_plain_at .later [] [.data, .data, .data] true (true, "e3218b1eafa318c501e1edd246a07572e16b133b204412a633881d5ee63ec423") false
    proved (fun _ h => by cases h) (by kernel_rfl) (fun _ h => by cases h) fnExactJournalOf_row_tie rfl ⟨rfl, rfl⟩ (by kernel_rfl) rfl
    (fun f fn hf hfn => by
      obtain rfl : f = 3 := Option.some.inj ((show Tryd.prog.funcNamed "loop.example/g01231/laws.FnExactJournalOf" = some 3 by kernel_rfl).symm.trans hf) |>.symm
      obtain rfl : fn = Tryd.f3 := (Option.some.inj (Tryd.func3.symm.trans hfn)).symm
      exact ⟨by kernel_rfl, fun j t ht => by
        rw [Tryd.params3] at ht
        have hm : t ∈ [22] := by simpa using Array.mem_of_getElem? ht
        have hall : ([22].all fun u => !Tryd.prog.wantsStandIn u) = true := by kernel_rfl
        exact (show Tryd.prog.wantsStandIn t = false by simpa using List.all_eq_true.1 hall t hm)⟩)
    (by kernel_rfl)
end Go.Proofs.YtalajgjdceoleaaDoor.lawJournalOf
