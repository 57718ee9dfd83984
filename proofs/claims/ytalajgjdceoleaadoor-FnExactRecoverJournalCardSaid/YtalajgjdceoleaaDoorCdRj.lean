/- The tied card of FnExactRecoverJournal. -/
import Derived.Test.YtalajgjdceoleaaDoorPrRj
import Derived.Test.YtalajgjdceoleaaDoorTie
import Derived.Test.YtalajgjdceoleaaDoorCards
import Derived.SevenTiedAt
namespace Go.Proofs.YtalajgjdceoleaaDoor.lawRecoverJournal
open Go

theorem card : Rows.FnExactRecoverJournalCardSaid :=
  Claim7.holds_tied_plain_at .later [] [.data, .data, .data] true (true, "e3218b1eafa318c501e1edd246a07572e16b133b204412a633881d5ee63ec423") false
    proved (fun _ h => by cases h) (by kernel_rfl) (fun _ h => by cases h) fnExactRecoverJournal_row_tie rfl ⟨rfl, rfl⟩ (by kernel_rfl) rfl
    (fun f fn hf hfn => by
      obtain rfl : f = 4 := Option.some.inj ((show Tryd.prog.funcNamed "loop.example/g01231/laws.FnExactRecoverJournal" = some 4 by kernel_rfl).symm.trans hf) |>.symm
      obtain rfl : fn = Tryd.f4 := (Option.some.inj (Tryd.func4.symm.trans hfn)).symm
      exact ⟨by kernel_rfl, fun j t ht => by
        rw [Tryd.params4] at ht
        have hm : t ∈ [9] := by simpa using Array.mem_of_getElem? ht
        have hall : ([9].all fun u => !Tryd.prog.wantsStandIn u) = true := by kernel_rfl
        exact (show Tryd.prog.wantsStandIn t = false by simpa using List.all_eq_true.1 hall t hm)⟩)
    (by kernel_rfl)
end Go.Proofs.YtalajgjdceoleaaDoor.lawRecoverJournal
