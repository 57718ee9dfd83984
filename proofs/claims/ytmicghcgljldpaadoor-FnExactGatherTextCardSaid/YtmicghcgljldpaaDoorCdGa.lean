/- The tied card of FnExactGatherText. -/
import Derived.Test.YtmicghcgljldpaaDoorPrGa
import Derived.Test.YtmicghcgljldpaaDoorTie
import Derived.Test.YtmicghcgljldpaaDoorCards
import Derived.SevenTiedAt
namespace Go.Proofs.YtmicghcgljldpaaDoor.lawGatherText
open Go

theorem card : Rows.FnExactGatherTextCardSaid :=
  Claim7.holds_tied_plain_at .later [] [.data, .data, .data] true (true, "5734819e205d5508e33d6a1b891c87f53e17d6d09d79fd9e639a0d66d245ced2") false
    proved (fun _ h => by cases h) (by kernel_rfl) (fun _ h => by cases h) fnExactGatherText_row_tie rfl ⟨rfl, rfl⟩ (by kernel_rfl) rfl
    (fun f fn hf hfn => by
      obtain rfl : f = 6 := Option.some.inj ((show Tryd.prog.funcNamed "loop.example/g01231/laws.FnExactGatherText" = some 6 by kernel_rfl).symm.trans hf) |>.symm
      obtain rfl : fn = Tryd.f6 := (Option.some.inj (Tryd.func6.symm.trans hfn)).symm
      exact ⟨by kernel_rfl, fun j t ht => by
        rw [Tryd.params6] at ht
        have hm : t ∈ [52] := by simpa using Array.mem_of_getElem? ht
        have hall : ([52].all fun u => !Tryd.prog.wantsStandIn u) = true := by kernel_rfl
        exact (show Tryd.prog.wantsStandIn t = false by simpa using List.all_eq_true.1 hall t hm)⟩)
    (by kernel_rfl)
end Go.Proofs.YtmicghcgljldpaaDoor.lawGatherText
