/- The tied card of FnExactSectionText. -/
import Derived.Test.YtmicghcgljldpaaDoorPrSt
import Derived.Test.YtmicghcgljldpaaDoorTie
import Derived.Test.YtmicghcgljldpaaDoorCards
import Derived.SevenTiedAt
namespace Go.Proofs.YtmicghcgljldpaaDoor.lawSectionText
open Go

theorem card : Rows.FnExactSectionTextCardSaid :=
  Claim7.holds_tied_plain_at .later [] [.data, .data, .data] true (true, "5734819e205d5508e33d6a1b891c87f53e17d6d09d79fd9e639a0d66d245ced2") false
    proved (fun _ h => by cases h) (by kernel_rfl) (fun _ h => by cases h) fnExactSectionText_row_tie rfl ⟨rfl, rfl⟩ (by kernel_rfl) rfl
    (fun f fn hf hfn => by
      obtain rfl : f = 4 := Option.some.inj ((show Tryd.prog.funcNamed "loop.example/g01231/laws.FnExactSectionText" = some 4 by kernel_rfl).symm.trans hf) |>.symm
      obtain rfl : fn = Tryd.f4 := (Option.some.inj (Tryd.func4.symm.trans hfn)).symm
      exact ⟨by kernel_rfl, fun j t ht => by
        rw [Tryd.params4] at ht
        have hm : t ∈ [32] := by simpa using Array.mem_of_getElem? ht
        have hall : ([32].all fun u => !Tryd.prog.wantsStandIn u) = true := by kernel_rfl
        exact (show Tryd.prog.wantsStandIn t = false by simpa using List.all_eq_true.1 hall t hm)⟩)
    (by kernel_rfl)
end Go.Proofs.YtmicghcgljldpaaDoor.lawSectionText
