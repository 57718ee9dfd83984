/- The tied card of FnExactReadPath. -/
import Derived.Test.YtjbaebgdebcipaaDoorPrRp
import Derived.Test.YtjbaebgdebcipaaDoorTie
import Derived.Test.YtjbaebgdebcipaaDoorCards
import Derived.SevenTiedAt
namespace Go.Proofs.YtjbaebgdebcipaaDoor.lawReadPath
open Go

theorem card : Rows.FnExactReadPathCardSaid :=
  Claim7.holds_tied_plain_at .later [] [.data, .data, .data, .data, .sentinel, .sentinel, .pinned] true (true, "e9cc5340ba14d56db2f0314a5b3034fcf4752672abeffae5a19b53fecea8a8dc") true
    proved (fun _ h => by cases h) (by kernel_rfl) (fun _ h => by cases h) fnExactReadPath_row_tie rfl ⟨rfl, rfl⟩ (by kernel_rfl) rfl
    (fun f fn hf hfn => by
      obtain rfl : f = 3 := Option.some.inj ((show Tryd.prog.funcNamed "loop.example/g01231/laws.FnExactReadPath" = some 3 by kernel_rfl).symm.trans hf) |>.symm
      obtain rfl : fn = Tryd.f3 := (Option.some.inj (Tryd.func3.symm.trans hfn)).symm
      exact ⟨by kernel_rfl, fun j t ht => by
        rw [Tryd.params3] at ht
        have hm : t ∈ [9] := by simpa using Array.mem_of_getElem? ht
        have hall : ([9].all fun u => !Tryd.prog.wantsStandIn u) = true := by kernel_rfl
        exact (show Tryd.prog.wantsStandIn t = false by simpa using List.all_eq_true.1 hall t hm)⟩)
    (by kernel_rfl)
end Go.Proofs.YtjbaebgdebcipaaDoor.lawReadPath
