/- FnExactJournalOf: the walk of the law. -/
import Derived.Test.YtalajgjdceoleaaDoorJ5
namespace Go.Proofs.YtalajgjdceoleaaDoor
open Go Go.RowKit

set_option maxRecDepth 100000 in
set_option maxHeartbeats 1600000 in
theorem lawJournalOf_any (w : World) (v : Value) (L : List ByteArray) (h : RdStr w v L) (m1 : L.length ≤ maxLen) (m2 : ∀ j, j < L.length → (lnAt L j).size ≤ maxLen) (hT : Tab10 w) :
    Calls Tryd.prog 3 #[v] w (TrueB w) := by
  have k1 := Lib.hid h
  have HT := Lib.hid hT
  obtain ⟨a, c, rfl, -⟩ := h.opened
  clear hT
  go_enter Tryd.func3, Tryd.ntmps3
  go_wp2_with fail
  refine (szStringS_any w _ L _ k1.out (by decide) (by decide) m1 m2).mono ?_
  rintro e w1 ⟨q1, rfl, hq1, rfl⟩
  rcases hq1 with rfl | ⟨p0, p1, hs1⟩
  · go_wp2
    go_ret
    exact TrueB.mk (Below.refl _ _)
  have hlt1 : ¬ (q1 < 0) := by omega
  obtain ⟨n1, n2⟩ := hs1
  go_wp2_with fail
  refine (toStringS_any w1 _ L k1.out n1).mono ?_
  rintro e w2 ⟨x1, rfl, ox1, b2⟩
  go_wp2_with fail
  refine (specJournalOf_any w2 _ L ox1.rd n1 n2).mono ?_
  rintro e w3 ⟨rfl, b3⟩
  obtain ⟨S, hS⟩ : ∃ S : ByteArray, (if jourB L = true then jour L L.length else ⟨#[]⟩) = S := ⟨_, rfl⟩
  have e1 : txtIf (jourB L) (jour L L.length) = .tuple #[.string S, .bool (jourB L)] := by unfold txtIf; rw [hS]
  have E1 := Lib.hid e1
  rw [e1]
  clear e1 hS
  have c3 := b2.trans (b3.mono b2.size)
  go_wp2_with fail
  refine (toStringS_any w3 _ L (k1.out.mono c3) n1).mono ?_
  rintro e w4 ⟨x2, rfl, ox2, b4⟩
  have c4 := c3.trans (b4.mono c3.size)
  have R1 := Lib.hid ox2.rd
  clear ox2
  go_wp2_with fail
  refine (implJournalOf_any w4 _ L R1.out n1 n2 (HT.out.mono c4)).mono ?_
  rintro e w5 ⟨rfl, b5⟩
  rw [E1.out]
  have c5 := c4.trans (b5.mono c4.size)
  replace R1 := Lib.hid (R1.out.mono b5)
  go_wp2_with fail
  refine (toStringS_any w5 _ L (k1.out.mono c5) n1).mono ?_
  rintro e w6 ⟨x3, rfl, ox3, b6⟩
  have c6 := c5.trans (b6.mono c5.size)
  replace R1 := Lib.hid (R1.out.mono b6)
  go_wp2_with fail
  refine (eqStringS_any w6 _ _ L R1.out ox3.rd n1).mono ?_
  rintro e w7 ⟨rfl, n7, hw7⟩
  have c7 : Below w1.heap.size w1 w7 := by rw [hw7]; exact Below.drewN c6 n7
  clear hw7
  go_wp2
  go_ret
  exact TrueB.mk c7
end Go.Proofs.YtalajgjdceoleaaDoor
