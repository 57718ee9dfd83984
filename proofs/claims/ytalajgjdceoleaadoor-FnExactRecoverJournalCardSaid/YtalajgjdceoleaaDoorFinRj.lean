/- FnExactRecoverJournal: the walk of the law. -/
import Derived.Test.YtalajgjdceoleaaDoorRc5
namespace Go.Proofs.YtalajgjdceoleaaDoor
open Go Go.RowKit

set_option maxRecDepth 100000 in
set_option maxHeartbeats 3200000 in
theorem lawRecoverJournal_any (w : World) (t : ByteArray) (hT : Tab10 w) :
    Calls Tryd.prog 4 #[.string t] w (TrueB w) := by
  by_cases hbig : t.size ≤ 1048576
  · have HT := Lib.hid hT
    obtain ⟨L, n, b, hL, hf⟩ := recV_form t
    have HF := Lib.hid hf
    have K1 : ∀ w1 : World, Calls Tryd.prog 10 #[.string t] w1 fun e w' => (∃ v, e = .returned (.tuple #[v, .int .i64 n, .bool b]) ∧ OwnStr w' w1.heap.size v L) ∧ Below w1.heap.size w1 w' := fun w1 =>
      (specRecover_any w1 t).mono fun e w' ⟨h1, h2⟩ => ⟨HF.out _ _ _ h1, h2⟩
    have K2 : ∀ w1 : World, Tab10 w1 → Calls Tryd.prog 11 #[.string t] w1 fun e w' => (∃ v, e = .returned (.tuple #[v, .int .i64 n, .bool b]) ∧ OwnStr w' w1.heap.size v L) ∧ Below w1.heap.size w1 w' := fun w1 h =>
      (implRecover_any w1 t h).mono fun e w' ⟨h1, h2⟩ => ⟨HF.out _ _ _ h1, h2⟩
    have hmax : L.length ≤ 1048576 := by omega
    clear hf HF hT
    go_enter Tryd.func4, Tryd.ntmps4
    go_wp2_with fail
    refine (K1 w).mono ?_
    clear K1
    rintro e w1 ⟨⟨v0, rfl, o0⟩, b1⟩
    have R0 := Lib.hid o0.rd
    obtain ⟨a0, c0, rfl, -⟩ := o0.rd.opened
    clear o0
    go_wp2_with fail
    refine (K2 w1 (HT.out.mono b1)).mono ?_
    rintro e w2 ⟨⟨v1, rfl, o1⟩, b2⟩
    have O1 := Lib.hid o1
    obtain ⟨a1, c1, rfl, -⟩ := o1.rd.opened
    clear o1
    have d2 := b1.trans (b2.mono b1.size)
    go_wp2_with fail
    refine (eqStringS_any w2 _ _ L O1.out.rd (R0.out.mono b2) hmax).mono ?_
    rintro e w3 ⟨rfl, n3, hw3⟩
    have e3 : Below w2.heap.size w2 w3 := by rw [hw3]; exact Below.drewN (Below.refl _ _) n3
    clear hw3
    have d3 := d2.trans (e3.mono d2.size)
    have f3 := b2.trans (e3.mono b2.size)
    replace O1 := Lib.hid (O1.out.kept e3)
    go_wp2_with fail
    refine (markStringS_any w3 _ L w1.heap.size 1 O1.out f3.size (by decide) (by omega)).mono ?_
    rintro e w4 ⟨rfl, o4, e4⟩
    have f4 := f3.trans e4
    have d4 := b1.trans (f4.mono b1.size)
    have M1 := Lib.hid o4.rd
    rw [show (1 : Nat) + L.length = L.length + 1 by omega]
    clear o4
    go_wp2_with fail
    refine (heldStringS_any w4 _ L.length 1 M1.out (by decide) (by omega)).mono ?_
    rintro e w5 ⟨rfl, e5⟩
    rw [show (1 : Nat) + L.length = L.length + 1 by omega]
    have f5 := f4.trans (e5.mono f4.size)
    have d5 := d4.trans (e5.mono d4.size)
    replace M1 := Lib.hid (M1.out.mono e5)
    have hlt : ¬ ((L.length : Int) + 1 < 0) := by omega
    go_wp2_with fail
    refine (K2 w5 (HT.out.mono d5)).mono ?_
    rintro e w6 ⟨⟨v2, rfl, o2⟩, e6⟩
    have O2 := Lib.hid o2
    obtain ⟨a2, c2, rfl, -⟩ := o2.rd.opened
    clear o2
    have f6 := f5.trans (e6.mono f5.size)
    have d6 := d5.trans (e6.mono d5.size)
    replace M1 := Lib.hid (M1.out.mono e6)
    go_wp2_with fail
    refine (eqStringS_any w6 _ _ L O2.out.rd (R0.out.mono f6) hmax).mono ?_
    rintro e w7 ⟨rfl, n7, hw7⟩
    have e7 : Below w6.heap.size w6 w7 := by rw [hw7]; exact Below.drewN (Below.refl _ _) n7
    clear hw7
    have d7 := d6.trans (e7.mono d6.size)
    replace M1 := Lib.hid (M1.out.mono e7)
    go_wp2_with fail
    refine (heldStringS_any w7 _ L.length 1 M1.out (by decide) (by omega)).mono ?_
    rintro e w8 ⟨rfl, e8⟩
    rw [show (1 : Nat) + L.length = L.length + 1 by omega]
    have d8 := d7.trans (e8.mono d7.size)
    go_wp2
    go_ret
    exact TrueB.mk d8
  · have hbig' : (1048576 : Int) < (t.size : Int) := by omega
    clear hT
    go_enter Tryd.func4, Tryd.ntmps4
    go_wp2
    go_ret
    exact TrueB.mk (Below.refl _ _)
end Go.Proofs.YtalajgjdceoleaaDoor
