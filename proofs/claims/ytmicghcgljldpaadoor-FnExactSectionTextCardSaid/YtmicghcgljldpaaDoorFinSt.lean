/- FnExactSectionText: the walk of the law. -/
import Derived.Test.YtmicghcgljldpaaDoorL10
import Derived.Test.YtmicghcgljldpaaDoorTru
import Derived.Test.YtmicghcgljldpaaDoorHb
import Derived.Deep.CutRange
import Derived.Deep.DeepCutAuto
import Derived.Deep.RegionWith
namespace Go.Proofs.YtmicghcgljldpaaDoor
open Go Go.RowKit

set_option maxRecDepth 100000 in
set_option maxHeartbeats 4000000 in
theorem lawSectionText_any (w : World) (u1 : Value) (F : SM) (h1 : RdS w u1 F) (m1 : F.V.length ≤ maxLen) (hT : Tab16 w) :
    Calls Tryd.prog 4 #[u1] w (TrueB w) := by
  have k1 := Lib.hid h1
  have HT := Lib.hid hT
  obtain ⟨v, rfl, -⟩ := h1
  clear hT
  have hb0 : Below w.heap.size w (w.alloc (.cells #[.int .i64 F.w, .int .i64 F.d, v] 32)) := by (repeat (first | exact Below.refl _ _ | (refine Below.drewN ?_ _) | (refine Below.alloc ?_ (by first | exact Nat.le_refl _ | (simp; done) | (simp; omega)) _)))
  have B1 := HB.new w (.cells #[.int .i64 F.w, .int .i64 F.d, v] 32)
  go_enter Tryd.func4, Tryd.ntmps4
  go_wp2_with fail
  generalize w.alloc (.cells #[.int .i64 F.w, .int .i64 F.d, v] 32) = w0 at *
  refine (szSection_any w0 _ F _ (k1.out.mono hb0) (by decide) (by decide) m1).mono ?_
  rintro e w1 ⟨q1, rfl, hq1, b1⟩
  have c1 := hb0.trans (b1.mono hb0.size)
  replace B1 := Lib.hid (B1.mono b1)
  rcases hq1 with rfl | ⟨p0, p1, hs1⟩
  · go_wp2
    go_ret
    exact TrueB.mk c1
  have hlt1 : ¬ (q1 < 0) := by omega
  clear hb0 b1
  obtain ⟨i0, i1, i2, -, -, -⟩ := blk3 B1.out.2
  go_wp2_with fail
  refine (toSection_any w1 _ F (k1.out.mono c1) hs1).mono ?_
  rintro e w2 ⟨x1, rfl, ox1, b2⟩
  have c2 := c1.trans (b2.mono c1.size)
  replace B1 := Lib.hid (B1.out.mono b2)
  clear i0 i1 i2
  go_wp2_with fail
  refine (specSectionText_any w2 _ F ox1 hs1).mono ?_
  rintro e w3 ⟨rfl, b3⟩
  obtain ⟨S, hS⟩ : ∃ S : ByteArray, (if validS F = true then sectionB F else ⟨#[]⟩) = S := ⟨_, rfl⟩
  have e1 : txtIf (validS F) (sectionB F) = .tuple #[.string S, .bool (validS F)] := by unfold txtIf; rw [hS]
  have E1 := Lib.hid e1
  rw [e1]
  clear e1 hS
  have c3 := c2.trans (b3.mono c2.size)
  replace B1 := Lib.hid (B1.out.mono b3)
  obtain ⟨i0, i1, i2, -, -, -⟩ := blk3 B1.out.2
  have hst := run_store_float (P := Tryd.prog)
  go_wp2_with fail
  refine (toSection_any w3 _ F (k1.out.mono c3) hs1).mono ?_
  rintro e w4 ⟨x2, rfl, ox2, b4⟩
  have c4 := c3.trans (b4.mono c3.size)
  replace B1 := Lib.hid (B1.out.mono b4)
  have R1 := Lib.hid ox2
  obtain ⟨xa, xc, rfl⟩ := R1.out.opened
  clear ox2 i0 i1 i2
  have W1 : Below w4.heap.size w4 (w4.alloc (.cells #[.int .i64 F.w, .int .i64 F.d, .slice xa F.V.length xc] 35)) := (Below.refl _ _).alloc (Nat.le_refl _) _
  have X1 := Lib.hid (HB.new w4 (.cells #[.int .i64 F.w, .int .i64 F.d, .slice xa F.V.length xc] 35))
  replace R1 := Lib.hid (R1.out.mono W1)
  have c5 := c4.trans (W1.mono c4.size)
  replace B1 := Lib.hid (B1.out.mono W1)
  obtain ⟨j0, j1, j2, -, -, -⟩ := blk3 X1.out.2
  go_wp2_with fail
  generalize w4.alloc (.cells #[.int .i64 F.w, .int .i64 F.d, .slice xa F.V.length xc] 35) = w5 at *
  refine (implSectionText_any w5 _ F R1.out hs1 (HT.out.mono c5)).mono ?_
  rintro e w7 ⟨rfl, b7⟩
  rw [E1.out]
  have c8 := c5.trans (b7.mono c5.size)
  replace B1 := Lib.hid (B1.out.mono b7)
  replace X1 := Lib.hid (X1.out.mono b7)
  replace R1 := Lib.hid (R1.out.mono b7)
  clear j0 j1 j2 W1
  go_upto_region 10 with fail
  go_cut [39] (fun s39 wx => s39 = .bool false ∧ Below w7.heap.size w7 wx)
  case first =>
    obtain ⟨i0, i1, i2, -, -, -⟩ := blk3 B1.out.2
    obtain ⟨j0, j1, j2, -, -, -⟩ := blk3 X1.out.2
    have hg2 := X1.out.1
    go_region_with (first
      | (go_at_call 12; refine (toSection_any _ _ F (by exact RdS.mono k1.out (Below.curr c8 rfl rfl rfl rfl)) hs1).mono ?_; rintro e w8 ⟨x3, rfl, ox3, b8⟩
         replace j0 := (bcell b8).1 _ _ hg2 |>.trans j0; replace j1 := (bcell b8).1 _ _ hg2 |>.trans j1; replace j2 := (bcell b8).1 _ _ hg2 |>.trans j2
         have c9 : Below w7.heap.size w7 w8 := ⟨b8.os, b8.tape, b8.output, b8.size, b8.block⟩
         have r1 := R1.out.mono c9)
      | (go_at_call 14; refine (eqSection_any _ _ _ F (by exact RdS.mono r1 (Below.curr (Below.refl _ _) rfl rfl rfl rfl)) (by exact RdS.mono ox3 (Below.curr (Below.refl _ _) rfl rfl rfl rfl)) hs1).mono ?_; rintro e w9 ⟨rfl, b9⟩
         have c10 : Below w7.heap.size w7 w9 := c9.trans (Below.mono (B := w8.heap.size) ⟨b9.os, b9.tape, b9.output, b9.size, b9.block⟩ c9.size)))
    all_goals (go_wp2_with fail; go_meet; exact ⟨rfl, c10⟩)
  case rest =>
  obtain ⟨rfl, b9⟩ := hcut
  go_wp2
  go_ret
  exact TrueB.mk (c8.trans (b9.mono c8.size))
end Go.Proofs.YtmicghcgljldpaaDoor
