/- FnExactValidDesk: the walk of the law. -/
import Derived.Test.YtalajgjdceoleaaW31
import Derived.Test.YtalajgjdceoleaaTru
import Derived.Test.YtalajgjdceoleaaL4
import Derived.Test.YtalajgjdceoleaaL7
import Derived.Deep.CutRange
import Derived.Deep.DeepCutAuto
import Derived.Deep.RegionWith
namespace Go.Proofs.Ytalajgjdceoleaa
open Go Go.RowKit

set_option maxRecDepth 100000 in
set_option maxHeartbeats 4000000 in
theorem lawValidDesk_any (w : World) (u1 : Value) (F : KM) (h1 : RdK w u1 F) (m1 : F.G.n ≤ maxLen) (m2 : F.T.fits) :
    Calls Try.prog 6 #[u1] w (TrueB w) := by
  have k1 := Lib.hid h1
  obtain ⟨v, r, s, vp, vt, rfl, -, -⟩ := h1
  have hb0 : Below w.heap.size w (w.alloc (.cells #[v, .float .f32 r, .float .f32 s, .int .i64 F.T.t, vp, vt] 44)) := by (repeat (first | exact Below.refl _ _ | (refine Below.drewN ?_ _) | (refine Below.alloc ?_ (by first | exact Nat.le_refl _ | (simp; done) | (simp; omega)) _)))
  have B1 := Box6.of (alloc_new w (.cells #[v, .float .f32 r, .float .f32 s, .int .i64 F.T.t, vp, vt] 44))
  go_enter Try.func6, Try.ntmps6
  go_wp2_with fail
  refine (szDesk_any _ _ F _ (k1.out.mono hb0) (by decide) (by decide) m1 m2).mono ?_
  rintro e w1 ⟨q1, rfl, hq1, b1⟩
  have c1 := hb0.trans (b1.mono hb0.size)
  replace B1 := Lib.hid (B1.mono b1)
  rcases hq1 with rfl | ⟨p0, p1, hs1, ht1⟩
  · go_wp2
    go_ret
    exact TrueB.mk c1
  have hlt1 : ¬ (q1 < 0) := by omega
  clear hb0 b1
  obtain ⟨-, i0, i1, i2, i3, i4, i5⟩ := B1.out
  go_wp2_with fail
  refine (toDesk_any _ _ F (k1.out.mono c1) hs1 ht1).mono ?_
  rintro e w2 ⟨x1, rfl, ox1, b2⟩
  have c2 := c1.trans (b2.mono c1.size)
  replace B1 := Lib.hid (B1.out.mono b2)
  clear i0 i1 i2 i3 i4 i5
  go_wp2_with fail
  refine (specValidDesk_any w2 _ F ox1.rd hs1 ht1).mono ?_
  rintro e w3 ⟨rfl, b3⟩
  have c3 := c2.trans (b3.mono c2.size)
  replace B1 := Lib.hid (B1.out.mono b3)
  obtain ⟨-, i0, i1, i2, i3, i4, i5⟩ := B1.out
  have hst := run_store_float (P := Try.prog)
  go_wp2_with fail
  refine (toDesk_any _ _ F (k1.out.mono c3) hs1 ht1).mono ?_
  rintro e w4 ⟨x2, rfl, ox2, b4⟩
  have c4 := c3.trans (b4.mono c3.size)
  replace B1 := Lib.hid (B1.out.mono b4)
  have R1 := Lib.hid ox2.rd
  obtain ⟨xa, xc, xr, xs, xb, xd, xe, xf, rfl⟩ := R1.out.opened
  clear ox2 i0 i1 i2 i3 i4 i5
  have W1 : Below w4.heap.size w4 (w4.alloc (.cells #[.slice xa F.G.n xc, .float .f32 xr, .float .f32 xs, .int .i64 F.T.t, .slice xb F.T.P.length xd, .slice xe F.T.Ls.length xf] 34)) := (Below.refl _ _).alloc (Nat.le_refl _) _
  have X1 := Lib.hid (Box6.of (alloc_new w4 (.cells #[.slice xa F.G.n xc, .float .f32 xr, .float .f32 xs, .int .i64 F.T.t, .slice xb F.T.P.length xd, .slice xe F.T.Ls.length xf] 34)))
  replace R1 := Lib.hid (R1.out.mono W1)
  have c5 := c4.trans (W1.mono c4.size)
  replace B1 := Lib.hid (B1.out.mono W1)
  obtain ⟨-, j0, j1, j2, j3, j4, j5⟩ := X1.out
  go_wp2_with fail
  generalize w4.alloc (.cells #[.slice xa F.G.n xc, .float .f32 xr, .float .f32 xs, .int .i64 F.T.t, .slice xb F.T.P.length xd, .slice xe F.T.Ls.length xf] 34) = w5 at *
  refine (implValidDesk_any w5 _ F R1.out hs1 ht1).mono ?_
  rintro e w7 ⟨rfl, b7⟩
  have c8 := c5.trans (b7.mono c5.size)
  replace B1 := Lib.hid (B1.out.mono b7)
  replace X1 := Lib.hid (X1.out.mono b7)
  replace R1 := Lib.hid (R1.out.mono b7)
  clear j0 j1 j2 j3 j4 j5 W1
  go_upto_region 10 with fail
  go_cut [26] (fun s26 wx => s26 = .bool false ∧ Below w7.heap.size w7 wx)
  case first =>
    obtain ⟨-, i0, i1, i2, i3, i4, i5⟩ := B1.out
    obtain ⟨hg2, j0, j1, j2, j3, j4, j5⟩ := X1.out
    go_region_with (first
      | (go_at_call 16; refine (toDesk_any _ _ F (by exact RdK.mono k1.out (Below.cur c8 rfl rfl rfl rfl)) hs1 ht1).mono ?_; rintro e w8 ⟨x3, rfl, ox3, b8⟩
         replace j0 := (bcell b8).1 _ _ hg2 |>.trans j0; replace j1 := (bcell b8).1 _ _ hg2 |>.trans j1; replace j2 := (bcell b8).1 _ _ hg2 |>.trans j2; replace j3 := (bcell b8).1 _ _ hg2 |>.trans j3; replace j4 := (bcell b8).1 _ _ hg2 |>.trans j4; replace j5 := (bcell b8).1 _ _ hg2 |>.trans j5
         have c9 : Below w7.heap.size w7 w8 := ⟨b8.os, b8.tape, b8.output, b8.size, b8.block⟩
         have r1 := R1.out.mono c9)
      | (go_at_call 11; refine (eqDesk_any _ _ _ F (by exact RdK.mono r1 (Below.cur (Below.refl _ _) rfl rfl rfl rfl)) (by exact RdK.mono ox3.rd (Below.cur (Below.refl _ _) rfl rfl rfl rfl)) hs1 ht1).mono ?_; rintro e w9 ⟨rfl, b9⟩
         have c10 : Below w7.heap.size w7 w9 := c9.trans (Below.mono (B := w8.heap.size) ⟨b9.os, b9.tape, b9.output, b9.size, b9.block⟩ c9.size)))
    all_goals (go_wp2_with fail; go_meet; exact ⟨rfl, c10⟩)
  case rest =>
  obtain ⟨rfl, b9⟩ := hcut
  go_wp2
  go_ret
  exact TrueB.mk (c8.trans (b9.mono c8.size))
end Go.Proofs.Ytalajgjdceoleaa
