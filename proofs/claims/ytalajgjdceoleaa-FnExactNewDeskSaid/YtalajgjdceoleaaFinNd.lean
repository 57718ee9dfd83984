/- FnExactNewDesk: the walk of the law. -/
import Derived.Test.YtalajgjdceoleaaW25
import Derived.Test.YtalajgjdceoleaaTru
namespace Go.Proofs.Ytalajgjdceoleaa
open Go Go.RowKit

theorem newK_small : newK.G.small ∧ newK.T.small := by
  refine ⟨show 1 ≤ 1048576 by decide, show 1 ≤ 1048576 by decide, show 1 ≤ 1048576 by decide, fun j hj => ?_⟩
  obtain rfl : j = 0 := by simp [newK] at hj; omega
  decide

set_option maxRecDepth 100000 in
set_option maxHeartbeats 4000000 in
theorem lawNewDesk_any (w : World) :
    Calls Try.prog 4 #[] w (TrueB w) := by
  have hst := run_store_float (P := Try.prog)
  obtain ⟨hsG, hsT⟩ := newK_small
  go_enter Try.func4, Try.ntmps4
  go_wp2_with fail
  refine (specNewDesk_any w).mono ?_
  rintro e w1 ⟨u1, rfl, o1, b1⟩
  have O1 := Lib.hid o1
  obtain ⟨xa, xc, xr, xs, xb, xd, xe, xf, rfl⟩ := o1.rd.opened
  clear o1
  have B1 := Lib.hid (Box6.of (alloc_new w1 (.cells #[.slice xa newK.G.n xc, .float .f32 xr, .float .f32 xs, .int .i64 newK.T.t, .slice xb newK.T.P.length xd, .slice xe newK.T.Ls.length xf] 34)))
  have W1 : Below w1.heap.size w1 (w1.alloc (.cells #[.slice xa newK.G.n xc, .float .f32 xr, .float .f32 xs, .int .i64 newK.T.t, .slice xb newK.T.P.length xd, .slice xe newK.T.Ls.length xf] 34)) := (Below.refl _ _).alloc (Nat.le_refl _) _
  have hz1 : (w1.alloc (.cells #[.slice xa newK.G.n xc, .float .f32 xr, .float .f32 xs, .int .i64 newK.T.t, .slice xb newK.T.P.length xd, .slice xe newK.T.Ls.length xf] 34)).heap.size = w1.heap.size + 1 := World.size_alloc _ _
  replace O1 := Lib.hid (O1.out.kept W1)
  have c1 := b1.trans (W1.mono b1.size)
  go_wp2_with fail
  generalize w1.alloc (.cells #[.slice xa newK.G.n xc, .float .f32 xr, .float .f32 xs, .int .i64 newK.T.t, .slice xb newK.T.P.length xd, .slice xe newK.T.Ls.length xf] 34) = w2 at *
  refine (implNewDesk_any w2).mono ?_
  rintro e w3 ⟨u2, rfl, o2, b3⟩
  have O2 := Lib.hid o2
  obtain ⟨ya, yc, yr, ys, yb, yd, ye, yf, rfl⟩ := o2.rd.opened
  clear o2 W1
  have B2 := Lib.hid (Box6.of (alloc_new w3 (.cells #[.slice ya newK.G.n yc, .float .f32 yr, .float .f32 ys, .int .i64 newK.T.t, .slice yb newK.T.P.length yd, .slice ye newK.T.Ls.length yf] 34)))
  have W3 : Below w3.heap.size w3 (w3.alloc (.cells #[.slice ya newK.G.n yc, .float .f32 yr, .float .f32 ys, .int .i64 newK.T.t, .slice yb newK.T.P.length yd, .slice ye newK.T.Ls.length yf] 34)) := (Below.refl _ _).alloc (Nat.le_refl _) _
  have hz3 : (w3.alloc (.cells #[.slice ya newK.G.n yc, .float .f32 yr, .float .f32 ys, .int .i64 newK.T.t, .slice yb newK.T.P.length yd, .slice ye newK.T.Ls.length yf] 34)).heap.size = w3.heap.size + 1 := World.size_alloc _ _
  replace O1 := Lib.hid ((O1.out.kept b3).kept W3)
  replace O2 := Lib.hid (O2.out.kept W3)
  have c3 := (c1.trans (b3.mono c1.size))
  have c4 := c3.trans (W3.mono c3.size)
  replace B1 := Lib.hid ((B1.out.mono b3).mono W3)
  obtain ⟨-, i0, i1, i2, i3, i4, i5⟩ := B1.out
  obtain ⟨-, j0, j1, j2, j3, j4, j5⟩ := B2.out
  go_wp2_with fail
  generalize w3.alloc (.cells #[.slice ya newK.G.n yc, .float .f32 yr, .float .f32 ys, .int .i64 newK.T.t, .slice yb newK.T.P.length yd, .slice ye newK.T.Ls.length yf] 34) = w4 at *
  refine (eqDesk_any w4 _ _ newK O2.out.rd O1.out.rd hsG hsT).mono ?_
  rintro e w5 ⟨rfl, b5⟩
  have z1 := b1.size
  have z3 := b3.size
  have z5 := b5.size
  have c5 := c4.trans (b5.mono c4.size)
  replace O1 := Lib.hid (O1.out.kept b5)
  replace O2 := Lib.hid (O2.out.kept b5)
  replace B1 := Lib.hid (B1.out.mono b5)
  replace B2 := Lib.hid (B2.out.mono b5)
  clear i0 i1 i2 i3 i4 i5 j0 j1 j2 j3 j4 j5 W3
  obtain ⟨-, j0, j1, j2, j3, j4, j5⟩ := B2.out
  go_wp2_with fail
  refine (markDesk_any w5 _ _ newK 1 O2.out hsG hsT (by decide)).mono ?_
  rintro e w6 ⟨rfl, o6, g6⟩
  obtain ⟨N, hN⟩ : ∃ N : Nat, 1 + sizeK newK = N := ⟨_, rfl⟩
  rw [hN]
  have HN := Lib.hid hN
  clear hN
  have c6 := Below.chg c5 g6 (fun k hk => by have := hk.1; omega) c5.size
  replace O1 := Lib.hid (O1.out.chg g6 fun k hk e => by have := hk.2; have := e.1; omega)
  replace O2 := Lib.hid o6
  replace B1 := Lib.hid (B1.out.chg g6 (fun e => by have := e.1; omega))
  replace B2 := Lib.hid (B2.out.chg g6 (fun e => by have := e.2; omega))
  clear o6 j0 j1 j2 j3 j4 j5
  obtain ⟨-, j0, j1, j2, j3, j4, j5⟩ := B2.out
  go_wp2_with fail
  refine (heldDesk_any w6 _ newK 1 O2.out.rd hsG hsT (by decide)).mono ?_
  rintro e w7 ⟨rfl, b7⟩
  have c7 := c6.trans (b7.mono c6.size)
  replace O1 := Lib.hid (O1.out.kept b7)
  replace O2 := Lib.hid (O2.out.kept b7)
  replace B1 := Lib.hid (B1.out.mono b7)
  replace B2 := Lib.hid (B2.out.mono b7)
  clear j0 j1 j2 j3 j4 j5
  rw [HN.out]
  have hpos : ¬ ((N : Int) < 0) := by omega
  go_wp2_with fail
  refine (implNewDesk_any w7).mono ?_
  rintro e w8 ⟨u3, rfl, o3, b8⟩
  have O3 := Lib.hid o3
  obtain ⟨za, zc, zr, zs, zb, zd, ze, zf, rfl⟩ := o3.rd.opened
  clear o3
  have B3 := Lib.hid (Box6.of (alloc_new w8 (.cells #[.slice za newK.G.n zc, .float .f32 zr, .float .f32 zs, .int .i64 newK.T.t, .slice zb newK.T.P.length zd, .slice ze newK.T.Ls.length zf] 34)))
  have W8 : Below w8.heap.size w8 (w8.alloc (.cells #[.slice za newK.G.n zc, .float .f32 zr, .float .f32 zs, .int .i64 newK.T.t, .slice zb newK.T.P.length zd, .slice ze newK.T.Ls.length zf] 34)) := (Below.refl _ _).alloc (Nat.le_refl _) _
  replace O1 := Lib.hid ((O1.out.kept b8).kept W8)
  replace O2 := Lib.hid ((O2.out.kept b8).kept W8)
  replace O3 := Lib.hid (O3.out.kept W8)
  have c8 := (c7.trans (b8.mono c7.size))
  have c9 := c8.trans (W8.mono c8.size)
  replace B1 := Lib.hid ((B1.out.mono b8).mono W8)
  replace B2 := Lib.hid ((B2.out.mono b8).mono W8)
  obtain ⟨-, i0, i1, i2, i3, i4, i5⟩ := B1.out
  obtain ⟨-, j0, j1, j2, j3, j4, j5⟩ := B3.out
  go_wp2_with fail
  generalize w8.alloc (.cells #[.slice za newK.G.n zc, .float .f32 zr, .float .f32 zs, .int .i64 newK.T.t, .slice zb newK.T.P.length zd, .slice ze newK.T.Ls.length zf] 34) = w9 at *
  refine (eqDesk_any w9 _ _ newK O3.out.rd O1.out.rd hsG hsT).mono ?_
  rintro e w10 ⟨rfl, b10⟩
  have c10 := c9.trans (b10.mono c9.size)
  replace O2 := Lib.hid (O2.out.kept b10)
  replace B2 := Lib.hid (B2.out.mono b10)
  clear i0 i1 i2 i3 i4 i5 j0 j1 j2 j3 j4 j5 W8
  obtain ⟨-, j0, j1, j2, j3, j4, j5⟩ := B2.out
  go_wp2_with fail
  refine (heldDesk_any w10 _ newK 1 O2.out.rd hsG hsT (by decide)).mono ?_
  rintro e w11 ⟨rfl, b11⟩
  rw [HN.out]
  go_wp2
  go_ret
  exact TrueB.mk (c10.trans (b11.mono c10.size))
end Go.Proofs.Ytalajgjdceoleaa
