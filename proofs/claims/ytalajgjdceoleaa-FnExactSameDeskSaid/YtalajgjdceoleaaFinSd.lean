/- FnExactSameDesk: the walk of the law. -/
import Derived.Test.YtalajgjdceoleaaW24
import Derived.Test.YtalajgjdceoleaaL7
import Derived.Test.YtalajgjdceoleaaTru
import Derived.Deep.CutRange
import Derived.Deep.DeepCutAuto
import Derived.Deep.RegionWith
namespace Go.Proofs.Ytalajgjdceoleaa
open Go Go.RowKit

/-- A block of six cells. -/
def Box6 (w : World) (g : Nat) (a b c d e f : Value) : Prop := g < w.heap.size ∧ w.cell? ⟨g, 0, none⟩ = some a ∧ w.cell? ⟨g, 1, none⟩ = some b ∧ w.cell? ⟨g, 2, none⟩ = some c ∧ w.cell? ⟨g, 3, none⟩ = some d ∧ w.cell? ⟨g, 4, none⟩ = some e ∧ w.cell? ⟨g, 5, none⟩ = some f
theorem Box6.mono {w w' : World} {g : Nat} {a b c d e f : Value} (h : Box6 w g a b c d e f) (hb : Below w.heap.size w w') : Box6 w' g a b c d e f := by
  obtain ⟨hg, h0, h1, h2, h3, h4, h5⟩ := h
  have hs := hb.size
  exact ⟨by omega, by rw [(bcell hb).1 _ _ hg]; exact h0, by rw [(bcell hb).1 _ _ hg]; exact h1, by rw [(bcell hb).1 _ _ hg]; exact h2, by rw [(bcell hb).1 _ _ hg]; exact h3, by rw [(bcell hb).1 _ _ hg]; exact h4, by rw [(bcell hb).1 _ _ hg]; exact h5⟩
theorem Box6.of {w : World} {g : Nat} {t : TypeId} {a b c d e f : Value} (h : w.heap[g]? = some (.cells #[a, b, c, d, e, f] t (0, 0))) : Box6 w g a b c d e f := by
  obtain ⟨⟨h0, h1, h2, h3, h4, h5⟩, -⟩ := blk6 h
  exact ⟨by rw [Array.getElem?_eq_some_iff] at h; exact h.1, h0, h1, h2, h3, h4, h5⟩
theorem alloc_new (w : World) (o : Obj) : (w.alloc o).heap[w.heap.size]? = some o := (heap2 w o o).1 ▸ ((Below.heap_alloc (w.alloc o) o w.heap.size (by rw [World.size_alloc]; omega)).symm)
theorem Below.cur {B : Nat} {w w' w'' : World} (h : Below B w w') (e1 : w''.os = w'.os) (e2 : w''.tape = w'.tape) (e3 : w''.output = w'.output) (e4 : w''.heap = w'.heap) : Below B w w'' :=
  ⟨e1.trans h.os, e2.trans h.tape, e3.trans h.output, e4 ▸ h.size, fun k hk => by rw [e4]; exact h.block k hk⟩

theorem RdK.opened {w : World} {u : Value} {K : KM} (h : RdK w u K) : ∃ a c r s b d e f, u = .agg #[.slice a K.G.n c, .float .f32 r, .float .f32 s, .int .i64 K.T.t, .slice b K.T.P.length d, .slice e K.T.Ls.length f] := by
  obtain ⟨v, r, s, vp, vt, rfl, ⟨v1, r1, s1, hv1, hl, -, -⟩, ⟨v2, v3, hv2, hp, ht⟩⟩ := h
  simp only [Value.agg.injEq, Array.mk.injEq, List.cons.injEq, and_true] at hv1 hv2
  obtain ⟨rfl, -, -⟩ := hv1
  obtain ⟨-, rfl, rfl⟩ := hv2
  obtain ⟨a, c, rfl, -⟩ := hl.opened
  obtain ⟨b, d, rfl, -⟩ := hp.opened
  obtain ⟨e, f, rfl, -⟩ := ht.opened
  exact ⟨_, _, _, _, _, _, _, _, rfl⟩

set_option maxRecDepth 100000 in
set_option maxHeartbeats 4000000 in
theorem lawSameDesk_any (w : World) (u1 u2 : Value) (F G : KM) (h1 : RdK w u1 F) (h2 : RdK w u2 G) (m1 : F.G.n ≤ maxLen) (m2 : F.T.fits) (m3 : G.G.n ≤ maxLen) (m4 : G.T.fits) :
    Calls Try.prog 5 #[u1, u2] w (TrueB w) := by
  have k1 := Lib.hid h1
  have k2 := Lib.hid h2
  obtain ⟨v, r, s, vp, vt, rfl, -, -⟩ := h1
  obtain ⟨v', r', s', vp', vt', rfl, -, -⟩ := h2
  have hb0 : Below w.heap.size w ((w.alloc (.cells #[v, .float .f32 r, .float .f32 s, .int .i64 F.T.t, vp, vt] 44)).alloc (.cells #[v', .float .f32 r', .float .f32 s', .int .i64 G.T.t, vp', vt'] 44)) := by (repeat (first | exact Below.refl _ _ | (refine Below.drewN ?_ _) | (refine Below.alloc ?_ (by first | exact Nat.le_refl _ | (simp; done) | (simp; omega)) _)))
  have hh := heap2 w (.cells #[v, .float .f32 r, .float .f32 s, .int .i64 F.T.t, vp, vt] 44) (.cells #[v', .float .f32 r', .float .f32 s', .int .i64 G.T.t, vp', vt'] 44)
  have B1 := Box6.of hh.1
  have B2 := Box6.of hh.2
  go_enter Try.func5, Try.ntmps5
  go_wp2_with fail
  refine (szDesk_any _ _ F _ (k1.out.mono hb0) (by decide) (by decide) m1 m2).mono ?_
  rintro e w1 ⟨q1, rfl, hq1, b1⟩
  have c1 := hb0.trans (b1.mono hb0.size)
  have B1' := Lib.hid (B1.mono b1)
  have B2' := Lib.hid (B2.mono b1)
  clear B1 B2 hh
  rcases hq1 with rfl | ⟨p0, p1, hs1, ht1⟩
  · go_wp2
    go_ret
    exact TrueB.mk c1
  have hlt1 : ¬ (q1 < 0) := by omega
  obtain ⟨-, i0, i1, i2, i3, i4, i5⟩ := B2'.out
  go_wp2_with fail
  refine (szDesk_any _ _ G _ (k2.out.mono c1) p0 p1 m3 m4).mono ?_
  rintro e w2 ⟨q2, rfl, hq2, b2⟩
  have c2 := c1.trans (b2.mono c1.size)
  have B1 := Lib.hid (B1'.out.mono b2)
  have B2 := Lib.hid (B2'.out.mono b2)
  clear B1' B2' i0 i1 i2 i3 i4 i5
  rcases hq2 with rfl | ⟨p2, p3, hs2, ht2⟩
  · go_wp2
    go_ret
    exact TrueB.mk c2
  have hlt2 : ¬ (q2 < 0) := by omega
  clear hb0 b1 b2
  go_upto_region 8 with fail
  go_cut [6] (fun s6 wx => s6 = .bool (sameK F G) ∧ Below w2.heap.size w2 wx)
  case first =>
    obtain ⟨hg1, i0, i1, i2, i3, i4, i5⟩ := B1.out
    obtain ⟨hg2, j0, j1, j2, j3, j4, j5⟩ := B2.out
    go_region_with (first
      | (go_at_call 16; refine (toDesk_any _ _ F (by exact RdK.mono k1.out (Below.cur c2 rfl rfl rfl rfl)) hs1 ht1).mono ?_; rintro e w3 ⟨x1, rfl, ox1, b3⟩
         replace j0 := (bcell b3).1 _ _ hg2 |>.trans j0; replace j1 := (bcell b3).1 _ _ hg2 |>.trans j1; replace j2 := (bcell b3).1 _ _ hg2 |>.trans j2; replace j3 := (bcell b3).1 _ _ hg2 |>.trans j3; replace j4 := (bcell b3).1 _ _ hg2 |>.trans j4; replace j5 := (bcell b3).1 _ _ hg2 |>.trans j5
         have c3 : Below w2.heap.size w2 w3 := ⟨b3.os, b3.tape, b3.output, b3.size, b3.block⟩
         have d3 := c2.trans (c3.mono c2.size))
      | (go_at_call 16; refine (toDesk_any _ _ G (by exact RdK.mono k2.out (Below.cur d3 rfl rfl rfl rfl)) hs2 ht2).mono ?_; rintro e w4 ⟨x2, rfl, ox2, b4⟩
         have b4' : Below w3.heap.size w3 w4 := ⟨b4.os, b4.tape, b4.output, b4.size, b4.block⟩
         have r1 := ox1.rd.mono b4'
         have c4 := c3.trans (b4'.mono c3.size))
      | (go_at_call 15; refine (specSameDesk_any _ _ _ F G (by exact RdK.mono r1 (Below.cur (Below.refl _ _) rfl rfl rfl rfl)) (by exact RdK.mono ox2.rd (Below.cur (Below.refl _ _) rfl rfl rfl rfl)) hs1 hs2 ht1 ht2).mono ?_; rintro e w5 ⟨rfl, b5⟩
         have c5 : Below w2.heap.size w2 w5 := c4.trans (Below.mono (B := w4.heap.size) ⟨b5.os, b5.tape, b5.output, b5.size, b5.block⟩ c4.size)))
    all_goals (go_wp2_with fail; go_meet; exact ⟨rfl, c5⟩)
  case rest =>
  obtain ⟨rfl, b3⟩ := hcut
  have c3 := c2.trans (b3.mono c2.size)
  have B1' := Lib.hid (B1.out.mono b3)
  have B2' := Lib.hid (B2.out.mono b3)
  clear B1 B2 b3
  have hst := run_store_float (P := Try.prog)
  obtain ⟨hg1, i0, i1, i2, i3, i4, i5⟩ := B1'.out
  go_wp2_with fail
  refine (toDesk_any _ _ F (k1.out.mono c3) hs1 ht1).mono ?_
  rintro e w3 ⟨x1, rfl, ox1, b3⟩
  have c4 := c3.trans (b3.mono c3.size)
  have B1 := Lib.hid (B1'.out.mono b3)
  have B2 := Lib.hid (B2'.out.mono b3)
  clear B1' B2' i0 i1 i2 i3 i4 i5
  have R1 := Lib.hid ox1.rd
  obtain ⟨xa, xc, xr, xs, xb, xd, xe, xf, rfl⟩ := R1.out.opened
  clear ox1
  have W1 : Below w3.heap.size w3 (w3.alloc (.cells #[.slice xa F.G.n xc, .float .f32 xr, .float .f32 xs, .int .i64 F.T.t, .slice xb F.T.P.length xd, .slice xe F.T.Ls.length xf] 34)) := (Below.refl _ _).alloc (Nat.le_refl _) _
  have X1 := Box6.of (alloc_new w3 (.cells #[.slice xa F.G.n xc, .float .f32 xr, .float .f32 xs, .int .i64 F.T.t, .slice xb F.T.P.length xd, .slice xe F.T.Ls.length xf] 34))
  replace R1 := Lib.hid (R1.out.mono W1)
  have c5 := c4.trans (W1.mono c4.size)
  replace B1 := Lib.hid (B1.out.mono W1)
  replace B2 := Lib.hid (B2.out.mono W1)
  replace X1 := Lib.hid X1
  obtain ⟨-, j0, j1, j2, j3, j4, j5⟩ := B2.out
  go_wp2_with fail
  generalize w3.alloc (.cells #[.slice xa F.G.n xc, .float .f32 xr, .float .f32 xs, .int .i64 F.T.t, .slice xb F.T.P.length xd, .slice xe F.T.Ls.length xf] 34) = w4 at *
  refine (toDesk_any _ _ G (k2.out.mono c5) hs2 ht2).mono ?_
  rintro e w5 ⟨x2, rfl, ox2, b5⟩
  have c6 := c5.trans (b5.mono c5.size)
  replace B1 := Lib.hid (B1.out.mono b5)
  replace B2 := Lib.hid (B2.out.mono b5)
  replace X1 := Lib.hid (X1.out.mono b5)
  replace R1 := Lib.hid (R1.out.mono b5)
  have R2 := Lib.hid ox2.rd
  obtain ⟨ya, yc, yr, ys, yb, yd, ye, yf, rfl⟩ := R2.out.opened
  clear ox2 j0 j1 j2 j3 j4 j5
  have W2 : Below w5.heap.size w5 (w5.alloc (.cells #[.slice ya G.G.n yc, .float .f32 yr, .float .f32 ys, .int .i64 G.T.t, .slice yb G.T.P.length yd, .slice ye G.T.Ls.length yf] 34)) := (Below.refl _ _).alloc (Nat.le_refl _) _
  have X2 := Lib.hid (Box6.of (alloc_new w5 (.cells #[.slice ya G.G.n yc, .float .f32 yr, .float .f32 ys, .int .i64 G.T.t, .slice yb G.T.P.length yd, .slice ye G.T.Ls.length yf] 34)))
  replace R1 := Lib.hid (R1.out.mono W2)
  replace R2 := Lib.hid (R2.out.mono W2)
  have c7 := c6.trans (W2.mono c6.size)
  replace B1 := Lib.hid (B1.out.mono W2)
  replace B2 := Lib.hid (B2.out.mono W2)
  replace X1 := Lib.hid (X1.out.mono W2)
  obtain ⟨-, i0, i1, i2, i3, i4, i5⟩ := X1.out
  obtain ⟨-, j0, j1, j2, j3, j4, j5⟩ := X2.out
  go_wp2_with fail
  generalize w5.alloc (.cells #[.slice ya G.G.n yc, .float .f32 yr, .float .f32 ys, .int .i64 G.T.t, .slice yb G.T.P.length yd, .slice ye G.T.Ls.length yf] 34) = w6 at *
  refine (implSameDesk_any w6 _ _ F G R1.out R2.out hs1 hs2 ht1 ht2).mono ?_
  rintro e w7 ⟨rfl, b7⟩
  have c8 := c7.trans (b7.mono c7.size)
  replace B1 := Lib.hid (B1.out.mono b7)
  replace B2 := Lib.hid (B2.out.mono b7)
  replace X1 := Lib.hid (X1.out.mono b7)
  replace X2 := Lib.hid (X2.out.mono b7)
  replace R1 := Lib.hid (R1.out.mono b7)
  replace R2 := Lib.hid (R2.out.mono b7)
  clear i0 i1 i2 i3 i4 i5 j0 j1 j2 j3 j4 j5 W1 W2
  go_upto_region 14 with fail
  go_cut [39] (fun s39 wx => s39 = .bool false ∧ Below w7.heap.size w7 wx)
  case first =>
    obtain ⟨-, i0, i1, i2, i3, i4, i5⟩ := B1.out
    obtain ⟨hg2, j0, j1, j2, j3, j4, j5⟩ := X1.out
    go_region_with (first
      | (go_at_call 16; refine (toDesk_any _ _ F (by exact RdK.mono k1.out (Below.cur c8 rfl rfl rfl rfl)) hs1 ht1).mono ?_; rintro e w8 ⟨x3, rfl, ox3, b8⟩
         replace j0 := (bcell b8).1 _ _ hg2 |>.trans j0; replace j1 := (bcell b8).1 _ _ hg2 |>.trans j1; replace j2 := (bcell b8).1 _ _ hg2 |>.trans j2; replace j3 := (bcell b8).1 _ _ hg2 |>.trans j3; replace j4 := (bcell b8).1 _ _ hg2 |>.trans j4; replace j5 := (bcell b8).1 _ _ hg2 |>.trans j5
         have c9 : Below w7.heap.size w7 w8 := ⟨b8.os, b8.tape, b8.output, b8.size, b8.block⟩
         have r1 := R1.out.mono c9)
      | (go_at_call 11; refine (eqDesk_any _ _ _ F (by exact RdK.mono r1 (Below.cur (Below.refl _ _) rfl rfl rfl rfl)) (by exact RdK.mono ox3.rd (Below.cur (Below.refl _ _) rfl rfl rfl rfl)) hs1 ht1).mono ?_; rintro e w9 ⟨rfl, b9⟩
         have c10 : Below w7.heap.size w7 w9 := c9.trans (Below.mono (B := w8.heap.size) ⟨b9.os, b9.tape, b9.output, b9.size, b9.block⟩ c9.size)))
    all_goals (go_wp2_with fail; go_meet; exact ⟨rfl, c10⟩)
  case rest =>
  obtain ⟨rfl, b8⟩ := hcut
  obtain ⟨w8, rfl⟩ : ∃ x : World, x = wc := ⟨_, rfl⟩
  have c9 := c8.trans (b8.mono c8.size)
  replace B2 := Lib.hid (B2.out.mono b8)
  replace X2 := Lib.hid (X2.out.mono b8)
  replace R2 := Lib.hid (R2.out.mono b8)
  clear B1 X1 R1
  go_upto_region 16 with fail
  go_cut [44] (fun s44 wx => s44 = .bool false ∧ Below w8.heap.size w8 wx)
  case first =>
    obtain ⟨-, i0, i1, i2, i3, i4, i5⟩ := B2.out
    obtain ⟨hg2, j0, j1, j2, j3, j4, j5⟩ := X2.out
    go_region_with (first
      | (go_at_call 16; refine (toDesk_any _ _ G (by exact RdK.mono k2.out (Below.cur c9 rfl rfl rfl rfl)) hs2 ht2).mono ?_; rintro e w10 ⟨x3, rfl, ox3, b9⟩
         replace j0 := (bcell b9).1 _ _ hg2 |>.trans j0; replace j1 := (bcell b9).1 _ _ hg2 |>.trans j1; replace j2 := (bcell b9).1 _ _ hg2 |>.trans j2; replace j3 := (bcell b9).1 _ _ hg2 |>.trans j3; replace j4 := (bcell b9).1 _ _ hg2 |>.trans j4; replace j5 := (bcell b9).1 _ _ hg2 |>.trans j5
         have c10 : Below w8.heap.size w8 w10 := ⟨b9.os, b9.tape, b9.output, b9.size, b9.block⟩
         have r1 := R2.out.mono c10)
      | (go_at_call 11; refine (eqDesk_any _ _ _ G (by exact RdK.mono r1 (Below.cur (Below.refl _ _) rfl rfl rfl rfl)) (by exact RdK.mono ox3.rd (Below.cur (Below.refl _ _) rfl rfl rfl rfl)) hs2 ht2).mono ?_; rintro e w11 ⟨rfl, b10⟩
         have c11 : Below w8.heap.size w8 w11 := c10.trans (Below.mono (B := w10.heap.size) ⟨b10.os, b10.tape, b10.output, b10.size, b10.block⟩ c10.size)))
    all_goals (go_wp2_with fail; go_meet; exact ⟨rfl, c11⟩)
  case rest =>
  obtain ⟨rfl, b9⟩ := hcut
  go_wp2
  go_ret
  exact TrueB.mk (c9.trans (b9.mono c9.size))
end Go.Proofs.Ytalajgjdceoleaa
