/- FnExactGapsOf: the walk of the law. -/
import Derived.Test.YtpijiidbjcbdhaaGapI
import Derived.Test.YtpijiidbjcbdhaaIi
import Derived.Test.YtpijiidbjcbdhaaMkI
import Derived.Test.YtpijiidbjcbdhaaFrM
import Derived.Test.YtpijiidbjcbdhaaFrE
import Derived.Test.YtpijiidbjcbdhaaTru
namespace Go.Proofs.Ytpijiidbjcbdhaa
open Go Go.RowKit

theorem OwnFr.kept {w w' : World} {S : Nat → Prop} {v : Value} {Fs : List FM} (h : OwnFr w S v Fs) (hb : Below w.heap.size w w') : OwnFr w' S v Fs := OwnC.kept h hb

set_option maxRecDepth 100000 in
set_option maxHeartbeats 4000000 in
theorem lawGapsOf_any (w : World) (v : Value) (Fs : List FM) (s0 : Int) (h : RdFr w v Fs) (hn : Fs.length ≤ maxLen) (hm : ∀ j, j < Fs.length → (frAt Fs j).L.length ≤ maxLen) :
    Calls Try.prog 4 #[v, .int .i64 s0] w (TrueB w) := by
  have HZ := Lib.hid (szFrameS_any w v Fs 1048576 h (by decide) (by decide) hn hm)
  have HR := Lib.hid h
  obtain ⟨a, c, rfl, -⟩ := h.opened
  clear h hn hm
  go_enter Try.func4, Try.ntmps4
  go_wp2_with fail
  refine HZ.out.mono ?_
  clear HZ
  rintro e w1 ⟨m, rfl, hm, b1⟩
  have HM := Lib.hid hm
  by_cases hlt : m < 0
  · clear hm
    go_wp2
    go_ret
    exact TrueB.mk b1
  · have hs : Fsmall Fs := by
      rcases HM.out with h | h
      · omega
      · exact h.2.2
    clear hm HM
    have HS := Lib.hid hs
    clear hs
    have c1 := b1
    have z1 := b1.size
    go_wp2_with fail
    refine (toFrameS_any w1 _ Fs (HR.out.mono c1) HS.out).mono ?_
    rintro e w2 ⟨va, rfl, oa, b2⟩
    have z2 := b2.size
    have c2 := c1.trans (b2.mono c1.size)
    have Oa := Lib.hid oa
    obtain ⟨aa, ca, rfl, -⟩ := oa.rd.opened
    clear oa
    go_wp2_with fail
    refine (specGaps_any w2 _ Fs s0 Oa.out.rd HS.out).mono ?_
    rintro e w3 ⟨⟨vw0, rfl, ow0⟩, b3⟩
    have z3 := b3.size
    have c3 := c2.trans (b3.mono c2.size)
    obtain ⟨L0, hL0⟩ : ∃ L, gapL' Fs s0 = L := ⟨_, rfl⟩
    have hLen0 : L0.length ≤ 1048576 := by rw [← hL0]; exact (Nat.le_trans (gapL'_small Fs s0).1 (by decide))
    rw [hL0] at ow0
    have HL0 := Lib.hid hL0
    clear hL0
    have hRow : ∀ j, j < L0.length → (rowI L0 j).length ≤ 1048576 := by rw [← HL0.out]; exact fun j hj => Nat.le_trans ((gapL'_small Fs s0).2 j hj) (by decide)
    obtain ⟨ok, hok⟩ : ∃ b, gapOk Fs s0 = b := ⟨_, rfl⟩
    rw [hok]
    have HK := Lib.hid hok
    clear hok
    have Ow0 := Lib.hid ow0
    clear ow0
    clear Oa
    go_wp2_with fail
    refine (toFrameS_any w3 _ Fs (HR.out.mono c3) HS.out).mono ?_
    rintro e w4 ⟨vx, rfl, ox, b4⟩
    have z4 := b4.size
    have c4 := c3.trans (b4.mono c3.size)
    have Ox := Lib.hid ox
    obtain ⟨ax, cx, rfl, -⟩ := ox.rd.opened
    clear ox
    replace Ow0 := Lib.hid (Ow0.out.kept b4)
    go_wp2_with fail
    refine (implGaps_any w4 _ Fs s0 Ox.out.rd HS.out).mono ?_
    rintro e w5 ⟨⟨vg0, rfl, og0⟩, b5⟩
    have z5 := b5.size
    have c5 := c4.trans (b5.mono c4.size)
    rw [HL0.out] at og0
    rw [HK.out]
    replace Ow0 := Lib.hid (Ow0.out.kept b5)
    replace Ox := Lib.hid (Ox.out.kept b5)
    have Og0 := Lib.hid og0
    clear og0
    go_wp2_with fail
    refine (eqInt64SS_any w5 _ _ L0 Og0.out.rd Ow0.out.rd hLen0 hRow).mono ?_
    rintro e w6 ⟨rfl, n6, hw6⟩
    have b6 : Below w5.heap.size w5 w6 := by rw [hw6]; exact Below.drewN (Below.refl _ _) _
    clear hw6
    have z6 := b6.size
    have c6 := c5.trans (b6.mono c5.size)
    replace Ow0 := Lib.hid (Ow0.out.kept b6)
    replace Ox := Lib.hid (Ox.out.kept b6)
    replace Og0 := Lib.hid (Og0.out.kept b6)
    go_wp2_with fail
    refine (toFrameS_any w6 _ Fs (HR.out.mono c6) HS.out).mono ?_
    rintro e w7 ⟨vb, rfl, ob, b7⟩
    have z7 := b7.size
    have c7 := c6.trans (b7.mono c6.size)
    have Ob := Lib.hid ob
    obtain ⟨ab, cb, rfl, -⟩ := ob.rd.opened
    clear ob
    replace Ow0 := Lib.hid (Ow0.out.kept b7)
    replace Ox := Lib.hid (Ox.out.kept b7)
    replace Og0 := Lib.hid (Og0.out.kept b7)
    go_wp2_with fail
    refine (eqFrameS_any w7 _ _ Fs Ox.out.rd Ob.out.rd HS.out).mono ?_
    rintro e w8 ⟨rfl, b8⟩
    have z8 := b8.size
    have c8 := c7.trans (b8.mono c7.size)
    clear Ob
    replace Ow0 := Lib.hid (Ow0.out.kept b8)
    replace Ox := Lib.hid (Ox.out.kept b8)
    replace Og0 := Lib.hid (Og0.out.kept b8)
    go_wp2_with fail
    refine (markFrameS_any w8 _ _ 1 Fs Ox.out HS.out (by decide)).mono ?_
    rintro e w9 ⟨rfl, -, g9⟩
    have z9 := g9.size
    have c9 := Below.chg c8 g9 (fun k hk => by have := hk.1; omega) c8.size
    obtain ⟨N, hN⟩ : ∃ N : Nat, 1 + cntF Fs Fs.length = N := ⟨_, rfl⟩
    rw [hN]
    clear hN Ox
    replace Ow0 := Lib.hid (Ow0.out.chg g9 fun k hk e => by have := hk.2; have := e.1; omega)
    replace Og0 := Lib.hid (Og0.out.chg g9 fun k hk e => by have := hk.1; have := e.2; omega)
    have hpos : ¬ ((N : Int) < 0) := by omega
    go_wp2_with fail
    refine (eqInt64SS_any w9 _ _ L0 Og0.out.rd Ow0.out.rd hLen0 hRow).mono ?_
    rintro e w10 ⟨rfl, n10, hw10⟩
    have b10 : Below w9.heap.size w9 w10 := by rw [hw10]; exact Below.drewN (Below.refl _ _) _
    clear hw10
    have z10 := b10.size
    have c10 := c9.trans (b10.mono c9.size)
    replace Ow0 := Lib.hid (Ow0.out.kept b10)
    replace Og0 := Lib.hid (Og0.out.kept b10)
    have hL12 : L0.length ≤ 12 := by rw [← HL0.out]; exact (gapL'_small Fs s0).1
    go_wp2_with fail
    refine (markInt64SS_any w10 _ _ 1 L0 Og0.out hLen0 hRow (by omega)).mono ?_
    rintro e w11 ⟨rfl, o11, h11⟩
    have z11 := h11.size
    have c11 := Below.chg c10 h11 (fun k hk => by have := hk.1; omega) c10.size
    replace Ow0 := Lib.hid (Ow0.out.chg h11 fun k hk e => by have := hk.2; have := e.1; omega)
    replace Og0 := Lib.hid o11
    clear o11 h11
    obtain ⟨M0, hM0⟩ : ∃ M : Nat, 1 + cntI L0 L0.length = M := ⟨_, rfl⟩
    rw [hM0]
    have HM0 := Lib.hid hM0
    clear hM0
    go_wp2_with fail
    refine (heldInt64SS_any w11 _ 1 L0 Og0.out.rd hLen0 hRow (by omega)).mono ?_
    rintro e w12 ⟨rfl, hw12⟩
    subst hw12
    rw [HM0.out]
    have c12 := c11
    have z12 : w12.heap.size ≤ w12.heap.size := Nat.le_refl _
    have hposM0 : ¬ ((M0 : Int) < 0) := by omega
    go_wp2_with fail
    refine (toFrameS_any w12 _ Fs (HR.out.mono c12) HS.out).mono ?_
    rintro e w13 ⟨vc, rfl, oc, b13⟩
    have z13 := b13.size
    have c13 := c12.trans (b13.mono c12.size)
    have Oc := Lib.hid oc
    obtain ⟨ac, cc, rfl, -⟩ := oc.rd.opened
    clear oc
    replace Ow0 := Lib.hid (Ow0.out.kept b13)
    replace Og0 := Lib.hid (Og0.out.kept b13)
    go_wp2_with fail
    refine (implGaps_any w13 _ Fs s0 Oc.out.rd HS.out).mono ?_
    rintro e w14 ⟨⟨vh0, rfl, oh0⟩, b14⟩
    have z14 := b14.size
    have c14 := c13.trans (b14.mono c13.size)
    rw [HL0.out] at oh0
    rw [HK.out]
    replace Ow0 := Lib.hid (Ow0.out.kept b14)
    replace Og0 := Lib.hid (Og0.out.kept b14)
    have Oh0 := Lib.hid oh0
    clear oh0
    clear Oc
    go_wp2_with fail
    refine (eqInt64SS_any w14 _ _ L0 Oh0.out.rd Ow0.out.rd hLen0 hRow).mono ?_
    rintro e w15 ⟨rfl, n15, hw15⟩
    have b15 : Below w14.heap.size w14 w15 := by rw [hw15]; exact Below.drewN (Below.refl _ _) _
    clear hw15
    have z15 := b15.size
    have c15 := c14.trans (b15.mono c14.size)
    replace Ow0 := Lib.hid (Ow0.out.kept b15)
    replace Og0 := Lib.hid (Og0.out.kept b15)
    replace Oh0 := Lib.hid (Oh0.out.kept b15)
    clear Oh0 Ow0
    go_wp2_with fail
    refine (heldInt64SS_any w15 _ 1 L0 Og0.out.rd hLen0 hRow (by omega)).mono ?_
    rintro e w16 ⟨rfl, hw16⟩
    subst hw16
    rw [HM0.out]
    have c16 := c15
    have z16 : w16.heap.size ≤ w16.heap.size := Nat.le_refl _
    have hposM0 : ¬ ((M0 : Int) < 0) := by omega
    go_wp2
    go_ret
    exact TrueB.mk c16
end Go.Proofs.Ytpijiidbjcbdhaa
