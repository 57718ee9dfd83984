/- FnExactSumStations: the walk of the law. -/
import Derived.Test.YtpijiidbjcbdhaaSumI
import Derived.Test.YtpijiidbjcbdhaaMkI
import Derived.Test.YtpijiidbjcbdhaaFrM
import Derived.Test.YtpijiidbjcbdhaaFrE
import Derived.Test.YtpijiidbjcbdhaaTru
namespace Go.Proofs.Ytpijiidbjcbdhaa
open Go Go.RowKit

theorem OwnFr.kept {w w' : World} {S : Nat → Prop} {v : Value} {Fs : List FM} (h : OwnFr w S v Fs) (hb : Below w.heap.size w w') : OwnFr w' S v Fs := OwnC.kept h hb

set_option maxRecDepth 100000 in
set_option maxHeartbeats 4000000 in
theorem lawSumStations_any (w : World) (v : Value) (Fs : List FM) (s0 s1 : Int) (h : RdFr w v Fs) (hn : Fs.length ≤ maxLen) (hm : ∀ j, j < Fs.length → (frAt Fs j).L.length ≤ maxLen) :
    Calls Try.prog 6 #[v, .int .i64 s0, .int .i64 s1] w (TrueB w) := by
  have HZ := Lib.hid (szFrameS_any w v Fs 1048576 h (by decide) (by decide) hn hm)
  have HR := Lib.hid h
  obtain ⟨a, c, rfl, -⟩ := h.opened
  clear h hn hm
  go_enter Try.func6, Try.ntmps6
  go_wp2_with fail
  refine HZ.out.mono ?_
  clear HZ
  rintro e w1 ⟨m, rfl, hm, b1⟩
  have HM := Lib.hid hm
  by_cases hlt : m < 0
  · clear hm
    go_wp2
    go_ret
    exact TrueB.mk b1
  · have hs : Fsmall Fs := by
      rcases HM.out with h | h
      · omega
      · exact h.2.2
    clear hm HM
    have HS := Lib.hid hs
    clear hs
    have c1 := b1
    have z1 := b1.size
    go_wp2_with fail
    refine (toFrameS_any w1 _ Fs (HR.out.mono c1) HS.out).mono ?_
    rintro e w2 ⟨va, rfl, oa, b2⟩
    have z2 := b2.size
    have c2 := c1.trans (b2.mono c1.size)
    have Oa := Lib.hid oa
    obtain ⟨aa, ca, rfl, -⟩ := oa.rd.opened
    clear oa
    go_wp2_with fail
    refine (specSum_any w2 _ Fs s0 s1 Oa.out.rd HS.out).mono ?_
    rintro e w3 ⟨⟨vw0, vw1, rfl, ow0, ow1⟩, b3⟩
    have z3 := b3.size
    have c3 := c2.trans (b3.mono c2.size)
    obtain ⟨L0, hL0⟩ : ∃ L, sumN' Fs s0 s1 = L := ⟨_, rfl⟩
    have hLen0 : L0.length ≤ 1048576 := by rw [← hL0]; exact (by have := sumN'_length Fs s0 s1; omega)
    rw [hL0] at ow0
    have HL0 := Lib.hid hL0
    clear hL0
    have bw0 : ∀ k, vw0.ownBlock = some k → k < w3.heap.size := fun k hk => (ow0.lt hk).2
    obtain ⟨L1, hL1⟩ : ∃ L, sumC' Fs s0 s1 = L := ⟨_, rfl⟩
    have hLen1 : L1.length ≤ 1048576 := by rw [← hL1]; exact (by have := sumN'_length Fs s0 s1; have := sumC'_length Fs s0 s1; omega)
    rw [hL1] at ow1
    have HL1 := Lib.hid hL1
    clear hL1
    have bw1 : ∀ k, vw1.ownBlock = some k → k < w3.heap.size := fun k hk => (ow1.lt hk).2
    obtain ⟨ok, hok⟩ : ∃ b, sumOk Fs s0 s1 = b := ⟨_, rfl⟩
    rw [hok]
    have HK := Lib.hid hok
    clear hok
    have Ow0 := Lib.hid ow0
    clear ow0
    have Ow1 := Lib.hid ow1
    clear ow1
    clear Oa
    go_wp2_with fail
    refine (toFrameS_any w3 _ Fs (HR.out.mono c3) HS.out).mono ?_
    rintro e w4 ⟨vx, rfl, ox, b4⟩
    have z4 := b4.size
    have c4 := c3.trans (b4.mono c3.size)
    have Ox := Lib.hid ox
    obtain ⟨ax, cx, rfl, -⟩ := ox.rd.opened
    clear ox
    replace Ow0 := Lib.hid (Ow0.out.kept b4)
    replace Ow1 := Lib.hid (Ow1.out.kept b4)
    go_wp2_with fail
    refine (implSum_any w4 _ Fs s0 s1 Ox.out.rd HS.out).mono ?_
    rintro e w5 ⟨⟨vg0, vg1, rfl, og0, og1⟩, b5⟩
    have z5 := b5.size
    have c5 := c4.trans (b5.mono c4.size)
    rw [HL0.out] at og0
    rw [HL1.out] at og1
    rw [HK.out]
    replace Ow0 := Lib.hid (Ow0.out.kept b5)
    replace Ow1 := Lib.hid (Ow1.out.kept b5)
    replace Ox := Lib.hid (Ox.out.kept b5)
    have Og0 := Lib.hid og0
    clear og0
    have Og1 := Lib.hid og1
    clear og1
    go_wp2_with fail
    refine (eqFloat32S_any w5 _ _ L0 Og0.out.rd Ow0.out.rd hLen0).mono ?_
    rintro e w6 ⟨rfl, n6, hw6⟩
    have b6 : Below w5.heap.size w5 w6 := by rw [hw6]; exact Below.drewN (Below.refl _ _) _
    clear hw6
    have z6 := b6.size
    have c6 := c5.trans (b6.mono c5.size)
    replace Ow0 := Lib.hid (Ow0.out.kept b6)
    replace Ow1 := Lib.hid (Ow1.out.kept b6)
    replace Ox := Lib.hid (Ox.out.kept b6)
    replace Og0 := Lib.hid (Og0.out.kept b6)
    replace Og1 := Lib.hid (Og1.out.kept b6)
    go_wp2_with fail
    refine (eqInt64S_any w6 _ _ L1 (OwnI.rd Og1.out) (OwnI.rd Ow1.out) hLen1).mono ?_
    rintro e w7 ⟨rfl, n7, hw7⟩
    have b7 : Below w6.heap.size w6 w7 := by rw [hw7]; exact Below.drewN (Below.refl _ _) _
    clear hw7
    have z7 := b7.size
    have c7 := c6.trans (b7.mono c6.size)
    replace Ow0 := Lib.hid (Ow0.out.kept b7)
    replace Ow1 := Lib.hid (Ow1.out.kept b7)
    replace Ox := Lib.hid (Ox.out.kept b7)
    replace Og0 := Lib.hid (Og0.out.kept b7)
    replace Og1 := Lib.hid (Og1.out.kept b7)
    go_wp2_with fail
    refine (toFrameS_any w7 _ Fs (HR.out.mono c7) HS.out).mono ?_
    rintro e w8 ⟨vb, rfl, ob, b8⟩
    have z8 := b8.size
    have c8 := c7.trans (b8.mono c7.size)
    have Ob := Lib.hid ob
    obtain ⟨ab, cb, rfl, -⟩ := ob.rd.opened
    clear ob
    replace Ow0 := Lib.hid (Ow0.out.kept b8)
    replace Ow1 := Lib.hid (Ow1.out.kept b8)
    replace Ox := Lib.hid (Ox.out.kept b8)
    replace Og0 := Lib.hid (Og0.out.kept b8)
    replace Og1 := Lib.hid (Og1.out.kept b8)
    go_wp2_with fail
    refine (eqFrameS_any w8 _ _ Fs Ox.out.rd Ob.out.rd HS.out).mono ?_
    rintro e w9 ⟨rfl, b9⟩
    have z9 := b9.size
    have c9 := c8.trans (b9.mono c8.size)
    clear Ob
    replace Ow0 := Lib.hid (Ow0.out.kept b9)
    replace Ow1 := Lib.hid (Ow1.out.kept b9)
    replace Ox := Lib.hid (Ox.out.kept b9)
    replace Og0 := Lib.hid (Og0.out.kept b9)
    replace Og1 := Lib.hid (Og1.out.kept b9)
    go_wp2_with fail
    refine (markFrameS_any w9 _ _ 1 Fs Ox.out HS.out (by decide)).mono ?_
    rintro e w10 ⟨rfl, -, g10⟩
    have z10 := g10.size
    have c10 := Below.chg c9 g10 (fun k hk => by have := hk.1; omega) c9.size
    obtain ⟨N, hN⟩ : ∃ N : Nat, 1 + cntF Fs Fs.length = N := ⟨_, rfl⟩
    rw [hN]
    clear hN Ox
    replace Ow0 := Lib.hid (Ow0.out.chg g10 fun k hk e => by have := bw0 k hk; have := e.1; omega)
    replace Og0 := Lib.hid (Og0.out.chg g10 fun k hk e => by have := (Og0.out.lt hk).1; have := e.2; omega)
    replace Ow1 := Lib.hid (Ow1.out.chg g10 fun k hk e => by have := bw1 k hk; have := e.1; omega)
    replace Og1 := Lib.hid (Og1.out.chg g10 fun k hk e => by have := (Og1.out.lt hk).1; have := e.2; omega)
    have hpos : ¬ ((N : Int) < 0) := by omega
    go_wp2_with fail
    refine (eqFloat32S_any w10 _ _ L0 Og0.out.rd Ow0.out.rd hLen0).mono ?_
    rintro e w11 ⟨rfl, n11, hw11⟩
    have b11 : Below w10.heap.size w10 w11 := by rw [hw11]; exact Below.drewN (Below.refl _ _) _
    clear hw11
    have z11 := b11.size
    have c11 := c10.trans (b11.mono c10.size)
    replace Ow0 := Lib.hid (Ow0.out.kept b11)
    replace Ow1 := Lib.hid (Ow1.out.kept b11)
    replace Og0 := Lib.hid (Og0.out.kept b11)
    replace Og1 := Lib.hid (Og1.out.kept b11)
    go_wp2_with fail
    refine (eqInt64S_any w11 _ _ L1 (OwnI.rd Og1.out) (OwnI.rd Ow1.out) hLen1).mono ?_
    rintro e w12 ⟨rfl, n12, hw12⟩
    have b12 : Below w11.heap.size w11 w12 := by rw [hw12]; exact Below.drewN (Below.refl _ _) _
    clear hw12
    have z12 := b12.size
    have c12 := c11.trans (b12.mono c11.size)
    replace Ow0 := Lib.hid (Ow0.out.kept b12)
    replace Ow1 := Lib.hid (Ow1.out.kept b12)
    replace Og0 := Lib.hid (Og0.out.kept b12)
    replace Og1 := Lib.hid (Og1.out.kept b12)
    go_wp2_with fail
    refine (markFloat32S_any w12 _ _ L0 (1) Og0.out hLen0 (by omega)).mono ?_
    rintro e w13 ⟨rfl, o13, g13⟩
    have h13 : Chg w12 w13 fun b => vg0.ownBlock = some b := Chg.of_grown g13 fun b hb => hb
    have z13 := h13.size
    have c13 := Below.chg c12 h13 (fun k hk => by have := (Og0.out.lt hk).1; omega) c12.size
    replace Ow0 := Lib.hid (Ow0.out.chg h13 fun k hk e => by have := bw0 k hk; have := (Og0.out.lt e).1; omega)
    replace Ow1 := Lib.hid (Ow1.out.chg h13 fun k hk e => by have := bw1 k hk; have := (Og0.out.lt e).1; omega)
    replace Og1 := Lib.hid (Og1.out.chg h13 fun k hk e => apart_FI Og0.out Og1.out k e hk)
    replace Og0 := Lib.hid o13
    clear o13 g13 h13
    obtain ⟨M0, hM0⟩ : ∃ M : Nat, 1 + L0.length = M := ⟨_, rfl⟩
    rw [hM0]
    have hMb0 : M0 ≤ 1048577 * 1 := by omega
    have HM0 := Lib.hid hM0
    clear hM0
    go_wp2_with fail
    refine (markInt64S_any w13 _ _ L1 (M0) Og1.out hLen1 (by omega)).mono ?_
    rintro e w14 ⟨rfl, o14, g14⟩
    have h14 : Chg w13 w14 fun b => vg1.ownBlock = some b := Chg.of_grown g14 fun b hb => hb
    have z14 := h14.size
    have c14 := Below.chg c13 h14 (fun k hk => by have := (Og1.out.lt hk).1; omega) c13.size
    replace Ow0 := Lib.hid (Ow0.out.chg h14 fun k hk e => by have := bw0 k hk; have := (Og1.out.lt e).1; omega)
    replace Og0 := Lib.hid (Og0.out.chg h14 fun k hk e => apart_FI Og0.out Og1.out k hk e)
    replace Ow1 := Lib.hid (Ow1.out.chg h14 fun k hk e => by have := bw1 k hk; have := (Og1.out.lt e).1; omega)
    replace Og1 := Lib.hid o14
    clear o14 g14 h14
    obtain ⟨M1, hM1⟩ : ∃ M : Nat, M0 + L1.length = M := ⟨_, rfl⟩
    rw [hM1]
    have hMb1 : M1 ≤ 1048577 * 2 := by omega
    have HM1 := Lib.hid hM1
    clear hM1
    go_wp2_with fail
    refine (heldFloat32S_any w14 _ (1) L0.length Og0.out.rd hLen0 (by omega)).mono ?_
    rintro e w15 ⟨rfl, hw15⟩
    subst hw15
    rw [HM0.out]
    have c15 := c14
    have z15 : w15.heap.size ≤ w15.heap.size := Nat.le_refl _
    have hposM0 : ¬ ((M0 : Int) < 0) := by omega
    go_wp2_with fail
    refine (heldInt64S_any w15 _ (M0) L1.length (OwnI.rd Og1.out) hLen1 (by omega)).mono ?_
    rintro e w16 ⟨rfl, hw16⟩
    subst hw16
    rw [HM1.out]
    have c16 := c15
    have z16 : w16.heap.size ≤ w16.heap.size := Nat.le_refl _
    have hposM1 : ¬ ((M1 : Int) < 0) := by omega
    go_wp2_with fail
    refine (toFrameS_any w16 _ Fs (HR.out.mono c16) HS.out).mono ?_
    rintro e w17 ⟨vc, rfl, oc, b17⟩
    have z17 := b17.size
    have c17 := c16.trans (b17.mono c16.size)
    have Oc := Lib.hid oc
    obtain ⟨ac, cc, rfl, -⟩ := oc.rd.opened
    clear oc
    replace Ow0 := Lib.hid (Ow0.out.kept b17)
    replace Ow1 := Lib.hid (Ow1.out.kept b17)
    replace Og0 := Lib.hid (Og0.out.kept b17)
    replace Og1 := Lib.hid (Og1.out.kept b17)
    go_wp2_with fail
    refine (implSum_any w17 _ Fs s0 s1 Oc.out.rd HS.out).mono ?_
    rintro e w18 ⟨⟨vh0, vh1, rfl, oh0, oh1⟩, b18⟩
    have z18 := b18.size
    have c18 := c17.trans (b18.mono c17.size)
    rw [HL0.out] at oh0
    rw [HL1.out] at oh1
    rw [HK.out]
    replace Ow0 := Lib.hid (Ow0.out.kept b18)
    replace Ow1 := Lib.hid (Ow1.out.kept b18)
    replace Og0 := Lib.hid (Og0.out.kept b18)
    replace Og1 := Lib.hid (Og1.out.kept b18)
    have Oh0 := Lib.hid oh0
    clear oh0
    have Oh1 := Lib.hid oh1
    clear oh1
    clear Oc
    go_wp2_with fail
    refine (eqFloat32S_any w18 _ _ L0 Oh0.out.rd Ow0.out.rd hLen0).mono ?_
    rintro e w19 ⟨rfl, n19, hw19⟩
    have b19 : Below w18.heap.size w18 w19 := by rw [hw19]; exact Below.drewN (Below.refl _ _) _
    clear hw19
    have z19 := b19.size
    have c19 := c18.trans (b19.mono c18.size)
    replace Ow0 := Lib.hid (Ow0.out.kept b19)
    replace Ow1 := Lib.hid (Ow1.out.kept b19)
    replace Og0 := Lib.hid (Og0.out.kept b19)
    replace Og1 := Lib.hid (Og1.out.kept b19)
    replace Oh0 := Lib.hid (Oh0.out.kept b19)
    replace Oh1 := Lib.hid (Oh1.out.kept b19)
    go_wp2_with fail
    refine (eqInt64S_any w19 _ _ L1 (OwnI.rd Oh1.out) (OwnI.rd Ow1.out) hLen1).mono ?_
    rintro e w20 ⟨rfl, n20, hw20⟩
    have b20 : Below w19.heap.size w19 w20 := by rw [hw20]; exact Below.drewN (Below.refl _ _) _
    clear hw20
    have z20 := b20.size
    have c20 := c19.trans (b20.mono c19.size)
    replace Ow0 := Lib.hid (Ow0.out.kept b20)
    replace Ow1 := Lib.hid (Ow1.out.kept b20)
    replace Og0 := Lib.hid (Og0.out.kept b20)
    replace Og1 := Lib.hid (Og1.out.kept b20)
    replace Oh0 := Lib.hid (Oh0.out.kept b20)
    replace Oh1 := Lib.hid (Oh1.out.kept b20)
    clear Oh0 Oh1 Ow0 Ow1
    go_wp2_with fail
    refine (heldFloat32S_any w20 _ (1) L0.length Og0.out.rd hLen0 (by omega)).mono ?_
    rintro e w21 ⟨rfl, hw21⟩
    subst hw21
    rw [HM0.out]
    have c21 := c20
    have z21 : w21.heap.size ≤ w21.heap.size := Nat.le_refl _
    have hposM0 : ¬ ((M0 : Int) < 0) := by omega
    go_wp2_with fail
    refine (heldInt64S_any w21 _ (M0) L1.length (OwnI.rd Og1.out) hLen1 (by omega)).mono ?_
    rintro e w22 ⟨rfl, hw22⟩
    subst hw22
    rw [HM1.out]
    have c22 := c21
    have z22 : w22.heap.size ≤ w22.heap.size := Nat.le_refl _
    have hposM1 : ¬ ((M1 : Int) < 0) := by omega
    go_wp2
    go_ret
    exact TrueB.mk c22
end Go.Proofs.Ytpijiidbjcbdhaa
