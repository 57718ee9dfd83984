/- FnExactDropPredicted: the walk of the law. -/
import Derived.Test.YtiappmhlmephjaaW15
import Derived.Test.YtiappmhlmephjaaL1
namespace Go.Proofs.Ytiappmhlmephjaa
open Go Go.RowKit

set_option maxRecDepth 100000 in
set_option maxHeartbeats 4000000 in
theorem lawDropPredicted_any (w : World) (v0 : Value) (L0 : List Nat) (n1 n2 : Int) (r3 x3 : Nat) (h0 : RdF w v0 L0) (hr3 : FV .f32 r3 x3) :
    Calls Try.prog 7 #[v0, .int .i64 n1, .int .i64 n2, .float .f32 r3] w (TrueB w) := by
  have h0' := h0
  obtain ⟨a0, c0_, rfl, -, -, -⟩ := h0.opened
  clear h0
  by_cases hm0 : L0.length ≤ 1048576
  · go_enter Try.func7, Try.ntmps7
    go_wp2_with fail
    refine (toFloat32S_any _ _ L0 h0' hm0).mono ?_
    rintro e1 w1 ⟨t0, rfl, ot0, b1⟩
    have c1 : Below w.heap.size w w1 := b1
    go_wp2_with fail
    refine (specDropPredicted_any _ _ L0  n1 n2 _ x3 ot0.rd hr3 hm0).mono ?_
    rintro e2 w2 ⟨vW, okW, rfl, rW, b2⟩
    have c2 : Below w.heap.size w w2 := c1.trans (b2.mono c1.size)
    have ot0_2 := ot0.kept b2
    obtain ⟨oW, hokW⟩ := rW.own
    have HokW := Lib.hid hokW
    clear hokW rW
    go_wp2_with fail
    refine (toFloat32S_any _ _ L0 (h0'.mono c2) hm0).mono ?_
    rintro e3 w3 ⟨y0, rfl, oy0, b3⟩
    have c3 : Below w.heap.size w w3 := c2.trans (b3.mono c2.size)
    have oW_3 := oW.kept b3
    go_wp2_with fail
    refine (implDropPredicted_any _ _ L0  n1 n2 _ x3 oy0.rd hr3 hm0).mono ?_
    rintro e4 w4 ⟨vG, okG, rfl, rG, b4⟩
    have c4 : Below w.heap.size w w4 := c3.trans (b4.mono c3.size)
    have oW_4 := oW_3.kept b4
    have oy0_4 := oy0.kept b4
    obtain ⟨oG, hokG⟩ := rG.own
    have hF := dropM_length L0 n1 n2 x3
    obtain rfl : okG = okW := hokG.trans HokW.out.symm
    clear hokG rG
    generalize hFF : (dropM L0 n1 n2 x3).getD [] = F at *
    have HF := Lib.hid hFF
    clear hFF
    go_wp2_with fail
    refine (eqFloat32S_any _ _ _ F oG.rd oW_4.rd (by omega)).mono ?_
    rintro q1 z1 ⟨rfl, m1, rfl⟩
    go_wp2_with fail
    refine (toFloat32S_any _ _ L0 (h0'.mono (Below.drewN c4 _)) hm0).mono ?_
    rintro e5 w5 ⟨u0_, rfl, ou0, b5⟩
    replace b5 : Below w4.heap.size w4 w5 := ⟨b5.os, b5.tape, b5.output, b5.size, b5.block⟩
    have c5 : Below w.heap.size w w5 := c4.trans (b5.mono c4.size)
    have oW_5 := oW_4.kept b5
    have oy0_5 := oy0_4.kept b5
    have oG_5 := oG.kept b5
    replace ou0 : OwnF w5 w4.heap.size u0_ L0 := ou0
    go_wp2_with fail
    refine (eqFloat32S_any _ _ _ L0 oy0_5.rd ou0.rd hm0).mono ?_
    rintro q2 z2 ⟨rfl, m2, rfl⟩
    have d0 : Below w.heap.size w (w5.drewN m2) := Below.drewN c5 _
    have oW_d := oW_5.drewN m2
    have oy0_d := oy0_5.drewN m2
    have oG_d := oG_5.drewN m2
    generalize w5.drewN m2 = V0 at *
    go_wp2_with fail
    refine (markFloat32S_any V0 _ y0 L0 (1) oy0_d hm0 (by omega)).mono ?_
    rintro f1 V1 ⟨rfl, p0, g0⟩
    have oW_m0 := oW_d.keptRow g0 (OwnF.before oW oy0 (Nat.le_refl _))
    have oG_m0 := oG_d.keptRow g0 (OwnF.after oy0 oG (Nat.le_refl _))
    have d1 := Below.grownRow d0 g0 d0.size oy0 c2.size
    go_wp2_with fail
    refine (eqFloat32S_any _ _ _ F oG_m0.rd oW_m0.rd (by omega)).mono ?_
    rintro q3 z3 ⟨rfl, m3, rfl⟩
    have e0 : Below w.heap.size w (V1.drewN m3) := Below.drewN d1 _
    have oG_e := oG_m0.drewN m3
    have oW_e := oW_m0.drewN m3
    generalize V1.drewN m3 = U0 at *
    go_wp2_with fail
    refine (markFloat32S_any U0 _ vG F 1 oG_e (by omega) (by omega)).mono ?_
    rintro fG U1 ⟨rfl, pG, gG⟩
    have oW_g := oW_e.keptRow gG (OwnF.before oW oG b3.size)
    have e1 := Below.grownRow e0 gG e0.size oG c3.size
    go_wp2_with fail
    refine (heldFloat32S_any U1 vG 1 F.length pG.rd (by omega) (by omega)).mono ?_
    rintro e90 U2 ⟨rfl, rfl⟩
    go_wp2_with fail
    refine (toFloat32S_any _ _ L0 (h0'.mono e1) hm0).mono ?_
    rintro e100 w100 ⟨s0, rfl, os0, b100⟩
    have c100 : Below w.heap.size w w100 := e1.trans (b100.mono e1.size)
    have pG_100 := pG.kept b100
    have oW_100 := oW_g.kept b100
    go_wp2_with fail
    refine (implDropPredicted_any _ _ L0  n1 n2 _ x3 os0.rd hr3 hm0).mono ?_
    rintro e101 w101 ⟨vH, okH, rfl, rH, b101⟩
    obtain ⟨oH, hokH⟩ := rH.own
    have c101 : Below w.heap.size w w101 := c100.trans (b101.mono c100.size)
    obtain rfl : okH = okG := hokH.trans HokW.out.symm
    rw [HF.out] at oH
    clear hokH rH
    have pG_101 := pG_100.kept b101
    have oW_101 := oW_100.kept b101
    go_wp2_with fail
    refine (eqFloat32S_any _ _ _ F oH.rd oW_101.rd (by omega)).mono ?_
    rintro e91 w91 ⟨rfl, n91, rfl⟩
    go_wp2_with fail
    refine (heldFloat32S_any _ vG 1 F.length (pG_101.drewN n91).rd (by omega) (by omega)).mono ?_
    rintro e92 w92 ⟨rfl, rfl⟩
    go_wp2
    go_ret
    exact TrueB.mk (Below.drewN c101 _)
  · go_enter Try.func7, Try.ntmps7
    go_wp2
    go_ret
    exact TrueB.mk (Below.refl _ _)
end Go.Proofs.Ytiappmhlmephjaa
