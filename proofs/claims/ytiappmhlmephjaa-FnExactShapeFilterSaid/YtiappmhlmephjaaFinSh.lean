/- FnExactShapeFilter: the walk of the law. -/
import Derived.Test.YtiappmhlmephjaaW10
import Derived.Test.YtiappmhlmephjaaL1
namespace Go.Proofs.Ytiappmhlmephjaa
open Go Go.RowKit

set_option maxRecDepth 100000 in
set_option maxHeartbeats 4000000 in
theorem lawShapeFilter_any (w : World) (v0 v1 : Value) (L0 L1 : List Nat) (n2 : Int) (r3 x3 : Nat) (h0 : RdF w v0 L0) (h1 : RdF w v1 L1) (hr3 : FV .f32 r3 x3) :
    Calls Try.prog 4 #[v0, v1, .int .i64 n2, .float .f32 r3] w (TrueB w) := by
  have h0' := h0
  have h1' := h1
  obtain ⟨a0, c0_, rfl, -, -, -⟩ := h0.opened
  obtain ⟨a1, c1_, rfl, -, -, -⟩ := h1.opened
  clear h0 h1
  by_cases hm0 : L0.length ≤ 1048576
  · by_cases hm1 : L1.length ≤ 1048576
    · go_enter Try.func4, Try.ntmps4
      go_wp2_with fail
      refine (toFloat32S_any _ _ L0 h0' hm0).mono ?_
      rintro e1 w1 ⟨t0, rfl, ot0, b1⟩
      have c1 : Below w.heap.size w w1 := b1
      go_wp2_with fail
      refine (toFloat32S_any _ _ L1 (h1'.mono c1) hm1).mono ?_
      rintro e2 w2 ⟨t1, rfl, ot1, b2⟩
      have c2 : Below w.heap.size w w2 := c1.trans (b2.mono c1.size)
      have ot0_2 := ot0.kept b2
      go_wp2_with fail
      refine (specShapeFilter_any _ _ _ L0 L1  n2 _ x3 ot0_2.rd ot1.rd hr3 hm0 hm1).mono ?_
      rintro e3 w3 ⟨vW, okW, rfl, rW, b3⟩
      have c3 : Below w.heap.size w w3 := c2.trans (b3.mono c2.size)
      have ot0_3 := ot0_2.kept b3
      have ot1_3 := ot1.kept b3
      obtain ⟨oW, hokW⟩ := rW.own
      have HokW := Lib.hid hokW
      clear hokW rW
      go_wp2_with fail
      refine (toFloat32S_any _ _ L0 (h0'.mono c3) hm0).mono ?_
      rintro e4 w4 ⟨y0, rfl, oy0, b4⟩
      have c4 : Below w.heap.size w w4 := c3.trans (b4.mono c3.size)
      have oW_4 := oW.kept b4
      go_wp2_with fail
      refine (toFloat32S_any _ _ L1 (h1'.mono c4) hm1).mono ?_
      rintro e5 w5 ⟨y1, rfl, oy1, b5⟩
      have c5 : Below w.heap.size w w5 := c4.trans (b5.mono c4.size)
      have oW_5 := oW_4.kept b5
      have oy0_5 := oy0.kept b5
      go_wp2_with fail
      refine (implShapeFilter_any _ _ _ L0 L1  n2 _ x3 oy0_5.rd oy1.rd hr3 hm0 hm1).mono ?_
      rintro e6 w6 ⟨vG, okG, rfl, rG, b6⟩
      have c6 : Below w.heap.size w w6 := c5.trans (b6.mono c5.size)
      have oW_6 := oW_5.kept b6
      have oy0_6 := oy0_5.kept b6
      have oy1_6 := oy1.kept b6
      obtain ⟨oG, hokG⟩ := rG.own
      have hF := shapeM_length L0 L1 n2 x3
      obtain rfl : okG = okW := hokG.trans HokW.out.symm
      clear hokG rG
      generalize hFF : (shapeM L0 L1 n2 x3).getD [] = F at *
      have HF := Lib.hid hFF
      clear hFF
      go_wp2_with fail
      refine (eqFloat32S_any _ _ _ F oG.rd oW_6.rd (by omega)).mono ?_
      rintro q1 z1 ⟨rfl, m1, rfl⟩
      go_wp2_with fail
      refine (toFloat32S_any _ _ L0 (h0'.mono (Below.drewN c6 _)) hm0).mono ?_
      rintro e7 w7 ⟨u0_, rfl, ou0, b7⟩
      replace b7 : Below w6.heap.size w6 w7 := ⟨b7.os, b7.tape, b7.output, b7.size, b7.block⟩
      have c7 : Below w.heap.size w w7 := c6.trans (b7.mono c6.size)
      have oW_7 := oW_6.kept b7
      have oy0_7 := oy0_6.kept b7
      have oy1_7 := oy1_6.kept b7
      have oG_7 := oG.kept b7
      replace ou0 : OwnF w7 w6.heap.size u0_ L0 := ou0
      go_wp2_with fail
      refine (eqFloat32S_any _ _ _ L0 oy0_7.rd ou0.rd hm0).mono ?_
      rintro q2 z2 ⟨rfl, m2, rfl⟩
      go_wp2_with fail
      refine (toFloat32S_any _ _ L1 (h1'.mono (Below.drewN c7 _)) hm1).mono ?_
      rintro e8 w8 ⟨u1_, rfl, ou1, b8⟩
      replace b8 : Below w7.heap.size w7 w8 := ⟨b8.os, b8.tape, b8.output, b8.size, b8.block⟩
      have c8 : Below w.heap.size w w8 := c7.trans (b8.mono c7.size)
      have oW_8 := oW_7.kept b8
      have oy0_8 := oy0_7.kept b8
      have oy1_8 := oy1_7.kept b8
      have oG_8 := oG_7.kept b8
      replace ou1 : OwnF w8 w7.heap.size u1_ L1 := ou1
      go_wp2_with fail
      refine (eqFloat32S_any _ _ _ L1 oy1_8.rd ou1.rd hm1).mono ?_
      rintro q3 z3 ⟨rfl, m3, rfl⟩
      have d0 : Below w.heap.size w (w8.drewN m3) := Below.drewN c8 _
      have oW_d := oW_8.drewN m3
      have oy0_d := oy0_8.drewN m3
      have oy1_d := oy1_8.drewN m3
      have oG_d := oG_8.drewN m3
      generalize w8.drewN m3 = V0 at *
      go_wp2_with fail
      refine (markFloat32S_any V0 _ y0 L0 (1) oy0_d hm0 (by omega)).mono ?_
      rintro f1 V1 ⟨rfl, p0, g0⟩
      have oW_m0 := oW_d.keptRow g0 (OwnF.before oW oy0 (Nat.le_refl _))
      have oy1_m0 := oy1_d.keptRow g0 (OwnF.after oy0 oy1 (Nat.le_refl _))
      have oG_m0 := oG_d.keptRow g0 (OwnF.after oy0 oG b5.size)
      have d1 := Below.grownRow d0 g0 d0.size oy0 c3.size
      go_wp2_with fail
      refine (markFloat32S_any V1 _ y1 L1 (1 + L0.length) oy1_m0 hm1 (by omega)).mono ?_
      rintro f2 V2 ⟨rfl, p1, g1⟩
      have oW_m1 := oW_m0.keptRow g1 (OwnF.before oW oy1 b4.size)
      have oG_m1 := oG_m0.keptRow g1 (OwnF.after oy1 oG (Nat.le_refl _))
      have d2 := Below.grownRow d1 g1 d1.size oy1 c4.size
      go_wp2_with fail
      refine (eqFloat32S_any _ _ _ F oG_m1.rd oW_m1.rd (by omega)).mono ?_
      rintro q4 z4 ⟨rfl, m4, rfl⟩
      have e0 : Below w.heap.size w (V2.drewN m4) := Below.drewN d2 _
      have oG_e := oG_m1.drewN m4
      have oW_e := oW_m1.drewN m4
      generalize V2.drewN m4 = U0 at *
      go_wp2_with fail
      refine (markFloat32S_any U0 _ vG F 1 oG_e (by omega) (by omega)).mono ?_
      rintro fG U1 ⟨rfl, pG, gG⟩
      have oW_g := oW_e.keptRow gG (OwnF.before oW oG (Nat.le_trans b4.size b5.size))
      have e1 := Below.grownRow e0 gG e0.size oG c5.size
      go_wp2_with fail
      refine (heldFloat32S_any U1 vG 1 F.length pG.rd (by omega) (by omega)).mono ?_
      rintro e90 U2 ⟨rfl, rfl⟩
      go_wp2_with fail
      refine (toFloat32S_any _ _ L0 (h0'.mono e1) hm0).mono ?_
      rintro e100 w100 ⟨s0, rfl, os0, b100⟩
      have c100 : Below w.heap.size w w100 := e1.trans (b100.mono e1.size)
      have pG_100 := pG.kept b100
      have oW_100 := oW_g.kept b100
      go_wp2_with fail
      refine (toFloat32S_any _ _ L1 (h1'.mono c100) hm1).mono ?_
      rintro e101 w101 ⟨s1, rfl, os1, b101⟩
      have c101 : Below w.heap.size w w101 := c100.trans (b101.mono c100.size)
      have pG_101 := pG_100.kept b101
      have oW_101 := oW_100.kept b101
      have os0_101 := os0.kept b101
      go_wp2_with fail
      refine (implShapeFilter_any _ _ _ L0 L1  n2 _ x3 os0_101.rd os1.rd hr3 hm0 hm1).mono ?_
      rintro e102 w102 ⟨vH, okH, rfl, rH, b102⟩
      obtain ⟨oH, hokH⟩ := rH.own
      have c102 : Below w.heap.size w w102 := c101.trans (b102.mono c101.size)
      obtain rfl : okH = okG := hokH.trans HokW.out.symm
      rw [HF.out] at oH
      clear hokH rH
      have pG_102 := pG_101.kept b102
      have oW_102 := oW_101.kept b102
      go_wp2_with fail
      refine (eqFloat32S_any _ _ _ F oH.rd oW_102.rd (by omega)).mono ?_
      rintro e91 w91 ⟨rfl, n91, rfl⟩
      go_wp2_with fail
      refine (heldFloat32S_any _ vG 1 F.length (pG_102.drewN n91).rd (by omega) (by omega)).mono ?_
      rintro e92 w92 ⟨rfl, rfl⟩
      go_wp2
      go_ret
      exact TrueB.mk (Below.drewN c102 _)
    · go_enter Try.func4, Try.ntmps4
      go_wp2
      go_ret
      exact TrueB.mk (Below.refl _ _)
  · go_enter Try.func4, Try.ntmps4
    go_wp2
    go_ret
    exact TrueB.mk (Below.refl _ _)
end Go.Proofs.Ytiappmhlmephjaa
