/- FnExactSolveToeplitz: the walk of the law. -/
import Derived.Test.YtoghleckmggfmaaW7
namespace Go.Proofs.Ytoghleckmggfmaa
open Go Go.RowKit

def TrueB (w : World) (e : Ending) (w' : World) : Prop := e = .returned (.bool true) ∧ Below w.heap.size w w'
theorem TrueB.mk {w w' : World} (h : Below w.heap.size w w') : TrueB w (.returned (.bool true)) w' := ⟨rfl, h⟩
theorem toepM_length (A R : List Nat) : ((toepM A R).getD []).length ≤ 25 := by
  unfold toepM
  split
  · rename_i h
    cases hs : solveM A R with
    | none => simp
    | some F => have := solveM_length A R F hs; simp; omega
  · simp

set_option maxRecDepth 100000 in
set_option maxHeartbeats 4000000 in
theorem lawSolveToeplitz_any (w : World) (va vr : Value) (A R : List Nat) (hA : RdF w va A) (hR : RdF w vr R) :
    Calls Try.prog 5 #[va, vr] w (TrueB w) := by
  have hA' := hA
  have hR' := hR
  obtain ⟨a, ca, rfl, -, -, -⟩ := hA.opened
  obtain ⟨b, cb, rfl, -, -, -⟩ := hR.opened
  clear hA hR
  by_cases h1 : A.length ≤ 1048576
  · by_cases h2 : R.length ≤ 1048576
    · go_enter Try.func5, Try.ntmps5
      go_wp2_with fail
      refine (toFloat32S_any _ _ A hA' h1).mono ?_
      rintro e1 w1 ⟨t1, rfl, o1, b1⟩
      go_wp2_with fail
      refine (toFloat32S_any _ _ R (hR'.mono b1) h2).mono ?_
      rintro e2 w2 ⟨t2, rfl, o2, b2⟩
      have c2 : Below w.heap.size w w2 := b1.trans (b2.mono b1.size)
      go_wp2_with fail
      refine (specSolveToeplitz_any _ _ _ A R (o1.kept b2).rd o2.rd h1 h2).mono ?_
      rintro e3 w3 ⟨vW, okW, rfl, rW, b3⟩
      obtain ⟨oW, hokW⟩ := rW.own
      have HokW := Lib.hid hokW
      clear hokW rW
      have c3 : Below w.heap.size w w3 := c2.trans (b3.mono c2.size)
      go_wp2_with fail
      refine (toFloat32S_any _ _ A (hA'.mono c3) h1).mono ?_
      rintro e4 w4 ⟨x0, rfl, o4, b4⟩
      have c4 : Below w.heap.size w w4 := c3.trans (b4.mono c3.size)
      go_wp2_with fail
      refine (toFloat32S_any _ _ R (hR'.mono c4) h2).mono ?_
      rintro e5 w5 ⟨x1, rfl, o5, b5⟩
      have c5 : Below w.heap.size w w5 := c4.trans (b5.mono c4.size)
      go_wp2_with fail
      refine (implSolveToeplitz_any _ _ _ A R (o4.kept b5).rd o5.rd h1 h2).mono ?_
      rintro e6 w6 ⟨vG, okG, rfl, rG, b6⟩
      obtain ⟨oG, hokG⟩ := rG.own
      have c6 : Below w.heap.size w w6 := c5.trans (b6.mono c5.size)
      have hF := toepM_length A R
      obtain rfl : okG = okW := hokG.trans HokW.out.symm
      clear hokG rG
      have oW6 := ((oW.kept b4).kept b5).kept b6
      have o46 := (o4.kept b5).kept b6
      have o56 := o5.kept b6
      generalize hFF : (toepM A R).getD [] = F at *
      have HF := Lib.hid hFF
      clear hFF
      go_wp2_with fail
      refine (eqFloat32S_any _ _ _ F oG.rd oW6.rd (by omega)).mono ?_
      rintro e7 w7 ⟨rfl, n7, rfl⟩
      go_wp2_with fail
      refine (toFloat32S_any _ _ A (hA'.mono (Below.drewN c6 _)) h1).mono ?_
      rintro e8 w8 ⟨y0, rfl, o8, b8⟩
      replace b8 : Below w6.heap.size w6 w8 := ⟨b8.os, b8.tape, b8.output, b8.size, b8.block⟩
      replace o8 : OwnF w8 w6.heap.size y0 A := o8
      have c8 : Below w.heap.size w w8 := c6.trans (b8.mono c6.size)
      go_wp2_with fail
      refine (eqFloat32S_any _ _ _ A (o46.kept b8).rd o8.rd h1).mono ?_
      rintro e9 w9 ⟨rfl, n9, rfl⟩
      go_wp2_with fail
      refine (toFloat32S_any _ _ R (hR'.mono (Below.drewN c8 _)) h2).mono ?_
      rintro e10 w10 ⟨y1, rfl, o10, b10⟩
      replace b10 : Below w8.heap.size w8 w10 := ⟨b10.os, b10.tape, b10.output, b10.size, b10.block⟩
      replace o10 : OwnF w10 w8.heap.size y1 R := o10
      have c10 : Below w.heap.size w w10 := c8.trans (b10.mono c8.size)
      go_wp2_with fail
      refine (eqFloat32S_any _ _ _ R ((o56.kept b8).kept b10).rd o10.rd h2).mono ?_
      rintro e11 w11 ⟨rfl, n11, rfl⟩
      have d10 : Below w.heap.size w (w10.drewN n11) := Below.drewN c10 _
      have oG10 := ((oG.kept b8).kept b10).drewN n11
      have oW10 := ((oW6.kept b8).kept b10).drewN n11
      have x010 := ((o46.kept b8).kept b10).drewN n11
      have x110 := ((o56.kept b8).kept b10).drewN n11
      generalize w10.drewN n11 = v10 at *
      go_wp2_with fail
      refine (markFloat32S_any v10 _ x0 A 1 x010 h1 (by omega)).mono ?_
      rintro e12 w12 ⟨rfl, p0, g12⟩
      have oG12 := oG10.keptRow g12 (OwnF.after o4 oG b5.size)
      have oW12 := oW10.keptRow g12 (OwnF.before oW o4 (Nat.le_refl _))
      have x112 := x110.keptRow g12 (OwnF.after o4 o5 (Nat.le_refl _))
      have c12 := Below.grownRow d10 g12 d10.size o4 c3.size
      go_wp2_with fail
      refine (markFloat32S_any w12 _ x1 R (1 + A.length) x112 h2 (by omega)).mono ?_
      rintro e13 w13 ⟨rfl, p1, g13⟩
      have oG13 := oG12.keptRow g13 (OwnF.after o5 oG (Nat.le_refl _))
      have oW13 := oW12.keptRow g13 (OwnF.before oW o5 b4.size)
      have c13 := Below.grownRow c12 g13 c12.size o5 c4.size
      go_wp2_with fail
      refine (eqFloat32S_any _ _ _ F oG13.rd oW13.rd (by omega)).mono ?_
      rintro e14 w14 ⟨rfl, n14, rfl⟩
      have d14 : Below w.heap.size w (w13.drewN n14) := Below.drewN c13 _
      have oG14 := oG13.drewN n14
      have oW14 := oW13.drewN n14
      generalize w13.drewN n14 = v14 at *
      go_wp2_with fail
      refine (markFloat32S_any v14 _ vG F 1 oG14 (by omega) (by omega)).mono ?_
      rintro e15 w15 ⟨rfl, pG, g15⟩
      have oW15 := oW14.keptRow g15 (OwnF.before oW oG (Nat.le_trans b4.size b5.size))
      have c15 := Below.grownRow d14 g15 d14.size oG c5.size
      go_wp2_with fail
      refine (heldFloat32S_any w15 vG 1 F.length pG.rd (by omega) (by omega)).mono ?_
      rintro e16 w16 ⟨rfl, rfl⟩
      go_wp2_with fail
      refine (toFloat32S_any _ _ A (hA'.mono c15) h1).mono ?_
      rintro e17 w17 ⟨t7, rfl, o17, b17⟩
      have c17 : Below w.heap.size w w17 := c15.trans (b17.mono c15.size)
      go_wp2_with fail
      refine (toFloat32S_any _ _ R (hR'.mono c17) h2).mono ?_
      rintro e18 w18 ⟨t8, rfl, o18, b18⟩
      have c18 : Below w.heap.size w w18 := c17.trans (b18.mono c17.size)
      go_wp2_with fail
      refine (implSolveToeplitz_any _ _ _ A R (o17.kept b18).rd o18.rd h1 h2).mono ?_
      rintro e19 w19 ⟨vH, okH, rfl, rH, b19⟩
      obtain ⟨oH, hokH⟩ := rH.own
      have c19 : Below w.heap.size w w19 := c18.trans (b19.mono c18.size)
      obtain rfl : okH = okG := hokH.trans HokW.out.symm
      rw [HF.out] at oH
      clear hokH rH
      have oW19 := ((oW15.kept b17).kept b18).kept b19
      have pG19 := ((pG.kept b17).kept b18).kept b19
      go_wp2_with fail
      refine (eqFloat32S_any _ _ _ F oH.rd oW19.rd (by omega)).mono ?_
      rintro e20 w20 ⟨rfl, n20, rfl⟩
      go_wp2_with fail
      refine (heldFloat32S_any _ vG 1 F.length (pG19.drewN n20).rd (by omega) (by omega)).mono ?_
      rintro e21 w21 ⟨rfl, rfl⟩
      go_wp2
      go_ret
      exact TrueB.mk (Below.drewN c19 _)
    · go_enter Try.func5, Try.ntmps5
      go_wp2
      go_ret
      exact TrueB.mk (Below.refl _ _)
  · go_enter Try.func5, Try.ntmps5
    go_wp2
    go_ret
    exact TrueB.mk (Below.refl _ _)
end Go.Proofs.Ytoghleckmggfmaa
