/- FnFilters: the walk of the law. -/
import Derived.Test.YthacadbdncfocaaFiT
import Derived.Test.YthacadbdncfocaaFiU
import Derived.Test.YthacadbdncfocaaTru
namespace Go.Proofs.Ythacadbdncfocaa
open Go Go.RowKit

theorem rd_uniq {w : World} {v : Value} {x y : Nat} (h1 : RdF w v [x]) (h2 : RdF w v [y]) : x = y := by
  obtain ⟨a, c, rfl, -, -, hc1⟩ := h1.opened
  obtain ⟨a2, c2, e, -, -, hc2⟩ := h2.opened
  obtain ⟨b, o, r, e1, d1, f1⟩ := hc1 0 Nat.zero_lt_one
  obtain ⟨b', o', r', e2, d2, f2⟩ := hc2 0 Nat.zero_lt_one
  cases e
  subst e1
  injection e2 with e2
  injection e2 with e3 e4
  subst e3 e4
  rw [d1] at d2
  injection d2 with d2
  injection d2 with _ d3
  subst d3
  exact f1.2.symm.trans f2.2
theorem rd_oneF {w : World} {b o n c : Nat} {A : List Nat} (h : RdF w (.slice (some ⟨b, o, none⟩) n c) A) (hl : A.length = n) (k : Nat) (hk : k < n) : RdF w (.slice (some ⟨b, o + k, none⟩) 1 (c - k)) [A.getD k 0] := by
  have := rd_subF h k 1 (by omega)
  have e : (A.drop k).take 1 = [A.getD k 0] := by
    rw [List.drop_eq_getElem_cons (by omega), List.take_succ_cons, List.take_zero, List.getD_eq_getElem?_getD, List.getElem?_eq_getElem (by omega)]
    rfl
  rw [e] at this
  exact this
theorem muL_getD {A : List Nat} {f m k : Nat} (h : f + m ≤ A.length) : (muL A f m).getD k 0 = if f ≤ k ∧ k < f + m then 0 else A.getD k 0 := by
  unfold muL
  simp only [List.getD_eq_getElem?_getD, List.getElem?_append, List.length_take, List.getElem?_take, List.getElem?_drop, List.length_replicate, List.getElem?_replicate]
  rw [show min f A.length = f by omega]
  by_cases h1 : k < f
  · rw [if_pos h1, if_pos h1, if_neg (by omega)]
  · by_cases h2 : k < f + m
    · rw [if_neg h1, if_pos (by omega), if_pos (by omega), if_pos ⟨by omega, h2⟩]; rfl
    · rw [if_neg h1, if_neg (by omega), if_neg (by omega), show f + m + (k - f - m) = k by omega]
theorem muL_length {A : List Nat} {f m : Nat} (h : f + m ≤ A.length) : (muL A f m).length = A.length := by unfold muL; simp; omega
/-- What the last round reads. -/
structure LastOk (w : World) (ga gm gt go ca ct k f m x y : Nat) : Prop where
  d1 : w.cell? ⟨ga, k, none⟩ = some (.float .f32 x)
  d2 : w.cell? ⟨gm, k, none⟩ = some (.float .f32 (if f ≤ k ∧ k < f + m then 0 else x))
  d3 : w.cell? ⟨go, k, none⟩ = some (.float .f32 (owV x))
  nx : isN .f32 x = false
  q1 : RdF w (.slice (some ⟨ga, 0 + k, none⟩) 1 (ca - k)) [x]
  q2 : RdF w (.slice (some ⟨gt, 0 + k, none⟩) 1 (ct - k)) [y]
  m1 : moOkB x = true
  m2 : moOkB y = true
  gy : gtB (mo1 y) (mo1 x) = false
  ow : owOk x = true
/-- What b10Most gives of a list of one number. -/
def OneMost (w : World) (args : Array Value) (v : Value) : Prop := ∀ z, RdF w (args.getD 0 undef) [z] → v = .float .f64 (mo1 z)
theorem one_most {w : World} {s : Value} {z : Nat} (h : RdF w s [z]) : OneMost w #[s] (.float .f64 (mo1 z)) := fun y hy => by
  rw [rd_uniq (show RdF w s [y] from hy) h]
theorem most_call {w : World} {s : Value} {z : Nat} (h : RdF w s [z]) (hz : moOkB z = true) (wd : World) (hd : ∃ n, wd = w.drewN n) :
    Calls Try.prog 35 #[s] wd fun e w'' => ∃ u, e = .returned u ∧ OneMost w #[s] u ∧ ∃ n, w'' = w.drewN n := by
  obtain ⟨n, rfl⟩ := hd
  refine (b10Most_fine (w.drewN n) s [z] (h.drewN n) (Nat.le_of_ble_eq_true rfl) (moOk_one hz)).mono ?_
  rintro e w' ⟨rfl, m, rfl⟩
  exact ⟨_, rfl, one_most h, n + m, World.drewN_drewN _ _ _⟩
theorem own_zero {x : Nat} (h : owOk x = true) (h0 : (FloatKind.f32.format.order x 0 == some Ordering.eq) = true) : (FloatKind.f32.format.order (owV x) 0 != some Ordering.eq) = false := by
  unfold owOk at h
  simp only [Bool.and_eq_true, Bool.not_eq_true'] at h
  have h2 := h.2.2
  rw [if_pos h0] at h2
  rw [bne, h2]
  rfl
theorem own_else {x : Nat} (h : owOk x = true) (h0 : (FloatKind.f32.format.order x 0 == some Ordering.eq) = false) : isN .f32 (fop .mul .f32 (owV x) (owV x)) = false ∧ isN .f64 (gpF (cwide (fop .mul .f32 (owV x) (owV x))) 4607182418800017408) = false ∧ (FloatKind.f64.format.order (gpF (cwide (fop .mul .f32 (owV x) (owV x))) 4607182418800017408) 4562254508917369340 == some Ordering.gt) = false := by
  unfold owOk at h
  simp only [Bool.and_eq_true, Bool.not_eq_true'] at h
  have h2 := h.2.2
  rw [h0, if_neg (by decide)] at h2
  simp only [Bool.and_eq_true, Bool.not_eq_true'] at h2
  exact ⟨h2.1, h2.2.1, h2.2.2⟩
theorem last_ok {w : World} {B1 B2 B3 B4 ga gm gt go n ca cm ct co k f m c : Nat} {A : List Nat} {Z : Nat → Int} (hA : A.length = n) (hz : -8 ≤ Z k ∧ Z k ≤ 8) (hg : A.getD k 0 = qv (Z k)) (hk : k < n) (hfm : f + m ≤ n) (hn : n ≤ 12) (hc : 2 * c ≤ n)
    (PA : OwnF w B1 (.slice (some ⟨ga, 0, none⟩) n ca) A) (PM : OwnF w B2 (.slice (some ⟨gm, 0, none⟩) n cm) (muL A f m)) (PT : OwnF w B3 (.slice (some ⟨gt, 0, none⟩) n ct) (tpK A c c)) (PO : OwnF w B4 (.slice (some ⟨go, 0, none⟩) n co) (gnL A 0)) :
    ∃ x y, LastOk w ga gm gt go ca ct k f m x y := by
  have hml := muL_length (A := A) (f := f) (m := m) (by omega)
  have htl : (tpK A c c).length = n := by rw [tpK_length, hA]
  have hol : (gnL A 0).length = n := by unfold gnL; rw [tab_length, hA]
  rw [hA] at hml
  obtain ⟨g1, c1', hv1, -, -, -, hc1, -⟩ := PA.at_block hA (by omega)
  obtain rfl : ga = g1 := by cases hv1; rfl
  obtain ⟨r1, d1, F1⟩ := hc1 k (by omega)
  obtain ⟨g2, c2', hv2, -, -, -, hc2, -⟩ := PM.at_block hml (by omega)
  obtain rfl : gm = g2 := by cases hv2; rfl
  obtain ⟨r2, d2, F2⟩ := hc2 k (by omega)
  obtain ⟨g3, c3', hv3, -, -, -, hc3, -⟩ := PO.at_block hol (by omega)
  obtain rfl : go = g3 := by cases hv3; rfl
  obtain ⟨r3, d3, F3⟩ := hc3 k (by omega)
  have q1 := rd_oneF PA.rd hA k hk
  have q2 := rd_oneF PT.rd htl k hk
  rw [muL_getD (by omega)] at F2
  rw [show (gnL A 0).getD k 0 = owV (A.getD k 0) from (tab_getD _ _ _ (by omega)).trans (gnF_own (by omega))] at F3
  have htp : moOkB ((tpK A c c).getD k 0) = true ∧ gtB (mo1 ((tpK A c c).getD k 0)) (mo1 (qv (Z k))) = false := by
    obtain ⟨s1, s2, s3⟩ := taper_ok hz
    rw [tpK, tab_getD _ _ _ (by omega)]
    unfold tpF
    rw [hg, hA]
    by_cases u1 : k < c
    · rw [if_pos u1]; exact s3 c k (by omega) u1
    · rw [if_neg u1]
      by_cases u2 : n - 1 - k < c
      · rw [if_pos u2]; exact s3 c _ (by omega) u2
      · rw [if_neg u2]; exact ⟨s1, s2⟩
  have ho := own_ok hz
  have ht1 := (taper_ok hz).1
  rw [hg] at F1 F2 F3 q1
  have hxn : isN .f32 (qv (Z k)) = false := (UQ.qv hz).nn
  have e1 := F1.eq_of_not hxn
  rw [e1] at d1
  have o1 : isN .f32 (owV (qv (Z k))) = false := by
    unfold owOk at ho
    simp only [Bool.and_eq_true, Bool.not_eq_true'] at ho
    exact ho.2.1
  rw [F3.eq_of_not o1] at d3
  have e2 : r2 = if f ≤ k ∧ k < f + m then 0 else qv (Z k) := F2.eq_of_not (by
    split
    · decide +kernel
    · exact hxn)
  rw [e2] at d2
  exact ⟨qv (Z k), _, d1, d2, d3, hxn, q1, q2, ht1, htp.1, htp.2, ho⟩
set_option maxRecDepth 100000 in
set_option maxHeartbeats 12800000 in
theorem lawFilters_any (w : World) (v1 v2 : Value) (n1 n2 : Nat) (h1 : RdY w v1 n1) (h2 : RdY w v2 n2) (m1 : n1 ≤ maxLen) (m2 : n2 ≤ maxLen) :
    Calls Try.prog 5 #[v1, v2] w (TrueB w) := by
  have H1 := Lib.hid h1
  have H2 := Lib.hid h2
  obtain ⟨a1, c1, rfl, -, -⟩ := h1.opened
  obtain ⟨a2, c2, rfl, -, -⟩ := h2.opened
  have HL := Lib.hid (b10Long_any w a1 a2 n1 n2 c1 c2 m1 m2)
  clear h1 h2 m1 m2
  cases hq : decide (1048576 < n1) || decide (1048576 < n2) with
  | true =>
    rw [hq] at HL
    clear hq
    go_enter Try.func5, Try.ntmps5
    go_wp2_with fail
    refine HL.out.mono ?_
    rintro e w1 ⟨rfl, hw1⟩
    obtain rfl : w = w1 := hw1.symm
    go_wp2
    go_ret
    exact TrueB.mk (Below.refl _ _)
  | false =>
    rw [hq] at HL
    have l1 : n1 ≤ 1048576 := by simp at hq; omega
    have l2 : n2 ≤ 1048576 := by simp at hq; omega
    clear hq
    go_enter Try.func5, Try.ntmps5
    go_wp2_with fail
    refine HL.out.mono ?_
    rintro e w0 ⟨rfl, hw0⟩
    obtain rfl : w = w0 := hw0.symm
    clear HL hw0
    go_wp2_with fail
    refine (b10At_any w _ n1 0 10 H1.out l1 (by decide) (by decide) (by decide) (by decide)).mono ?_
    rintro e w0 ⟨t', rfl, ht0, ht1, hw0⟩
    obtain rfl : w = w0 := hw0.symm
    obtain ⟨n, hn⟩ : ∃ n : Nat, 3 + t' = (n : Int) := ⟨(3 + t').toNat, by omega⟩
    have hn3 : 3 ≤ n := by omega
    have hn12 : n ≤ 12 := by omega
    clear hw0 ht0 ht1
    go_wp2_with fail
    clear hn
    refine (b10TraceN_any w _ n1 n H1.out l1 (by omega)).mono ?_
    rintro e w1 ⟨va, zs, rfl, hzl, hzb, oa, b1⟩
    obtain ⟨hU, hB⟩ := ul_qv hzb
    rw [hzl] at hU hB
    have hAl : (zs.map qv).length = n := by rw [List.length_map, hzl]
    have HG : Hid (∀ i, i < n → (zs.map qv).getD i 0 = qv (zF zs i)) := Lib.hid fun i hi => getD_qv (by omega)
    have HU := Lib.hid hU
    have HB8 := Lib.hid hB
    generalize zF zs = Z at *
    generalize zs.map qv = A at *
    have HN := Lib.hid hAl
    obtain ⟨ga, ca, rfl, -, hgal, hca, -, -⟩ := oa.at_block hAl (by omega)
    have OA := Lib.hid oa
    have C1 := Lib.hid b1
    clear hzl hzb oa b1 hU hB hAl
    go_wp2_with fail
    refine (b10At_any w1 _ n2 0 5 (H2.out.mono C1.out) l2 (by decide) (by decide) (by decide) (by decide)).mono ?_
    rintro e w0 ⟨t', rfl, ht0, ht1, hw0⟩
    obtain rfl : w1 = w0 := hw0.symm
    obtain ⟨r, rfl⟩ : ∃ r : Nat, t' = r := ⟨t'.toNat, by omega⟩
    have hr4 : r ≤ 4 := by omega
    clear hw0 ht0 ht1
    go_wp2_with fail
    refine (smoothTrace_any w1 _ A r OA.out.rd (by rw [HN.out]; omega) (by rw [HN.out]; omega) (by omega)).mono ?_
    rintro e w2 ⟨vs, rfl, os, b2⟩
    have hsl : (smR A r).length = n := by rw [smR_length, HN.out]
    obtain ⟨gs, cs, rfl, -⟩ := os.at_block hsl (by omega)
    have OS := Lib.hid os
    have OA2 := Lib.hid (OA.out.kept b2)
    have C2 := Lib.hid (C1.out.trans (b2.mono C1.out.size))
    have HSL := Lib.hid hsl
    clear os b2 OA C1 hsl
    go_wp2_with fail
    refine (roughTrace_any w2 _ A r OA2.out.rd (by rw [HN.out]; omega) (by rw [HN.out]; omega) (by omega)).mono ?_
    rintro e w3 ⟨vr, rfl, orr, b3⟩
    have hrl : (subL A (smR A r)).length = n := by unfold subL; rw [tab_length, HN.out]
    obtain ⟨gr, cr, rfl, -⟩ := orr.at_block hrl (by omega)
    have OR := Lib.hid orr
    have OA3 := Lib.hid (OA2.out.kept b3)
    have OS3 := Lib.hid (OS.out.kept b3)
    have C3 := Lib.hid (C2.out.trans (b3.mono C2.out.size))
    have HRL := Lib.hid hrl
    clear orr b3 OA2 OS C2 hrl
    go_wp2_with fail
    refine (addTraces_any w3 _ _ (smR A r) (subL A (smR A r)) OS3.out.rd OR.out.rd (by rw [HSL.out]; omega) (by rw [HSL.out]; omega) (by rw [HSL.out, HRL.out])).mono ?_
    rintro e w4 ⟨vb, rfl, ob, b4⟩
    have hbl : (addL (smR A r) (subL A (smR A r))).length = n := by rw [addL_length, HSL.out]
    obtain ⟨gb, cb, rfl, -⟩ := ob.at_block hbl (by omega)
    have OB := Lib.hid ob
    have OA4 := Lib.hid (OA3.out.kept b4)
    have OS4 := Lib.hid (OS3.out.kept b4)
    have C4 := Lib.hid (C3.out.trans (b4.mono C3.out.size))
    have HBL := Lib.hid hbl
    clear ob b4 OA3 OS3 C3 OR hbl
    go_wp2_with fail
    refine (differTrace_any w4 _ A OA4.out.rd (by rw [HN.out]; omega) (by rw [HN.out]; omega)).mono ?_
    rintro e w5 ⟨vd, rfl, od, b5⟩
    have hdl : (dfL A).length = n := by unfold dfL; rw [tab_length, HN.out]
    obtain ⟨gd, cd, rfl, -⟩ := od.at_block hdl (by omega)
    have OD := Lib.hid od
    have OA5 := Lib.hid (OA4.out.kept b5)
    have OS5 := Lib.hid (OS4.out.kept b5)
    have OB5 := Lib.hid (OB.out.kept b5)
    have C5 := Lib.hid (C4.out.trans (b5.mono C4.out.size))
    have HDL := Lib.hid hdl
    clear od b5 OA4 OS4 OB C4 hdl
    go_wp2_with fail
    refine (integrateTrace_any w5 _ (dfL A) OD.out.rd (by rw [HDL.out]; omega) (by rw [HDL.out]; omega)).mono ?_
    rw [HDL.out]
    rintro e w6 ⟨vi, rfl, oi, b6⟩
    obtain ⟨gi, ci, rfl, -⟩ := oi.at_block (igL_length (dfL A) n) (by omega)
    have OI := Lib.hid oi
    have OA6 := Lib.hid (OA5.out.kept b6)
    have OS6 := Lib.hid (OS5.out.kept b6)
    have OB6 := Lib.hid (OB5.out.kept b6)
    have C6 := Lib.hid (C5.out.trans (b6.mono C5.out.size))
    clear oi b6 OA5 OS5 OB5 C5 OD
    go_wp2_with fail
    refine (b10Alike_true w6 _ _ (addL (smR A r) (subL A (smR A r))) A 4562254508917369340 OB6.out.rd OA6.out.rd (by rw [HBL.out, HN.out]) (by rw [HBL.out]; omega) (fun j hj => both_near HU.out HB8.out r hr4 j (by rw [HBL.out] at hj; exact hj))).mono ?_
    rintro e w7 ⟨rfl, n7, hw7⟩
    have OI7 : Hid (OwnF w7 w5.heap.size (.slice (some ⟨gi, 0, none⟩) n ci) (igL (dfL A) n)) := Lib.hid (by rw [hw7]; exact OI.out.drewN n7)
    have OA7 : Hid (OwnF w7 w.heap.size (.slice (some ⟨ga, 0, none⟩) n ca) A) := Lib.hid (by rw [hw7]; exact OA6.out.drewN n7)
    have OS7 : Hid (OwnF w7 w1.heap.size (.slice (some ⟨gs, 0, none⟩) n cs) (smR A r)) := Lib.hid (by rw [hw7]; exact OS6.out.drewN n7)
    have C7 : Hid (Below w.heap.size w w7) := Lib.hid (by rw [hw7]; exact Below.drewN C6.out n7)
    clear hw7 OI OA6 OS6 OB6 C6
    go_wp2_with fail
    refine (b10Alike_true w7 _ _ (igL (dfL A) n) A 4562254508917369340 OI7.out.rd OA7.out.rd (by rw [igL_length, HN.out]) (by rw [igL_length]; omega) (fun j hj => back_near HU.out HB8.out j (by rw [igL_length] at hj; exact hj))).mono ?_
    rintro e w8 ⟨rfl, n8, hw8⟩
    have OA8 : Hid (OwnF w8 w.heap.size (.slice (some ⟨ga, 0, none⟩) n ca) A) := Lib.hid (by rw [hw8]; exact OA7.out.drewN n8)
    have OS8 : Hid (OwnF w8 w1.heap.size (.slice (some ⟨gs, 0, none⟩) n cs) (smR A r)) := Lib.hid (by rw [hw8]; exact OS7.out.drewN n8)
    have C8 : Hid (Below w.heap.size w w8) := Lib.hid (by rw [hw8]; exact Below.drewN C7.out n8)
    clear hw8 OI7 OA7 OS7 C7
    go_wp2_with fail
    refine (b10Most_fine w8 _ (smR A r) OS8.out.rd (by rw [HSL.out]; omega) (fun j hj => (moF_uq (smR_uq HU.out 8 (by decide) (by decide) HB8.out r (by omega)).1 j (by rw [HSL.out] at hj; omega)).2 (by rw [HSL.out] at hj; exact hj))).mono ?_
    rw [HSL.out]
    rintro e w9 ⟨rfl, n9, hw9⟩
    have OA9 : Hid (OwnF w9 w.heap.size (.slice (some ⟨ga, 0, none⟩) n ca) A) := Lib.hid (by rw [hw9]; exact OA8.out.drewN n9)
    have C9 : Hid (Below w.heap.size w w9) := Lib.hid (by rw [hw9]; exact Below.drewN C8.out n9)
    clear hw9 OA8 OS8 C8
    go_wp2_with fail
    refine (b10Most_fine w9 _ A OA9.out.rd (by rw [HN.out]; omega) (fun j hj => (moF_uq HU.out j (by rw [HN.out] at hj; omega)).2 (by rw [HN.out] at hj; exact hj))).mono ?_
    rw [HN.out]
    rintro e w10 ⟨rfl, n10, hw10⟩
    have OA10 : Hid (OwnF w10 w.heap.size (.slice (some ⟨ga, 0, none⟩) n ca) A) := Lib.hid (by rw [hw10]; exact OA9.out.drewN n10)
    have C10 : Hid (Below w.heap.size w w10) := Lib.hid (by rw [hw10]; exact Below.drewN C9.out n10)
    clear hw10 OA9 C9
    obtain ⟨p1, p2⟩ := most_near HU.out HB8.out r hr4
    have k1 := fun wq ty => run_fineK (P := Try.prog) .f64 .add (by simp) wq ty _ _ p1
    have k2 : (FloatKind.f64.format.order (moF (smR A r) n) (fop .add .f64 (moF A n) c001) == some Ordering.gt) = false := p2
    unfold c001 at k1 k2
    clear p1 p2
    generalize fop .add .f64 (moF A n) 4562254508917369340 = y0 at *
    generalize moF (smR A r) n = y1 at *
    generalize moF A n = y2 at *
    go_wp2_with fail
    refine (b10At_any w10 _ n2 1 17 (H2.out.mono C10.out) l2 (by decide) (by decide) (by decide) (by decide)).mono ?_
    rintro e w0 ⟨t', rfl, ht0, ht1, hw0⟩
    obtain rfl : w10 = w0 := hw0.symm
    obtain ⟨T, rfl⟩ : ∃ T : Nat, t' = T := ⟨t'.toNat, by omega⟩
    have hT := wave_ok (T := T) (by omega)
    clear hw0 ht0 ht1 k1 k2
    have tq : Hid (tnT T = fop .quo .f32 (floatOfInt .f32 (T : Int)) 1107296256) := Lib.hid rfl
    have htn : isN .f32 (tnT T) = false := by
      have := hT.w 0 (by decide)
      unfold waOk at this
      simp only [Bool.and_eq_true, Bool.not_eq_true'] at this
      exact this.1
    have k1 := fun wq ty => run_fineK (P := Try.prog) .f32 .quo (by simp) wq ty _ _ htn
    have CT : Hid (FV .f32 (tnT T) (tnT T)) := Lib.hid fop_cls
    rw [show fop .quo .f32 (floatOfInt .f32 (T : Int)) 1107296256 = tnT T from rfl] at k1
    have HT := Lib.hid hT
    clear hT htn tq
    have xa : Below w10.heap.size w10 (w10.alloc (.cells #[] 27)) := (Below.refl _ _).alloc (Nat.le_refl _) _
    have OE : Hid (OwnF (w10.alloc (.cells #[] 27)) w10.heap.size (.slice (some ⟨w10.heap.size, 0, none⟩) 0 0) (waL T 0)) := Lib.hid ⟨[], rfl, fun j hj => (by cases hj), World.ownsRow_lit w10 #[] 0 (Nat.le_refl _) (by decide) rfl⟩
    have OA11 := Lib.hid (OA10.out.kept xa)
    have XA := Lib.hid xa
    have hz10 : (w10.alloc (.cells #[] 27)).heap.size = w10.heap.size + 1 := World.size_alloc _ _
    clear xa
    obtain ⟨tn, htnn⟩ : ∃ tn, tnT T = tn := ⟨_, rfl⟩
    rw [htnn] at k1 CT
    have HTN := Lib.hid htnn
    clear htnn
    go_wp2_with fail
    clear k1
    go_loopw [19, 20] (fun u i wr => ∃ k : Nat, k ≤ n ∧ i = .int .i64 k ∧ OwnF wr w10.heap.size u (waL T k) ∧ Below w10.heap.size w10 wr) (fun _ i _ => n - (intOf i).toNat)
    case atStart => exact ⟨0, Nat.zero_le _, rfl, OE.out, XA.out⟩
    case round =>
      clear OE XA hz10 OA11
      obtain ⟨wi, rfl⟩ : ∃ wi : World, wi = wr := ⟨_, rfl⟩
      obtain ⟨k, hk, rfl, ho, hb⟩ := hrel
      have HO := Lib.hid ho
      have HB := Lib.hid hb
      have hzi := hb.size
      by_cases hlt : k < n
      · have hw := HT.out.w k (by omega)
        unfold waOk at hw
        simp only [Bool.and_eq_true, Bool.not_eq_true'] at hw
        obtain ⟨-, q1, q2, q3⟩ := hw
        have k1 := fun wq ty => run_fineK (P := Try.prog) .f32 .mul (by simp) wq ty _ _ q1
        have k2 := fun wq ty => run_fineK (P := Try.prog) .f32 .add (by simp) wq ty _ _ q2
        rw [show fop .add .f32 (fop .mul .f32 (floatOfInt .f32 (k : Int)) (tnT T)) 1040187392 = waX T k from rfl] at k2
        have HS := Lib.hid (fun wq => sineS_fine wq _ q3)
        rw [show sinS (waX T k) = waV T k from rfl] at HS
        have HC : Hid (FV .f32 (waV T k) (waV T k)) := Lib.hid (by
          unfold sinSOk at q3
          simp only [Bool.and_eq_true, Bool.not_eq_true'] at q3
          have h2 := q3.2.2.2
          show FV .f32 (nrw _) (nrw _)
          unfold nrwOk at h2
          unfold nrw
          cases hd : FloatKind.f64.decode (sinF (frS (cwide (waX T k)))) with
          | number s m e => exact ⟨Ieee.single.write_lt _, can_of_not (write_not_nan Ieee.single _ rfl)⟩
          | infinity s => rw [hd] at h2; cases h2
          | nan s t => rw [hd] at h2; cases h2)
        rw [HTN.out] at k1 k2
        have HWS := Lib.hid (waL_snoc T k)
        have HWL := Lib.hid (waL_length T k)
        clear q1 q2 q3 ho hb
        generalize waV T k = wv at *
        generalize waX T k = wx at *
        generalize fop .mul .f32 (floatOfInt .f32 (k : Int)) tn = wm at *
        go_wp2_with fail
        refine (HS.out _).mono ?_
        rintro e w0 ⟨rfl, hw0⟩
        obtain rfl : wi = w0 := hw0.symm
        clear hw0
        go_wp2_with (at_builtin; go_must (refine wpList_push rfl _ _ rfl w10.heap.size _ (waL T k) rfl (HO.out.kept ((Below.refl _ _).alloc (Nat.le_refl _) _)) _ _ _ wv rfl (cell_new _ _ _) HC.out (by rw [HWL.out]; omega) (by rw [World.size_alloc]; omega) ?_); intro v4 w4 o4 g4 b4 l4)
        exact ⟨⟨k + 1, by omega, by go_num, by rw [HWS.out]; exact o4, (HB.out.alloc hzi _).trans b4⟩, by simp [intOf]; omega⟩
      · obtain rfl : n = k := by omega
        have hwl := waL_length T n
        obtain ⟨gw, cw, rfl, -⟩ := ho.at_block hwl (by omega)
        have OA12 : Hid (OwnF wi w.heap.size (.slice (some ⟨ga, 0, none⟩) n ca) A) := Lib.hid (OA10.out.kept hb)
        have C12 := Lib.hid (C10.out.trans (hb.mono C10.out.size))
        have HWL := Lib.hid hwl
        have hn1 := HT.out.n
        rw [HTN.out] at hn1
        have HNT := Lib.hid (notchTrace_any wi _ (waL T n) tn ho.rd (by rw [hwl]; omega) (by rw [hwl]; omega) hn1 CT.out)
        rw [hwl] at HNT
        clear ho hb OA10 C10 hwl hn1 HO HB
        go_wp2_with fail
        refine HNT.out.mono ?_
        clear HNT
        rintro e w13 ⟨vn, rfl, on, b13⟩
        have hnl := ntL_length (waL T n) (ntC tn) n
        obtain ⟨gn, cn, rfl, -⟩ := on.at_block hnl (by omega)
        have ON := Lib.hid on
        have OA13 := Lib.hid (OA12.out.kept b13)
        have C13 := Lib.hid (C12.out.trans (b13.mono C12.out.size))
        have HNL := Lib.hid hnl
        clear on b13 OA12 C12 hnl
        go_wp2_with fail
        go_loopw [23] (fun i wr => ∃ (k nd : Nat), 2 ≤ k ∧ k ≤ n ∧ i = .int .i64 k ∧ wr = w13.drewN nd) (fun i _ => n - (intOf i).toNat)
        case atStart => exact ⟨2, 0, Nat.le_refl _, by omega, rfl, rfl⟩
        case round =>
          obtain ⟨wi2, rfl⟩ : ∃ wi2 : World, wi2 = wr := ⟨_, rfl⟩
          obtain ⟨k, nd, hk2, hk, rfl, hw2⟩ := hrel
          by_cases hlt2 : k < n
          · obtain ⟨a, c, hav, -, -, hcell⟩ := ON.out.rd.opened
            rw [HNL.out] at hav
            cases hav
            obtain ⟨b, o, q, e1, hx1, hx2⟩ := hcell k (by rw [HNL.out]; exact hlt2)
            injection e1 with e1
            injection e1 with e2 e3
            subst e2 e3
            rw [Nat.zero_add] at hx1
            have hnv := HT.out.v k (by omega)
            rw [HTN.out] at hnv
            have hge : (ntL (waL T n) (ntC tn) n).getD k 0 = nvW (waL T 12) (ntC tn) k := by
              rw [← ntF_wa T n k (ntC tn) hk2 hlt2 (by omega)]
              unfold ntL
              rw [List.getD_eq_getElem?_getD, List.getElem?_map, List.getElem?_range hlt2]
              rfl
            rw [hge] at hx2
            unfold nvOk at hnv
            simp only [Bool.or_eq_true, Bool.and_eq_true, Bool.not_eq_true', decide_eq_true_eq] at hnv
            obtain ⟨g1, g2, g3⟩ := hnv.resolve_left (by omega)
            obtain rfl := hx2.eq_of_not g1
            have hx1' : wi2.cell? ⟨gn, k, none⟩ = some (.float .f32 (nvW (waL T 12) (ntC tn) k)) := by rw [hw2]; exact hx1
            have k1 := fun wq => run_wideF (P := Try.prog) 27 40 (by kernel_rfl) (by kernel_rfl) wq _ g1
            have HGp := Lib.hid (fun wq => b10Gap_fine wq _ _ g2)
            have hgt : (FloatKind.f64.format.order (gpF (cwide (nvW (waL T 12) (ntC tn) k)) 0) 4562254508917369340 == some Ordering.gt) = false := g3
            have HW2 := Lib.hid hw2
            clear hcell hx1 hx2 hge hnv g1 g2 g3 hw2
            generalize gpF (cwide (nvW (waL T 12) (ntC tn) k)) 0 = gg at *
            generalize cwide (nvW (waL T 12) (ntC tn) k) = xx at *
            generalize nvW (waL T 12) (ntC tn) k = x at *
            go_wp2_with fail
            refine (HGp.out _).mono ?_
            rintro e w0 ⟨rfl, hw0⟩
            obtain rfl : wi2 = w0 := hw0.symm
            clear hw0
            go_wp2_with fail
            exact ⟨⟨k + 1, nd, by omega, by omega, by go_num, HW2.out⟩, by simp [intOf]; omega⟩
          · obtain rfl : n = k := by omega
            have OA14 : Hid (OwnF wi2 w.heap.size (.slice (some ⟨ga, 0, none⟩) n ca) A) := Lib.hid (by rw [hw2]; exact OA13.out.drewN nd)
            have C14 : Hid (Below w.heap.size w wi2) := Lib.hid (by rw [hw2]; exact Below.drewN C13.out nd)
            clear hw2 OA13 C13 ON
            go_wp2_with fail
            refine (b10At_any wi2 _ n2 2 n (H2.out.mono C14.out) l2 (by decide) (by decide) (by omega) (by omega)).mono ?_
            rintro e w0 ⟨t', rfl, ht0, ht1, hw0⟩
            obtain rfl : wi2 = w0 := hw0.symm
            obtain ⟨f, rfl⟩ : ∃ f : Nat, t' = f := ⟨t'.toNat, by omega⟩
            have hfn : f < n := by omega
            clear hw0 ht0 ht1
            go_wp2_with fail
            refine (b10At_any wi2 _ n2 3 ((n : Int) - f + 1) (H2.out.mono C14.out) l2 (by decide) (by decide) (by omega) (by omega)).mono ?_
            rintro e w0 ⟨t', rfl, ht0, ht1, hw0⟩
            obtain rfl : wi2 = w0 := hw0.symm
            obtain ⟨m, rfl⟩ : ∃ m : Nat, t' = m := ⟨t'.toNat, by omega⟩
            have hfm : f + m ≤ n := by omega
            clear hw0 ht0 ht1
            go_wp2_with fail
            refine (muteTrace_any wi2 _ A f m OA14.out.rd (by rw [HN.out]; omega) (by rw [HN.out]; omega) (by rw [HN.out]; omega) (by rw [HN.out]; omega)).mono ?_
            rintro e w15 ⟨vm, rfl, om, b15⟩
            have hml := muL_length (A := A) (f := f) (m := m) (by rw [HN.out]; exact hfm)
            rw [HN.out] at hml
            obtain ⟨gm, cm, rfl, -⟩ := om.at_block hml (by omega)
            have OM := Lib.hid om
            have OA15 := Lib.hid (OA14.out.kept b15)
            have C15 := Lib.hid (C14.out.trans (b15.mono C14.out.size))
            have HML := Lib.hid hml
            clear om b15 OA14 C14 hml
            have hdv : (2 : Int) ≤ (n : Int) / 2 + 1 := by omega
            go_wp2_with fail
            refine (b10At_any w15 _ n2 4 ((n : Int) / 2 + 1) (H2.out.mono C15.out) l2 (by decide) (by decide) hdv (by omega)).mono ?_
            rintro e w0 ⟨t', rfl, ht0, ht1, hw0⟩
            obtain rfl : w15 = w0 := hw0.symm
            obtain ⟨c, rfl⟩ : ∃ c : Nat, t' = c := ⟨t'.toNat, by omega⟩
            have hcn : 2 * c ≤ n := by omega
            clear hw0 ht0 ht1 hdv
            go_wp2_with fail
            refine (taperTrace_any w15 _ A c OA15.out.rd (by rw [HN.out]; omega) (by rw [HN.out]; omega) (by rw [HN.out]; exact hcn)).mono ?_
            rintro e w16 ⟨vt, rfl, ot, b16⟩
            have htl : (tpK A c c).length = n := by rw [tpK_length, HN.out]
            obtain ⟨gt, ct, rfl, -, -, hct, -⟩ := ot.at_block htl (by omega)
            have OT := Lib.hid ot
            have OM16 := Lib.hid (OM.out.kept b16)
            have OA16 := Lib.hid (OA15.out.kept b16)
            have C16 := Lib.hid (C15.out.trans (b16.mono C15.out.size))
            have HTL := Lib.hid htl
            clear ot b16 OA15 OM C15 htl
            go_wp2_with fail
            refine (b10At_any w16 _ n2 5 4 (H2.out.mono C16.out) l2 (by decide) (by decide) (by decide) (by decide)).mono ?_
            rintro e w0 ⟨t', rfl, ht0, ht1, hw0⟩
            obtain rfl : w16 = w0 := hw0.symm
            obtain ⟨rr, rfl⟩ : ∃ rr : Nat, t' = rr := ⟨t'.toNat, by omega⟩
            clear hw0 ht0
            go_wp2_with fail
            refine (gainTrace_any w16 _ A rr OA16.out.rd (by rw [HN.out]; omega) (by rw [HN.out]; omega) (by omega) (fun j hj => gain_ok HU.out HB8.out (by omega) rr j (by rw [HN.out] at hj; exact hj))).mono ?_
            rintro e w17 ⟨vg, rfl, og, b17⟩
            have hgl : (gnL A rr).length = n := by unfold gnL; rw [tab_length, HN.out]
            obtain ⟨gg, cg, rfl, -⟩ := og.at_block hgl (by omega)
            have OT17 := Lib.hid (OT.out.kept b17)
            have OM17 := Lib.hid (OM16.out.kept b17)
            have OA17 := Lib.hid (OA16.out.kept b17)
            have C17 := Lib.hid (C16.out.trans (b17.mono C16.out.size))
            clear og b17 OA16 OM16 OT C16 hgl ht1
            go_wp2_with fail
            refine (gainTrace_any w17 _ A 0 OA17.out.rd (by rw [HN.out]; omega) (by rw [HN.out]; omega) (by omega) (fun j hj => gain_ok HU.out HB8.out (by omega) 0 j (by rw [HN.out] at hj; exact hj))).mono ?_
            rintro e w18 ⟨vo, rfl, oo, b18⟩
            have hol : (gnL A 0).length = n := by unfold gnL; rw [tab_length, HN.out]
            obtain ⟨go, co, rfl, -⟩ := oo.at_block hol (by omega)
            have OO := Lib.hid oo
            have OT18 := Lib.hid (OT17.out.kept b18)
            have OM18 := Lib.hid (OM17.out.kept b18)
            have OA18 := Lib.hid (OA17.out.kept b18)
            have C18 := Lib.hid (C17.out.trans (b18.mono C17.out.size))
            have HOL := Lib.hid hol
            clear oo b18 OA17 OM17 OT17 C17 hol
            go_wp2_with fail
            have hmul0 : True := trivial
            clear hmul0
            go_loopw [216] (fun i wr => ∃ (k nd : Nat), k ≤ n ∧ i = .int .i64 k ∧ wr = w18.drewN nd) (fun i _ => n - (intOf i).toNat)
            case atStart => exact ⟨0, 0, Nat.zero_le _, rfl, rfl⟩
            case round =>
              obtain ⟨wj, rfl⟩ : ∃ wj : World, wj = wr := ⟨_, rfl⟩
              obtain ⟨k, nd, hk, rfl, hwj⟩ := hrel
              by_cases hlt : k < n
              · have PA : Hid (OwnF wj w.heap.size (.slice (some ⟨ga, 0, none⟩) n ca) A) := Lib.hid (by rw [hwj]; exact OA18.out.drewN nd)
                have PM : Hid (OwnF wj _ (.slice (some ⟨gm, 0, none⟩) n cm) (muL A f m)) := Lib.hid (by rw [hwj]; exact OM18.out.drewN nd)
                have PT : Hid (OwnF wj _ (.slice (some ⟨gt, 0, none⟩) n ct) (tpK A c c)) := Lib.hid (by rw [hwj]; exact OT18.out.drewN nd)
                have PO : Hid (OwnF wj _ (.slice (some ⟨go, 0, none⟩) n co) (gnL A 0)) := Lib.hid (by rw [hwj]; exact OO.out.drewN nd)
                have HWJ := Lib.hid hwj
                obtain ⟨x, y, hlo⟩ := last_ok (Z := Z) HN.out (HB8.out k hlt) (HG.out k hlt) hlt hfm hn12 hcn PA.out PM.out PT.out PO.out
                have LO := Lib.hid hlo
                clear hlo PA PM PT PO hwj
                obtain ⟨d1, d2, d3, nx, -, -, -, -, gy, -⟩ := LO.out
                have hx0 : (FloatKind.f32.format.order x x != some Ordering.eq) = false := by rw [order_self nx]; rfl
                have h00 : (FloatKind.f32.format.order 0 0 != some Ordering.eq) = false := by decide +kernel
                have hgy : (FloatKind.f64.format.order (mo1 y) (mo1 x) == some Ordering.gt) = false := gy
                have HO3 : Hid (owOk x = true) := Lib.hid LO.out.ow
                have Q1 := Lib.hid LO.out.q1
                have Q2 := Lib.hid LO.out.q2
                have M1 := Lib.hid LO.out.m1
                have M2 := Lib.hid LO.out.m2
                clear gy nx
                have hin : (f ≤ k ∧ k < f + m) ∨ k < f ∨ (f ≤ k ∧ f + m ≤ k) := by omega
                rcases hin with ⟨hi1, hi2⟩ | hi1 | ⟨hi1, hi2⟩
                case' inl =>
                  rw [if_pos ⟨hi1, hi2⟩] at d2
                  have hd1 : decide ((k : Int) < (f : Int) + (m : Int)) = true := by simp; omega
                case' inr.inl =>
                  rw [if_neg (by omega)] at d2
                case' inr.inr =>
                  rw [if_neg (by omega)] at d2
                  have hd1 : decide ((k : Int) < (f : Int) + (m : Int)) = false := by simp; omega
                all_goals
                  go_wp2_with fail
                  refine region_rel_all (by kernel_rfl) (by kernel_rfl) (Drawn wj) (fun _ args v => OneMost wj args v) ⟨1, rfl⟩ ?_
                  repeat (first | (refine wpRel_draw rfl rfl (fun nq K hK => ?_); go_wp2) | (refine wpRel_skip rfl ?_; simp only [Act.put, List.setIfInBounds_toArray, List.set_cons_succ, List.set_cons_zero]))
                  refine wpRel_callG #[.slice (some ⟨gt, 0 + k, none⟩) 1 (ct - k)] rfl Try.func35 (by kernel_rfl) (by kernel_rfl) (by simp [go_sem]) ⟨wj, 0, rfl⟩ ⟨_, one_most Q2.out⟩ (fun wd hd => most_call Q2.out M2.out wd hd) ?_
                  intro v hv
                  obtain rfl := hv y Q2.out
                  clear hv
                  simp only [Act.put, List.setIfInBounds_toArray, List.set_cons_succ, List.set_cons_zero]
                  repeat (first | (refine wpRel_draw rfl rfl (fun nq K hK => ?_); go_wp2) | (refine wpRel_skip rfl ?_; simp only [Act.put, List.setIfInBounds_toArray, List.set_cons_succ, List.set_cons_zero]))
                  refine wpRel_callG #[.slice (some ⟨ga, 0 + k, none⟩) 1 (ca - k)] rfl Try.func35 (by kernel_rfl) (by kernel_rfl) (by simp [go_sem]) ⟨wj, 0, rfl⟩ ⟨_, one_most Q1.out⟩ (fun wd hd => most_call Q1.out M1.out wd hd) ?_
                  intro v hv
                  obtain rfl := hv x Q1.out
                  clear hv
                  simp only [Act.put, List.setIfInBounds_toArray, List.set_cons_succ, List.set_cons_zero]
                  repeat (first | (refine wpRel_draw rfl rfl (fun nq K hK => ?_); go_wp2) | (refine wpRel_skip rfl ?_; simp only [Act.put, List.setIfInBounds_toArray, List.set_cons_succ, List.set_cons_zero]))
                  refine wpRel_nil ?_
                  rintro wd ⟨nd2, hwd⟩
                  have e1 : wd.cell? ⟨ga, k, none⟩ = some (.float .f32 x) := by rw [hwd]; exact d1
                  have e3 : wd.cell? ⟨go, k, none⟩ = some (.float .f32 (owV x)) := by rw [hwd]; exact d3
                  have Hwd := Lib.hid hwd
                  clear hwd d1 d2 d3
                  cases hx : (FloatKind.f32.format.order x 0 == some Ordering.eq) with
                  | true =>
                    have hxn : (FloatKind.f32.format.order x 0 != some Ordering.eq) = false := by rw [bne, hx]; rfl
                    have hon := own_zero HO3.out hx
                    generalize owV x = ov at *
                    go_wp2_with fail
                    refine region_rel_all (by kernel_rfl) (by kernel_rfl) (Drawn wd) (fun _ _ _ => False) ⟨1, rfl⟩ ?_
                    repeat (first | (refine wpRel_draw rfl rfl (fun nq K hK => ?_); go_wp2) | (refine wpRel_skip rfl ?_; simp only [Act.put, List.setIfInBounds_toArray, List.set_cons_succ, List.set_cons_zero]))
                    refine wpRel_nil ?_
                    rintro we ⟨nd3, hwe⟩
                    have Hwe := Lib.hid hwe
                    clear hwe
                    go_wp2
                    exact ⟨⟨k + 1, nd + (nd2 + nd3), by omega, by go_num, by rw [Hwe.out, Hwd.out, HWJ.out, World.drewN_drewN, World.drewN_drewN]⟩, by simp [intOf]; omega⟩
                  | false =>
                    have hxn : (FloatKind.f32.format.order x 0 != some Ordering.eq) = true := by rw [bne, hx]; rfl
                    obtain ⟨u1, u2, u3⟩ := own_else HO3.out hx
                    have k1 := fun wq ty => run_fineK (P := Try.prog) .f32 .mul (by simp) wq ty _ _ u1
                    have k2 := fun wq => run_wideF (P := Try.prog) 27 40 (by kernel_rfl) (by kernel_rfl) wq _ u1
                    have HGp := Lib.hid (fun wq => b10Gap_fine wq _ _ u2)
                    clear u1 u2
                    generalize gpF (cwide (fop .mul .f32 (owV x) (owV x))) 4607182418800017408 = og at *
                    generalize cwide (fop .mul .f32 (owV x) (owV x)) = oc at *
                    generalize fop .mul .f32 (owV x) (owV x) = om at *
                    generalize owV x = ov at *
                    go_wp2_with fail
                    refine region_rel_all (by kernel_rfl) (by kernel_rfl) (Drawn wd) (fun _ _ v => v = .float .f64 og) ⟨1, rfl⟩ ?_
                    repeat (first | (refine wpRel_draw rfl rfl (fun nq K hK => ?_); go_wp2) | (refine wpRel_skip rfl ?_; simp only [Act.put, List.setIfInBounds_toArray, List.set_cons_succ, List.set_cons_zero]))
                    refine wpRel_callG #[.float .f64 oc, .float .f64 4607182418800017408] rfl Try.func16 (by kernel_rfl) (by kernel_rfl) (by simp [go_sem]) ⟨wd, 0, rfl⟩ ⟨_, rfl⟩ ?_ ?_
                    · rintro wq ⟨nq, rfl⟩
                      refine (HGp.out _).mono ?_
                      rintro e w'' ⟨rfl, rfl⟩
                      exact ⟨_, rfl, rfl, nq, rfl⟩
                    · rintro v rfl
                      simp only [Act.put, List.setIfInBounds_toArray, List.set_cons_succ, List.set_cons_zero]
                      repeat (first | (refine wpRel_draw rfl rfl (fun nq K hK => ?_); go_wp2) | (refine wpRel_skip rfl ?_; simp only [Act.put, List.setIfInBounds_toArray, List.set_cons_succ, List.set_cons_zero]))
                      refine wpRel_nil ?_
                      rintro we ⟨nd3, hwe⟩
                      have Hwe := Lib.hid hwe
                      clear hwe
                      go_wp2
                      exact ⟨⟨k + 1, nd + (nd2 + nd3), by omega, by go_num, by rw [Hwe.out, Hwd.out, HWJ.out, World.drewN_drewN, World.drewN_drewN]⟩, by simp [intOf]; omega⟩
              · obtain rfl : n = k := by omega
                have CZ : Hid (Below w.heap.size w wj) := Lib.hid (by rw [hwj]; exact Below.drewN C18.out nd)
                clear hwj
                go_wp2_with fail
                go_ret
                exact TrueB.mk CZ.out
end Go.Proofs.Ythacadbdncfocaa
