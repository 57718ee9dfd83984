/- FnTraces: the walk of the law. -/
import Derived.Test.YtjhbcnmkamkkaaaTrP
import Derived.Test.YtjhbcnmkamkkaaaTru
namespace Go.Proofs.Ytjhbcnmkamkkaaa
open Go Go.RowKit

set_option maxRecDepth 100000 in
set_option maxHeartbeats 800000 in
theorem shiftTraceN_any (w : World) (v : Value) (L : List Nat) (t : Int) (h : RdF w v L) (hl : inB L.length 1 128 = true) (h0 : -100 ≤ t) (h1 : t ≤ 100) :
    Calls Try.prog 25 #[v, .int .i64 t] w fun e w' => ∃ v', e = .returned (.tuple #[v', .bool true]) ∧ OwnF w' w.heap.size v' (latF L (-t)) ∧ Below w.heap.size w w' := by
  have hb := inB_out hl
  have HS := Lib.hid (shifted_any w v L (-t) h (by omega) (by omega) (by omega))
  obtain ⟨a, c, rfl, -⟩ := h.opened
  have HT := Lib.hid (isTrace_any w a L.length c (by omega))
  rw [hl] at HT
  have HW := Lib.hid (within_any w t (-128) 128)
  rw [show inB t (-128) 128 = true by unfold inB; simp; omega] at HW
  clear h
  go_enter Try.func25, Try.ntmps25
  go_wp2_with fail
  refine HT.out.mono ?_
  rintro e w1 ⟨rfl, hw1⟩
  obtain rfl : w = w1 := hw1.symm
  go_wp2_with fail
  refine HW.out.mono ?_
  rintro e w2 ⟨rfl, hw2⟩
  obtain rfl : w = w2 := hw2.symm
  clear HT HW hw1 hw2
  go_wp2_with fail
  refine HS.out.mono ?_
  rintro e w3 ⟨v', rfl, o3, b3⟩
  have O3 := Lib.hid o3
  clear o3 HS
  go_wp2
  go_ret2
  exact ⟨_, rfl, O3.out, b3⟩
set_option maxRecDepth 100000 in
set_option maxHeartbeats 6400000 in
theorem lawTraces_any (w : World) (v1 v2 : Value) (n1 n2 : Nat) (h1 : RdY w v1 n1) (h2 : RdY w v2 n2) (m1 : n1 ≤ maxLen) (m2 : n2 ≤ maxLen) :
    Calls Try.prog 4 #[v1, v2] w (TrueB w) := by
  have H1 := Lib.hid h1
  have H2 := Lib.hid h2
  obtain ⟨a1, c1, rfl, -, -⟩ := h1.opened
  obtain ⟨a2, c2, rfl, -, -⟩ := h2.opened
  have HL := Lib.hid (b10Long_any w a1 a2 n1 n2 c1 c2 m1 m2)
  clear h1 h2 m1 m2
  cases hq : decide (1048576 < n1) || decide (1048576 < n2) with
  | true =>
    rw [hq] at HL
    clear hq
    go_enter Try.func4, Try.ntmps4
    go_wp2_with fail
    refine HL.out.mono ?_
    rintro e w1 ⟨rfl, hw1⟩
    obtain rfl : w = w1 := hw1.symm
    go_wp2
    go_ret
    exact TrueB.mk (Below.refl _ _)
  | false =>
    rw [hq] at HL
    have l1 : n1 ≤ 1048576 := by simp at hq; omega
    have l2 : n2 ≤ 1048576 := by simp at hq; omega
    clear hq
    go_enter Try.func4, Try.ntmps4
    go_wp2_with fail
    refine HL.out.mono ?_
    rintro e w0 ⟨rfl, hw0⟩
    obtain rfl : w = w0 := hw0.symm
    clear HL hw0
    have HB := Lib.hid (Below.refl w.heap.size w)
    go_wp2_with fail
    refine (b10At_any w _ n1 0 12 H1.out l1 (by decide) (by decide) (by decide) (by decide)).mono ?_
    rintro e wq ⟨t0, rfl, ht0, ht1, hwq⟩
    obtain rfl : w = wq := hwq.symm
    clear hwq
    obtain ⟨m, hm, hm1, hm2⟩ : ∃ m : Nat, 1 + t0 = m ∧ 1 ≤ m ∧ m ≤ 12 := ⟨(1 + t0).toNat, by omega, by omega, by omega⟩
    go_wp2_with fail
    clear hm
    refine (b10TraceN_any w _ n1 m H1.out l1 (by omega)).mono ?_
    rintro e w1 ⟨va, zs, rfl, hzl, hz, oa, b1⟩
    have hla : (zs.map qv).length = m := by rw [List.length_map]; exact hzl
    obtain ⟨a3, c3, rfl, -⟩ := oa.rd.opened
    rw [hla] at oa ⊢
    have OA := Lib.hid (oa.mono (B' := w.heap.size) HB.out.size)
    have b1x := b1
    have NB := Lib.hid (HB.out.trans (b1x.mono HB.out.size))
    clear HB b1x
    have HB := NB
    clear NB
    clear oa b1
    go_wp2_with fail
    refine (b10TraceN_any w1 _ n2 m (H2.out.mono HB.out) l2 (by omega)).mono ?_
    rintro e w2 ⟨vb, ys, rfl, hyl, hy, ob, b2⟩
    have hlb : (ys.map qv).length = m := by rw [List.length_map]; exact hyl
    obtain ⟨a4, c4, rfl, -⟩ := ob.rd.opened
    rw [hlb] at ob ⊢
    have OB := Lib.hid (ob.mono (B' := w.heap.size) HB.out.size)
    have b2x := b2
    have NB := Lib.hid (HB.out.trans (b2x.mono HB.out.size))
    have NOA := Lib.hid (OA.out.kept b2x)
    clear OA
    have OA := NOA
    clear NOA
    clear HB b2x
    have HB := NB
    clear NB
    clear ob b2
    have HBack : Hid (∀ i, i < m → FloatKind.f32.format.order ((subL (addL (zs.map qv) (ys.map qv)) (ys.map qv)).getD i 0) ((zs.map qv).getD i 0) = some .eq) := Lib.hid fun i hi => back_at zs ys hz hy (by omega) i (by omega)
    have HFold : Hid (∀ k, k < 2 * m - 1 → FloatKind.f32.format.order ((foldM (zs.map qv) (ys.map qv)).getD k 0) ((foldM (ys.map qv) (zs.map qv)).getD k 0) = some .eq) := Lib.hid fun k hk => fold_eq zs ys hz hy (by omega) (by omega) (by omega) k (by omega)
    have HEn : Hid (FloatKind.f32.format.order (enS (zs.map qv) m) ((crossM (zs.map qv) (zs.map qv) 1).getD 0 0) = some .eq) := Lib.hid (by have := en_eq zs hz (by omega); rwa [hla] at this)
    have HNN : Hid (∀ i, isN .f32 ((zs.map qv).getD i 0) = false) := Lib.hid fun i => (at_fx zs hz i).1.notNan
    have HLA := Lib.hid hla
    have HLB := Lib.hid hlb
    clear hz hy hzl hyl hla hlb
    generalize zs.map qv = A at *
    generalize ys.map qv = B at *
    obtain ⟨n2m, hn2m, hn2a, hn2b⟩ : ∃ q : Nat, A.length + B.length - 1 = q ∧ q + 1 = 2 * m ∧ q ≤ 23 := ⟨A.length + B.length - 1, rfl, by rw [HLA.out, HLB.out]; omega, by rw [HLA.out, HLB.out]; omega⟩
    have HLF := Lib.hid hn2m
    have HLG : Hid (B.length + A.length - 1 = n2m) := Lib.hid (by rw [← hn2m]; omega)
    clear hn2m
    go_wp2_with fail
    refine (addTraces_any w2 _ _ A B OA.out.rd OB.out.rd (by rw [HLA.out]; exact hm1) (by rw [HLA.out]; omega) (by rw [HLA.out, HLB.out])).mono ?_
    rintro e w5 ⟨v5, rfl, o5, b5⟩
    obtain ⟨a5, c5, rfl, -⟩ := o5.rd.opened
    rw [show (addL A B).length = m from by rw [addL_length]; exact HLA.out] at o5 ⊢
    have OS := Lib.hid (o5.mono (B' := w.heap.size) HB.out.size)
    have b5x := b5
    have NB := Lib.hid (HB.out.trans (b5x.mono HB.out.size))
    have NOA := Lib.hid (OA.out.kept b5x)
    have NOB := Lib.hid (OB.out.kept b5x)
    clear OA OB
    have OA := NOA
    clear NOA
    have OB := NOB
    clear NOB
    clear HB b5x
    have HB := NB
    clear NB
    clear o5 b5
    go_wp2_with fail
    refine (lessTraces_any w5 _ _ (addL A B) B OS.out.rd OB.out.rd (by rw [addL_length, HLA.out]; exact hm1) (by rw [addL_length, HLA.out]; omega) (by rw [addL_length, HLA.out, HLB.out])).mono ?_
    rintro e w6 ⟨v6, rfl, o6, b6⟩
    obtain ⟨a6, c6, rfl, -⟩ := o6.rd.opened
    rw [show (subL (addL A B) B).length = m from by rw [subL_length, addL_length]; exact HLA.out] at o6 ⊢
    have OK := Lib.hid (o6.mono (B' := w.heap.size) HB.out.size)
    have b6x := b6
    have NB := Lib.hid (HB.out.trans (b6x.mono HB.out.size))
    have NOA := Lib.hid (OA.out.kept b6x)
    have NOB := Lib.hid (OB.out.kept b6x)
    have NOS := Lib.hid (OS.out.kept b6x)
    clear OA OB OS
    have OA := NOA
    clear NOA
    have OB := NOB
    clear NOB
    have OS := NOS
    clear NOS
    clear HB b6x
    have HB := NB
    clear NB
    clear o6 b6
    go_wp2_with fail
    refine (mirror_any w6 _ A OA.out.rd (by rw [HLA.out]; exact hm1) (by rw [HLA.out]; omega)).mono ?_
    rintro e w7 ⟨v7, rfl, o7, b7⟩
    obtain ⟨a7, c7, rfl, -⟩ := o7.rd.opened
    rw [show (A.reverse).length = m from by rw [List.length_reverse]; exact HLA.out] at o7 ⊢
    have OM := Lib.hid (o7.mono (B' := w.heap.size) HB.out.size)
    have b7x := b7
    have NB := Lib.hid (HB.out.trans (b7x.mono HB.out.size))
    have NOA := Lib.hid (OA.out.kept b7x)
    have NOB := Lib.hid (OB.out.kept b7x)
    have NOS := Lib.hid (OS.out.kept b7x)
    have NOK := Lib.hid (OK.out.kept b7x)
    clear OA OB OS OK
    have OA := NOA
    clear NOA
    have OB := NOB
    clear NOB
    have OS := NOS
    clear NOS
    have OK := NOK
    clear NOK
    clear HB b7x
    have HB := NB
    clear NB
    clear o7 b7
    go_wp2_with fail
    refine (mirror_any w7 _ A.reverse OM.out.rd (by rw [List.length_reverse, HLA.out]; exact hm1) (by rw [List.length_reverse, HLA.out]; omega)).mono ?_
    rintro e w8 ⟨v8, rfl, o8, b8⟩
    obtain ⟨a8, c8, rfl, -⟩ := o8.rd.opened
    rw [show (A.reverse.reverse).length = m from by rw [List.reverse_reverse]; exact HLA.out] at o8 ⊢
    have ON := Lib.hid (o8.mono (B' := w.heap.size) HB.out.size)
    have b8x := b8
    have NB := Lib.hid (HB.out.trans (b8x.mono HB.out.size))
    have NOA := Lib.hid (OA.out.kept b8x)
    have NOB := Lib.hid (OB.out.kept b8x)
    have NOS := Lib.hid (OS.out.kept b8x)
    have NOK := Lib.hid (OK.out.kept b8x)
    have NOM := Lib.hid (OM.out.kept b8x)
    clear OA OB OS OK OM
    have OA := NOA
    clear NOA
    have OB := NOB
    clear NOB
    have OS := NOS
    clear NOS
    have OK := NOK
    clear NOK
    have OM := NOM
    clear NOM
    clear HB b8x
    have HB := NB
    clear NB
    clear o8 b8
    go_wp2_with fail
    refine (foldTraces_any w8 _ _ A B OA.out.rd OB.out.rd (by rw [HLA.out]; exact hm1) (by rw [HLA.out]; omega) (by rw [HLB.out]; exact hm1) (by rw [HLB.out]; omega) (by rw [HLF.out]; omega)).mono ?_
    rintro e w9 ⟨v9, rfl, o9, b9⟩
    obtain ⟨a9, c9, rfl, -⟩ := o9.rd.opened
    rw [show (foldM A B).length = n2m from by rw [foldM_length]; exact HLF.out] at o9 ⊢
    have OF := Lib.hid (o9.mono (B' := w.heap.size) HB.out.size)
    have b9x := b9
    have NB := Lib.hid (HB.out.trans (b9x.mono HB.out.size))
    have NOA := Lib.hid (OA.out.kept b9x)
    have NOB := Lib.hid (OB.out.kept b9x)
    have NOS := Lib.hid (OS.out.kept b9x)
    have NOK := Lib.hid (OK.out.kept b9x)
    have NOM := Lib.hid (OM.out.kept b9x)
    have NON := Lib.hid (ON.out.kept b9x)
    clear OA OB OS OK OM ON
    have OA := NOA
    clear NOA
    have OB := NOB
    clear NOB
    have OS := NOS
    clear NOS
    have OK := NOK
    clear NOK
    have OM := NOM
    clear NOM
    have ON := NON
    clear NON
    clear HB b9x
    have HB := NB
    clear NB
    clear o9 b9
    go_wp2_with fail
    refine (foldTraces_any w9 _ _ B A OB.out.rd OA.out.rd (by rw [HLB.out]; exact hm1) (by rw [HLB.out]; omega) (by rw [HLA.out]; exact hm1) (by rw [HLA.out]; omega) (by rw [HLG.out]; omega)).mono ?_
    rintro e w10 ⟨v10, rfl, o10, b10⟩
    obtain ⟨a10, c10, rfl, -⟩ := o10.rd.opened
    rw [show (foldM B A).length = n2m from by rw [foldM_length]; exact HLG.out] at o10 ⊢
    have OG := Lib.hid (o10.mono (B' := w.heap.size) HB.out.size)
    have b10x := b10
    have NB := Lib.hid (HB.out.trans (b10x.mono HB.out.size))
    have NOA := Lib.hid (OA.out.kept b10x)
    have NOB := Lib.hid (OB.out.kept b10x)
    have NOS := Lib.hid (OS.out.kept b10x)
    have NOK := Lib.hid (OK.out.kept b10x)
    have NOM := Lib.hid (OM.out.kept b10x)
    have NON := Lib.hid (ON.out.kept b10x)
    have NOF := Lib.hid (OF.out.kept b10x)
    clear OA OB OS OK OM ON OF
    have OA := NOA
    clear NOA
    have OB := NOB
    clear NOB
    have OS := NOS
    clear NOS
    have OK := NOK
    clear NOK
    have OM := NOM
    clear NOM
    have ON := NON
    clear NON
    have OF := NOF
    clear NOF
    clear HB b10x
    have HB := NB
    clear NB
    clear o10 b10
    go_wp2_with fail
    refine (b10At_any w10 _ n2 1 9 (H2.out.mono HB.out) l2 (by decide) (by decide) (by decide) (by decide)).mono ?_
    rintro e wq ⟨t1, rfl, hs0, hs1, hwq⟩
    obtain rfl : w10 = wq := hwq.symm
    clear hwq
    obtain ⟨d, hd, hd1, hd2⟩ : ∃ d : Int, t1 - 4 = d ∧ -4 ≤ d ∧ d ≤ 4 := ⟨t1 - 4, rfl, by omega, by omega⟩
    go_wp2_with fail
    refine (shiftTraceN_any w10 _ A d OA.out.rd (by rw [HLA.out]; unfold inB; simp; omega) (by omega) (by omega)).mono ?_
    rintro e w11 ⟨v11, rfl, o11, b11⟩
    obtain ⟨a11, c11, rfl, -⟩ := o11.rd.opened
    rw [show (latF A (-d)).length = m from by unfold latF; rw [tab_length]; exact HLA.out] at o11 ⊢
    have OT := Lib.hid (o11.mono (B' := w.heap.size) HB.out.size)
    have b11x := b11
    have NB := Lib.hid (HB.out.trans (b11x.mono HB.out.size))
    have NOA := Lib.hid (OA.out.kept b11x)
    have NOB := Lib.hid (OB.out.kept b11x)
    have NOS := Lib.hid (OS.out.kept b11x)
    have NOK := Lib.hid (OK.out.kept b11x)
    have NOM := Lib.hid (OM.out.kept b11x)
    have NON := Lib.hid (ON.out.kept b11x)
    have NOF := Lib.hid (OF.out.kept b11x)
    have NOG := Lib.hid (OG.out.kept b11x)
    clear OA OB OS OK OM ON OF OG
    have OA := NOA
    clear NOA
    have OB := NOB
    clear NOB
    have OS := NOS
    clear NOS
    have OK := NOK
    clear NOK
    have OM := NOM
    clear NOM
    have ON := NON
    clear NON
    have OF := NOF
    clear NOF
    have OG := NOG
    clear NOG
    clear HB b11x
    have HB := NB
    clear NB
    clear o11 b11
    clear hd
    go_wp2_with fail
    refine (energyOf_any w11 _ A OA.out.rd (by rw [HLA.out]; unfold inB; simp; omega)).mono ?_
    rintro e w12 ⟨re, rfl, hre, b12⟩
    rw [HLA.out] at hre
    have HRE := Lib.hid hre
    have b12x := b12
    have NB := Lib.hid (HB.out.trans (b12x.mono HB.out.size))
    have NOA := Lib.hid (OA.out.kept b12x)
    have NOB := Lib.hid (OB.out.kept b12x)
    have NOS := Lib.hid (OS.out.kept b12x)
    have NOK := Lib.hid (OK.out.kept b12x)
    have NOM := Lib.hid (OM.out.kept b12x)
    have NON := Lib.hid (ON.out.kept b12x)
    have NOF := Lib.hid (OF.out.kept b12x)
    have NOG := Lib.hid (OG.out.kept b12x)
    have NOT := Lib.hid (OT.out.kept b12x)
    clear OA OB OS OK OM ON OF OG OT
    have OA := NOA
    clear NOA
    have OB := NOB
    clear NOB
    have OS := NOS
    clear NOS
    have OK := NOK
    clear NOK
    have OM := NOM
    clear NOM
    have ON := NON
    clear NON
    have OF := NOF
    clear NOF
    have OG := NOG
    clear NOG
    have OT := NOT
    clear NOT
    clear HB b12x
    have HB := NB
    clear NB
    clear b12 hre
    go_wp2_with fail
    refine (autoOf_any w12 _ A OA.out.rd (by rw [HLA.out]; exact hm1) (by rw [HLA.out]; omega)).mono ?_
    rintro e w13 ⟨v13, rfl, o13, b13⟩
    obtain ⟨a13, c13, rfl, -⟩ := o13.rd.opened
    rw [show (crossM A A 1).length = 1 from crossM_length A A 1] at o13 ⊢
    have OU := Lib.hid (o13.mono (B' := w.heap.size) HB.out.size)
    have b13x := b13
    have NB := Lib.hid (HB.out.trans (b13x.mono HB.out.size))
    have NOA := Lib.hid (OA.out.kept b13x)
    have NOB := Lib.hid (OB.out.kept b13x)
    have NOS := Lib.hid (OS.out.kept b13x)
    have NOK := Lib.hid (OK.out.kept b13x)
    have NOM := Lib.hid (OM.out.kept b13x)
    have NON := Lib.hid (ON.out.kept b13x)
    have NOF := Lib.hid (OF.out.kept b13x)
    have NOG := Lib.hid (OG.out.kept b13x)
    have NOT := Lib.hid (OT.out.kept b13x)
    clear OA OB OS OK OM ON OF OG OT
    have OA := NOA
    clear NOA
    have OB := NOB
    clear NOB
    have OS := NOS
    clear NOS
    have OK := NOK
    clear NOK
    have OM := NOM
    clear NOM
    have ON := NON
    clear NON
    have OF := NOF
    clear NOF
    have OG := NOG
    clear NOG
    have OT := NOT
    clear NOT
    clear HB b13x
    have HB := NB
    clear NB
    clear o13 b13
    obtain ⟨b0, q0, cu, hvu, -, hbu, hcu⟩ := OU.out.rd.at_block (by rw [crossM_length]; decide)
    obtain ⟨ru, ku, fu⟩ := hcu 0 (by rw [crossM_length]; decide)
    obtain ⟨rfl, rfl⟩ : a13 = some ⟨b0, q0, none⟩ ∧ c13 = cu := by injection hvu with e1 e2 e3; exact ⟨e1, e3⟩
    have heu : FloatKind.f32.format.order re ru = some .eq := by rw [FV.order HRE.out fu]; exact HEn.out
    have HKU := Lib.hid (⟨ku, hbu⟩ : w13.cell? ⟨b0, q0 + 0, none⟩ = some (.float .f32 ru) ∧ b0 < w13.heap.size)
    rw [Nat.add_zero] at ku
    clear hvu hcu fu HRE HEn hbu ku
    go_wp2_with fail
    refine (b10List_any w13 _ _ A (by have := ON.out.rd; rwa [List.reverse_reverse] at this) OA.out.rd (by rw [HLA.out]; omega)).mono ?_
    rintro e w14 ⟨rfl, nd, hw14⟩
    have b14 : Below w13.heap.size w13 w14 := by rw [hw14]; exact Below.drewN (Below.refl _ _) nd
    have ku : w14.cell? ⟨b0, q0, none⟩ = some (.float .f32 ru) := by have := HKU.out.1; rw [Nat.add_zero] at this; rw [hw14]; exact this
    clear hw14 HKU
    have HKU := Lib.hid ku
    clear ku
    have NB := Lib.hid (HB.out.trans (b14.mono HB.out.size))
    have NOA := Lib.hid (OA.out.kept b14)
    have NOB := Lib.hid (OB.out.kept b14)
    have NOS := Lib.hid (OS.out.kept b14)
    have NOK := Lib.hid (OK.out.kept b14)
    have NOM := Lib.hid (OM.out.kept b14)
    have NON := Lib.hid (ON.out.kept b14)
    have NOF := Lib.hid (OF.out.kept b14)
    have NOG := Lib.hid (OG.out.kept b14)
    have NOT := Lib.hid (OT.out.kept b14)
    have NOU := Lib.hid (OU.out.kept b14)
    clear OA OB OS OK OM ON OF OG OT OU
    have OA := NOA
    clear NOA
    have OB := NOB
    clear NOB
    have OS := NOS
    clear NOS
    have OK := NOK
    clear NOK
    have OM := NOM
    clear NOM
    have ON := NON
    clear NON
    have OF := NOF
    clear NOF
    have OG := NOG
    clear NOG
    have OT := NOT
    clear NOT
    have OU := NOU
    clear NOU
    clear HB b14
    have HB := NB
    clear NB
    have KT := isTrace_any w14 a9 n2m c9 (by omega)
    rw [show inB (n2m : Int) 1 128 = true by unfold inB; simp; omega] at KT
    go_wp2_with fail
    refine KT.mono ?_
    rintro e wq ⟨rfl, hwq⟩
    obtain rfl : w14 = wq := hwq.symm
    clear hwq KT
    have ku := HKU.out
    have hn3 : (2 : Int) * (m : Int) - 1 = (n2m : Int) := by omega
    go_wp2_with fail
    clear ku heu HKU hn3
    go_loopw [176] (fun i wr => ∃ j q : Nat, j ≤ m ∧ i = .int .i64 j ∧ wr = w14.drewN q) (fun i _ => m - (intOf i).toNat)
    case atStart => exact ⟨0, 0, Nat.zero_le _, rfl, rfl⟩
    case round =>
      obtain ⟨wi, rfl⟩ : ∃ wi : World, wi = wr := ⟨_, rfl⟩
      obtain ⟨j, q, hj, rfl, hq⟩ := hrel
      have Hq := Lib.hid hq
      have bq : Below w14.heap.size w14 wi := by rw [hq]; exact Below.drewN (Below.refl _ _) q
      clear hq
      by_cases hlt : j < m
      · obtain ⟨r1, k1, F1⟩ : ∃ r1, (∃ b o, a6 = some ⟨b, o, none⟩ ∧ wi.cell? ⟨b, o + j, none⟩ = some (.float .f32 r1)) ∧ FV .f32 r1 ((subL (addL A B) B).getD j 0) := by
          obtain ⟨a, c, hv, -, -, hc⟩ := (OK.out.rd.mono bq).opened
          obtain ⟨b, o, r, ha, hk, hf⟩ := hc j (by rw [subL_length, addL_length, HLA.out]; exact hlt)
          injection hv with e1 e2 e3
          exact ⟨r, ⟨b, o, e1.trans ha, hk⟩, hf⟩
        obtain ⟨b1, o1, rfl, k1⟩ := k1
        obtain ⟨ba, oa, ca, hva, -, hba, hca⟩ := (OA.out.rd.mono bq).at_block (by rw [HLA.out]; exact hm1)
        obtain ⟨rfl, rfl⟩ : a3 = some ⟨ba, oa, none⟩ ∧ c3 = ca := by injection hva with e1 e2 e3; exact ⟨e1, e3⟩
        obtain ⟨r2, k2, F2⟩ := hca j (by rw [HLA.out]; exact hlt)
        obtain ⟨r4, k4, F4⟩ : ∃ r4, (∃ b o, a11 = some ⟨b, o, none⟩ ∧ wi.cell? ⟨b, o + j, none⟩ = some (.float .f32 r4)) ∧ FV .f32 r4 ((latF A (-d)).getD j 0) := by
          obtain ⟨a, c, hv, -, -, hc⟩ := (OT.out.rd.mono bq).opened
          obtain ⟨b, o, r, ha, hk, hf⟩ := hc j (by unfold latF; rw [tab_length, HLA.out]; exact hlt)
          injection hv with e1 e2 e3
          exact ⟨r, ⟨b, o, e1.trans ha, hk⟩, hf⟩
        obtain ⟨b4, o4, rfl, k4⟩ := k4
        have h12 : FloatKind.f32.format.order r1 r2 = some .eq := by rw [FV.order F1 F2]; exact HBack.out j hlt
        have e4 : (latF A (-d)).getD j 0 = if inB ((j : Int) + -d) 0 ((A.length : Int) - 1) then A.getD ((j : Int) + -d).toNat 0 else 0 := by unfold latF; exact tab_getD _ _ _ (by rw [HLA.out]; exact hlt)
        rw [HLA.out] at e4
        by_cases hin : 0 ≤ (j : Int) - d ∧ (j : Int) - d < m
        · obtain ⟨f, hf⟩ : ∃ f : Nat, (j : Int) - d = f := ⟨((j : Int) - d).toNat, by omega⟩
          have hfm : f < m := by omega
          obtain ⟨r3, k3, F3⟩ := hca f (by rw [HLA.out]; exact hfm)
          rw [show (j : Int) + -d = (f : Int) by omega, show inB (f : Int) 0 ((m : Int) - 1) = true by unfold inB; simp; omega, if_pos rfl, Int.toNat_natCast] at e4
          rw [e4] at F4
          have h43 : FloatKind.f32.format.order r4 r3 = some .eq := by rw [FV.order F4 F3]; exact order_self (HNN.out f)
          have hin1 := hin.1
          have hin2 := hin.2
          clear hva hca F1 F2 F3 F4 e4 bq hin
          go_wp2
          refine region_rel_all (by kernel_rfl) (by kernel_rfl) (Drawn wi) (fun _ _ _ => False) ⟨1, rfl⟩ ?_
          repeat (refine wpRel_draw rfl rfl (fun nq K hK => ?_); go_wp2)
          refine wpRel_nil ?_
          rintro wd ⟨nd, hwd⟩
          have Hwd := Lib.hid hwd
          clear hwd k1 k2 k3 k4 h12 h43
          go_wp2
          exact ⟨⟨j + 1, q + nd, by omega, by go_num, by rw [Hwd.out, Hq.out, World.drewN_drewN]⟩, by simp [intOf]; omega⟩
        · rw [show inB ((j : Int) + -d) 0 ((m : Int) - 1) = false by unfold inB; simp; omega, if_neg (by decide)] at e4
          rw [e4] at F4
          have h43 : FloatKind.f32.format.order r4 0 = some .eq := by rw [FV.order F4 (fv0 .f32)]; decide +kernel
          clear hva hca F1 F2 F4 e4 bq
          by_cases hin1 : 0 ≤ (j : Int) - d
          all_goals
            (try have hin2 : ¬ (j : Int) - d < m := by omega)
            clear hin
            go_wp2
            refine region_rel_all (by kernel_rfl) (by kernel_rfl) (Drawn wi) (fun _ _ _ => False) ⟨1, rfl⟩ ?_
            repeat (refine wpRel_draw rfl rfl (fun nq K hK => ?_); go_wp2)
            refine wpRel_nil ?_
            rintro wd ⟨nd, hwd⟩
            have Hwd := Lib.hid hwd
            clear hwd k1 k2 k4 h12 h43
            go_wp2
            exact ⟨⟨j + 1, q + nd, by omega, by go_num, by rw [Hwd.out, Hq.out, World.drewN_drewN]⟩, by simp [intOf]; omega⟩
      · have hjm : j = m := by omega
        have HB2 := Lib.hid (HB.out.trans (bq.mono HB.out.size))
        have OF2 := Lib.hid (OF.out.kept bq)
        have OG2 := Lib.hid (OG.out.kept bq)
        clear HB OF OG OA OB OS OK OM ON OT OU bq Hq hjm
        go_wp2
        go_loopw [213] (fun i wr => ∃ j q : Nat, j ≤ n2m ∧ i = .int .i64 j ∧ wr = wi.drewN q) (fun i _ => n2m - (intOf i).toNat)
        case atStart => exact ⟨0, 0, Nat.zero_le _, rfl, rfl⟩
        case round =>
          obtain ⟨wj, rfl⟩ : ∃ wj : World, wj = wr := ⟨_, rfl⟩
          obtain ⟨k, q2, hk, rfl, hq2⟩ := hrel
          have Hq2 := Lib.hid hq2
          have bq2 : Below wi.heap.size wi wj := by rw [hq2]; exact Below.drewN (Below.refl _ _) q2
          clear hq2
          by_cases hlt2 : k < n2m
          · obtain ⟨bf, of, cf, hvf, -, hbf, hcf⟩ := (OF2.out.rd.mono bq2).at_block (by rw [foldM_length, HLF.out]; omega)
            obtain ⟨rfl, rfl⟩ : a9 = some ⟨bf, of, none⟩ ∧ c9 = cf := by injection hvf with e1 e2 e3; exact ⟨e1, e3⟩
            obtain ⟨r1, k1, F1⟩ := hcf k (by rw [foldM_length, HLF.out]; exact hlt2)
            obtain ⟨bg, og, cg, hvg, -, hbg, hcg⟩ := (OG2.out.rd.mono bq2).at_block (by rw [foldM_length, HLG.out]; omega)
            obtain ⟨rfl, rfl⟩ : a10 = some ⟨bg, og, none⟩ ∧ c10 = cg := by injection hvg with e1 e2 e3; exact ⟨e1, e3⟩
            obtain ⟨r2, k2, F2⟩ := hcg k (by rw [foldM_length, HLG.out]; exact hlt2)
            have h12 : FloatKind.f32.format.order r1 r2 = some .eq := by rw [FV.order F1 F2]; exact HFold.out k (by omega)
            clear hvf hcf hvg hcg F1 F2 bq2
            go_wp2
            refine region_rel_all (by kernel_rfl) (by kernel_rfl) (Drawn wj) (fun _ _ _ => False) ⟨1, rfl⟩ ?_
            repeat (refine wpRel_draw rfl rfl (fun nq K hK => ?_); go_wp2)
            refine wpRel_nil ?_
            rintro wd ⟨nd, hwd⟩
            have Hwd := Lib.hid hwd
            clear hwd k1 k2 h12
            go_wp2
            exact ⟨⟨k + 1, q2 + nd, by omega, by go_num, by rw [Hwd.out, Hq2.out, World.drewN_drewN]⟩, by simp [intOf]; omega⟩
          · have HB3 := Lib.hid (HB2.out.trans (bq2.mono HB2.out.size))
            clear HB2 OF2 OG2 bq2 Hq2 HBack HFold HNN HLF HLG
            go_wp2_with fail
            refine (b10At_any wj _ n2 2 8 (H2.out.mono HB3.out) l2 (by decide) (by decide) (by decide) (by decide)).mono ?_
            rintro e wq ⟨t2, rfl, hu0, hu1, hwq⟩
            obtain rfl : wj = wq := hwq.symm
            clear hwq
            obtain ⟨r, hr, hr1, hr2⟩ : ∃ r : Nat, 1 + t2 = r ∧ 1 ≤ r ∧ r ≤ 8 := ⟨(1 + t2).toNat, by omega, by omega, by omega⟩
            go_wp2_with fail
            clear hr
            refine (waveletOf_any wj r hr1 (by omega)).mono ?_
            rintro e x1 ⟨vw, rfl, ow, b1⟩
            have hwl : (wavL r).length = 2 * r + 1 := tab_length _ _
            obtain ⟨pk1, pk2, pk3⟩ := wav_peak r hr1 hr2
            have hto := wav_told r hr1 hr2
            obtain ⟨nw, hnw⟩ : ∃ nw, 2 * r + 1 = nw := ⟨_, rfl⟩
            rw [hnw] at hwl pk3 hto
            have hnwi : (2 : Int) * (r : Int) + 1 = (nw : Int) := by omega
            have HNW := Lib.hid hnw
            have hnw1 : r < nw := by omega
            have hnw2 : nw ≤ 17 := by omega
            have HPK1 := Lib.hid pk1
            have HPK2 := Lib.hid pk2
            have HPK3 := Lib.hid pk3
            have HTO := Lib.hid hto
            have HWL := Lib.hid hwl
            obtain ⟨aw, cw, rfl, -⟩ := ow.rd.opened
            rw [hwl] at ow ⊢
            have OW := Lib.hid (ow.mono (B' := w.heap.size) HB3.out.size)
            have C1 := Lib.hid (HB3.out.trans (b1.mono HB3.out.size))
            clear ow b1 HB3 hnw pk1 pk2 pk3 hto hwl
            go_wp2_with fail
            refine (pulseTrace_any x1 nw r (by omega) (by omega) hnw1).mono ?_
            rintro e x2 ⟨vp, rfl, op, b2⟩
            obtain ⟨ap, cp, rfl, -⟩ := op.rd.opened
            rw [show ((List.replicate nw 0).set r 1065353216).length = nw by simp] at op ⊢
            have OP := Lib.hid op
            have OW2 := Lib.hid (OW.out.kept b2)
            have C2 := Lib.hid (C1.out.trans (b2.mono C1.out.size))
            clear op b2 OW C1
            go_wp2_with fail
            refine (foldAbout_any x2 _ _ _ _ r OP.out.rd OW2.out.rd (by simp; omega) (by simp; omega) (by rw [HWL.out]; exact HNW.out.symm) (by omega)).mono ?_
            rintro e x3 ⟨vt, rfl, ot, b3⟩
            rw [HTO.out] at ot
            obtain ⟨at_, ct, rfl, -⟩ := ot.rd.opened
            rw [HWL.out] at ot ⊢
            have OTo := Lib.hid ot
            have OW3 := Lib.hid (OW2.out.kept b3)
            have C3 := Lib.hid (C2.out.trans (b3.mono C2.out.size))
            clear ot b3 OW2 C2 OP HTO
            obtain ⟨bw, qw, cw', hvw, -, hbw, hcw⟩ := OW3.out.rd.at_block (by rw [HWL.out]; omega)
            obtain ⟨rfl, rfl⟩ : aw = some ⟨bw, qw, none⟩ ∧ cw = cw' := by injection hvw with e1 e2 e3; exact ⟨e1, e3⟩
            obtain ⟨rw_, kw, fw⟩ := hcw r (by rw [HWL.out]; exact hnw1)
            rw [HPK2.out] at fw
            obtain rfl := fv_eq fw (by decide +kernel)
            have hone : FloatKind.f32.format.order 1065353216 1065353216 = some .eq := by decide +kernel
            clear hvw hcw fw
            go_wp2_with fail
            refine (b10Alike_any x3 _ _ (wavL r) OTo.out.rd OW3.out.rd (by rw [HWL.out]; omega) (by rw [HWL.out]; exact HPK3.out)).mono ?_
            rintro e x4 ⟨rfl, nd, hx4⟩
            have b4 : Below x3.heap.size x3 x4 := by rw [hx4]; exact Below.drewN (Below.refl _ _) nd
            have OW4 := Lib.hid (OW3.out.kept b4)
            have C4 := Lib.hid (C3.out.trans (b4.mono C3.out.size))
            clear hx4 b4 OW3 C3 kw OTo
            go_wp2_with fail
            refine (peak_any x4 _ (wavL r) r OW4.out.rd (by rw [HWL.out]; omega) (by rw [HWL.out]; omega) HPK1.out).mono ?_
            rintro e x5 ⟨rp, rfl, fp, b5⟩
            rw [HPK2.out] at fp
            obtain rfl := fv_eq fp (by decide +kernel)
            have C5 := Lib.hid (C4.out.trans (b5.mono C4.out.size))
            clear fp b5 C4 OW4
            go_wp2
            go_ret
            exact TrueB.mk C5.out
end Go.Proofs.Ytjhbcnmkamkkaaa
