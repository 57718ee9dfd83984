/- Walks: sizes, sums, finite numbers; what is silent and then loud is picked where it becomes loud. -/
import Derived.Test.YtcffkhmjljlbaaaNumB
import Derived.Test.YtcffkhmjljlbaaaSh
namespace Go.Proofs.Ytcffkhmjljlbaaa
open Go Go.RowKit

def sumS (L : List Nat) : Nat → Nat
  | 0 => 0
  | k + 1 => fop .add .f32 (sumS L k) (L.getD k 0)
set_option maxRecDepth 100000 in
set_option maxHeartbeats 800000 in
theorem sum_any (w : World) (v : Value) (L : List Nat) (h : RdF w v L) (hl : L.length ≤ 1000) :
    Calls Try.prog 29 #[v] w fun e w' => ∃ r, e = .returned (.float .f32 r) ∧ FV .f32 r (sumS L L.length) ∧ ∃ n, w' = w.drewN n := by
  have hadd := run_fadd (P := Try.prog)
  obtain ⟨a, c, rfl, hc, -, hcell⟩ := h.opened
  clear h
  go_enter Try.func29, Try.ntmps29
  go_wp2
  go_loopw [3, 8] (fun q i wr => ∃ (j n r : Nat), j ≤ L.length ∧ i = .int .i64 j ∧ q = .float .f32 r ∧ FV .f32 r (sumS L j) ∧ wr = w.drewN n) (fun _ i _ => L.length - (intOf i).toNat)
  case atStart => exact ⟨0, 0, 0, Nat.zero_le _, rfl, rfl, fv0 _, rfl⟩
  case round =>
    obtain ⟨wi, rfl⟩ : ∃ wi : World, wi = wr := ⟨_, rfl⟩
    obtain ⟨j, n, r, hj, rfl, rfl, hf, hw⟩ := hrel
    have HW := Lib.hid hw
    have HF := Lib.hid hf
    by_cases hlt : j < L.length
    · obtain ⟨b, o, x, rfl, hx1, hx2⟩ := hcell j hlt
      have hx1' : wi.cell? ⟨b, o + j, none⟩ = some (.float .f32 x) := by rw [hw]; exact hx1
      have HX := Lib.hid hx2
      clear hcell hx1 hx2 hw hf
      go_wp2
      refine ⟨⟨j + 1, n + fcnt .add .f32 r x, _, by omega, by go_num, rfl, FV.op (op := .add) HF.out HX.out _, ?_⟩, by simp [intOf]; omega⟩
      rw [HW.out, World.drewN_drewN]
    · obtain rfl : j = L.length := by omega
      clear hw hf
      go_wp2
      go_ret
      exact ⟨r, rfl, HF.out, n, HW.out⟩
set_option maxRecDepth 100000 in
set_option maxHeartbeats 1600000 in
theorem sizes_any (w : World) (v : Value) (L : List Nat) (h : RdF w v L) (hl : L.length ≤ 1000) (hA : ∀ j, j < L.length → absC (L.getD j 0) = L.getD j 0) :
    Calls Try.prog 27 #[v] w fun e w' => ∃ v', e = .returned v' ∧ OwnF w' w.heap.size v' L ∧ Below w.heap.size w w' := by
  have HR := Lib.hid h
  obtain ⟨a, c, rfl, hc, -, hcell⟩ := h.opened
  clear h
  go_enter Try.func27, Try.ntmps27
  go_wp2
  go_loopw [3, 8] (fun q i wr => ∃ j : Nat, j ≤ L.length ∧ i = .int .i64 j ∧ OwnF wr w.heap.size q (L.take j) ∧ Below w.heap.size w wr) (fun _ i _ => L.length - (intOf i).toNat)
  case atStart => exact ⟨0, Nat.zero_le _, rfl, OwnF.nil _ _, Below.refl _ _⟩
  case round =>
    obtain ⟨wi, rfl⟩ : ∃ wi : World, wi = wr := ⟨_, rfl⟩
    obtain ⟨j, hj, rfl, ho, hb⟩ := hrel
    have HO := Lib.hid ho
    have HB := Lib.hid hb
    have hzi := hb.size
    by_cases hlt : j < L.length
    · obtain ⟨b, o, x, rfl, hx1, hx2⟩ := hcell j hlt
      have hx1' := ((bcell hb).1 b (o + j) (block_lt hx1)).trans hx1
      have HK := Lib.hid (absolute_any wi x _ hx2)
      rw [hA j hlt] at HK
      have HT : Hid (L.take (j + 1) = L.take j ++ [L.getD j 0]) := Lib.hid (by rw [List.take_add_one, List.getElem?_eq_getElem hlt]; simp [List.getD_eq_getElem?_getD, List.getElem?_eq_getElem hlt])
      have htl : (L.take j).length = j := by rw [List.length_take]; omega
      have HTL := Lib.hid htl
      clear hcell hx1 hx2 ho hb hA htl
      go_wp2_with fail
      refine HK.out.mono ?_
      rintro e w3 ⟨q, n, rfl, hq, hw3⟩
      have HQ := Lib.hid hq
      have b3 : Below wi.heap.size wi w3 := by rw [hw3]; exact Below.drewN (Below.refl _ _) _
      have z3 := b3.size
      have b4 : Below wi.heap.size wi (w3.alloc (.cells #[.float .f32 q] 27)) := b3.alloc z3 _
      clear HK hq hw3
      go_wp2_with (at_builtin; go_must (refine wpList_push rfl _ _ rfl w.heap.size _ (L.take j) rfl (HO.out.kept b4) _ _ q (L.getD j 0) rfl (cell_new _ _ _) HQ.out (by rw [HTL.out]; omega) (by rw [World.size_alloc]; omega) ?_); intro v6 w6 o6 g6 b6 _)
      exact ⟨⟨j + 1, by omega, by go_num, by rw [HT.out]; exact o6, HB.out.trans ((b4.mono hzi).trans b6)⟩, by simp [intOf]; omega⟩
    · obtain rfl : j = L.length := by omega
      rw [List.take_length] at HO
      clear hcell ho hb hA
      go_wp2
      go_ret
      exact ⟨_, rfl, HO.out, HB.out⟩
set_option maxRecDepth 100000 in
set_option maxHeartbeats 400000 in
theorem isFin_three (w : World) : Calls Try.prog 39 #[.float .f64 4613937818241073152] w fun e w' => e = .returned (.bool true) ∧ ∃ n, w' = w.drewN n := by
  have hsub := run_fsub (P := Try.prog)
  have hs : fres .sub .f64 4613937818241073152 4613937818241073152 w = 0 := by
    unfold fres
    rw [show floatBits .sub .f64 4613937818241073152 4613937818241073152 = some 0 by decide +kernel]
  have ht : (FloatKind.f64.format.order 0 0 == some Ordering.eq) = true := by decide +kernel
  go_enter Try.func39, Try.ntmps39
  go_wp2
  go_ret
  exact ⟨rfl, _, rfl⟩
set_option maxRecDepth 100000 in
set_option maxHeartbeats 400000 in
theorem isFinite_three (w : World) : Calls Try.prog 26 #[.float .f32 1077936128] w fun e w' => e = .returned (.bool true) ∧ ∃ n, w' = w.drewN n := by
  have hcv := run_widen (P := Try.prog) 27 67 (by kernel_rfl) (by kernel_rfl)
  have hc : cres 1077936128 w = 4613937818241073152 := by
    unfold cres
    rw [if_neg (by decide +kernel)]
    decide +kernel
  go_enter Try.func26, Try.ntmps26
  go_wp2_with fail
  refine (isFin_three _).mono ?_
  rintro e w1 ⟨rfl, n, rfl⟩
  go_wp2
  go_ret
  exact ⟨rfl, _, rfl⟩
def Ln (q : Nat) (b : Bool) : List Nat := List.replicate q 1048576000 ++ (if b then [1073741824, 1073741824, 1073741824] else [])
theorem Ln_length (q : Nat) (b : Bool) : (Ln q b).length = q + (if b then 3 else 0) := by
  unfold Ln; cases b <;> simp
theorem Ln_q (q : Nat) (b : Bool) (j : Nat) (h : j < q) : (Ln q b).getD j 0 = 1048576000 := by
  unfold Ln
  rw [List.getD_eq_getElem?_getD, List.getElem?_append_left (by simpa using h), List.getElem?_replicate, if_pos h]; rfl
theorem Ln_t (q : Nat) : (Ln q true).getD q 0 = 1073741824 := by
  unfold Ln
  rw [List.getD_eq_getElem?_getD, List.getElem?_append_right (by simp)]
  simp
theorem Ln_mem {q : Nat} {b : Bool} {x : Nat} (h : x ∈ Ln q b) : x = 1048576000 ∨ x = 1073741824 := by
  unfold Ln at h
  rcases List.mem_append.1 h with h | h
  · exact .inl (List.mem_replicate.1 h).2
  · cases b with
    | false => simp at h
    | true => exact .inr (by simpa using h)
theorem Ln_abs (q : Nat) (b : Bool) (j : Nat) (h : j < (Ln q b).length) : absC ((Ln q b).getD j 0) = (Ln q b).getD j 0 := by
  have h1 : absC 1048576000 = 1048576000 := by decide +kernel
  have h2 : absC 1073741824 = 1073741824 := by decide +kernel
  have hm : (Ln q b).getD j 0 ∈ Ln q b := by
    rw [List.getD_eq_getElem?_getD, List.getElem?_eq_getElem h]; exact List.getElem_mem h
  rcases Ln_mem hm with e | e <;> rw [e]
  · exact h1
  · exact h2
/-- A part of a list that was made. -/
theorem rd_part {w : World} {B g n c : Nat} {L M : List Nat} (h : OwnF w B (.slice (some ⟨g, 0, none⟩) n c) L) (hn : L.length = n) (lo : Nat) (hlo : lo + M.length ≤ n) (hM : ∀ j, j < M.length → M.getD j 0 = L.getD (lo + j) 0) (c' : Nat) (hc : M.length ≤ c') : RdF w (.slice (some ⟨g, lo, none⟩) M.length c') M := by
  obtain ⟨g', cap', hv, -, -, -, hcl, -⟩ := h.form.resolve_left fun h => by cases h.1
  obtain rfl : g = g' := by injection hv with e1 e2 e3; injection e1 with e4; injection e4
  refine ⟨some ⟨g, lo, none⟩, c', rfl, hc, (fun h => by cases h), fun j hj => ?_⟩
  obtain ⟨r, h1, h2⟩ := hcl (lo + j) (by omega)
  exact ⟨g, lo, _, rfl, h1, r, rfl, by rw [hM j hj]; exact h2⟩
set_option maxRecDepth 100000 in
set_option maxHeartbeats 3200000 in
theorem pickFirst_any (w : World) (v : Value) (q : Nat) (b : Bool) (h : RdF w v (Ln q b)) (h0 : 4 ≤ q) (h1 : q ≤ 11) :
    Calls Try.prog 11 #[v, .int .i64 1, .int .i64 4, .float .f32 1077936128] w fun e w' => e = .returned (.tuple #[.int .i64 (if b then (q : Int) else 0), .bool b]) ∧ Below w.heap.size w w' := by
  have hmul := run_fmul (P := Try.prog)
  have hquo := run_fquo (P := Try.prog)
  have HR := Lib.hid h
  have hlen := Ln_length q b
  have hl2 : (Ln q b).length ≤ 14 := by rw [hlen]; split <;> omega
  have hl3 : 4 ≤ (Ln q b).length := by rw [hlen]; omega
  obtain ⟨a, c, rfl, -⟩ := h.opened
  have HS := Lib.hid (fun wq hq => sizes_any wq _ (Ln q b) (HR.out.mono hq) (by omega) (fun j hj => Ln_abs q b j hj))
  have HT := Lib.hid (isTrace_any w a (Ln q b).length c (by omega))
  rw [show inB ((Ln q b).length : Int) 1 128 = true by unfold inB; simp; omega] at HT
  have HW := Lib.hid (within_any w 4 1 128)
  have HW2 := Lib.hid (within_any w 1 1 4)
  have HI := Lib.hid (isFinite_three w)
  have HLF := Lib.hid (fun wq => lengthF_any wq a (Ln q b).length c)
  rw [show inB 4 1 128 = true by decide] at HW
  rw [show inB 1 1 4 = true by decide] at HW2
  have HLN := Lib.hid hlen
  clear h hlen
  go_enter Try.func11, Try.ntmps11
  go_wp2_with fail
  refine HT.out.mono ?_
  rintro e w1 ⟨rfl, hw1⟩
  obtain rfl : w = w1 := hw1.symm
  go_wp2_with fail
  refine HW.out.mono ?_
  rintro e w2 ⟨rfl, hw2⟩
  obtain rfl : w = w2 := hw2.symm
  go_wp2_with fail
  refine HW2.out.mono ?_
  rintro e w3 ⟨rfl, hw3⟩
  obtain rfl : w = w3 := hw3.symm
  go_wp2_with fail
  refine HI.out.mono ?_
  rintro e w4 ⟨rfl, n4, hw4⟩
  have b4 : Below w.heap.size w w4 := by rw [hw4]; exact Below.drewN (Below.refl _ _) _
  have B4 := Lib.hid b4
  clear HT HW HW2 HI hw1 hw2 hw3 hw4 b4
  go_wp2_with fail
  refine (HS.out _ B4.out).mono ?_
  rintro e w5 ⟨v5, rfl, o5, b5⟩
  obtain ⟨g, cg, hv5, hgB, hgs, hcg, -, -⟩ := o5.at_block (n := (Ln q b).length) rfl (by omega)
  subst hv5
  have O5 := Lib.hid o5
  have z4 := B4.out.size
  have B5 := Lib.hid (B4.out.trans (b5.mono z4))
  clear o5 b5 HS B4
  go_wp2_with fail
  go_loopw [11] (fun i wr => ∃ k n : Nat, 4 ≤ k ∧ k ≤ q ∧ i = .int .i64 k ∧ wr = w5.drewN n) (fun i _ => 20 - (intOf i).toNat)
  case atStart => exact ⟨4, 0, Nat.le_refl _, h0, rfl, rfl⟩
  case round =>
    obtain ⟨wi, rfl⟩ : ∃ wi : World, wi = wr := ⟨_, rfl⟩
    obtain ⟨k, n, hk4, hkq, rfl, hw⟩ := hrel
    have HWi := Lib.hid hw
    have OI : Hid (OwnF wi w4.heap.size (.slice (some ⟨g, 0, none⟩) (Ln q b).length cg) (Ln q b)) := Lib.hid (by rw [hw]; exact O5.out)
    clear hw
    by_cases hlt : k < (Ln q b).length
    · obtain ⟨x, hx⟩ : ∃ x, (Ln q b).getD k 0 = x := ⟨_, rfl⟩
      have R1 : Hid (RdF wi (.slice (some ⟨g, k, none⟩) 1 (cg - k)) [x]) := Lib.hid (rd_part OI.out rfl k (M := [x]) (by simp; omega) (fun j hj => by
        obtain rfl : j = 0 := by simpa using hj
        rw [Nat.add_zero, hx]; rfl) (cg - k) (by simp; omega))
      have R2 : Hid (RdF wi (.slice (some ⟨g, k - 4, none⟩) 4 (cg - (k - 4))) [1048576000, 1048576000, 1048576000, 1048576000]) := Lib.hid (rd_part OI.out rfl (k - 4) (M := [1048576000, 1048576000, 1048576000, 1048576000]) (by simp; omega) (fun j hj => by
        have hj4 : j < 4 := by simpa using hj
        rw [Ln_q q b _ (by omega)]
        match j, hj4 with
        | 0, _ => rfl
        | 1, _ => rfl
        | 2, _ => rfl
        | 3, _ => rfl) (cg - (k - 4)) (by simp; omega))
      have hck : ¬ cg = k := by omega
      have hck2 : ¬ cg = k - 4 := by omega
      go_wp2_with fail
      refine (HLF.out _).mono ?_
      rintro e w6 ⟨rfl, hw6⟩
      obtain rfl : wi = w6 := hw6.symm
      go_wp2_with fail
      refine region_rel_all (by kernel_rfl) (by kernel_rfl) (Drawn wi) (fun _ args v => ∃ r, v = .float .f32 r ∧ ((args = #[.slice (some ⟨g, k, none⟩) 1 (cg - k)] ∧ FV .f32 r (sumS [x] 1)) ∨ (args = #[.slice (some ⟨g, k - 4, none⟩) 4 (cg - (k - 4))] ∧ FV .f32 r (sumS [1048576000, 1048576000, 1048576000, 1048576000] 4)))) ⟨1, rfl⟩ ?_
      iterate 8 (refine wpRel_draw rfl rfl (fun nq K hK => ?_); go_wp2)
      refine wpRel_callF #[.slice (some ⟨g, k, none⟩) 1 (cg - k)] Try.func29 (by kernel_rfl) (by kernel_rfl) (by simp [go_sem]) ⟨wi, 0, rfl⟩ ⟨.float .f32 (sumS [x] 1), _, rfl, .inl ⟨rfl, fop_cls⟩⟩ ?_ ?_
      · rintro wd ⟨nd, rfl⟩
        refine (sum_any (wi.drewN nd) _ [x] (RdF.drewN R1.out _) (by simp)).mono ?_
        rintro e w'' ⟨r, rfl, hr, n2, rfl⟩
        exact ⟨_, rfl, ⟨r, rfl, .inl ⟨rfl, hr⟩⟩, nd + n2, World.drewN_drewN _ _ _⟩
      rintro v1 ⟨r1, rfl, hr1⟩
      replace hr1 : FV .f32 r1 (sumS [x] 1) := by
        rcases hr1 with h | h
        · exact h.2
        · exfalso
          have := h.1
          simp at this
      simp only [Act.put, List.setIfInBounds_toArray, List.set_cons_succ, List.set_cons_zero]
      have HR1 := Lib.hid hr1
      clear hr1
      iterate 2 (refine wpRel_draw rfl rfl (fun nq K hK => ?_); go_wp2)
      refine wpRel_draw rfl rfl (fun nq1 K hK => ?_)
      go_wp2
      have HQ1 := Lib.hid (FV.op (op := .quo) HR1.out (floatOfInt_fv .f32 1) (wi.drewN nq1))
      generalize fres .quo .f32 r1 (floatOfInt .f32 1) (wi.drewN nq1) = d1 at *
      iterate 7 (refine wpRel_draw rfl rfl (fun nq K hK => ?_); go_wp2)
      refine wpRel_callF #[.slice (some ⟨g, k - 4, none⟩) 4 (cg - (k - 4))] Try.func29 (by kernel_rfl) (by kernel_rfl) (by simp [go_sem]; omega) ⟨wi, 0, rfl⟩ ⟨.float .f32 (sumS [1048576000, 1048576000, 1048576000, 1048576000] 4), _, rfl, .inr ⟨rfl, fop_cls⟩⟩ ?_ ?_
      · rintro wd ⟨nd, rfl⟩
        refine (sum_any (wi.drewN nd) _ [1048576000, 1048576000, 1048576000, 1048576000] (RdF.drewN R2.out _) (by simp)).mono ?_
        rintro e w'' ⟨r, rfl, hr, n2, rfl⟩
        exact ⟨_, rfl, ⟨r, rfl, .inr ⟨rfl, hr⟩⟩, nd + n2, World.drewN_drewN _ _ _⟩
      rintro v2 ⟨r2, rfl, hr2⟩
      replace hr2 : FV .f32 r2 (sumS [1048576000, 1048576000, 1048576000, 1048576000] 4) := by
        rcases hr2 with h | h
        · exfalso
          have := h.1
          simp at this
        · exact h.2
      simp only [Act.put, List.setIfInBounds_toArray, List.set_cons_succ, List.set_cons_zero]
      have HR2 := Lib.hid hr2
      clear hr2
      refine wpRel_draw rfl rfl (fun nq2 K hK => ?_)
      go_wp2
      have HQ2 := Lib.hid (FV.op (op := .mul) (show FV .f32 1077936128 1077936128 from ⟨by decide, by decide +kernel⟩) HR2.out (wi.drewN nq2))
      generalize fres .mul .f32 1077936128 r2 (wi.drewN nq2) = d2 at *
      iterate 2 (refine wpRel_draw rfl rfl (fun nq K hK => ?_); go_wp2)
      refine wpRel_draw rfl rfl (fun nq3 K hK => ?_)
      go_wp2
      have HQ3 := Lib.hid (FV.op (op := .quo) HQ2.out (floatOfInt_fv .f32 4) (wi.drewN nq3))
      generalize fres .quo .f32 d2 (floatOfInt .f32 4) (wi.drewN nq3) = d3 at *
      have HT : Hid (FloatKind.f32.format.order d1 d3 = FloatKind.f32.format.order (fop .quo .f32 (sumS [x] 1) (floatOfInt .f32 1)) (fop .quo .f32 (fop .mul .f32 1077936128 (sumS [1048576000, 1048576000, 1048576000, 1048576000] 4)) (floatOfInt .f32 4))) := Lib.hid (FV.order HQ1.out HQ3.out)
      clear HQ1 HQ2 HQ3 HR1 HR2 R1 R2
      by_cases hkq2 : k < q
      · have hxq : x = 1048576000 := by rw [← hx]; exact Ln_q q b k hkq2
        have ht : (FloatKind.f32.format.order d1 d3 == some Ordering.gt) = false := by rw [HT.out, hxq]; decide +kernel
        clear HT hx
        refine wpRel_draw rfl rfl (fun nq K hK => ?_)
        go_wp2
        refine wpRel_nil ?_
        rintro wd ⟨nd, hwd⟩
        have HWD := Lib.hid hwd
        clear hwd
        go_wp2
        exact ⟨⟨k + 1, n + nd, by omega, by omega, by go_num, by rw [HWD.out, HWi.out, World.drewN_drewN]⟩, by simp [intOf]; omega⟩
      · obtain rfl : k = q := by omega
        cases b with
        | false => simp [Ln_length] at hlt
        | true =>
          have hxq : x = 1073741824 := by rw [← hx]; exact Ln_t k
          have ht : (FloatKind.f32.format.order d1 d3 == some Ordering.gt) = true := by rw [HT.out, hxq]; decide +kernel
          clear HT hx
          refine wpRel_draw rfl rfl (fun nq K hK => ?_)
          go_wp2
          refine wpRel_nil ?_
          rintro wd ⟨nd, hwd⟩
          have HWD := Lib.hid hwd
          clear hwd
          go_wp2
          go_ret2
          exact ⟨rfl, by rw [HWD.out, HWi.out]; exact Below.drewN (Below.drewN B5.out _) _⟩
    · have hkq3 : k = q := by have := HLN.out; omega
      cases b with
      | true => exfalso; simp [Ln_length] at hlt; omega
      | false =>
        go_wp2_with fail
        refine (HLF.out _).mono ?_
        rintro e w6 ⟨rfl, hw6⟩
        obtain rfl : wi = w6 := hw6.symm
        go_wp2_with fail
        go_ret2
        exact ⟨rfl, by rw [HWi.out]; exact Below.drewN B5.out _⟩
end Go.Proofs.Ytcffkhmjljlbaaa
