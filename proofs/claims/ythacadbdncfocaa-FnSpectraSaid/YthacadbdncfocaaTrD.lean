/- Walks: folded traces, wavelets, pulses, lists that are alike. -/
import Derived.Test.YthacadbdncfocaaTrC
namespace Go.Proofs.Ythacadbdncfocaa
open Go Go.RowKit

set_option maxRecDepth 100000 in
set_option maxHeartbeats 1600000 in
theorem foldTraces_any (w : World) (v1 v2 : Value) (A B : List Nat) (h1 : RdF w v1 A) (h2 : RdF w v2 B) (hA : 1 ≤ A.length) (hA2 : A.length ≤ 128) (hB : 1 ≤ B.length) (hB2 : B.length ≤ 128) (hn : A.length + B.length - 1 ≤ 128) :
    Calls Try.prog 9 #[v1, v2] w fun e w' => ∃ v', e = .returned (.tuple #[v', .bool true]) ∧ OwnF w' w.heap.size v' (foldM A B) ∧ Below w.heap.size w w' := by
  have hst := run_store_float (P := Try.prog)
  have HFd := Lib.hid (fun wq hq k hk => folded_any wq v1 v2 A B k (h1.mono hq) (h2.mono hq) hA hA2 hB hB2 hk)
  obtain ⟨a1, c1, rfl, -⟩ := h1.opened
  obtain ⟨a2, c2, rfl, -⟩ := h2.opened
  have K1 := isTrace_any w a1 A.length c1 (by omega)
  rw [show inB (A.length : Int) 1 128 = true by unfold inB; simp; omega] at K1
  have K2 := isTrace_any w a2 B.length c2 (by omega)
  rw [show inB (B.length : Int) 1 128 = true by unfold inB; simp; omega] at K2
  have L1 := lengthF_any w a1 A.length c1
  have L2 := lengthF_any w a2 B.length c2
  obtain ⟨n, hnn⟩ : ∃ n, A.length + B.length - 1 = n := ⟨_, rfl⟩
  have hni : (A.length : Int) + (B.length : Int) - 1 = (n : Int) := by omega
  have KC := isCount_any w (n : Int)
  rw [show inB (n : Int) 1 128 = true by unfold inB; simp; omega] at KC
  have HK1 := Lib.hid K1
  have HK2 := Lib.hid K2
  have HL1 := Lib.hid L1
  have HL2 := Lib.hid L2
  have HKC := Lib.hid KC
  have HML : Hid ((foldM A B).length = n) := Lib.hid (by rw [foldM_length]; exact hnn)
  have HN := Lib.hid hnn
  have hn1 : 1 ≤ n := by omega
  have hn2 : n ≤ 128 := by omega
  clear h1 h2 K1 K2 L1 L2 KC hnn hn
  go_enter Try.func9, Try.ntmps9
  go_wp2_with fail
  refine HK1.out.mono ?_
  rintro e w0 ⟨rfl, hw0⟩
  obtain rfl : w = w0 := hw0.symm
  clear HK1 hw0
  go_wp2_with fail
  refine HK2.out.mono ?_
  rintro e w0 ⟨rfl, hw0⟩
  obtain rfl : w = w0 := hw0.symm
  clear HK2 hw0
  go_wp2_with fail
  refine HL1.out.mono ?_
  rintro e w0 ⟨rfl, hw0⟩
  obtain rfl : w = w0 := hw0.symm
  clear HL1 hw0
  go_wp2_with fail
  refine HL2.out.mono ?_
  rintro e w0 ⟨rfl, hw0⟩
  obtain rfl : w = w0 := hw0.symm
  clear HL2 hw0
  go_wp2_with fail
  refine HKC.out.mono ?_
  rintro e w0 ⟨rfl, hw0⟩
  obtain rfl : w = w0 := hw0.symm
  clear HKC hw0
  go_wp2_with (refine wpList_mk rfl _ _ rfl w.heap.size _ _ _ _ n rfl rfl (by first | exact hni | rfl) (by first | exact hni | rfl) (by omega) (Nat.le_refl _) ?_; intro w1 o1 b1 z1)
  have O1 : Hid (OwnF w1 w.heap.size (.slice (some ⟨w.heap.size, 0, none⟩) n n) (upTo (foldM A B) 0)) := Lib.hid (by rw [upTo_zero, HML.out]; exact o1)
  have B1 := Lib.hid b1
  clear b1 o1 hni
  go_loopw [35] (fun i wr => ∃ j : Nat, j ≤ n ∧ i = .int .i64 j ∧ OwnF wr w.heap.size (.slice (some ⟨w.heap.size, 0, none⟩) n n) (upTo (foldM A B) j) ∧ Below w.heap.size w wr) (fun i _ => n - (intOf i).toNat)
  case atStart => exact ⟨0, Nat.zero_le _, rfl, O1.out, B1.out⟩
  case round =>
    clear O1 B1
    obtain ⟨wi, rfl⟩ : ∃ wi : World, wi = wr := ⟨_, rfl⟩
    obtain ⟨j, hj, rfl, ho, hb⟩ := hrel
    have HO := Lib.hid ho
    have HB := Lib.hid hb
    have hzi := hb.size
    have hul : (upTo (foldM A B) j).length = n := by rw [upTo_length, HML.out]
    by_cases hlt : j < n
    · have HA := Lib.hid (HFd.out wi hb j (by have := HN.out; omega))
      have hat : Hid ((foldM A B).getD j 0 = foldS A B j) := Lib.hid (tab_getD _ _ _ (by have := HN.out; omega))
      have HUL := Lib.hid hul
      clear ho hb hul
      go_wp2_with fail
      refine HA.out.mono ?_
      rintro e w3 ⟨r, rfl, hr, nq, hw3⟩
      have HF : Hid (FV .f32 r ((foldM A B).getD j 0)) := Lib.hid (by rw [hat.out]; exact hr)
      have HO3 := Lib.hid (show OwnF w3 w.heap.size (.slice (some ⟨w.heap.size, 0, none⟩) n n) (upTo (foldM A B) j) from by rw [hw3]; exact HO.out.drewN nq)
      have HB3 := Lib.hid (show Below w.heap.size w w3 from by rw [hw3]; exact Below.drewN HB.out nq)
      obtain ⟨g', cap', hv, -, -, -, hcl, hfr⟩ := HO3.out.at_block (n := n) HUL.out (by omega)
      have hg : w.heap.size = g' := by injection hv with e1 e2 e3; injection e1 with e4; injection e4
      subst hg
      have hfj := hfr j
      obtain ⟨r0, hr0, -⟩ := hcl j (by rw [HUL.out]; exact hlt)
      clear HA hat hr hw3 hv hcl hfr HO HB
      go_wp2
      refine ⟨⟨j + 1, by omega, by go_num, ?_, ?_⟩, by simp [intOf]; omega⟩
      · rw [← upTo_set]
        exact HO3.out.storedN HUL.out HF.out
      · exact Below.chg HB3.out ((Chg.refl _ (fun k => k = w.heap.size)).setCell rfl j (.float .f32 r)) (fun k hk => by omega) HB3.out.size
    · obtain rfl : j = n := by omega
      have HF := Lib.hid (show OwnF wi w.heap.size (.slice (some ⟨w.heap.size, 0, none⟩) j j) (foldM A B) from by have := HO.out; rwa [upTo_all _ _ (by rw [HML.out]; exact Nat.le_refl _)] at this)
      clear ho hb hul
      go_wp2
      go_ret2
      exact ⟨_, rfl, HF.out, HB.out⟩
def abtM (A B : List Nat) (m : Nat) : List Nat := tab (fun j => (foldM A B).getD (m + j) 0) A.length
/-- A wavelet. -/
def wavU (r k : Nat) : Nat := fop .quo .f32 (floatOfInt .f32 ((k : Int) - (r : Int))) (floatOfInt .f32 ((r : Int) + 1))
def wavQ (r k : Nat) : Nat := fop .mul .f32 (wavU r k) (wavU r k)
def wavV (r k : Nat) : Nat := fop .sub .f32 1065353216 (wavQ r k)
def wavF (r k : Nat) : Nat := fop .mul .f32 (fop .mul .f32 (wavV r k) (wavV r k)) (fop .sub .f32 1065353216 (fop .mul .f32 1077936128 (wavQ r k)))
def wavL (r : Nat) : List Nat := tab (wavF r) (2 * r + 1)
theorem fv_one : FV .f32 1065353216 1065353216 := ⟨by decide, by decide +kernel⟩
theorem fv_three : FV .f32 1077936128 1077936128 := ⟨by decide, by decide +kernel⟩
set_option maxRecDepth 100000 in
set_option maxHeartbeats 1600000 in
theorem pulseTrace_any (w : World) (n i : Nat) (h1 : 1 ≤ n) (h2 : n ≤ 100) (hi : i < n) :
    Calls Try.prog 15 #[.int .i64 n, .int .i64 i, .float .f32 1065353216] w fun e w' => ∃ v', e = .returned (.tuple #[v', .bool true]) ∧ OwnF w' w.heap.size v' ((List.replicate n 0).set i 1065353216) ∧ Below w.heap.size w w' := by
  have hst := run_store_float (P := Try.prog)
  have KC := isCount_any w (n : Int)
  rw [show inB (n : Int) 1 128 = true by unfold inB; simp; omega] at KC
  have HW := within_any w i 0 ((n : Int) - 1)
  rw [show inB (i : Int) 0 ((n : Int) - 1) = true by unfold inB; simp; omega] at HW
  go_enter Try.func15, Try.ntmps15
  go_wp2_with fail
  refine KC.mono ?_
  rintro e w0 ⟨rfl, hw0⟩
  obtain rfl : w = w0 := hw0.symm
  clear KC hw0
  go_wp2_with fail
  refine HW.mono ?_
  rintro e w0 ⟨rfl, hw0⟩
  obtain rfl : w = w0 := hw0.symm
  clear HW hw0
  go_wp2_with (refine wpList_mk rfl _ _ rfl w.heap.size _ _ _ _ n rfl rfl rfl rfl (by omega) (Nat.le_refl _) ?_; intro w1 o1 b1 z1; have O1 := Lib.hid o1; have B1 := Lib.hid b1; obtain ⟨g', cap', hv, -, -, -, hcl, hfr⟩ := o1.at_block (n := n) (by simp) h1; have hg : w.heap.size = g' := (by injection hv with e1 e2 e3; injection e1 with e4; injection e4); subst hg; have hfj := hfr i; obtain ⟨r0, hr0, -⟩ := hcl i (by simpa using hi); clear hv hcl hfr o1 b1)
  go_ret2
  refine ⟨_, rfl, O1.out.storedN (by simp) fv_one, Below.chg B1.out ((Chg.refl _ (fun k => k = w.heap.size)).setCell rfl i _) (fun k hk => by omega) B1.out.size⟩
set_option maxRecDepth 100000 in
set_option maxHeartbeats 800000 in
theorem gap_same (w : World) (d : Nat) (hd : FV .f64 d d) (hf : fin .f64 d = true) :
    Calls Try.prog 16 #[.float .f64 d, .float .f64 d] w fun e w' => ∃ q, e = .returned (.float .f64 q) ∧ FloatKind.f64.format.order q 0 = some .eq ∧ ∃ n, w' = w.drewN n := by
  have hsub := run_fsub (P := Try.prog)
  have hnn : isN .f64 d = false := by
    cases h : isN .f64 d with
    | false => rfl
    | true =>
      exfalso
      unfold fin at hf
      unfold isN at h
      cases hq : FloatKind.f64.decode d <;> rw [hq] at h hf <;> simp_all [Ieee.Datum.isNaN]
  have ho := order_self hnn
  have hlt : (FloatKind.f64.format.order d d == some Ordering.lt) = false := by rw [ho]; rfl
  have hq : FloatKind.f64.format.order (fop .sub .f64 d d) 0 = some .eq := by
    have := self_less .f64 d
    rw [hf] at this
    simpa using this
  have HQ : Hid (∀ wq, FloatKind.f64.format.order (fres .sub .f64 d d wq) 0 = some .eq) := Lib.hid fun wq => by
    have h1 : FV .f64 (fres .sub .f64 d d wq) (fop .sub .f64 d d) := FV.op (op := .sub) hd hd wq
    rw [h1.order (fv0 .f64)]
    exact hq
  clear hq ho
  go_enter Try.func16, Try.ntmps16
  go_wp2
  go_ret
  exact ⟨_, rfl, HQ.out _, _, rfl⟩
theorem fv_eq {r x : Nat} (h : FV .f32 r x) (hx : isN .f32 x = false) : r = x := by
  have h1 := h.2
  have h2 : isN .f32 r = false := by rw [← isN_can, h1]; exact hx
  rw [can_of_not h2] at h1
  exact h1
theorem fin_not {x : Nat} (h : fin .f32 x = true) : isN .f32 x = false := by
  cases hn : isN .f32 x with
  | false => rfl
  | true =>
    exfalso
    unfold fin at h
    unfold isN at hn
    cases hq : FloatKind.f32.decode x <;> rw [hq] at h hn <;> simp_all [Ieee.Datum.isNaN]
set_option maxRecDepth 100000 in
set_option maxHeartbeats 1600000 in
theorem b10Alike_any (w : World) (v1 v2 : Value) (L : List Nat) (h1 : RdF w v1 L) (h2 : RdF w v2 L) (hmax : L.length ≤ 1000) (hfin : ∀ j, j < L.length → fin .f32 (L.getD j 0) = true) :
    Calls Try.prog 34 #[v1, v2, .float .f64 0] w fun e w' => e = .returned (.bool true) ∧ ∃ n, w' = w.drewN n := by
  have hcv := run_widen (P := Try.prog) 27 40 (by kernel_rfl) (by kernel_rfl)
  obtain ⟨a1, c1, rfl, hc1, -, hcell1⟩ := h1.opened
  obtain ⟨a2, c2, rfl, hc2, -, hcell2⟩ := h2.opened
  clear h1 h2
  go_enter Try.func34, Try.ntmps34
  go_wp2
  go_loopw [15] (fun i wr => ∃ k q : Nat, k ≤ L.length ∧ i = .int .i64 k ∧ wr = w.drewN q) (fun i _ => L.length - (intOf i).toNat)
  case atStart => exact ⟨0, 0, Nat.zero_le _, rfl, rfl⟩
  case round =>
    obtain ⟨wi, rfl⟩ : ∃ wi : World, wi = wr := ⟨_, rfl⟩
    obtain ⟨k, q, hk, rfl, hq⟩ := hrel
    by_cases hlt : k < L.length
    · obtain ⟨b, o, r, rfl, d0, F0⟩ := hcell1 k hlt
      obtain ⟨b', o', s, rfl, g0, G0⟩ := hcell2 k hlt
      have hfk := hfin k hlt
      obtain rfl := fv_eq F0 (fin_not hfk)
      obtain rfl := fv_eq G0 (fin_not hfk)
      have D0 : wi.cell? ⟨b, o + k, none⟩ = some (.float .f32 (L.getD k 0)) := by rw [hq]; exact d0
      have E0 : wi.cell? ⟨b', o' + k, none⟩ = some (.float .f32 (L.getD k 0)) := by rw [hq]; exact g0
      have hcr : ∀ wq, cres (L.getD k 0) wq = cwide (L.getD k 0) := fun wq => by unfold cres cwide; rw [fin_not hfk]; rfl
      have hcn : ccnt (L.getD k 0) = 0 := by unfold ccnt; rw [fin_not hfk]; rfl
      have HGp := Lib.hid (fun wq => gap_same wq (cwide (L.getD k 0)) (by have := (F0.wide wq).cls; exact this) (by rw [fin_wide]; exact hfk))
      have Hq := Lib.hid hq
      clear hcell1 hcell2 d0 g0 F0 G0 hq hfin hfk
      generalize L.getD k 0 = x at *
      generalize hcw : cwide x = cw at *
      clear hcw
      go_wp2
      refine region_rel_all (by kernel_rfl) (by kernel_rfl) (Drawn wi) (fun _ _ v => ∃ q, v = .float .f64 q ∧ FloatKind.f64.format.order q 0 = some .eq) ⟨1, rfl⟩ ?_
      repeat (refine wpRel_draw rfl rfl (fun nq K hK => ?_); go_wp2)
      refine wpRel_callF #[.float .f64 cw, .float .f64 cw] Try.func16 (by kernel_rfl) (by kernel_rfl) (by simp [go_sem]) ⟨wi, 0, rfl⟩ ⟨.float .f64 0, 0, rfl, by decide +kernel⟩ ?_ ?_
      · rintro wd ⟨nd, rfl⟩
        refine (HGp.out (wi.drewN nd)).mono ?_
        rintro e w'' ⟨q, rfl, hq0, nn, rfl⟩
        exact ⟨_, rfl, ⟨q, rfl, hq0⟩, nd + nn, World.drewN_drewN _ _ _⟩
      · rintro v ⟨q, rfl, hq0⟩
        simp only [Act.put, List.setIfInBounds_toArray, List.set_cons_succ, List.set_cons_zero]
        repeat (refine wpRel_draw rfl rfl (fun nq K hK => ?_); go_wp2)
        refine wpRel_nil ?_
        rintro wd ⟨nd, hwd⟩
        have Hwd := Lib.hid hwd
        clear hwd
        go_wp2
        exact ⟨⟨k + 1, _ + nd, by omega, by go_num, by rw [Hwd.out, Hq.out, World.drewN_drewN]⟩, by simp [intOf]; omega⟩
    · have Hq := Lib.hid hq
      clear hq
      go_wp2
      go_ret
      exact ⟨rfl, q, Hq.out⟩
end Go.Proofs.Ythacadbdncfocaa
