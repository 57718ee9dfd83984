/- Walks: traces that are shifted, energies, the best of a list, the best shift. -/
import Derived.Test.YthacadbdncfocaaSrc
namespace Go.Proofs.Ythacadbdncfocaa
open Go Go.RowKit

set_option maxRecDepth 100000 in
set_option maxHeartbeats 400000 in
theorem within_any (w : World) (n lo hi : Int) :
    Calls Try.prog 51 #[.int .i64 n, .int .i64 lo, .int .i64 hi] w fun e w' => e = .returned (.bool (inB n lo hi)) ∧ w' = w := by
  by_cases h : lo ≤ n
  · have HG : Hid (inB n lo hi = decide (n ≤ hi)) := Lib.hid (by unfold inB; rw [decide_eq_true h]; rfl)
    go_enter Try.func51, Try.ntmps51
    go_wp2
    go_ret
    refine ⟨?_, rfl⟩
    rw [HG.out]; rfl
  · have HG : Hid (inB n lo hi = false) := Lib.hid (by unfold inB; rw [decide_eq_false h]; rfl)
    go_enter Try.func51, Try.ntmps51
    go_wp2
    go_ret
    refine ⟨?_, rfl⟩
    rw [HG.out]; rfl
set_option maxRecDepth 100000 in
set_option maxHeartbeats 400000 in
theorem lengthF_any (w : World) (a : Option Addr) (n c : Nat) :
    Calls Try.prog 45 #[.slice a n c] w fun e w' => e = .returned (.int .i64 (n : Int)) ∧ w' = w := by
  go_enter Try.func45, Try.ntmps45
  go_wp2
  go_ret
  exact ⟨rfl, rfl⟩
set_option maxRecDepth 100000 in
set_option maxHeartbeats 400000 in
theorem isCount_any (w : World) (n : Int) :
    Calls Try.prog 44 #[.int .i64 n] w fun e w' => e = .returned (.bool (inB n 1 128)) ∧ w' = w := by
  have K := within_any w n 1 128
  generalize inB n 1 128 = q at K
  go_enter Try.func44, Try.ntmps44
  go_wp2_with fail
  refine K.mono ?_
  rintro e w1 ⟨rfl, rfl⟩
  go_wp2
  go_ret
  exact ⟨rfl, rfl⟩
set_option maxRecDepth 100000 in
set_option maxHeartbeats 400000 in
theorem isTrace_any (w : World) (a : Option Addr) (n c : Nat) (hn : n ≤ 1048576) :
    Calls Try.prog 43 #[.slice a n c] w fun e w' => e = .returned (.bool (inB n 1 128)) ∧ w' = w := by
  have K := isCount_any w n
  generalize inB n 1 128 = q at K
  go_enter Try.func43, Try.ntmps43
  go_wp2_with fail
  refine (lengthF_any w a n c).mono ?_
  rintro e w0 ⟨rfl, rfl⟩
  go_wp2_with fail
  refine K.mono ?_
  rintro e w1 ⟨rfl, rfl⟩
  go_wp2
  go_ret
  exact ⟨rfl, rfl⟩

set_option maxRecDepth 100000 in
set_option maxHeartbeats 800000 in
theorem at_any (w : World) (v : Value) (L : List Nat) (t : Int) (h : RdF w v L) (hl : L.length ≤ 1000) (h0 : -1000 ≤ t) (h1 : t ≤ 1000) :
    Calls Try.prog 72 #[v, .int .i64 t] w fun e w' => ∃ r, e = .returned (.float .f32 r) ∧ FV .f32 r (if inB t 0 ((L.length : Int) - 1) then L.getD t.toNat 0 else 0) ∧ w' = w := by
  obtain ⟨a, c, rfl, hc, -, hcell⟩ := h.opened
  have HL := Lib.hid (fun wq => lengthF_any wq a L.length c)
  have HW := Lib.hid (fun wq => within_any wq t 0 ((L.length : Int) - 1))
  clear h
  cases hq : inB t 0 ((L.length : Int) - 1) with
  | false =>
    rw [hq] at HW
    clear hq hcell
    go_enter Try.func72, Try.ntmps72
    go_wp2_with fail
    refine (HL.out _).mono ?_
    rintro e w1 ⟨rfl, rfl⟩
    go_wp2_with fail
    refine (HW.out _).mono ?_
    rintro e w2 ⟨rfl, rfl⟩
    go_wp2
    go_ret
    exact ⟨0, rfl, fv0 _, rfl⟩
  | true =>
    rw [hq] at HW
    obtain ⟨k0, k1⟩ := inB_out hq
    obtain ⟨i, rfl⟩ : ∃ i : Nat, t = i := ⟨t.toNat, by omega⟩
    obtain ⟨b, o, r, rfl, hr1, hr2⟩ := hcell i (by omega)
    have HF := Lib.hid hr2
    clear hq hcell hr2
    go_enter Try.func72, Try.ntmps72
    go_wp2_with fail
    refine (HL.out _).mono ?_
    rintro e w1 ⟨rfl, rfl⟩
    go_wp2_with fail
    refine (HW.out _).mono ?_
    rintro e w2 ⟨rfl, rfl⟩
    go_wp2
    go_ret
    exact ⟨r, rfl, HF.out, rfl⟩
set_option maxRecDepth 100000 in
set_option maxHeartbeats 1600000 in
theorem shifted_any (w : World) (v : Value) (L : List Nat) (t : Int) (h : RdF w v L) (hl : L.length ≤ 500) (h0 : -400 ≤ t) (h1 : t ≤ 400) :
    Calls Try.prog 52 #[v, .int .i64 t] w fun e w' => ∃ v', e = .returned v' ∧ OwnF w' w.heap.size v' (latF L t) ∧ Below w.heap.size w w' := by
  have hst := run_store_float (P := Try.prog)
  have HR := Lib.hid h
  obtain ⟨a, c, rfl, -⟩ := h.opened
  have hll : (latF L t).length = L.length := tab_length _ _
  have HLL := Lib.hid hll
  clear h hll
  go_enter Try.func52, Try.ntmps52
  go_wp2_with (refine wpList_mk rfl _ _ rfl w.heap.size _ _ _ _ L.length rfl rfl rfl rfl (by omega) (Nat.le_refl _) ?_; intro w1 o1 b1 z1)
  have B1 := Lib.hid b1
  have O1 : Hid (OwnF w1 w.heap.size (.slice (some ⟨w.heap.size, 0, none⟩) L.length L.length) (upTo (latF L t) 0)) := Lib.hid (by rw [upTo_zero, HLL.out]; exact o1)
  clear b1 o1
  go_loopw [12] (fun i wr => ∃ j : Nat, j ≤ L.length ∧ i = .int .i64 j ∧ OwnF wr w.heap.size (.slice (some ⟨w.heap.size, 0, none⟩) L.length L.length) (upTo (latF L t) j) ∧ Below w.heap.size w wr) (fun i _ => L.length - (intOf i).toNat)
  case atStart => exact ⟨0, Nat.zero_le _, rfl, O1.out, B1.out⟩
  case round =>
    clear O1 B1
    obtain ⟨wi, rfl⟩ : ∃ wi : World, wi = wr := ⟨_, rfl⟩
    obtain ⟨j, hj, rfl, ho, hb⟩ := hrel
    have HO := Lib.hid ho
    have HB := Lib.hid hb
    have hzi := hb.size
    have hul : (upTo (latF L t) j).length = L.length := by rw [upTo_length, HLL.out]
    by_cases hlt : j < L.length
    · have HA := Lib.hid (at_any wi _ L ((j : Int) + t) (HR.out.mono hb) (by omega) (by omega) (by omega))
      have hat : Hid ((latF L t).getD j 0 = if inB ((j : Int) + t) 0 ((L.length : Int) - 1) then L.getD ((j : Int) + t).toNat 0 else 0) := Lib.hid (tab_getD _ _ _ hlt)
      obtain ⟨g', cap', hv, -, -, -, hcl, hfr⟩ := ho.form.resolve_left fun h => by cases h.1
      have hg : w.heap.size = g' := by injection hv with e1 e2 e3; injection e1 with e4; injection e4
      subst hg
      have hfj := hfr j
      obtain ⟨r0, hr0, -⟩ := hcl j (by omega)
      have HUL := Lib.hid hul
      clear hv hfr hcl ho hb hul
      go_wp2_with fail
      refine HA.out.mono ?_
      rintro e w3 ⟨r, rfl, hr, hw3⟩
      obtain rfl : wi = w3 := hw3.symm
      have HF : Hid (FV .f32 r ((latF L t).getD j 0)) := Lib.hid (by rw [hat.out]; exact hr)
      clear HA hat hr hw3
      go_wp2
      refine ⟨⟨j + 1, by omega, by go_num, ?_, ?_⟩, by simp [intOf]; omega⟩
      · rw [← upTo_set]
        exact HO.out.storedN HUL.out HF.out
      · exact Below.chg HB.out ((Chg.refl _ (fun k => k = w.heap.size)).setCell rfl j (.float .f32 r)) (fun k hk => by omega) hzi
    · obtain rfl : j = L.length := by omega
      go_wp2
      go_ret
      refine ⟨_, rfl, ?_, HB.out⟩
      have := HO.out
      rwa [upTo_all _ _ (by rw [HLL.out]; exact Nat.le_refl _)] at this
set_option maxRecDepth 100000 in
set_option maxHeartbeats 800000 in
theorem shiftTrace_any (w : World) (v : Value) (L : List Nat) (t : Int) (h : RdF w v L) (hl : inB L.length 1 128 = true) (h0 : 0 ≤ t) (h1 : t ≤ 100) :
    Calls Try.prog 13 #[v, .int .i64 t] w fun e w' => ∃ v', e = .returned (.tuple #[v', .bool true]) ∧ OwnF w' w.heap.size v' (latF L (-t)) ∧ Below w.heap.size w w' := by
  have hb := inB_out hl
  have HS := Lib.hid (shifted_any w v L (-t) h (by omega) (by omega) (by omega))
  obtain ⟨a, c, rfl, -⟩ := h.opened
  have HT := Lib.hid (isTrace_any w a L.length c (by omega))
  rw [hl] at HT
  have HW := Lib.hid (within_any w t (-128) 128)
  rw [show inB t (-128) 128 = true by unfold inB; simp; omega] at HW
  clear h
  go_enter Try.func13, Try.ntmps13
  go_wp2_with fail
  refine HT.out.mono ?_
  rintro e w1 ⟨rfl, hw1⟩
  obtain rfl : w = w1 := hw1.symm
  go_wp2_with fail
  refine HW.out.mono ?_
  rintro e w2 ⟨rfl, hw2⟩
  obtain rfl : w = w2 := hw2.symm
  clear HT HW hw1 hw2
  go_wp2_with fail
  refine HS.out.mono ?_
  rintro e w3 ⟨v', rfl, o3, b3⟩
  have O3 := Lib.hid o3
  clear o3 HS
  go_wp2
  go_ret2
  exact ⟨_, rfl, O3.out, b3⟩
set_option maxRecDepth 100000 in
set_option maxHeartbeats 800000 in
theorem energy_any (w : World) (v : Value) (L : List Nat) (h : RdF w v L) (hl : L.length ≤ 1000) :
    Calls Try.prog 74 #[v] w fun e w' => ∃ r, e = .returned (.float .f32 r) ∧ FV .f32 r (enS L L.length) ∧ Below w.heap.size w w' := by
  have hadd := run_fadd (P := Try.prog)
  have hmul := run_fmul (P := Try.prog)
  obtain ⟨a, c, rfl, hc, -, hcell⟩ := h.opened
  clear h
  go_enter Try.func74, Try.ntmps74
  go_wp2
  go_loopw [3, 8] (fun q i wr => ∃ (j n r : Nat), j ≤ L.length ∧ i = .int .i64 j ∧ q = .float .f32 r ∧ FV .f32 r (enS L j) ∧ wr = w.drewN n) (fun _ i _ => L.length - (intOf i).toNat)
  case atStart => exact ⟨0, 0, 0, Nat.zero_le _, rfl, rfl, fv0 _, rfl⟩
  case round =>
    obtain ⟨wi, rfl⟩ : ∃ wi : World, wi = wr := ⟨_, rfl⟩
    obtain ⟨j, n, r, hj, rfl, rfl, hf, hw⟩ := hrel
    have HW := Lib.hid hw
    have HF := Lib.hid hf
    by_cases hlt : j < L.length
    · obtain ⟨b, o, x, rfl, hx1, hx2⟩ := hcell j hlt
      have hx1' : wi.cell? ⟨b, o + j, none⟩ = some (.float .f32 x) := by rw [hw]; exact hx1
      have HX := Lib.hid hx2
      clear hcell hx1 hx2 hw hf
      go_wp2
      refine ⟨⟨j + 1, n + (fcnt .mul .f32 x x + fcnt .add .f32 r (fres .mul .f32 x x wi)), _, by omega, by go_num, rfl, FV.op (op := .add) HF.out (FV.op (op := .mul) HX.out HX.out _) _, ?_⟩, by simp [intOf]; omega⟩
      rw [HW.out, World.drewN_drewN]
    · obtain rfl : j = L.length := by omega
      clear hw hf
      go_wp2
      go_ret
      exact ⟨r, rfl, HF.out, by rw [HW.out]; exact Below.drewN (Below.refl _ _) _⟩
end Go.Proofs.Ythacadbdncfocaa
