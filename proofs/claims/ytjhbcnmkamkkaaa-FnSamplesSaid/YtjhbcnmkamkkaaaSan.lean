/- Walks: SampleBetween, MoveTrace, CorrectTrace, BendTrace. -/
import Derived.Test.YtjhbcnmkamkkaaaSam
import Derived.Test.YtjhbcnmkamkkaaaSfG
namespace Go.Proofs.Ytjhbcnmkamkkaaa
open Go Go.RowKit

set_option maxRecDepth 100000 in
theorem isTicks_any (w : World) (a : Option Addr) (n c : Nat) (h0 : 1 ≤ n) (h1 : n ≤ 64) :
    Calls Try.prog 77 #[.slice a n c] w fun e w' => e = .returned (.bool true) ∧ w' = w := by
  have HLF := Lib.hid (fun wq => lengthF_any wq a n c)
  have HW1 := Lib.hid (fun wq => within_any wq (n : Int) 1 64)
  rw [show inB (n : Int) 1 64 = true by simp [inB]; omega] at HW1
  go_enter Try.func77, Try.ntmps77
  go_wp2_with fail
  refine (HLF.out _).mono ?_
  rintro e w2 ⟨rfl, hw2⟩
  obtain rfl : w = w2 := hw2.symm
  go_wp2_with fail
  refine (HW1.out _).mono ?_
  rintro e w3 ⟨rfl, hw3⟩
  obtain rfl : w = w3 := hw3.symm
  go_wp2
  go_ret
  exact ⟨rfl, rfl⟩
set_option maxRecDepth 100000 in
set_option maxHeartbeats 800000 in
theorem sampleBetween_fine (w : World) (v : Value) (L : List Nat) (t r : Nat) (hL : RdF w v L) (h0 : 1 ≤ L.length) (hn : L.length ≤ 64) (hnn : ∀ j, j < L.length → isN .f32 (L.getD j 0) = false) (h : Smp L t r) :
    Calls Try.prog 36 #[v, .float .f32 t] w fun e w' => e = .returned (.tuple #[.float .f32 r, .bool true]) ∧ ∃ n, w' = w.drewN n := by
  have HS := Lib.hid (sample_fine w v L t r hL h0 hn hnn h)
  obtain ⟨a, c, rfl, -, -, -⟩ := hL.opened
  have HT := Lib.hid (isTicks_any w a L.length c h0 hn)
  clear hL hnn h
  go_enter Try.func36, Try.ntmps36
  go_wp2_with fail
  refine HT.out.mono ?_
  rintro e w1 ⟨rfl, hw1⟩
  obtain rfl : w = w1 := hw1.symm
  go_wp2_with fail
  refine HS.out.mono ?_
  rintro e w2 ⟨rfl, n2, hw2⟩
  have H2 := Lib.hid hw2
  clear hw2
  go_wp2
  go_ret2
  exact ⟨rfl, n2, H2.out⟩
set_option maxRecDepth 100000 in
theorem moveFn_fine (w : World) (b k s : Nat) (hb : w.cell? ⟨b, 0, none⟩ = some (.float .f32 s)) (hn : isN .f32 (fop .sub .f32 k s) = false) :
    Calls Try.prog 83 #[.float .f32 k, .pointer (some ⟨b, 0, none⟩)] w fun e w' => e = .returned (.float .f32 (fop .sub .f32 k s)) ∧ ∃ n, w' = w.drewN n := by
  have h1 := fun wq t => run_fineK (P := Try.prog) .f32 .sub (by simp) wq t _ _ hn
  clear hn
  go_enter Try.func83, Try.ntmps83
  go_wp2
  go_ret
  exact ⟨rfl, 0, rfl⟩
set_option maxRecDepth 100000 in
set_option maxHeartbeats 800000 in
theorem moveTrace_fine (w : World) (v : Value) (L : List Nat) (s : Nat) (R : Nat → Nat) (hL : RdF w v L) (h0 : 1 ≤ L.length) (hn : L.length ≤ 64) (hnn : ∀ j, j < L.length → isN .f32 (L.getD j 0) = false)
    (ht : ∀ k : Nat, k < L.length → isN .f32 (fop .sub .f32 (floatOfInt .f32 (k : Nat)) s) = false) (hs : ∀ k : Nat, k < L.length → Smp L (fop .sub .f32 (floatOfInt .f32 (k : Nat)) s) (R k)) (hr : ∀ k, k < L.length → Cls .f32 (R k)) :
    Calls Try.prog 39 #[v, .float .f32 s] w fun e w' => ∃ v', e = .returned (.tuple #[v', .bool true]) ∧ OwnF w' w.heap.size v' ((List.range L.length).map R) ∧ Ext w w' := by
  have HL := Lib.hid hL
  obtain ⟨a, c, rfl, -, -, -⟩ := hL.opened
  have HT := Lib.hid (fun wq => isTicks_any wq a L.length c h0 hn)
  obtain ⟨W, hW⟩ : ∃ W, w.alloc (.cells #[.float .f32 s] 31) = W := ⟨_, rfl⟩
  have x0 : Ext w W := by rw [← hW]; exact (Below.refl _ _).alloc (Nat.le_refl _) _
  have hb : ∀ wq, Ext W wq → wq.cell? ⟨w.heap.size, 0, none⟩ = some (.float .f32 s) := fun wq hq => by
    have h1 : wq.heap[w.heap.size]? = some (.cells #[.float .f32 s] 31 (0, 0)) := (hq.block w.heap.size (by rw [← hW, World.size_alloc]; omega)).trans (by rw [← hW]; exact alloc_new _ _)
    exact cell_of_row wq _ 0 _ _ _ h1
  have HS := Lib.hid (sampled_move W _ L w.heap.size (fun k => fop .sub .f32 (floatOfInt .f32 (k : Nat)) s) R (hL.mono x0) h0 hn hnn (fun wq hq k hk => moveFn_fine wq _ _ _ (hb wq hq) (ht k hk)) hs hr)
  have X0 := Lib.hid x0
  clear hL hnn ht hs hr hb x0
  go_enter Try.func39, Try.ntmps39
  go_wp2_with fail
  clear hW
  refine (HT.out _).mono ?_
  rintro e w1 ⟨rfl, hw1⟩
  obtain rfl : W = w1 := hw1.symm
  go_wp2_with fail
  refine HS.out.mono ?_
  rintro e w2 ⟨v', rfl, o2, x2⟩
  obtain ⟨a2, n2, c2, rfl⟩ : ∃ a n c, v' = .slice a n c := (by obtain ⟨a, c, h, -⟩ := o2.rd.opened; exact ⟨a, _, c, h⟩)
  have O2 := Lib.hid o2
  have X2 := Lib.hid x2
  clear o2 x2
  go_wp2
  go_ret2
  exact ⟨_, rfl, O2.out.mono X0.out.size, Ext.trans X0.out X2.out⟩
set_option maxRecDepth 100000 in
theorem corrFn_fine (w : World) (b1 b2 k p v : Nat) (hb1 : w.cell? ⟨b1, 0, none⟩ = some (.float .f32 p)) (hb2 : w.cell? ⟨b2, 0, none⟩ = some (.float .f32 v)) (hn : crvOk k p v = true) :
    Calls Try.prog 112 #[.float .f32 k, .pointer (some ⟨b1, 0, none⟩), .pointer (some ⟨b2, 0, none⟩)] w fun e w' => e = .returned (.float .f32 (crv k p v)) ∧ ∃ n, w' = w.drewN n := by
  have HC := Lib.hid (fun wq => curve_fine wq k p v hn)
  clear hn
  go_enter Try.func112, Try.ntmps112
  go_wp2_with fail
  refine (HC.out _).mono ?_
  rintro e w1 ⟨rfl, hw1⟩
  obtain rfl : w = w1 := hw1.symm
  go_wp2
  go_ret
  exact ⟨rfl, 0, rfl⟩
/-- How a bent list is asked. -/
def bndD (k p v : Nat) : Nat := fop .sub .f32 (fop .mul .f32 k k) (fop .mul .f32 (fop .quo .f32 p v) (fop .quo .f32 p v))
def bndOk (k p v : Nat) : Bool := !isN .f32 (fop .quo .f32 p v) && (!isN .f32 (fop .mul .f32 k k) && (!isN .f32 (fop .mul .f32 (fop .quo .f32 p v) (fop .quo .f32 p v)) && (!isN .f32 (bndD k p v) && (!(FloatKind.f32.format.order (bndD k p v) 0 == some Ordering.lt) && rootOk (bndD k p v)))))
set_option maxRecDepth 100000 in
set_option maxHeartbeats 800000 in
theorem bentFn_fine (w : World) (b1 b2 k p v : Nat) (hb1 : w.cell? ⟨b1, 0, none⟩ = some (.float .f32 p)) (hb2 : w.cell? ⟨b2, 0, none⟩ = some (.float .f32 v)) (hn : bndOk k p v = true) :
    Calls Try.prog 113 #[.float .f32 k, .pointer (some ⟨b1, 0, none⟩), .pointer (some ⟨b2, 0, none⟩)] w fun e w' => e = .returned (.float .f32 (rootF (bndD k p v))) ∧ ∃ n, w' = w.drewN n := by
  unfold bndOk at hn
  simp only [Bool.and_eq_true, Bool.not_eq_true'] at hn
  obtain ⟨a1, a2, a3, a4, a5, a6⟩ := hn
  have h1 := fun wq t => run_fineK (P := Try.prog) .f32 .quo (by simp) wq t _ _ a1
  have h2 := fun wq t => run_fineK (P := Try.prog) .f32 .mul (by simp) wq t _ _ a2
  have h3 := fun wq t => run_fineK (P := Try.prog) .f32 .mul (by simp) wq t _ _ a3
  have h4 : ∀ wq t, (binOp .sub t (.float .f32 (fop .mul .f32 k k)) (.float .f32 (fop .mul .f32 (fop .quo .f32 p v) (fop .quo .f32 p v)))).run Try.prog wq = .ok (.float .f32 (bndD k p v)) wq := fun wq t => run_fineK (P := Try.prog) .f32 .sub (by simp) wq t _ _ a4
  have HR := Lib.hid (fun wq => rootNumber_fine wq _ a6)
  clear a1 a2 a3 a4 a6
  generalize bndD k p v = d at *
  generalize fop .quo .f32 p v = q at *
  generalize fop .mul .f32 k k = a at *
  generalize fop .mul .f32 q q = b at *
  go_enter Try.func113, Try.ntmps113
  go_wp2_with fail
  refine (HR.out _).mono ?_
  rintro e w1 ⟨rfl, hw1⟩
  obtain rfl : w = w1 := hw1.symm
  go_wp2
  go_ret
  exact ⟨rfl, 0, rfl⟩
set_option maxRecDepth 100000 in
set_option maxHeartbeats 800000 in
theorem corrected_fine (w : World) (v : Value) (L : List Nat) (p s : Nat) (R : Nat → Nat) (hL : RdF w v L) (h0 : 1 ≤ L.length) (hn : L.length ≤ 64) (hnn : ∀ j, j < L.length → isN .f32 (L.getD j 0) = false)
    (ht : ∀ k : Nat, k < L.length → crvOk (floatOfInt .f32 (k : Nat)) p s = true) (hs : ∀ k : Nat, k < L.length → Smp L (crv (floatOfInt .f32 (k : Nat)) p s) (R k)) (hr : ∀ k, k < L.length → Cls .f32 (R k)) :
    Calls Try.prog 80 #[v, .float .f32 p, .float .f32 s] w fun e w' => ∃ v', e = .returned v' ∧ OwnF w' w.heap.size v' ((List.range L.length).map R) ∧ Ext w w' := by
  have HL := Lib.hid hL
  obtain ⟨a, c, rfl, -, -, -⟩ := hL.opened
  obtain ⟨wA, hwA⟩ : ∃ wA, w.alloc (.cells #[.float .f32 p] 31) = wA := ⟨_, rfl⟩
  obtain ⟨W, hW⟩ : ∃ W, wA.alloc (.cells #[.float .f32 s] 31) = W := ⟨_, rfl⟩
  have xA : Ext w wA := by rw [← hwA]; exact (Below.refl _ _).alloc (Nat.le_refl _) _
  have xB : Ext wA W := by rw [← hW]; exact (Below.refl _ _).alloc (Nat.le_refl _) _
  have zA : wA.heap.size = w.heap.size + 1 := by rw [← hwA]; exact World.size_alloc _ _
  have zB : W.heap.size = w.heap.size + 2 := by rw [← hW, World.size_alloc]; omega
  have x0 : Ext w W := xA.trans xB
  have hb : ∀ wq, Ext W wq → wq.cell? ⟨w.heap.size, 0, none⟩ = some (.float .f32 p) ∧ wq.cell? ⟨w.heap.size + 1, 0, none⟩ = some (.float .f32 s) := fun wq hq => by
    have h1 : wq.heap[w.heap.size]? = some (.cells #[.float .f32 p] 31 (0, 0)) := (hq.block w.heap.size (by omega)).trans ((xB.block w.heap.size (by omega)).trans (by rw [← hwA]; exact alloc_new _ _))
    have h2 : wq.heap[w.heap.size + 1]? = some (.cells #[.float .f32 s] 31 (0, 0)) := (hq.block (w.heap.size + 1) (by omega)).trans (by rw [← hW, ← zA]; exact alloc_new _ _)
    exact ⟨cell_of_row wq _ 0 _ _ _ h1, cell_of_row wq _ 0 _ _ _ h2⟩
  have HS := Lib.hid (sampled_corr W _ L w.heap.size (w.heap.size + 1) (fun k => crv (floatOfInt .f32 (k : Nat)) p s) R (hL.mono x0) h0 hn hnn (fun wq hq k hk => corrFn_fine wq _ _ _ _ _ (hb wq hq).1 (hb wq hq).2 (ht k hk)) hs hr)
  have X0 := Lib.hid x0
  clear hL hnn ht hs hr hb x0 xA xB zA zB
  subst hwA
  go_enter Try.func80, Try.ntmps80
  go_wp2_with fail
  clear hW
  refine HS.out.mono ?_
  rintro e w2 ⟨v', rfl, o2, x2⟩
  obtain ⟨a2, n2, c2, rfl⟩ : ∃ a n c, v' = .slice a n c := (by obtain ⟨a, c, h, -⟩ := o2.rd.opened; exact ⟨a, _, c, h⟩)
  have O2 := Lib.hid o2
  have X2 := Lib.hid x2
  clear o2 x2
  go_wp2
  go_ret
  exact ⟨_, rfl, O2.out.mono X0.out.size, Ext.trans X0.out X2.out⟩
set_option maxRecDepth 100000 in
set_option maxHeartbeats 1600000 in
theorem correctTrace_fine (w : World) (v : Value) (L : List Nat) (p s : Nat) (R : Nat → Nat) (hL : RdF w v L) (h0 : 1 ≤ L.length) (hn : L.length ≤ 64) (hnn : ∀ j, j < L.length → isN .f32 (L.getD j 0) = false) (hp : FV .f32 p p) (hpf : fin .f32 p = true) (hsv : FV .f32 s s) (hpos : posB s = true)
    (ht : ∀ k : Nat, k < L.length → crvOk (floatOfInt .f32 (k : Nat)) p s = true) (hs : ∀ k : Nat, k < L.length → Smp L (crv (floatOfInt .f32 (k : Nat)) p s) (R k)) (hr : ∀ k, k < L.length → Cls .f32 (R k)) :
    Calls Try.prog 37 #[v, .float .f32 p, .float .f32 s] w fun e w' => ∃ v', e = .returned (.tuple #[v', .bool true]) ∧ OwnF w' w.heap.size v' ((List.range L.length).map R) ∧ Ext w w' := by
  have HL := Lib.hid hL
  obtain ⟨a, c, rfl, -, -, -⟩ := hL.opened
  have HT := Lib.hid (fun wq => isTicks_any wq a L.length c h0 hn)
  have HI := isFinite_any w p p hp
  rw [hpf] at HI
  replace HI := Lib.hid HI
  have HA : Hid (∀ w1 : World, Calls Try.prog 79 #[.slice (some ⟨w1.heap.size, 0, none⟩) 1 1] (w1.alloc (.cells #[.float .f32 s] 31)) fun e w' => e = .returned (.bool true) ∧ ∃ n, w' = (w1.alloc (.cells #[.float .f32 s] 31)).drewN n) := Lib.hid fun w1 => by
    have := arePositive_any (w1.alloc (.cells #[.float .f32 s] 31)) (.slice (some ⟨w1.heap.size, 0, none⟩) 1 1) [s] (OwnF.one (Nat.le_refl _) hsv).rd (by simp)
    rw [show allB posB [s] = true by simp [allB, allTo, hpos]] at this
    exact this
  have HS := Lib.hid (fun wq (hq : Ext w wq) => corrected_fine wq _ L p s R (hL.mono hq) h0 hn hnn ht hs hr)
  clear hL hnn ht hs hr hp hpf hsv hpos
  go_enter Try.func37, Try.ntmps37
  go_wp2_with fail
  refine (HT.out _).mono ?_
  rintro e w1 ⟨rfl, hw1⟩
  obtain rfl : w = w1 := hw1.symm
  go_wp2_with fail
  refine HI.out.mono ?_
  rintro e w2 ⟨rfl, n2, hw2⟩
  have X2 : Hid (Ext w w2) := Lib.hid (by rw [hw2]; exact Below.drewN (Below.refl _ _) n2)
  clear hw1 hw2 HI
  go_wp2_with fail
  refine (HA.out _).mono ?_
  rintro e w3 ⟨rfl, n3, hw3⟩
  have X3 : Hid (Ext w w3) := Lib.hid (by rw [hw3]; exact Below.drewN (Below.trans (show Below w.heap.size w w2 from X2.out) ((Below.refl _ _).alloc X2.out.size _)) n3)
  have z3 := X3.out.size
  clear hw3
  go_wp2_with fail
  refine (HS.out w3 X3.out).mono ?_
  rintro e w4 ⟨v', rfl, o2, x2⟩
  obtain ⟨a2, n2, c2, rfl⟩ : ∃ a n c, v' = .slice a n c := (by obtain ⟨a, c, h, -⟩ := o2.rd.opened; exact ⟨a, _, c, h⟩)
  have O2 := Lib.hid o2
  have X4 := Lib.hid x2
  clear o2 x2
  go_wp2
  go_ret2
  exact ⟨_, rfl, O2.out.mono z3, Ext.trans X3.out X4.out⟩
set_option maxRecDepth 100000 in
set_option maxHeartbeats 800000 in
theorem bent_fine (w : World) (v : Value) (L : List Nat) (p s : Nat) (R : Nat → Nat) (hL : RdF w v L) (h0 : 1 ≤ L.length) (hn : L.length ≤ 64) (hnn : ∀ j, j < L.length → isN .f32 (L.getD j 0) = false)
    (ht : ∀ k : Nat, k < L.length → bndOk (floatOfInt .f32 (k : Nat)) p s = true) (hs : ∀ k : Nat, k < L.length → Smp L (rootF (bndD (floatOfInt .f32 (k : Nat)) p s)) (R k)) (hr : ∀ k, k < L.length → Cls .f32 (R k)) :
    Calls Try.prog 81 #[v, .float .f32 p, .float .f32 s] w fun e w' => ∃ v', e = .returned v' ∧ OwnF w' w.heap.size v' ((List.range L.length).map R) ∧ Ext w w' := by
  have HL := Lib.hid hL
  obtain ⟨a, c, rfl, -, -, -⟩ := hL.opened
  obtain ⟨wA, hwA⟩ : ∃ wA, w.alloc (.cells #[.float .f32 p] 31) = wA := ⟨_, rfl⟩
  obtain ⟨W, hW⟩ : ∃ W, wA.alloc (.cells #[.float .f32 s] 31) = W := ⟨_, rfl⟩
  have xA : Ext w wA := by rw [← hwA]; exact (Below.refl _ _).alloc (Nat.le_refl _) _
  have xB : Ext wA W := by rw [← hW]; exact (Below.refl _ _).alloc (Nat.le_refl _) _
  have zA : wA.heap.size = w.heap.size + 1 := by rw [← hwA]; exact World.size_alloc _ _
  have zB : W.heap.size = w.heap.size + 2 := by rw [← hW, World.size_alloc]; omega
  have x0 : Ext w W := xA.trans xB
  have hb : ∀ wq, Ext W wq → wq.cell? ⟨w.heap.size, 0, none⟩ = some (.float .f32 p) ∧ wq.cell? ⟨w.heap.size + 1, 0, none⟩ = some (.float .f32 s) := fun wq hq => by
    have h1 : wq.heap[w.heap.size]? = some (.cells #[.float .f32 p] 31 (0, 0)) := (hq.block w.heap.size (by omega)).trans ((xB.block w.heap.size (by omega)).trans (by rw [← hwA]; exact alloc_new _ _))
    have h2 : wq.heap[w.heap.size + 1]? = some (.cells #[.float .f32 s] 31 (0, 0)) := (hq.block (w.heap.size + 1) (by omega)).trans (by rw [← hW, ← zA]; exact alloc_new _ _)
    exact ⟨cell_of_row wq _ 0 _ _ _ h1, cell_of_row wq _ 0 _ _ _ h2⟩
  have HS := Lib.hid (sampled_bent W _ L w.heap.size (w.heap.size + 1) (fun k => rootF (bndD (floatOfInt .f32 (k : Nat)) p s)) R (hL.mono x0) h0 hn hnn (fun wq hq k hk => bentFn_fine wq _ _ _ _ _ (hb wq hq).1 (hb wq hq).2 (ht k hk)) hs hr)
  have X0 := Lib.hid x0
  clear hL hnn ht hs hr hb x0 xA xB zA zB
  subst hwA
  go_enter Try.func81, Try.ntmps81
  go_wp2_with fail
  clear hW
  refine HS.out.mono ?_
  rintro e w2 ⟨v', rfl, o2, x2⟩
  obtain ⟨a2, n2, c2, rfl⟩ : ∃ a n c, v' = .slice a n c := (by obtain ⟨a, c, h, -⟩ := o2.rd.opened; exact ⟨a, _, c, h⟩)
  have O2 := Lib.hid o2
  have X2 := Lib.hid x2
  clear o2 x2
  go_wp2
  go_ret
  exact ⟨_, rfl, O2.out.mono X0.out.size, Ext.trans X0.out X2.out⟩
set_option maxRecDepth 100000 in
set_option maxHeartbeats 1600000 in
theorem bendTrace_fine (w : World) (v : Value) (L : List Nat) (p s : Nat) (R : Nat → Nat) (hL : RdF w v L) (h0 : 1 ≤ L.length) (hn : L.length ≤ 64) (hnn : ∀ j, j < L.length → isN .f32 (L.getD j 0) = false) (hp : FV .f32 p p) (hpf : fin .f32 p = true) (hsv : FV .f32 s s) (hpos : posB s = true)
    (ht : ∀ k : Nat, k < L.length → bndOk (floatOfInt .f32 (k : Nat)) p s = true) (hs : ∀ k : Nat, k < L.length → Smp L (rootF (bndD (floatOfInt .f32 (k : Nat)) p s)) (R k)) (hr : ∀ k, k < L.length → Cls .f32 (R k)) :
    Calls Try.prog 38 #[v, .float .f32 p, .float .f32 s] w fun e w' => ∃ v', e = .returned (.tuple #[v', .bool true]) ∧ OwnF w' w.heap.size v' ((List.range L.length).map R) ∧ Ext w w' := by
  have HL := Lib.hid hL
  obtain ⟨a, c, rfl, -, -, -⟩ := hL.opened
  have HT := Lib.hid (fun wq => isTicks_any wq a L.length c h0 hn)
  have HI := isFinite_any w p p hp
  rw [hpf] at HI
  replace HI := Lib.hid HI
  have HA : Hid (∀ w1 : World, Calls Try.prog 79 #[.slice (some ⟨w1.heap.size, 0, none⟩) 1 1] (w1.alloc (.cells #[.float .f32 s] 31)) fun e w' => e = .returned (.bool true) ∧ ∃ n, w' = (w1.alloc (.cells #[.float .f32 s] 31)).drewN n) := Lib.hid fun w1 => by
    have := arePositive_any (w1.alloc (.cells #[.float .f32 s] 31)) (.slice (some ⟨w1.heap.size, 0, none⟩) 1 1) [s] (OwnF.one (Nat.le_refl _) hsv).rd (by simp)
    rw [show allB posB [s] = true by simp [allB, allTo, hpos]] at this
    exact this
  have HS := Lib.hid (fun wq (hq : Ext w wq) => bent_fine wq _ L p s R (hL.mono hq) h0 hn hnn ht hs hr)
  clear hL hnn ht hs hr hp hpf hsv hpos
  go_enter Try.func38, Try.ntmps38
  go_wp2_with fail
  refine (HT.out _).mono ?_
  rintro e w1 ⟨rfl, hw1⟩
  obtain rfl : w = w1 := hw1.symm
  go_wp2_with fail
  refine HI.out.mono ?_
  rintro e w2 ⟨rfl, n2, hw2⟩
  have X2 : Hid (Ext w w2) := Lib.hid (by rw [hw2]; exact Below.drewN (Below.refl _ _) n2)
  clear hw1 hw2 HI
  go_wp2_with fail
  refine (HA.out _).mono ?_
  rintro e w3 ⟨rfl, n3, hw3⟩
  have X3 : Hid (Ext w w3) := Lib.hid (by rw [hw3]; exact Below.drewN (Below.trans (show Below w.heap.size w w2 from X2.out) ((Below.refl _ _).alloc X2.out.size _)) n3)
  have z3 := X3.out.size
  clear hw3
  go_wp2_with fail
  refine (HS.out w3 X3.out).mono ?_
  rintro e w4 ⟨v', rfl, o2, x2⟩
  obtain ⟨a2, n2, c2, rfl⟩ : ∃ a n c, v' = .slice a n c := (by obtain ⟨a, c, h, -⟩ := o2.rd.opened; exact ⟨a, _, c, h⟩)
  have O2 := Lib.hid o2
  have X4 := Lib.hid x2
  clear o2 x2
  go_wp2
  go_ret2
  exact ⟨_, rfl, O2.out.mono z3, Ext.trans X3.out X4.out⟩
end Go.Proofs.Ytjhbcnmkamkkaaa
