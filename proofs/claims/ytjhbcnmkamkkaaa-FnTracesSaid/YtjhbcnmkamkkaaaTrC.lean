/- Walks: folded traces, autos, wavelets, pulses. -/
import Derived.Test.YtjhbcnmkamkkaaaTrB
namespace Go.Proofs.Ytjhbcnmkamkkaaa
open Go Go.RowKit

def crossAt (A B : List Nat) (k i : Nat) : Nat := fop .mul .f32 (A.getD (i + k) 0) (B.getD i 0)
def crossM (A B : List Nat) (n : Nat) : List Nat := tab (fun k => sumTo .f32 (crossAt A B k) (min B.length (A.length - k))) n
theorem crossM_length (A B : List Nat) (n : Nat) : (crossM A B n).length = n := tab_length _ _
theorem crossM_at (A B : List Nat) (n k : Nat) (h : k < n) : (crossM A B n).getD k 0 = sumTo .f32 (crossAt A B k) (min B.length (A.length - k)) := tab_getD _ _ _ h
theorem set_set (l : List Nat) (k x y : Nat) : (l.set k x).set k y = l.set k y := by simp
theorem set_same (l : List Nat) (k : Nat) (h : k < l.length) : l.set k (l.getD k 0) = l := by
  apply List.ext_getElem?
  intro i
  by_cases hi : k = i
  · subst hi; simp [h]
  · simp [List.getElem?_set, hi]

set_option maxRecDepth 100000 in
set_option maxHeartbeats 1000000 in
theorem cross_any (w : World) (va vb : Value) (A B : List Nat) (n : Nat) (hA : RdF w va A) (hB : RdF w vb B) (hmA : A.length ≤ 1000) (hmB : B.length ≤ 1000) (hn : n ≤ 1000) :
    Calls Try.prog 107 #[va, vb, .int .i64 n] w fun e w' => ∃ v', e = .returned v' ∧ OwnF w' w.heap.size v' (crossM A B n) ∧ Below w.heap.size w w' := by
  have hadd := run_fadd (P := Try.prog)
  have hmul := run_fmul (P := Try.prog)
  have hst := run_store_float (P := Try.prog)
  obtain ⟨a, ca, rfl, hca, -, hcellA⟩ := hA.opened
  obtain ⟨b, cb, rfl, hcb, -, hcellB⟩ := hB.opened
  go_enter Try.func107, Try.ntmps107
  go_wp2_with (refine wpList_mk rfl _ _ rfl w.heap.size _ _ _ _ n rfl rfl rfl rfl (by omega) (Nat.le_refl _) ?_; intro w1 h1 hb1 hs1)
  go_loopw [14] (fun i wr => ∃ k : Nat, k ≤ n ∧ i = .int .i64 k ∧ OwnF wr w.heap.size (.slice (some ⟨w.heap.size, 0, none⟩) n n) (upTo (crossM A B n) k) ∧ Below w.heap.size w wr) (fun i _ => n - (intOf i).toNat)
  case atStart => exact ⟨0, Nat.zero_le _, rfl, by rw [upTo_zero, crossM_length]; exact h1, hb1⟩
  case round =>
    obtain ⟨wo, rfl⟩ : ∃ wo : World, wo = wr := ⟨_, rfl⟩
    obtain ⟨k, hk, rfl, ho, hbr⟩ := hrel
    clear h1
    by_cases hlt : k < n
    · have hlen : (upTo (crossM A B n) k).length = n := by rw [upTo_length, crossM_length]
      have hz : (upTo (crossM A B n) k).getD k 0 = 0 := by rw [upTo_getD _ _ _ (by rw [crossM_length]; exact hlt), if_neg (Nat.lt_irrefl k)]
      have ho0 : OwnF wo w.heap.size (.slice (some ⟨w.heap.size, 0, none⟩) n n) ((upTo (crossM A B n) k).set k (sumTo .f32 (crossAt A B k) 0)) := by
        have e : (upTo (crossM A B n) k).set k (sumTo .f32 (crossAt A B k) 0) = upTo (crossM A B n) k := by
          have := set_same (upTo (crossM A B n) k) k (by rw [hlen]; exact hlt)
          rw [hz] at this; exact this
        rw [e]; exact ho
      have Hlen := Lib.hid hlen
      clear hz hlen ho
      go_wp2
      go_loopw [9] (fun i wr => ∃ j : Nat, j ≤ min B.length (A.length - k) ∧ i = .int .i64 j ∧ OwnF wr w.heap.size (.slice (some ⟨w.heap.size, 0, none⟩) n n) ((upTo (crossM A B n) k).set k (sumTo .f32 (crossAt A B k) j)) ∧ Below w.heap.size w wr) (fun i _ => 1000 - (intOf i).toNat)
      case atStart => exact ⟨0, Nat.zero_le _, rfl, ho0, hbr⟩
      case round =>
        obtain ⟨wi, rfl⟩ : ∃ wi : World, wi = wr := ⟨_, rfl⟩
        obtain ⟨j, hj, rfl, hoi, hbi⟩ := hrel
        clear ho0
        by_cases hlj : j < min B.length (A.length - k)
        · have hj1 : j < B.length := by omega
          have hj2 : j + k < A.length := by omega
          obtain ⟨b1, o1, r1, rfl, c1, f1⟩ := hcellA (j + k) hj2
          obtain ⟨b2, o2, r2, rfl, c2, f2⟩ := hcellB j hj1
          have c1' : wi.cell? ⟨b1, o1 + (j + k), none⟩ = some (.float .f32 r1) := ((bcell hbi).1 _ _ (block_lt c1)).trans c1
          have c2' : wi.cell? ⟨b2, o2 + j, none⟩ = some (.float .f32 r2) := ((bcell hbi).1 _ _ (block_lt c2)).trans c2
          obtain ⟨g', c', eq, _, _, _, hcello, hfro⟩ := hoi.at_block (n := n) (by rw [List.length_set, Hlen.out]) (by omega)
          obtain rfl : w.heap.size = g' := by cases eq; rfl
          obtain ⟨r3, c3, f3⟩ := hcello k (by rw [List.length_set, Hlen.out]; exact hlt)
          have hfr := hfro k
          have f3' : FV .f32 r3 (sumTo .f32 (crossAt A B k) j) := by
            have e : ((upTo (crossM A B n) k).set k (sumTo .f32 (crossAt A B k) j)).getD k 0 = sumTo .f32 (crossAt A B k) j := by
              rw [List.getD_eq_getElem?_getD, List.getElem?_set]; simp [Hlen.out, hlt]
            rw [e] at f3; exact f3
          clear hcello hfro eq c1 c2 hcellA hcellB hA hB f3
          go_wp2
          refine region_rel_tail 17 (by kernel_rfl) (by kernel_rfl) (Drawn wi) (fun _ _ _ => False) ⟨1, rfl⟩ ?_
          simp only [List.take_succ_cons, List.take_zero, List.drop_succ_cons, List.drop_zero]
          repeat (refine wpRel_draw rfl rfl (fun nq K hK => ?_); go_wp2)
          refine wpRel_nil ?_
          rintro wd ⟨nd, hwd⟩
          have c3d : wd.cell? ⟨w.heap.size, k, none⟩ = some (.float .f32 r3) := by rw [hwd]; exact c3
          have hfrd : wd.frozen? ⟨w.heap.size, k, none⟩ = false := by rw [hwd]; exact hfr
          have hod := Lib.hid (show OwnF wd w.heap.size (.slice (some ⟨w.heap.size, 0, none⟩) n n) ((upTo (crossM A B n) k).set k (sumTo .f32 (crossAt A B k) j)) from by rw [hwd]; exact hoi)
          have hbd : Below w.heap.size w wd := by rw [hwd]; exact Below.drewN hbi nd
          clear hwd c1' c2' c3 hfr hoi
          go_wp2
          refine ⟨⟨j + 1, by omega, by go_num, ?_, hbd.setCell (Nat.le_refl _) _⟩, by simp [intOf]; omega⟩
          rw [← set_set (upTo (crossM A B n) k) k (sumTo .f32 (crossAt A B k) j) (sumTo .f32 (crossAt A B k) (j + 1))]
          exact hod.out.storedN (by rw [List.length_set, Hlen.out]) (FV.op f3' (FV.op f1 f2 _) _)
        · have hjm : j = min B.length (A.length - k) := by omega
          rw [hjm, ← crossM_at A B n k hlt, upTo_set] at hoi
          clear hjm hcellA hcellB hA hB
          by_cases hjb : j < B.length
          · have hka : A.length ≤ j + k := by omega
            go_wp2
            exact ⟨⟨k + 1, by omega, by go_num, hoi, hbi⟩, by simp [intOf]; omega⟩
          · go_wp2
            exact ⟨⟨k + 1, by omega, by go_num, hoi, hbi⟩, by simp [intOf]; omega⟩
    · go_wp2
      go_ret
      rw [upTo_all _ _ (by rw [crossM_length]; omega)] at ho
      exact ⟨_, rfl, ho, hbr⟩

set_option maxRecDepth 100000 in
set_option maxHeartbeats 400000 in
theorem auto_any (w : World) (va : Value) (A : List Nat) (n : Nat) (hA : RdF w va A) (hmA : A.length ≤ 1000) (hn : n ≤ 1000) :
    Calls Try.prog 73 #[va, .int .i64 n] w fun e w' => ∃ v', e = .returned v' ∧ OwnF w' w.heap.size v' (crossM A A n) ∧ Below w.heap.size w w' := by
  go_enter Try.func73, Try.ntmps73
  go_wp2_with fail
  refine (cross_any w va va A A n hA hA hmA hmA hn).mono ?_
  rintro e w1 ⟨v1, rfl, h1, hb1⟩
  go_wp2
  go_ret
  exact ⟨_, rfl, h1, hb1⟩


set_option maxRecDepth 100000 in
set_option maxHeartbeats 400000 in
theorem isFin_three (w : World) : Calls Try.prog 109 #[.float .f64 4613937818241073152] w fun e w' => e = .returned (.bool true) ∧ ∃ n, w' = w.drewN n := by
  have hsub := run_fsub (P := Try.prog)
  have hs : fres .sub .f64 4613937818241073152 4613937818241073152 w = 0 := by
    unfold fres
    rw [show floatBits .sub .f64 4613937818241073152 4613937818241073152 = some 0 by decide +kernel]
  have ht : (FloatKind.f64.format.order 0 0 == some Ordering.eq) = true := by decide +kernel
  go_enter Try.func109, Try.ntmps109
  go_wp2
  go_ret
  exact ⟨rfl, _, rfl⟩
set_option maxRecDepth 100000 in
set_option maxHeartbeats 400000 in
theorem isFinite_three (w : World) : Calls Try.prog 75 #[.float .f32 1077936128] w fun e w' => e = .returned (.bool true) ∧ ∃ n, w' = w.drewN n := by
  have hcv := run_widen (P := Try.prog) 31 51 (by kernel_rfl) (by kernel_rfl)
  have hc : cres 1077936128 w = 4613937818241073152 := by
    unfold cres
    rw [if_neg (by decide +kernel)]
    decide +kernel
  go_enter Try.func75, Try.ntmps75
  go_wp2_with fail
  refine (isFin_three _).mono ?_
  rintro e w1 ⟨rfl, n, rfl⟩
  go_wp2
  go_ret
  exact ⟨rfl, _, rfl⟩
/-- A part of a list that was made. -/
theorem rd_part {w : World} {B g n c : Nat} {L M : List Nat} (h : OwnF w B (.slice (some ⟨g, 0, none⟩) n c) L) (hn : L.length = n) (lo : Nat) (hlo : lo + M.length ≤ n) (hM : ∀ j, j < M.length → M.getD j 0 = L.getD (lo + j) 0) (c' : Nat) (hc : M.length ≤ c') : RdF w (.slice (some ⟨g, lo, none⟩) M.length c') M := by
  obtain ⟨g', cap', hv, -, -, -, hcl, -⟩ := h.form.resolve_left fun h => by cases h.1
  obtain rfl : g = g' := by injection hv with e1 e2 e3; injection e1 with e4; injection e4
  refine ⟨some ⟨g, lo, none⟩, c', rfl, hc, (fun h => by cases h), fun j hj => ?_⟩
  obtain ⟨r, h1, h2⟩ := hcl (lo + j) (by omega)
  exact ⟨g, lo, _, rfl, h1, r, rfl, by rw [hM j hj]; exact h2⟩
set_option maxRecDepth 100000 in
set_option maxHeartbeats 800000 in
theorem autoOf_any (w : World) (v : Value) (L : List Nat) (h : RdF w v L) (hn : 1 ≤ L.length) (hn2 : L.length ≤ 128) :
    Calls Try.prog 27 #[v, .int .i64 1] w fun e w' => ∃ v', e = .returned (.tuple #[v', .bool true]) ∧ OwnF w' w.heap.size v' (crossM L L 1) ∧ Below w.heap.size w w' := by
  have HA := Lib.hid (auto_any w v L 1 h (by omega) (by decide))
  obtain ⟨a, c, rfl, -⟩ := h.opened
  have K := isTrace_any w a L.length c (by omega)
  rw [show inB (L.length : Int) 1 128 = true by unfold inB; simp; omega] at K
  have HW := within_any w 1 1 24
  rw [show inB 1 1 24 = true by decide] at HW
  clear h
  go_enter Try.func27, Try.ntmps27
  go_wp2_with fail
  refine K.mono ?_
  rintro e w0 ⟨rfl, hw0⟩
  obtain rfl : w = w0 := hw0.symm
  clear K hw0
  go_wp2_with (go_at_call 72; go_in)
  refine HW.mono ?_
  rintro e w0 ⟨rfl, hw0⟩
  obtain rfl : w = w0 := hw0.symm
  clear HW hw0
  go_wp2_with fail
  refine HA.out.mono ?_
  rintro e w1 ⟨v, rfl, o1, b1⟩
  have O1 := Lib.hid o1
  clear o1 HA
  go_wp2
  go_ret2
  exact ⟨_, rfl, O1.out, b1⟩
/-- A number of two folded lists. -/
def foldAt (A B : List Nat) (k j : Nat) : Nat := fop .mul .f32 (A.getD (k + 1 - B.length + j) 0) (B.getD (k - (k + 1 - B.length + j)) 0)
def foldS (A B : List Nat) (k : Nat) : Nat := sumTo .f32 (foldAt A B k) (min k (A.length - 1) + 1 - (k + 1 - B.length))
def foldM (A B : List Nat) : List Nat := tab (foldS A B) (A.length + B.length - 1)
theorem foldM_length (A B : List Nat) : (foldM A B).length = A.length + B.length - 1 := tab_length _ _
set_option maxRecDepth 100000 in
set_option maxHeartbeats 1600000 in
theorem folded_any (w : World) (v1 v2 : Value) (A B : List Nat) (k : Nat) (h1 : RdF w v1 A) (h2 : RdF w v2 B) (hA : 1 ≤ A.length) (hA2 : A.length ≤ 128) (hB : 1 ≤ B.length) (hB2 : B.length ≤ 128) (hk : k < A.length + B.length - 1) :
    Calls Try.prog 69 #[v1, v2, .int .i64 k] w fun e w' => ∃ r, e = .returned (.float .f32 r) ∧ FV .f32 r (foldS A B k) ∧ ∃ n, w' = w.drewN n := by
  have hadd := run_fadd (P := Try.prog)
  have hmul := run_fmul (P := Try.prog)
  obtain ⟨a1, c1, rfl, hc1, -, hcell1⟩ := h1.opened
  obtain ⟨a2, c2, rfl, hc2, -, hcell2⟩ := h2.opened
  clear h1 h2
  obtain ⟨lo, hlo⟩ : ∃ lo, k + 1 - B.length = lo := ⟨_, rfl⟩
  obtain ⟨hi, hhi⟩ : ∃ hi, min k (A.length - 1) = hi := ⟨_, rfl⟩
  have HF : Hid (∀ j, foldAt A B k j = fop .mul .f32 (A.getD (lo + j) 0) (B.getD (k - (lo + j)) 0)) := Lib.hid fun j => by unfold foldAt; rw [hlo]
  have HS : Hid (foldS A B k = sumTo .f32 (foldAt A B k) (hi + 1 - lo)) := Lib.hid (by unfold foldS; rw [hlo, hhi])
  have q1 : lo ≤ hi := by omega
  have q2 : hi ≤ k := by omega
  have q3 : hi < A.length := by omega
  have q4 : k < lo + B.length := by omega
  have q5 : lo = 0 ∧ k + 1 ≤ B.length ∨ (k : Int) - B.length + 1 = lo ∧ B.length ≤ k := by omega
  have q7 : hi = k ∧ k < A.length ∨ hi + 1 ≤ A.length ∧ A.length ≤ hi + 1 ∧ A.length ≤ k := by omega
  clear hlo hhi
  rcases q7 with ⟨e7, g7⟩ | ⟨e7, f7, g7⟩ <;> rcases q5 with ⟨e5, g5⟩ | ⟨e5, g5⟩
  all_goals
    go_enter Try.func69, Try.ntmps69
    go_wp2
    go_loopw [7, 8] (fun q i wr => ∃ (j n r : Nat), lo + j ≤ hi + 1 ∧ i = .int .i64 ((lo + j : Nat) : Int) ∧ q = .float .f32 r ∧ FV .f32 r (sumTo .f32 (foldAt A B k) j) ∧ wr = w.drewN n) (fun _ i _ => hi + 1 - (intOf i).toNat)
    case atStart => exact ⟨0, 0, 0, by omega, by (congr 1 <;> omega), rfl, fv0 _, rfl⟩
    case round =>
      obtain ⟨wi, rfl⟩ : ∃ wi : World, wi = wr := ⟨_, rfl⟩
      obtain ⟨j, n, r, hj, rfl, rfl, hf, hw⟩ := hrel
      have HW := Lib.hid hw
      have HR := Lib.hid hf
      by_cases hlt : lo + j ≤ hi
      · obtain ⟨b, o, x, rfl, hx1, hx2⟩ := hcell1 (lo + j) (by omega)
        obtain ⟨m, hm⟩ : ∃ m, k - (lo + j) = m := ⟨_, rfl⟩
        obtain ⟨b', o', y, rfl, hy1, hy2⟩ := hcell2 m (by omega)
        have hx1' : wi.cell? ⟨b, o + (lo + j), none⟩ = some (.float .f32 x) := by rw [hw]; exact hx1
        have hy1' : wi.cell? ⟨b', o' + m, none⟩ = some (.float .f32 y) := by rw [hw]; exact hy1
        have HX := Lib.hid hx2
        have HY := Lib.hid hy2
        have HM := Lib.hid hm
        have hmi : (k : Int) - ((lo + j : Nat) : Int) = (m : Int) := by omega
        clear hcell1 hcell2 hx1 hx2 hy1 hy2 hw hf hm
        generalize hIJ : lo + j = ij at *
        go_wp2
        refine region_rel_all (by kernel_rfl) (by kernel_rfl) (Drawn wi) (fun _ _ _ => False) ⟨1, rfl⟩ ?_
        repeat (refine wpRel_draw rfl rfl (fun nq K hK => ?_); go_wp2)
        refine wpRel_nil ?_
        rintro wd ⟨nd, hwd⟩
        have Hwd := Lib.hid hwd
        clear hwd hx1' hy1'
        go_wp2
        refine ⟨⟨j + 1, n + nd, _, by omega, by (congr 1; omega), rfl, ?_, by rw [Hwd.out, HW.out, World.drewN_drewN]⟩, by simp [intOf]; omega⟩
        have e : sumTo .f32 (foldAt A B k) (j + 1) = fop .add .f32 (sumTo .f32 (foldAt A B k) j) (foldAt A B k j) := rfl
        rw [e, HF.out, hIJ, show k - ij = m by have := HM.out; omega]
        exact FV.op (op := .add) HR.out (FV.op (op := .mul) HX.out HY.out _) _
      · have HR2 := Lib.hid (show FV .f32 r (foldS A B k) from by rw [HS.out, show hi + 1 - lo = j by omega]; exact HR.out)
        generalize lo + j = ij at *
        clear hw hf
        go_wp2
        go_ret
        exact ⟨r, rfl, HR2.out, n, HW.out⟩
end Go.Proofs.Ytjhbcnmkamkkaaa
