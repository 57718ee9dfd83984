/- Walks: folded traces, autos, wavelets, pulses. -/
import Derived.Test.YthacadbdncfocaaTrB
namespace Go.Proofs.Ythacadbdncfocaa
open Go Go.RowKit

def crossAt (A B : List Nat) (k i : Nat) : Nat := fop .mul .f32 (A.getD (i + k) 0) (B.getD i 0)
def crossM (A B : List Nat) (n : Nat) : List Nat := tab (fun k => sumTo .f32 (crossAt A B k) (min B.length (A.length - k))) n
theorem crossM_length (A B : List Nat) (n : Nat) : (crossM A B n).length = n := tab_length _ _
theorem crossM_at (A B : List Nat) (n k : Nat) (h : k < n) : (crossM A B n).getD k 0 = sumTo .f32 (crossAt A B k) (min B.length (A.length - k)) := tab_getD _ _ _ h
theorem set_set (l : List Nat) (k x y : Nat) : (l.set k x).set k y = l.set k y := by simp
theorem set_same (l : List Nat) (k : Nat) (h : k < l.length) : l.set k (l.getD k 0) = l := by
  apply List.ext_getElem?
  intro i
  by_cases hi : k = i
  · subst hi; simp [h]
  · simp [List.getElem?_set, hi]

set_option maxRecDepth 100000 in
set_option maxHeartbeats 400000 in
theorem isFin_three (w : World) : Calls Try.prog 76 #[.float .f64 4613937818241073152] w fun e w' => e = .returned (.bool true) ∧ ∃ n, w' = w.drewN n := by
  have hsub := run_fsub (P := Try.prog)
  have hs : fres .sub .f64 4613937818241073152 4613937818241073152 w = 0 := by
    unfold fres
    rw [show floatBits .sub .f64 4613937818241073152 4613937818241073152 = some 0 by decide +kernel]
  have ht : (FloatKind.f64.format.order 0 0 == some Ordering.eq) = true := by decide +kernel
  go_enter Try.func76, Try.ntmps76
  go_wp2
  go_ret
  exact ⟨rfl, _, rfl⟩
set_option maxRecDepth 100000 in
set_option maxHeartbeats 400000 in
theorem isFinite_three (w : World) : Calls Try.prog 47 #[.float .f32 1077936128] w fun e w' => e = .returned (.bool true) ∧ ∃ n, w' = w.drewN n := by
  have hcv := run_widen (P := Try.prog) 27 40 (by kernel_rfl) (by kernel_rfl)
  have hc : cres 1077936128 w = 4613937818241073152 := by
    unfold cres
    rw [if_neg (by decide +kernel)]
    decide +kernel
  go_enter Try.func47, Try.ntmps47
  go_wp2_with fail
  refine (isFin_three _).mono ?_
  rintro e w1 ⟨rfl, n, rfl⟩
  go_wp2
  go_ret
  exact ⟨rfl, _, rfl⟩
/-- A part of a list that was made. -/
theorem rd_part {w : World} {B g n c : Nat} {L M : List Nat} (h : OwnF w B (.slice (some ⟨g, 0, none⟩) n c) L) (hn : L.length = n) (lo : Nat) (hlo : lo + M.length ≤ n) (hM : ∀ j, j < M.length → M.getD j 0 = L.getD (lo + j) 0) (c' : Nat) (hc : M.length ≤ c') : RdF w (.slice (some ⟨g, lo, none⟩) M.length c') M := by
  obtain ⟨g', cap', hv, -, -, -, hcl, -⟩ := h.form.resolve_left fun h => by cases h.1
  obtain rfl : g = g' := by injection hv with e1 e2 e3; injection e1 with e4; injection e4
  refine ⟨some ⟨g, lo, none⟩, c', rfl, hc, (fun h => by cases h), fun j hj => ?_⟩
  obtain ⟨r, h1, h2⟩ := hcl (lo + j) (by omega)
  exact ⟨g, lo, _, rfl, h1, r, rfl, by rw [hM j hj]; exact h2⟩
/-- A number of two folded lists. -/
def foldAt (A B : List Nat) (k j : Nat) : Nat := fop .mul .f32 (A.getD (k + 1 - B.length + j) 0) (B.getD (k - (k + 1 - B.length + j)) 0)
def foldS (A B : List Nat) (k : Nat) : Nat := sumTo .f32 (foldAt A B k) (min k (A.length - 1) + 1 - (k + 1 - B.length))
def foldM (A B : List Nat) : List Nat := tab (foldS A B) (A.length + B.length - 1)
theorem foldM_length (A B : List Nat) : (foldM A B).length = A.length + B.length - 1 := tab_length _ _
set_option maxRecDepth 100000 in
set_option maxHeartbeats 1600000 in
theorem folded_any (w : World) (v1 v2 : Value) (A B : List Nat) (k : Nat) (h1 : RdF w v1 A) (h2 : RdF w v2 B) (hA : 1 ≤ A.length) (hA2 : A.length ≤ 128) (hB : 1 ≤ B.length) (hB2 : B.length ≤ 128) (hk : k < A.length + B.length - 1) :
    Calls Try.prog 46 #[v1, v2, .int .i64 k] w fun e w' => ∃ r, e = .returned (.float .f32 r) ∧ FV .f32 r (foldS A B k) ∧ ∃ n, w' = w.drewN n := by
  have hadd := run_fadd (P := Try.prog)
  have hmul := run_fmul (P := Try.prog)
  obtain ⟨a1, c1, rfl, hc1, -, hcell1⟩ := h1.opened
  obtain ⟨a2, c2, rfl, hc2, -, hcell2⟩ := h2.opened
  clear h1 h2
  obtain ⟨lo, hlo⟩ : ∃ lo, k + 1 - B.length = lo := ⟨_, rfl⟩
  obtain ⟨hi, hhi⟩ : ∃ hi, min k (A.length - 1) = hi := ⟨_, rfl⟩
  have HF : Hid (∀ j, foldAt A B k j = fop .mul .f32 (A.getD (lo + j) 0) (B.getD (k - (lo + j)) 0)) := Lib.hid fun j => by unfold foldAt; rw [hlo]
  have HS : Hid (foldS A B k = sumTo .f32 (foldAt A B k) (hi + 1 - lo)) := Lib.hid (by unfold foldS; rw [hlo, hhi])
  have q1 : lo ≤ hi := by omega
  have q2 : hi ≤ k := by omega
  have q3 : hi < A.length := by omega
  have q4 : k < lo + B.length := by omega
  have q5 : lo = 0 ∧ k + 1 ≤ B.length ∨ (k : Int) - B.length + 1 = lo ∧ B.length ≤ k := by omega
  have q7 : hi = k ∧ k < A.length ∨ hi + 1 ≤ A.length ∧ A.length ≤ hi + 1 ∧ A.length ≤ k := by omega
  clear hlo hhi
  rcases q7 with ⟨e7, g7⟩ | ⟨e7, f7, g7⟩ <;> rcases q5 with ⟨e5, g5⟩ | ⟨e5, g5⟩
  all_goals
    go_enter Try.func46, Try.ntmps46
    go_wp2
    go_loopw [7, 8] (fun q i wr => ∃ (j n r : Nat), lo + j ≤ hi + 1 ∧ i = .int .i64 ((lo + j : Nat) : Int) ∧ q = .float .f32 r ∧ FV .f32 r (sumTo .f32 (foldAt A B k) j) ∧ wr = w.drewN n) (fun _ i _ => hi + 1 - (intOf i).toNat)
    case atStart => exact ⟨0, 0, 0, by omega, by (congr 1 <;> omega), rfl, fv0 _, rfl⟩
    case round =>
      obtain ⟨wi, rfl⟩ : ∃ wi : World, wi = wr := ⟨_, rfl⟩
      obtain ⟨j, n, r, hj, rfl, rfl, hf, hw⟩ := hrel
      have HW := Lib.hid hw
      have HR := Lib.hid hf
      by_cases hlt : lo + j ≤ hi
      · obtain ⟨b, o, x, rfl, hx1, hx2⟩ := hcell1 (lo + j) (by omega)
        obtain ⟨m, hm⟩ : ∃ m, k - (lo + j) = m := ⟨_, rfl⟩
        obtain ⟨b', o', y, rfl, hy1, hy2⟩ := hcell2 m (by omega)
        have hx1' : wi.cell? ⟨b, o + (lo + j), none⟩ = some (.float .f32 x) := by rw [hw]; exact hx1
        have hy1' : wi.cell? ⟨b', o' + m, none⟩ = some (.float .f32 y) := by rw [hw]; exact hy1
        have HX := Lib.hid hx2
        have HY := Lib.hid hy2
        have HM := Lib.hid hm
        have hmi : (k : Int) - ((lo + j : Nat) : Int) = (m : Int) := by omega
        clear hcell1 hcell2 hx1 hx2 hy1 hy2 hw hf hm
        generalize hIJ : lo + j = ij at *
        go_wp2
        refine region_rel_all (by kernel_rfl) (by kernel_rfl) (Drawn wi) (fun _ _ _ => False) ⟨1, rfl⟩ ?_
        repeat (refine wpRel_draw rfl rfl (fun nq K hK => ?_); go_wp2)
        refine wpRel_nil ?_
        rintro wd ⟨nd, hwd⟩
        have Hwd := Lib.hid hwd
        clear hwd hx1' hy1'
        go_wp2
        refine ⟨⟨j + 1, n + nd, _, by omega, by (congr 1; omega), rfl, ?_, by rw [Hwd.out, HW.out, World.drewN_drewN]⟩, by simp [intOf]; omega⟩
        have e : sumTo .f32 (foldAt A B k) (j + 1) = fop .add .f32 (sumTo .f32 (foldAt A B k) j) (foldAt A B k j) := rfl
        rw [e, HF.out, hIJ, show k - ij = m by have := HM.out; omega]
        exact FV.op (op := .add) HR.out (FV.op (op := .mul) HX.out HY.out _) _
      · have HR2 := Lib.hid (show FV .f32 r (foldS A B k) from by rw [HS.out, show hi + 1 - lo = j by omega]; exact HR.out)
        generalize lo + j = ij at *
        clear hw hf
        go_wp2
        go_ret
        exact ⟨r, rfl, HR2.out, n, HW.out⟩
end Go.Proofs.Ythacadbdncfocaa
