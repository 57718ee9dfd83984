/- Walks: l05Cross, noise, and numbers that are finite and not negative. -/
import Derived.Test.YtiappmhlmephjaaW8
namespace Go.Proofs.Ytiappmhlmephjaa
open Go Go.RowKit

set_option maxRecDepth 100000 in
set_option maxHeartbeats 1000000 in
theorem l05Cross_any (w : World) (va vb : Value) (A B : List Nat) (n : Nat) (hA : RdF w va A) (hB : RdF w vb B) (hmA : A.length ≤ 1000) (hmB : B.length ≤ 1000) (hn : n ≤ 1000) :
    Calls Try.prog 73 #[va, vb, .int .i64 n] w fun e w' => ∃ v', e = .returned v' ∧ OwnF w' w.heap.size v' (crossM A B n) ∧ Below w.heap.size w w' := by
  have hadd := run_fadd (P := Try.prog)
  have hmul := run_fmul (P := Try.prog)
  obtain ⟨a, ca, rfl, hca, -, hcellA⟩ := hA.opened
  obtain ⟨b, cb, rfl, hcb, -, hcellB⟩ := hB.opened
  have hq0 : OwnF (w.alloc (.cells #[] 23)) w.heap.size (.slice (some ⟨w.heap.size, 0, none⟩) 0 0) [] := ⟨[], rfl, fun j hj => (by cases hj), World.ownsRow_lit w #[] 0 (Nat.le_refl _) (by decide) rfl⟩
  go_enter Try.func73, Try.ntmps73
  go_wp2
  go_loopw [7, 8] (fun q i wr => ∃ k : Nat, k ≤ n ∧ i = .int .i64 k ∧ OwnF wr w.heap.size q (crossM A B k) ∧ Below w.heap.size w wr) (fun _ i _ => n - (intOf i).toNat)
  case atStart => exact ⟨0, Nat.zero_le _, rfl, hq0, (Below.refl _ _).alloc (Nat.le_refl _) _⟩
  case round =>
    obtain ⟨wo, rfl⟩ : ∃ wo : World, wo = wr := ⟨_, rfl⟩
    obtain ⟨k, hk, rfl, ho, hbr⟩ := hrel
    clear hq0 hA hB
    by_cases hlt : k < n
    · have hcell : ∀ j, j < A.length → ∃ b o r, a = some ⟨b, o, none⟩ ∧ wo.cell? ⟨b, o + j, none⟩ = some (.float .f32 r) ∧ FV .f32 r (A.getD j 0) := fun j hj => by
        obtain ⟨b, o, r, h1, h2, h3⟩ := hcellA j hj
        exact ⟨b, o, r, h1, ((bcell hbr).1 _ _ (block_lt h2)).trans h2, h3⟩
      have hcell2 : ∀ j, j < B.length → ∃ b' o r, b = some ⟨b', o, none⟩ ∧ wo.cell? ⟨b', o + j, none⟩ = some (.float .f32 r) ∧ FV .f32 r (B.getD j 0) := fun j hj => by
        obtain ⟨b, o, r, h1, h2, h3⟩ := hcellB j hj
        exact ⟨b, o, r, h1, ((bcell hbr).1 _ _ (block_lt h2)).trans h2, h3⟩
      clear hcellA hcellB
      go_wp2
      go_loopw [9, 10] (fun s i wr => ∃ (j r q : Nat), j ≤ min B.length (A.length - k) ∧ i = .int .i64 j ∧ s = .float .f32 r ∧ FV .f32 r (sumTo .f32 (crossAt A B k) j) ∧ wr = wo.drewN q) (fun _ i _ => 1000 - (intOf i).toNat)
      case atStart => exact ⟨0, 0, 0, Nat.zero_le _, rfl, rfl, fv0 _, rfl⟩
      case round =>
        obtain ⟨wi, rfl⟩ : ∃ wi : World, wi = wr := ⟨_, rfl⟩
        obtain ⟨j, r, q, hj, rfl, rfl, fr, hwq⟩ := hrel
        by_cases hlj : j < min B.length (A.length - k)
        · have hj1 : j < B.length := by omega
          have hj2 : j + k < A.length := by omega
          obtain ⟨b1, o1, r1, rfl, c1, f1⟩ := hcell (j + k) hj2
          obtain ⟨b2, o2, r2, rfl, c2, f2⟩ := hcell2 j hj1
          have c1' : wi.cell? ⟨b1, o1 + (j + k), none⟩ = some (.float .f32 r1) := by rw [hwq]; exact c1
          have c2' : wi.cell? ⟨b2, o2 + j, none⟩ = some (.float .f32 r2) := by rw [hwq]; exact c2
          have hwq' := Lib.hid hwq
          have fr' := Lib.hid fr
          clear hwq c1 c2 hcell hcell2 fr
          go_wp2
          refine region_rel_all (by kernel_rfl) (by kernel_rfl) (Drawn wi) (fun _ _ _ => False) ⟨1, rfl⟩ ?_
          repeat (refine wpRel_draw rfl rfl (fun nq K hK => ?_); go_wp2)
          refine wpRel_nil ?_
          rintro wd ⟨nd, hwd⟩
          have hwd' := Lib.hid hwd
          clear hwd
          go_wp2
          refine ⟨⟨j + 1, _, q + nd, by omega, by go_num, rfl, FV.op fr'.out (FV.op f1 f2 _) _, by rw [hwd'.out, hwq'.out, World.drewN_drewN]⟩, by simp [intOf]; omega⟩
        · have hjm : j = min B.length (A.length - k) := by omega
          have ho' : OwnF wi w.heap.size u7 (crossM A B k) := by rw [hwq]; exact ho
          have hb' : Below w.heap.size w wi := by rw [hwq]; exact Below.drewN hbr q
          have hs' := hb'.size
          have Hjm := Lib.hid hjm
          clear hwq hcell hcell2 ho hjm
          by_cases hka : j + k < A.length
          · have hjb : ¬ j < B.length := by have := Hjm.out; omega
            go_wp2_with (at_builtin; go_must (refine wpList_push rfl _ _ rfl w.heap.size u7 (crossM A B k) rfl (ho'.alloc _) _ _ _ _ rfl (cell_new _ _ _) fr (by rw [crossM_length]; omega) (by rw [World.size_alloc]; omega) ?_); intro v3 w3 h3 hg3 hb3 _)
            refine ⟨⟨k + 1, by omega, by go_num, ?_, hb'.trans (((Below.refl _ _).alloc hs' _).trans hb3)⟩, by simp [intOf]; omega⟩
            rw [show crossM A B (k + 1) = crossM A B k ++ [sumTo .f32 (crossAt A B k) (min B.length (A.length - k))] from tab_succ _ _, ← Hjm.out]
            exact h3
          · go_wp2_with (at_builtin; go_must (refine wpList_push rfl _ _ rfl w.heap.size u7 (crossM A B k) rfl (ho'.alloc _) _ _ _ _ rfl (cell_new _ _ _) fr (by rw [crossM_length]; omega) (by rw [World.size_alloc]; omega) ?_); intro v3 w3 h3 hg3 hb3 _)
            refine ⟨⟨k + 1, by omega, by go_num, ?_, hb'.trans (((Below.refl _ _).alloc hs' _).trans hb3)⟩, by simp [intOf]; omega⟩
            rw [show crossM A B (k + 1) = crossM A B k ++ [sumTo .f32 (crossAt A B k) (min B.length (A.length - k))] from tab_succ _ _, ← Hjm.out]
            exact h3
    · go_wp2
      go_ret
      obtain rfl : k = n := by omega
      exact ⟨_, rfl, ho, hbr⟩

def whiteM (A : List Nat) (x : Nat) : List Nat := A.set 0 (fop .mul .f32 (A.getD 0 0) (fop .add .f32 1065353216 x))
theorem whiteM_length (A : List Nat) (x : Nat) : (whiteM A x).length = A.length := by simp [whiteM]
theorem fvone : FV .f32 1065353216 1065353216 := ⟨by decide, by decide +kernel⟩

set_option maxRecDepth 100000 in
set_option maxHeartbeats 400000 in
theorem whitened_any (w : World) (va : Value) (A : List Nat) (r x : Nat) (hA : RdF w va A) (hl : 0 < A.length) (hmA : A.length ≤ 1000) (hr : FV .f32 r x) :
    Calls Try.prog 36 #[va, .float .f32 r] w fun e w' => ∃ v', e = .returned v' ∧ OwnF w' w.heap.size v' (whiteM A x) ∧ Below w.heap.size w w' := by
  have hadd := run_fadd (P := Try.prog)
  have hmul := run_fmul (P := Try.prog)
  have hst := run_store_float (P := Try.prog)
  go_enter Try.func36, Try.ntmps36
  go_wp2_with fail
  refine (clone_any w va A hA (by omega)).mono ?_
  rintro e w1 ⟨v1, rfl, h1, hb1⟩
  have h1' := h1
  obtain ⟨g, cap, rfl, hg, hg2, hcap, hcell, hfr⟩ := h1.at_block (n := A.length) rfl hl
  obtain ⟨r0, c0, f0⟩ := hcell 0 hl
  have hfr0 := hfr 0
  have H1 := Lib.hid h1'
  clear hcell hfr h1'
  go_wp2
  go_ret
  exact ⟨_, rfl, (OwnF.drewN H1.out _).storedN rfl (FV.op f0 (FV.op fvone hr _) _), (Below.drewN hb1 _).setCell hg _⟩

set_option maxRecDepth 100000 in
set_option maxHeartbeats 400000 in
theorem l05White_any (w : World) (va : Value) (A : List Nat) (r x : Nat) (hA : RdF w va A) (hl : 0 < A.length) (hmA : A.length ≤ 1000) (hr : FV .f32 r x) :
    Calls Try.prog 64 #[va, .float .f32 r] w fun e w' => ∃ v', e = .returned v' ∧ OwnF w' w.heap.size v' (whiteM A x) ∧ Below w.heap.size w w' := by
  have hadd := run_fadd (P := Try.prog)
  have hmul := run_fmul (P := Try.prog)
  have hst := run_store_float (P := Try.prog)
  have hown0 : OwnF (w.alloc (.cells #[] 23)) w.heap.size (.slice (some ⟨w.heap.size, 0, none⟩) 0 0) [] := ⟨[], rfl, fun j hj => (by cases hj), World.ownsRow_lit w #[] 0 (Nat.le_refl _) (by decide) rfl⟩
  have hM : RdF (w.alloc (.cells #[] 23)) va A := hA.mono ((Below.refl _ _).alloc (Nat.le_refl _) _)
  obtain ⟨b, o, c, rfl, hc, hb, hcella⟩ := hA.at_block hl
  obtain ⟨ra, ca, fa⟩ := hcella 0 hl
  rw [Nat.add_zero] at ca
  clear hcella
  go_enter Try.func64, Try.ntmps64
  go_wp2_with (at_builtin; go_must (refine wpList_pushAll rfl _ _ rfl w.heap.size _ [] rfl hown0 _ A rfl hM (by simp) (by omega) (by simp) ?_); intro v1 w1 h1 hg1 hb1 _; rw [List.nil_append] at h1; have h1' := h1; obtain ⟨g, cap, rfl, hg, hg2, hcap, hcell, hfr⟩ := h1.at_block (n := A.length) rfl hl; clear hg1; have hbw : Below w.heap.size w w1 := ((Below.refl _ _).alloc (Nat.le_refl _) _).trans hb1; have ca1 : w1.cell? ⟨b, o, none⟩ = some (.float .f32 ra) := ((bcell hbw).1 _ _ hb).trans ca; obtain ⟨r0, c0, f0⟩ := hcell 0 hl; have hfr0 := hfr 0; have H1 := Lib.hid h1'; clear hcell hfr h1' h1 hown0 hM hA ca hb1)
  go_ret
  exact ⟨_, rfl, (OwnF.drewN H1.out _).storedN rfl (FV.op fa (FV.op fvone hr _) _), (Below.drewN hbw _).setCell hg _⟩

/-- The number is finite, and not less than 0. -/
def nonnegB (x : Nat) : Bool := fin .f32 x && (FloatKind.f32.format.order x 0 == some .gt || FloatKind.f32.format.order x 0 == some .eq)

set_option maxRecDepth 100000 in
set_option maxHeartbeats 400000 in
theorem isNonNegative_any (w : World) (r x : Nat) (hr : FV .f32 r x) :
    Calls Try.prog 33 #[.float .f32 r] w fun e w' => e = .returned (.bool (nonnegB x)) ∧ ∃ n, w' = w.drewN n := by
  have hsub := run_fsub (P := Try.prog)
  have hcv := run_widen (P := Try.prog) 23 62 (by kernel_rfl) (by kernel_rfl)
  have hs : ∀ w1 w2 : World, (FloatKind.f64.format.order (fres .sub .f64 (cres r w1) (cres r w1) w2) 0 == some Ordering.eq) = fin .f32 x := fun w1 w2 => by
    rw [(FV.op (hr.wide w1) (hr.wide w1) w2).order (fv0 _), self_less, fin_wide]
  have hg : (FloatKind.f32.format.order r 0 == some Ordering.gt || FloatKind.f32.format.order r 0 == some Ordering.eq) = (FloatKind.f32.format.order x 0 == some Ordering.gt || FloatKind.f32.format.order x 0 == some Ordering.eq) := by
    rw [hr.order (fv0 _)]
  cases hf : fin .f32 x with
  | false =>
    have hn : nonnegB x = false := by unfold nonnegB; rw [hf]; rfl
    rw [hf] at hs
    rw [hn]
    go_enter Try.func33, Try.ntmps33
    go_wp2
    go_ret
    exact ⟨rfl, _, rfl⟩
  | true =>
    have hn : nonnegB x = (FloatKind.f32.format.order x 0 == some Ordering.gt || FloatKind.f32.format.order x 0 == some Ordering.eq) := by unfold nonnegB; rw [hf]; rfl
    rw [hf] at hs
    rw [hn]
    have Hg := Lib.hid hg
    clear hg hn
    go_enter Try.func33, Try.ntmps33
    go_wp2
    go_ret
    exact ⟨by rw [← Hg.out]; rfl, _, rfl⟩

set_option maxRecDepth 100000 in
set_option maxHeartbeats 400000 in
theorem l05Near_any (w : World) (r x : Nat) (hr : FV .f32 r x) :
    Calls Try.prog 61 #[.float .f32 r] w fun e w' => e = .returned (.bool (nonnegB x)) ∧ ∃ n, w' = w.drewN n := by
  have hsub := run_fsub (P := Try.prog)
  have hs : ∀ w2 : World, (FloatKind.f32.format.order (fres .sub .f32 r r w2) 0 == some Ordering.eq) = fin .f32 x := fun w2 => by
    rw [(FV.op hr hr w2).order (fv0 _), self_less]
  have hg : (FloatKind.f32.format.order r 0 == some Ordering.gt || FloatKind.f32.format.order r 0 == some Ordering.eq) = (FloatKind.f32.format.order x 0 == some Ordering.gt || FloatKind.f32.format.order x 0 == some Ordering.eq) := by
    rw [hr.order (fv0 _)]
  cases hf : fin .f32 x with
  | false =>
    have hn : nonnegB x = false := by unfold nonnegB; rw [hf]; rfl
    rw [hf] at hs
    rw [hn]
    go_enter Try.func61, Try.ntmps61
    go_wp2
    go_ret
    exact ⟨rfl, _, rfl⟩
  | true =>
    have hn : nonnegB x = (FloatKind.f32.format.order x 0 == some Ordering.gt || FloatKind.f32.format.order x 0 == some Ordering.eq) := by unfold nonnegB; rw [hf]; rfl
    rw [hf] at hs
    rw [hn]
    have Hg := Lib.hid hg
    clear hg hn
    go_enter Try.func61, Try.ntmps61
    go_wp2
    go_ret
    exact ⟨by rw [← Hg.out]; rfl, _, rfl⟩
end Go.Proofs.Ytiappmhlmephjaa
