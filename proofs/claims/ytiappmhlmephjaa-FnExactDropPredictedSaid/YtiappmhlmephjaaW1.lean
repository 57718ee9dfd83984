/- Walks: the recursion of equations of Toeplitz form. -/
import Derived.Test.YtiappmhlmephjaaRows
import Derived.Test.YtiappmhlmephjaaRelOp
import Derived.Test.YtiappmhlmephjaaMem
import Derived.WalkSpells
namespace Go.Proofs.Ytiappmhlmephjaa
open Go Go.RowKit

def againstM (A L : List Nat) : Nat := sumTo .f32 (fun i => fop .mul .f32 (L.getD i 0) (A.getD (L.length - i) 0)) L.length

set_option maxRecDepth 100000 in
set_option maxHeartbeats 400000 in
theorem against_any (w : World) (px : Nat) (va vl : Value) (A L : List Nat) (hx : w.cell? ⟨px, 0, none⟩ = some va) (hA : RdF w va A) (hL : RdF w vl L) (hlen : L.length < A.length) (hmax : A.length ≤ 1000) :
    Calls Try.prog 71 #[.pointer (some ⟨px, 0, none⟩), vl] w fun e w' => ∃ r n, e = .returned (.float .f32 r) ∧ FV .f32 r (againstM A L) ∧ w' = w.drewN n := by
  have hadd := run_fadd (P := Try.prog)
  have hmul := run_fmul (P := Try.prog)
  obtain ⟨b, o, c, rfl, hcA, hbA, hcellA⟩ := hA.at_block (by omega)
  obtain ⟨al, cl, rfl, hcL, _, hcellL⟩ := hL.opened
  go_enter Try.func71, Try.ntmps71
  go_wp2
  go_loopw [5, 10] (fun s i wr => ∃ (k n r : Nat), k ≤ L.length ∧ i = .int .i64 k ∧ s = .float .f32 r ∧ FV .f32 r (sumTo .f32 (fun i => fop .mul .f32 (L.getD i 0) (A.getD (L.length - i) 0)) k) ∧ wr = w.drewN n) (fun _ i _ => L.length - (intOf i).toNat)
  case atStart => exact ⟨0, 0, 0, Nat.zero_le _, rfl, rfl, fv0 _, rfl⟩
  case round =>
    obtain ⟨k, n, r, hk, rfl, rfl, hr, rfl⟩ := hrel
    by_cases hlt : k < L.length
    · obtain ⟨b', o', r', rfl, hc1, hr1⟩ := hcellL k hlt
      obtain ⟨r2, hc2, hr2⟩ := hcellA (L.length - k) (by omega)
      have HR : Hid (FV .f32 r (sumTo .f32 (fun i => fop .mul .f32 (L.getD i 0) (A.getD (L.length - i) 0)) k)) := hr
      clear hr hcellL hcellA
      go_wp2
      exact ⟨⟨k + 1, _, _, by omega, by go_num, rfl, FV.op HR.out (FV.op hr1 hr2 _) _, rfl⟩, by simp [intOf]; omega⟩
    · go_wp2
      go_ret
      obtain rfl : k = L.length := by omega
      exact ⟨r, n, rfl, hr, rfl⟩
end Go.Proofs.Ytiappmhlmephjaa
