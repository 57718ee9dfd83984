/- Walks: marks that the laws set in lists of numbers, and look for. -/
import Derived.Test.YtibojlpeaolfbaaL1
namespace Go.Proofs.Ytibojlpeaolfbaa
open Go Go.RowKit

/-- The marks from k on. -/
def marks (k n : Nat) : List Nat := tab (fun i => floatOfInt .f32 ((k + i : Nat) : Int)) n
theorem marks_length (k n : Nat) : (marks k n).length = n := tab_length _ _

set_option maxRecDepth 100000 in
set_option maxHeartbeats 800000 in
theorem markFloat32S_any (w : World) (B : Nat) (v : Value) (L : List Nat) (k : Nat) (hL : OwnF w B v L) (hmax : L.length ≤ 1048576) (hk : k ≤ 4503599627370496) :
    Calls Try.prog 73 #[v, .int .i64 k] w fun e w' => e = .returned (.int .i64 ((k + L.length : Nat) : Int)) ∧ OwnF w' B v (marks k L.length) ∧ w.grownBy w' v.ownBlock := by
  have hst := run_store_float (P := Try.prog)
  rcases hL.form with ⟨rfl, rfl⟩ | ⟨g, cap, rfl, hg1, hg2, hcap, -, -⟩
  · go_enter Try.func73, Try.ntmps73
    go_wp2
    refine wp_loop_rounds 1 ?_
    rw [rounds_succ]
    go_wp2
    go_ret
    exact ⟨by simp, OwnF.nil _ _, World.grownBy.refl _ _⟩
  · go_enter Try.func73, Try.ntmps73
    go_wp2
    go_loopw [1, 5] (fun q i wr => ∃ j : Nat, j ≤ L.length ∧ i = .int .i64 j ∧ q = .int .i64 ((k + j : Nat) : Int) ∧ OwnF wr B (.slice (some ⟨g, 0, none⟩) L.length cap) (mixTo (marks k L.length) L j) ∧ w.grownBy wr (some g)) (fun _ i _ => L.length - (intOf i).toNat)
    case atStart => exact ⟨0, Nat.zero_le _, rfl, rfl, by rw [mixTo_zero]; exact hL, World.grownBy.refl _ _⟩
    case round =>
      obtain ⟨j, hj, rfl, rfl, ho, hgw⟩ := hrel
      by_cases hlt : j < L.length
      · obtain ⟨g', c', eq, _, _, _, hcello, hfro⟩ := ho.at_block (n := L.length) (mixTo_length _ _ _) (by omega)
        obtain ⟨rfl, rfl⟩ : g = g' ∧ cap = c' := by cases eq; exact ⟨rfl, rfl⟩
        obtain ⟨r3, c3, -⟩ := hcello j (by rw [mixTo_length]; exact hlt)
        have hfr := hfro j
        have ho' := Lib.hid ho
        clear ho hcello hfro eq hL
        go_wp2
        refine ⟨⟨j + 1, by omega, by go_num, by go_num, ?_, grownBy_trans hgw (grownBy_setCell _ _ _ _)⟩, by simp [intOf]; omega⟩
        have e1 : (marks k L.length).getD j 0 = floatOfInt .f32 ((k + j : Nat) : Int) := tab_getD _ _ _ hlt
        rw [← mixTo_set, e1]
        exact ho'.out.storedN (mixTo_length _ _ _) (floatOfInt_fv _ _)
      · obtain rfl : j = L.length := by omega
        go_wp2
        go_ret
        rw [mixTo_all _ _ _ (Nat.le_refl _) (marks_length _ _)] at ho
        exact ⟨rfl, ho, hgw⟩

set_option maxRecDepth 100000 in
set_option maxHeartbeats 800000 in
theorem heldFloat32S_any (w : World) (v : Value) (k n : Nat) (hL : RdF w v (marks k n)) (hmax : n ≤ 1048576) (hk : k ≤ 4503599627370496) :
    Calls Try.prog 74 #[v, .int .i64 k] w fun e w' => e = .returned (.int .i64 ((k + n : Nat) : Int)) ∧ w' = w := by
  obtain ⟨a, c, hv, hc, hz, hcell⟩ := hL.opened
  rw [marks_length] at hv hc hcell
  subst hv
  clear hz hL
  go_enter Try.func74, Try.ntmps74
  go_wp2
  go_loop [1, 5] (fun q i => ∃ j : Nat, j ≤ n ∧ i = .int .i64 j ∧ q = .int .i64 ((k + j : Nat) : Int)) (fun _ i => n - (intOf i).toNat)
  case atStart => exact ⟨0, Nat.zero_le _, rfl, rfl⟩
  case round =>
    obtain ⟨j, hj, rfl, rfl⟩ := hrel
    by_cases hlt : j < n
    · obtain ⟨b, o, r, rfl, c1, f1⟩ := hcell j hlt
      have e1 : (marks k n).getD j 0 = floatOfInt .f32 ((k + j : Nat) : Int) := tab_getD _ _ _ hlt
      rw [e1] at f1
      obtain rfl := f1.eq_of_not (floatOfInt_not_nan _ _)
      have ht : (FloatKind.f32.format.order (floatOfInt .f32 ((k + j : Nat) : Int)) (floatOfInt .f32 ((k + j : Nat) : Int)) != some Ordering.eq) = false := by rw [order_self (floatOfInt_not_nan _ _)]; rfl
      clear e1 f1 hcell
      have ec : ((k + j : Nat) : Int) = (k : Int) + (j : Int) := by omega
      rw [ec] at c1 ht
      clear ec
      go_wp2
      exact ⟨⟨j + 1, by omega, by go_num, by go_num⟩, by simp [intOf]; omega⟩
    · obtain rfl : j = n := by omega
      go_wp2
      go_ret
      exact ⟨rfl, rfl⟩
end Go.Proofs.Ytibojlpeaolfbaa
