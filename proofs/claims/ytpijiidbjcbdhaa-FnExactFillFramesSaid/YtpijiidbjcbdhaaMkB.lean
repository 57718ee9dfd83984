/- Walks: rows of Booleans: equal ones, marks that the laws set in them, and look for. -/
import Derived.Test.YtpijiidbjcbdhaaBoo
namespace Go.Proofs.Ytpijiidbjcbdhaa
open Go Go.RowKit

def mkB (k : Nat) : Bool := k % 3 == 0
def marksB (k n : Nat) : List Bool := (List.range n).map fun i => mkB (k + i)
theorem marksB_length (k n : Nat) : (marksB k n).length = n := by simp [marksB]
theorem marksB_at (k n i : Nat) (h : i < n) : bAt (marksB k n) i = mkB (k + i) := by
  simp [bAt, marksB, List.getD_eq_getElem?_getD, List.getElem?_map, List.getElem?_range h]
theorem mkB_mod (k : Nat) : (Int.tmod (k : Int) 3 == 0) = mkB k := by
  unfold mkB
  have : Int.tmod (k : Int) 3 = ((k % 3 : Nat) : Int) := by rw [Int.tmod_eq_emod_of_nonneg (by omega)]; omega
  rw [this]
  cases h : (k % 3 == 0) with
  | true => have := beq_iff_eq.1 h; rw [this]; rfl
  | false =>
    rw [beq_eq_false_iff_ne] at h ⊢
    omega

set_option maxRecDepth 100000 in
set_option maxHeartbeats 800000 in
theorem eqBoolS_any (w : World) (v1 v2 : Value) (L : List Bool) (h1 : RdB w v1 L) (h2 : RdB w v2 L) (hmax : L.length ≤ 1048576) :
    Calls Try.prog 12 #[v1, v2] w fun e w' => e = .returned (.bool true) ∧ ∃ n, w' = w.drewN n := by
  obtain ⟨a1, c1, rfl, hc1, -, hcell1⟩ := h1.opened
  obtain ⟨a2, c2, rfl, hc2, -, hcell2⟩ := h2.opened
  clear h1 h2
  go_enter Try.func12, Try.ntmps12
  go_wp2
  go_loopw [5] (fun i wr => ∃ k q : Nat, k ≤ L.length ∧ i = .int .i64 k ∧ wr = w.drewN q) (fun i _ => L.length - (intOf i).toNat)
  case atStart => exact ⟨0, 0, Nat.zero_le _, rfl, rfl⟩
  case round =>
    obtain ⟨wi, rfl⟩ : ∃ wi : World, wi = wr := ⟨_, rfl⟩
    obtain ⟨k, q, hk, rfl, hq⟩ := hrel
    by_cases hlt : k < L.length
    · obtain ⟨b, o, rfl, hlb, d0⟩ := hcell1 k hlt
      obtain ⟨b', o', rfl, hlb', g0⟩ := hcell2 k hlt
      have D0 : wi.cell? ⟨b, o + k, none⟩ = some (.bool (bAt L k)) := by rw [hq]; exact d0
      have G0 : wi.cell? ⟨b', o' + k, none⟩ = some (.bool (bAt L k)) := by rw [hq]; exact g0
      have Hq := Lib.hid hq
      clear hcell1 hcell2 d0 g0 hq
      generalize bAt L k = x at *
      go_wp2
      refine region_rel_all (by kernel_rfl) (by kernel_rfl) (Drawn wi) (fun _ _ _ => False) ⟨1, rfl⟩ ?_
      repeat (refine wpRel_draw rfl rfl (fun nq K hK => ?_); go_wp2)
      refine wpRel_nil ?_
      rintro wd ⟨nd, hwd⟩
      have Hwd := Lib.hid hwd
      clear hwd
      go_wp2
      exact ⟨⟨k + 1, q + nd, by omega, by go_num, by rw [Hwd.out, Hq.out, World.drewN_drewN]⟩, by simp [intOf]; omega⟩
    · have Hq := Lib.hid hq
      clear hq
      go_wp2
      go_ret
      exact ⟨rfl, q, Hq.out⟩
set_option maxRecDepth 100000 in
set_option maxHeartbeats 800000 in
theorem markBoolS_any (w : World) (B : Nat) (v : Value) (L : List Bool) (k : Nat) (hL : OwnB w B v L) (hmax : L.length ≤ 1048576) (hk : k ≤ 4503599627370496) :
    Calls Try.prog 16 #[v, .int .i64 k] w fun e w' => e = .returned (.int .i64 ((k + L.length : Nat) : Int)) ∧ OwnB w' B v (marksB k L.length) ∧ w.grownBy w' v.ownBlock := by
  rcases hL.form with ⟨rfl, rfl⟩ | ⟨g, cap, rfl, hg1, hg2, hcap, -, -⟩
  · go_enter Try.func16, Try.ntmps16
    go_wp2
    refine wp_loop_rounds 1 ?_
    rw [rounds_succ]
    go_wp2
    go_ret
    exact ⟨by simp, hL, World.grownBy.refl _ _⟩
  · go_enter Try.func16, Try.ntmps16
    go_wp2
    go_loopw [1, 5] (fun q i wr => ∃ j : Nat, j ≤ L.length ∧ i = .int .i64 j ∧ q = .int .i64 ((k + j : Nat) : Int) ∧ OwnB wr B (.slice (some ⟨g, 0, none⟩) L.length cap) (mixB (marksB k L.length) L j) ∧ w.grownBy wr (some g)) (fun _ i _ => L.length - (intOf i).toNat)
    case atStart => exact ⟨0, Nat.zero_le _, rfl, rfl, by rw [mixB_zero]; exact hL, World.grownBy.refl _ _⟩
    case round =>
      obtain ⟨j, hj, rfl, rfl, ho, hgw⟩ := hrel
      have hlm : (mixB (marksB k L.length) L j).length = L.length := mixB_length _ _ _
      by_cases hlt : j < L.length
      · rcases ho.form with ⟨hv, -⟩ | ⟨g', cap', hv, -, -, -, hcl, hfr⟩
        · cases hv
        · rw [hlm] at hv hcl
          obtain rfl : g = g' := by cases hv; rfl
          have c3 := hcl j hlt
          have hfj := hfr j
          have ho' := Lib.hid ho
          have Hlm := Lib.hid hlm
          have HM := Lib.hid (mkB_mod (k + j))
          generalize bAt (mixB (marksB k L.length) L j) j = x at c3
          clear ho hcl hfr hL hv hlm
          go_wp2
          refine ⟨⟨j + 1, by omega, by go_num, by go_num, ?_, grownBy_trans hgw (grownBy_setCell _ _ _ _)⟩, by simp [intOf]; omega⟩
          rw [← mixB_set, marksB_at _ _ _ hlt, ← HM.out]
          exact ho'.out.stored Hlm.out _ _
      · obtain rfl : j = L.length := by omega
        go_wp2
        go_ret
        rw [mixB_all _ _ _ (Nat.le_refl _) (marksB_length _ _)] at ho
        exact ⟨rfl, ho, hgw⟩
set_option maxRecDepth 100000 in
set_option maxHeartbeats 800000 in
theorem heldBoolS_any (w : World) (v : Value) (k n : Nat) (hL : RdB w v (marksB k n)) (hmax : n ≤ 1048576) (hk : k ≤ 4503599627370496) :
    Calls Try.prog 18 #[v, .int .i64 k] w fun e w' => e = .returned (.int .i64 ((k + n : Nat) : Int)) ∧ w' = w := by
  obtain ⟨a, c, hv, hc, hz, hcell⟩ := hL.opened
  rw [marksB_length] at hv hc hcell
  subst hv
  clear hz hL
  go_enter Try.func18, Try.ntmps18
  go_wp2
  go_loop [1, 5] (fun q i => ∃ j : Nat, j ≤ n ∧ i = .int .i64 j ∧ q = .int .i64 ((k + j : Nat) : Int)) (fun _ i => n - (intOf i).toNat)
  case atStart => exact ⟨0, Nat.zero_le _, rfl, rfl⟩
  case round =>
    obtain ⟨j, hj, rfl, rfl⟩ := hrel
    by_cases hlt : j < n
    · obtain ⟨b, o, rfl, hlb, c1⟩ := hcell j hlt
      rw [marksB_at _ _ _ hlt, ← mkB_mod] at c1
      clear hcell
      have ec : ((k + j : Nat) : Int) = (k : Int) + (j : Int) := by omega
      rw [ec] at c1
      clear ec
      go_wp2
      exact ⟨⟨j + 1, by omega, by go_num, by go_num⟩, by simp [intOf]; omega⟩
    · obtain rfl : j = n := by omega
      go_wp2
      go_ret
      exact ⟨rfl, rfl⟩
end Go.Proofs.Ytpijiidbjcbdhaa
