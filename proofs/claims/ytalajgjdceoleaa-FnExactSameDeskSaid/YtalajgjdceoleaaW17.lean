/- Walks: are lists of numbers the same. -/
import Derived.Test.YtalajgjdceoleaaW16
namespace Go.Proofs.Ytalajgjdceoleaa
open Go Go.RowKit

/-- The first j numbers are the same. -/
def sameTo (A B : List Nat) (j : Nat) : Bool := (List.range j).all fun i => A.getD i 0 == B.getD i 0
def sameL (A B : List Nat) : Bool := A.length == B.length && sameTo A B A.length
theorem sameTo_succ (A B : List Nat) (j : Nat) : sameTo A B (j + 1) = (sameTo A B j && (A.getD j 0 == B.getD j 0)) := by simp [sameTo, List.range_succ]
theorem sameTo_false {A B : List Nat} {j n : Nat} (hj : j < n) (h : (A.getD j 0 == B.getD j 0) = false) : sameTo A B n = false := by
  rw [Bool.eq_false_iff]
  intro hc
  have := List.all_eq_true.1 hc j (List.mem_range.2 hj)
  rw [h] at this
  cases this
theorem sameL_len {A B : List Nat} (h : A.length ≠ B.length) : sameL A B = false := by simp [sameL, h]

set_option maxRecDepth 100000 in
set_option maxHeartbeats 800000 in
theorem l01SameAll_any (w : World) (v1 v2 : Value) (A B : List Nat) (h1 : RdF w v1 A) (h2 : RdF w v2 B) (hm : A.length ≤ 1048576) (hm2 : B.length ≤ 1048576) :
    Calls Try.prog 59 #[v1, v2] w fun e w' => e = .returned (.bool (sameL A B)) ∧ ∃ n, w' = w.drewN n := by
  obtain ⟨a1, c1, rfl, hc1, -, hcell1⟩ := h1.opened
  obtain ⟨a2, c2, rfl, hc2, -, hcell2⟩ := h2.opened
  clear h1 h2
  by_cases hl : A.length = B.length
  · have hne : ((A.length : Int) != (B.length : Int)) = false := by rw [hl]; simp
    have Hl := Lib.hid hl
    clear hl
    go_enter Try.func59, Try.ntmps59
    go_wp2
    go_loopw [5] (fun i wr => ∃ k q : Nat, k ≤ A.length ∧ i = .int .i64 k ∧ sameTo A B k = true ∧ wr = w.drewN q) (fun i _ => A.length - (intOf i).toNat)
    case atStart => exact ⟨0, 0, Nat.zero_le _, rfl, rfl, rfl⟩
    case round =>
      obtain ⟨wi, rfl⟩ : ∃ wi : World, wi = wr := ⟨_, rfl⟩
      obtain ⟨k, q, hk, rfl, hsk, hq⟩ := hrel
      have Hsk := Lib.hid hsk
      by_cases hlt : k < A.length
      · have hlt2 : k < B.length := by have := Hl.out; omega
        obtain ⟨b, o, r, rfl, d0, f0⟩ := hcell1 k hlt
        obtain ⟨b', o', s, rfl, g0, e0⟩ := hcell2 k hlt2
        have D0 : wi.cell? ⟨b, o + k, none⟩ = some (.float .f32 r) := by rw [hq]; exact d0
        have G0 : wi.cell? ⟨b', o' + k, none⟩ = some (.float .f32 s) := by rw [hq]; exact g0
        have Hq := Lib.hid hq
        clear hcell1 hcell2 d0 g0 hq hsk
        go_wp2
        cases hxy : (A.getD k 0 == B.getD k 0) with
        | true =>
          have Hxy := Lib.hid hxy
          clear hxy
          refine region_rel_all (by kernel_rfl) (by kernel_rfl) (Drawn wi) (fun _ _ v => v = .bool true) ⟨1, rfl⟩ ?_
          repeat (refine wpRel_draw rfl rfl (fun nq K hK => ?_); go_wp2)
          refine wpRel_callF #[.float .f32 r, .float .f32 s] Try.func58 (by kernel_rfl) (by kernel_rfl) (by simp [go_sem]) ⟨wi, 0, rfl⟩ ⟨_, rfl⟩ ?_ ?_
          · rintro wd ⟨nd, rfl⟩
            refine (l01Same_any (wi.drewN nd) r s _ _ f0 e0).mono ?_
            rintro e w'' ⟨rfl, rfl⟩
            exact ⟨_, rfl, by rw [Hxy.out], nd, rfl⟩
          · rintro v rfl
            simp only [Act.put, List.setIfInBounds_toArray, List.set_cons_succ, List.set_cons_zero]
            repeat (refine wpRel_draw rfl rfl (fun nq K hK => ?_); go_wp2)
            refine wpRel_nil ?_
            rintro wd ⟨nd, hwd⟩
            have Hwd := Lib.hid hwd
            clear hwd
            go_wp2
            exact ⟨⟨k + 1, q + nd, by omega, by go_num, by rw [sameTo_succ, Hsk.out, Hxy.out]; rfl, by rw [Hwd.out, Hq.out, World.drewN_drewN]⟩, by simp [intOf]; omega⟩
        | false =>
          have Hxy := Lib.hid hxy
          clear hxy
          refine region_rel_all (by kernel_rfl) (by kernel_rfl) (Drawn wi) (fun _ _ v => v = .bool false) ⟨1, rfl⟩ ?_
          repeat (refine wpRel_draw rfl rfl (fun nq K hK => ?_); go_wp2)
          refine wpRel_callF #[.float .f32 r, .float .f32 s] Try.func58 (by kernel_rfl) (by kernel_rfl) (by simp [go_sem]) ⟨wi, 0, rfl⟩ ⟨_, rfl⟩ ?_ ?_
          · rintro wd ⟨nd, rfl⟩
            refine (l01Same_any (wi.drewN nd) r s _ _ f0 e0).mono ?_
            rintro e w'' ⟨rfl, rfl⟩
            exact ⟨_, rfl, by rw [Hxy.out], nd, rfl⟩
          · rintro v rfl
            simp only [Act.put, List.setIfInBounds_toArray, List.set_cons_succ, List.set_cons_zero]
            repeat (refine wpRel_draw rfl rfl (fun nq K hK => ?_); go_wp2)
            refine wpRel_nil ?_
            rintro wd ⟨nd, hwd⟩
            have Hwd := Lib.hid hwd
            clear hwd
            go_wp2
            go_ret
            exact ⟨by unfold sameL; rw [sameTo_false hlt Hxy.out, Bool.and_false]; rfl, q + nd, by rw [Hwd.out, Hq.out, World.drewN_drewN]⟩
      · have Hq := Lib.hid hq
        clear hq hsk
        go_wp2
        go_ret
        obtain rfl : k = A.length := by omega
        exact ⟨by unfold sameL; rw [Hsk.out, Hl.out]; simp, q, Hq.out⟩
  · have hne : ((A.length : Int) != (B.length : Int)) = true := by simp; omega
    have hs := sameL_len hl
    rw [hs]
    clear hs
    go_enter Try.func59, Try.ntmps59
    go_wp2
    go_ret
    exact ⟨rfl, 0, rfl⟩
end Go.Proofs.Ytalajgjdceoleaa
