/- Walks: EqualFunc over numbers. -/
import Derived.Test.YtalajgjdceoleaaW17
namespace Go.Proofs.Ytalajgjdceoleaa
open Go Go.RowKit

set_option maxRecDepth 100000 in
set_option maxHeartbeats 800000 in
theorem equalF_any (w : World) (v1 v2 : Value) (A B : List Nat) (h1 : RdF w v1 A) (h2 : RdF w v2 B) (hm : A.length ≤ 1048576) (hm2 : B.length ≤ 1048576) :
    Calls Try.prog 85 #[v1, v2, .func (.func 63) #[] #[]] w fun e w' => e = .returned (.bool (sameL A B)) ∧ w' = w := by
  obtain ⟨a1, c1, rfl, hc1, -, hcell1⟩ := h1.opened
  obtain ⟨a2, c2, rfl, hc2, -, hcell2⟩ := h2.opened
  clear h1 h2
  by_cases hl : A.length = B.length
  · have hne : ((A.length : Int) != (B.length : Int)) = false := by rw [hl]; simp
    have Hl := Lib.hid hl
    clear hl
    go_enter Try.func85, Try.ntmps85
    go_wp2
    go_loop [17] (fun i => ∃ k : Nat, k ≤ A.length ∧ i = .int .i64 k ∧ sameTo A B k = true) (fun i => A.length - (intOf i).toNat)
    case atStart => exact ⟨0, Nat.zero_le _, rfl, rfl⟩
    case round =>
      obtain ⟨k, hk, rfl, hsk⟩ := hrel
      have Hsk := Lib.hid hsk
      by_cases hlt : k < A.length
      · have hlt2 : k < B.length := by have := Hl.out; omega
        obtain ⟨b, o, r, rfl, d0, f0⟩ := hcell1 k hlt
        obtain ⟨b', o', s, rfl, g0, e0⟩ := hcell2 k hlt2
        clear hcell1 hcell2 hsk
        go_wp2_with fail
        refine (sameNumber_any w r s _ _ f0 e0).mono ?_
        rintro e1 w1 ⟨rfl, hw1⟩
        subst hw1
        cases hxy : (A.getD k 0 == B.getD k 0) with
        | true =>
          have Hxy := Lib.hid hxy
          clear hxy
          go_wp2
          exact ⟨⟨k + 1, by omega, by go_num, by rw [sameTo_succ, Hsk.out, Hxy.out]; rfl⟩, by simp [intOf]; omega⟩
        | false =>
          have Hxy := Lib.hid hxy
          clear hxy
          go_wp2
          go_ret
          exact ⟨by unfold sameL; rw [sameTo_false hlt Hxy.out, Bool.and_false]; rfl, rfl⟩
      · clear hsk
        go_wp2
        go_ret
        obtain rfl : k = A.length := by omega
        exact ⟨by unfold sameL; rw [Hsk.out, Hl.out]; simp, rfl⟩
  · have hne : ((A.length : Int) != (B.length : Int)) = true := by simp; omega
    have hs := sameL_len hl
    rw [hs]
    clear hs
    go_enter Try.func85, Try.ntmps85
    go_wp2
    go_ret
    exact ⟨rfl, rfl⟩

set_option maxRecDepth 100000 in
set_option maxHeartbeats 800000 in
theorem sameList_any (w : World) (v1 v2 : Value) (A B : List Nat) (h1 : RdF w v1 A) (h2 : RdF w v2 B) (hm : A.length ≤ 1048576) (hm2 : B.length ≤ 1048576) :
    Calls Try.prog 66 #[v1, v2] w fun e w' => e = .returned (.bool (sameL A B)) ∧ w' = w := by
  go_enter Try.func66, Try.ntmps66
  go_wp2_with fail
  refine (equalF_any w v1 v2 A B h1 h2 hm hm2).mono ?_
  rintro e1 w1 ⟨rfl, hw1⟩
  subst hw1
  go_wp2
  go_ret
  exact ⟨rfl, rfl⟩
end Go.Proofs.Ytalajgjdceoleaa
