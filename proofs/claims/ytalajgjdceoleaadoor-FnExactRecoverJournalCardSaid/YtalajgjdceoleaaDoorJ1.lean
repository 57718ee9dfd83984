/- Walks: check numbers. -/
import Derived.Test.YtalajgjdceoleaaDoorJ0
namespace Go.Proofs.YtalajgjdceoleaaDoor
open Go Go.RowKit

def chkS (n : Nat) (b : UInt8) : Nat := (733 * n + b.toNat + 61) % 65003
/-- The check number behind the first j bytes. -/
def chkN (n : Nat) (s : ByteArray) (j : Nat) : Nat := ((bytesL s).take j).foldl chkS n
theorem chkN_zero (n : Nat) (s : ByteArray) : chkN n s 0 = n := rfl
theorem chkN_succ (n : Nat) (s : ByteArray) (j : Nat) (h : j < s.size) : chkN n s (j + 1) = chkS (chkN n s j) (s[j]'h) := by
  unfold chkN
  have h' : j < (bytesL s).length := by simpa [bytesL] using h
  rw [List.take_succ_eq_append_getElem h', List.foldl_append]
  rfl
theorem chkN_lt (n : Nat) (s : ByteArray) (j : Nat) (h : n < 65003) : chkN n s j < 65003 := by
  unfold chkN
  generalize (bytesL s).take j = l
  induction l generalizing n with
  | nil => exact h
  | cons b l ih => exact ih _ (Nat.mod_lt _ (by decide))
def chk (n : Nat) (s : ByteArray) : Nat := chkN n s s.size

set_option maxRecDepth 100000 in
set_option maxHeartbeats 800000 in
theorem l01Check_any (w : World) (n : Nat) (s : ByteArray) (hn : n < 65003) (hs : s.size ≤ 1048576) :
    Calls Tryd.prog 20 #[.int .i64 n, .string s] w fun e w' => e = .returned (.int .i64 (chk n s)) ∧ w' = w := by
  go_enter Tryd.func20, Tryd.ntmps20
  go_wp2_with fail
  go_loopw [0, 5] (fun v i wr => ∃ j : Nat, j ≤ s.size ∧ i = .int .i64 j ∧ v = .int .i64 (chkN n s j) ∧ wr = w) (fun _ i _ => s.size - (intOf i).toNat)
  case atStart => exact ⟨0, Nat.zero_le _, rfl, rfl, rfl⟩
  case round =>
    obtain ⟨j, hj, rfl, rfl, rfl⟩ := hrel
    have hm := chkN_lt n s j hn
    obtain ⟨m, hm'⟩ : ∃ m, chkN n s j = m := ⟨_, rfl⟩
    rw [hm'] at hm ⊢
    by_cases hlt : j < s.size
    · have hb : (s[j]'hlt).toNat < 256 := UInt8.toNat_lt _
      have he : ((chkN n s (j + 1) : Nat) : Int) = (733 * (m : Int) + ((s[j]'hlt).toNat : Int) + 61) % 65003 := by
        rw [chkN_succ n s j hlt, hm']; unfold chkS; omega
      have He := Lib.hid he
      clear he hm'
      go_wp2
      exact ⟨⟨j + 1, by omega, by go_num, by rw [← He.out], trivial⟩, by simp [intOf]; omega⟩
    · obtain rfl : j = s.size := by omega
      go_wp2
      go_ret
      refine ⟨?_, rfl⟩; unfold chk; rw [hm']; rfl

set_option maxRecDepth 100000 in
set_option maxHeartbeats 800000 in
theorem withinC_any (w : World) (n : Nat) (hn : n < 65003) :
    Calls Tryd.prog 30 #[.int .i64 n, .int .i64 0, .int .i64 65002] w fun e w' => e = .returned (.bool true) ∧ w' = w := by
  have h0 : (0 : Int) ≤ (n : Int) := by omega
  have h1 : (n : Int) ≤ 65002 := by omega
  go_enter Tryd.func30, Tryd.ntmps30
  go_wp2
  go_ret
  first | exact ⟨rfl, rfl⟩ | (refine ⟨?_, rfl⟩; simp)

set_option maxRecDepth 100000 in
set_option maxHeartbeats 800000 in
theorem checkOf_any (w : World) (n : Nat) (s : ByteArray) (hn : n < 65003) (hs : s.size ≤ 1048576) :
    Calls Tryd.prog 23 #[.int .i64 n, .string s] w fun e w' => e = .returned (.tuple #[.int .i64 (chk n s), .bool true]) ∧ w' = w := by
  go_enter Tryd.func23, Tryd.ntmps23
  go_wp2_with fail
  refine (withinC_any _ n hn).mono ?_
  rintro e w1 ⟨rfl, rfl⟩
  go_wp2_with fail
  go_loopw [0, 12] (fun v i wr => ∃ j : Nat, j ≤ s.size ∧ i = .int .i64 j ∧ v = .int .i64 (chkN n s j) ∧ wr = w1) (fun _ i _ => s.size - (intOf i).toNat)
  case atStart => exact ⟨0, Nat.zero_le _, rfl, rfl, rfl⟩
  case round =>
    obtain ⟨j, hj, rfl, rfl, rfl⟩ := hrel
    have hm := chkN_lt n s j hn
    obtain ⟨m, hm'⟩ : ∃ m, chkN n s j = m := ⟨_, rfl⟩
    rw [hm'] at hm ⊢
    by_cases hlt : j < s.size
    · have hb : (s[j]'hlt).toNat < 256 := UInt8.toNat_lt _
      have he : ((chkN n s (j + 1) : Nat) : Int) = (733 * (m : Int) + ((s[j]'hlt).toNat : Int) + 61) % 65003 := by
        rw [chkN_succ n s j hlt, hm']; unfold chkS; omega
      have He := Lib.hid he
      clear he hm'
      go_wp2
      exact ⟨⟨j + 1, by omega, by go_num, by rw [← He.out], trivial⟩, by simp [intOf]; omega⟩
    · obtain rfl : j = s.size := by omega
      go_wp2
      go_ret2
      refine ⟨?_, rfl⟩; unfold chk; rw [hm']; rfl
end Go.Proofs.YtalajgjdceoleaaDoor
