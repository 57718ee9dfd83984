/- FnExactCountOutputs: the walk of the law. -/
import Derived.Test.YtalajgjdceoleaaSpl3
import Derived.Test.YtalajgjdceoleaaShelf3
namespace Go.Proofs.Ytalajgjdceoleaa
open Go Go.RowKit

theorem cntV_form (s : ByteArray) : ∃ (a b : Int) (c : Bool), ∀ e, cntV s e → e = .returned (.tuple #[.int .i64 a, .int .i64 b, .bool c]) := by
  obtain ⟨xs, z, hx⟩ : ∃ xs z, cutB 10 s = xs ++ [z] := ⟨_, _, (List.dropLast_concat_getLast (by intro e; have := cutB_pos 10 s; rw [e] at this; exact absurd this (by decide))).symm⟩
  have key : ∀ e, cntV s e → e = if s.size ≤ 12000 ∧ z.size = 0 then .returned (.tuple #[.int .i64 (badTo xs xs.length : Nat), .int .i64 ((xs.length : Int) - (badTo xs xs.length : Nat)), .bool true]) else .returned (.tuple #[.int .i64 0, .int .i64 0, .bool false]) := by
    rintro e ⟨ys, y, h1, h2⟩
    rw [hx] at h1
    obtain ⟨h3, h4⟩ := List.append_inj' h1 rfl
    simp at h4
    subst h3
    subst h4
    exact h2
  by_cases h : s.size ≤ 12000 ∧ z.size = 0
  · exact ⟨_, _, _, fun e he => by rw [key e he, if_pos h]⟩
  · exact ⟨_, _, _, fun e he => by rw [key e he, if_neg h]⟩
set_option maxRecDepth 100000 in
set_option maxHeartbeats 1600000 in
theorem lawCountOutputs_any (w : World) (s : ByteArray) (hs : s.size ≤ maxLen) :
    Calls Try.prog 3 #[.string s] w (TrueB w) := by
  by_cases hbig : s.size ≤ 1048576
  · obtain ⟨a, b, c, hf⟩ := cntV_form s
    have HF := Lib.hid hf
    clear hf
    have K1 : ∀ w1 : World, Calls Try.prog 7 #[.string s] w1 fun e w' => e = .returned (.tuple #[.int .i64 a, .int .i64 b, .bool c]) ∧ Below w1.heap.size w1 w' := fun w1 =>
      (specCount_any w1 s hbig).mono fun e w' ⟨h1, h2⟩ => ⟨HF.out e h1, h2⟩
    have K2 : ∀ w1 : World, Calls Try.prog 8 #[.string s] w1 fun e w' => e = .returned (.tuple #[.int .i64 a, .int .i64 b, .bool c]) ∧ Below w1.heap.size w1 w' := fun w1 =>
      (implCount_any Try.strings_HasSuffix Try.strings_IndexByte w1 s hbig).mono fun e w' ⟨h1, h2⟩ => ⟨HF.out e h1, h2⟩
    clear HF
    go_enter Try.func3, Try.ntmps3
    go_wp2_with fail
    refine (K1 w).mono ?_
    rintro e w1 ⟨rfl, b1⟩
    go_wp2_with fail
    refine (K2 w1).mono ?_
    rintro e w2 ⟨rfl, b2⟩
    go_wp2
    go_ret
    exact TrueB.mk (b1.trans (b2.mono b1.size))
  · have hbig' : (1048576 : Int) < (s.size : Int) := by omega
    go_enter Try.func3, Try.ntmps3
    go_wp2
    go_ret
    exact TrueB.mk (Below.refl _ _)
end Go.Proofs.Ytalajgjdceoleaa
