/- Plain: gaps between frames; walks of the greater of two, of a frame's end. -/
import Derived.Test.YtibojlpeaolfbaaFilL
import Derived.Test.YtibojlpeaolfbaaIi
namespace Go.Proofs.Ytibojlpeaolfbaa
open Go Go.RowKit

def maxI (a b : Int) : Int := if a > b then a else b
def gapE (Ms : List FM) : Nat → Int
  | 0 => 0
  | j + 1 => maxI (gapE Ms j) ((frAt Ms j).sa + ((frAt Ms j).L.length : Nat))
def gapL (Ms : List FM) : Nat → List (List Int)
  | 0 => []
  | j + 1 => if (0 < j ∧ gapE Ms j < (frAt Ms j).sa) then gapL Ms j ++ [[gapE Ms j, (frAt Ms j).sa]] else gapL Ms j
theorem gapL_len (Ms : List FM) (j : Nat) : (gapL Ms j).length ≤ j := by
  induction j with
  | zero => exact Nat.le_refl _
  | succ j ih =>
    rw [gapL]
    split
    · simp; omega
    · omega
theorem gapL_row (Ms : List FM) (j i : Nat) (h : i < (gapL Ms j).length) : (rowI (gapL Ms j) i).length ≤ 2 := by
  induction j with
  | zero => cases h
  | succ j ih =>
    rw [gapL] at h ⊢
    split
    · rename_i hc
      rw [if_pos hc] at h
      unfold rowI
      rw [getD_snoc]
      by_cases h1 : i < (gapL Ms j).length
      · rw [if_pos h1]; exact ih h1
      · rw [if_neg h1]
        split
        · exact Nat.le_refl _
        · exact Nat.zero_le _
    · rename_i hc
      rw [if_neg hc] at h
      exact ih h
theorem gapE_le (Ms : List FM) (hs : Fsa Ms) (j : Nat) (hj : j ≤ Ms.length) : 0 ≤ gapE Ms j ∧ gapE Ms j ≤ 2000000 := by
  induction j with
  | zero => exact ⟨Int.le_refl _, by unfold gapE; omega⟩
  | succ j ih =>
    have := ih (by omega)
    obtain ⟨h1, h2, h3⟩ := hs j (by omega)
    rw [gapE]
    unfold maxI
    split <;> omega
theorem gapL_yes {Ms : List FM} {j : Nat} (h : 0 < j) (h2 : gapE Ms j < (frAt Ms j).sa) : gapL Ms (j + 1) = gapL Ms j ++ [[gapE Ms j, (frAt Ms j).sa]] := by rw [gapL, if_pos ⟨h, h2⟩]
theorem gapL_no {Ms : List FM} {j : Nat} (h : ¬ (0 < j ∧ gapE Ms j < (frAt Ms j).sa)) : gapL Ms (j + 1) = gapL Ms j := by rw [gapL, if_neg h]

set_option maxRecDepth 100000 in
set_option maxHeartbeats 800000 in
theorem frameEnd_any (w : World) (st sa : Int) (a : Option Addr) (n c : Nat) (h0 : 0 ≤ sa) (h1 : sa ≤ 100000) (hn : n ≤ 1048576) :
    Calls Try.prog 82 #[.agg #[.int .i64 st, .int .i64 sa, .slice a n c]] w fun e w' => e = .returned (.int .i64 (sa + (n : Nat))) ∧ Below w.heap.size w w' := by
  have bl : Below w.heap.size w (w.alloc (.cells #[.int .i64 st, .int .i64 sa, .slice a n c] 31)) := (Below.refl _ _).alloc (Nat.le_refl _) _
  obtain ⟨W, hW⟩ : ∃ W, w.alloc (.cells #[.int .i64 st, .int .i64 sa, .slice a n c] 31) = W := ⟨_, rfl⟩
  obtain ⟨k0, k1, k2, -, -, -⟩ := blk3 (w := W) (g := w.heap.size) (by rw [← hW]; exact alloc_new _ _)
  rw [hW] at bl
  have BL := Lib.hid bl
  clear bl
  go_enter Try.func82, Try.ntmps82
  go_wp2_with fail
  clear hW
  refine region_rel_tail 6 (by kernel_rfl) (by kernel_rfl) (Drawn W) (fun _ _ v => v = .int .i64 (n : Nat)) ⟨1, rfl⟩ ?_
  simp only [List.take_succ_cons, List.take_zero, List.drop_succ_cons, List.drop_zero]
  iterate 4 (refine wpRel_draw rfl rfl (fun nq K hK => ?_); go_wp2)
  refine wpRel_callF #[.slice a n c] Try.func83 (by kernel_rfl) (by kernel_rfl) (by simp [go_sem]) ⟨W, 0, rfl⟩ ⟨_, rfl⟩ ?_ ?_
  · rintro wd ⟨nd, rfl⟩
    refine (lengthF_any (W.drewN nd) a n c).mono ?_
    rintro e w'' ⟨rfl, rfl⟩
    exact ⟨_, rfl, rfl, nd, rfl⟩
  · rintro v rfl
    simp only [Act.put, List.setIfInBounds_toArray, List.set_cons_succ, List.set_cons_zero]
    refine wpRel_draw rfl rfl (fun nq K hK => ?_)
    go_wp2
    refine wpRel_nil ?_
    rintro wd ⟨nd, hwd⟩
    have Hwd := Lib.hid hwd
    clear hwd
    go_wp2
    go_ret
    exact ⟨rfl, by rw [Hwd.out]; exact Below.drewN BL.out _⟩
end Go.Proofs.Ytibojlpeaolfbaa
