/- Walks: a step of the recursion, as the reference makes it. -/
import Derived.Test.YtiappmhlmephjaaW2
namespace Go.Proofs.Ytiappmhlmephjaa
open Go Go.RowKit

set_option maxRecDepth 100000 in
set_option maxHeartbeats 1000000 in
theorem l05Next_any (w : World) (v : Value) (L : List Nat) (c x : Nat) (hL : RdF w v L) (hc : FV .f32 c x) (hmax : L.length ≤ 1000) :
    Calls Try.prog 93 #[v, .float .f32 c] w fun e w' => ∃ v', e = .returned v' ∧ OwnF w' w.heap.size v' (extM L x) ∧ Below w.heap.size w w' := by
  have hsub := run_fsub (P := Try.prog)
  have hmul := run_fmul (P := Try.prog)
  have hown0 : OwnF (w.alloc (.cells #[] 23)) w.heap.size (.slice (some ⟨w.heap.size, 0, none⟩) 0 0) [] := ⟨[], rfl, fun j hj => (by cases hj), World.ownsRow_lit w #[] 0 (Nat.le_refl _) (by decide) rfl⟩
  have hM : RdF (w.alloc (.cells #[] 23)) v L := hL.mono ((Below.refl _ _).alloc (Nat.le_refl _) _)
  obtain ⟨a0, c0, rfl, hc0, hz0, -⟩ := hL.opened
  clear hz0
  have tok1 : True := trivial
  go_enter Try.func93, Try.ntmps93
  go_wp2_with (first | (at_builtin; have _t := tok1; refine wpList_pushAll rfl (.tmp 8) (.tmp 9) rfl w.heap.size _ [] rfl hown0 _ L rfl hM (by simp) (by omega) (by simp) ?_; intro v1 w1 h1 hg1 hb1 _; rw [List.nil_append] at h1; have hs1 := hb1.size; rw [World.size_alloc] at hs1; clear tok1 hg1) | (at_builtin; go_must (refine wpList_push rfl (.tmp 10) (.tmp 11) rfl w.heap.size _ L rfl (h1.alloc _) _ _ _ 0 rfl (cell_new _ _ _) (fv0 _) (by omega) (by rw [World.size_alloc]; omega) ?_); intro v2 w2 h2 hg2 hb2 _; clear hg2; have h2' := h2; obtain ⟨g2, cap2, rfl, hg2a, hg2b, hcap2, hcell2, -⟩ := h2'.at_block (n := L.length + 1) (by simp) (by omega); clear h2') | fail)
  have hs2 := hb2.size
  rw [World.size_alloc] at hs2
  have hq0 : OwnF (w2.alloc (.cells #[] 23)) w2.heap.size (.slice (some ⟨w2.heap.size, 0, none⟩) 0 0) [] := ⟨[], rfl, fun j hj => (by cases hj), World.ownsRow_lit w2 #[] 0 (Nat.le_refl _) (by decide) rfl⟩
  clear h1 h2 hL hM hown0
  go_loopw [6, 19] (fun q i wr => ∃ k : Nat, k ≤ L.length + 1 ∧ i = .int .i64 k ∧ OwnF wr w2.heap.size q (tab (fun i => fop .sub .f32 ((L ++ [0]).getD i 0) (fop .mul .f32 x ((L ++ [0]).getD (L.length - i) 0))) k) ∧ Below w2.heap.size w2 wr) (fun _ i _ => L.length + 1 - (intOf i).toNat)
  case atStart => exact ⟨0, Nat.zero_le _, rfl, hq0, (Below.refl _ _).alloc (Nat.le_refl _) _⟩
  case round =>
    obtain ⟨k, hk, rfl, hq, hbr⟩ := hrel
    clear hq0
    by_cases hlt : k < L.length + 1
    · obtain ⟨r1, c1, f1⟩ := hcell2 k (by simpa using hlt)
      obtain ⟨r2, c2, f2⟩ := hcell2 (L.length - k) (by simp; omega)
      rw [← (bcell hbr).1 _ _ hg2b] at c1 c2
      have hsr := hbr.size
      have hlen := tab_length (fun i => fop .sub .f32 ((L ++ [0]).getD i 0) (fop .mul .f32 x ((L ++ [0]).getD (L.length - i) 0))) k
      have Hlen := Lib.hid hlen
      clear hlen hcell2
      go_wp2
      refine region_rel_pull 1 14 (by kernel_rfl) (by kernel_rfl) (Drawn wr) (fun _ _ _ => False) ⟨1, rfl⟩ ?_
      simp only [List.take_succ_cons, List.take_zero, List.drop_succ_cons, List.drop_zero]
      repeat (refine wpRel_draw rfl rfl (fun n K hK => ?_); go_wp2)
      refine wpRel_nil ?_
      rintro wd ⟨n, hwd⟩
      have hqd : OwnF wd w2.heap.size u6 (tab (fun i => fop .sub .f32 ((L ++ [0]).getD i 0) (fop .mul .f32 x ((L ++ [0]).getD (L.length - i) 0))) k) := by rw [hwd]; exact hq
      have hbd : Below w2.heap.size w2 wd := by rw [hwd]; exact Below.drewN hbr n
      have hsd : w2.heap.size ≤ wd.heap.size := hbd.size
      clear hwd c1 c2 hq
      go_wp2_with (at_builtin; go_must (refine wpList_push rfl _ _ rfl w2.heap.size _ _ rfl (hqd.alloc _) _ _ _ _ rfl (cell_new _ _ _) (FV.op f1 (FV.op hc f2 _) _) (by rw [Hlen.out]; omega) (by rw [World.size_alloc]; omega) ?_); intro v3 w3 h3 hg3 hb3 _; clear hg3)
      simp only [noPanic]
      go_wp2
      exact ⟨⟨k + 1, by omega, by go_num, by rw [tab_succ]; exact h3, hbd.trans (((Below.refl _ _).alloc hsd _).trans hb3)⟩, by simp [intOf]; omega⟩
    · go_wp2
      go_ret
      obtain rfl : k = L.length + 1 := by omega
      exact ⟨_, rfl, hq.mono (by omega), ((((Below.refl _ _).alloc (Nat.le_refl _) _).trans hb1).trans (((Below.refl _ _).alloc (by omega) _).trans hb2)).trans (hbr.mono (by omega))⟩
end Go.Proofs.Ytiappmhlmephjaa
