/- Walks: the draws. -/
import Derived.Test.YtlpmkgcknopgoaaGreatDoorChg
import Derived.Test.YtlpmkgcknopgoaaGreatDoorPkQ
import Derived.Laws.Bits64b
namespace Go.Proofs.YtlpmkgcknopgoaaGreatDoor
open Go Go.RowKit

/-- The source of the draws: the bytes, the place, the sequence. -/
def Src (w : World) (g : Nat) (a : Option Addr) (n c : Nat) (t : Int) : Prop :=
  ∃ sd : Int, w.heap[g]? = some (.cells #[.slice a n c, .int .i64 t, .int .u64 sd] 94 (0, 0)) ∧ 0 ≤ sd ∧ sd < 18446744073709551616
theorem low_byte (x : Int) (h : 0 ≤ x) (h2 : x < 18446744073709551616) : 0 ≤ bits BinOp.and IntKind.u64 x 255 ∧ bits BinOp.and IntKind.u64 x 255 < 256 := by
  obtain ⟨m, rfl⟩ : ∃ m : Nat, x = m := ⟨x.toNat, by omega⟩
  have e : bits BinOp.and IntKind.u64 (m : Int) 255 = ((m &&& 255 : Nat) : Int) := bits_and_u64_nat m 255 (by omega) (by decide)
  have h3 : m &&& 255 ≤ 255 := Nat.and_le_right
  rw [e]
  omega
theorem u64_wrap (x : Int) : 0 ≤ IntKind.u64.wrap x ∧ IntKind.u64.wrap x < 18446744073709551616 := by
  have e : IntKind.u64.wrap x = x % 18446744073709551616 := by simp [IntKind.wrap, IntKind.signed, IntKind.bits]
  rw [e]; omega

set_option maxRecDepth 100000 in
set_option maxHeartbeats 3200000 in
theorem next_any (w : World) (g : Nat) (a : Option Addr) (n c : Nat) (t : Int) (hs : Src w g a n c t) (hy : RdY w (.slice a n c) n) (hn : n ≤ 1048576) (ht : 0 ≤ t) (ht2 : t ≤ 1000000) :
    Calls Tryz.prog 76 #[.pointer (some ⟨g, 0, none⟩)] w fun e w' => ∃ v : Int, e = .returned (.int .i64 v) ∧ 0 ≤ v ∧ v < 256 ∧ Src w' g a n c (t + 1) ∧ Chg w w' (fun k => k = g) := by
  obtain ⟨sd, hb, hsd0, hsd1⟩ := hs
  obtain ⟨a2, c2, hv, hc, hcell⟩ := hy.opened
  obtain ⟨rfl, rfl⟩ : a = a2 ∧ c = c2 := by cases hv; exact ⟨rfl, rfl⟩
  have HB := Lib.hid hb
  clear hv hy
  by_cases hlt : t < (n : Int)
  · obtain ⟨i, rfl⟩ : ∃ i : Nat, t = i := ⟨t.toNat, by omega⟩
    obtain ⟨b, o, rfl, hlb, y, ⟨hy0, hy1⟩, hy⟩ := hcell i (by omega)
    obtain ⟨k0, k1, k2, f0, f1, f2⟩ := blk3 hb
    clear hcell hb
    go_enter Tryz.func76, Tryz.ntmps76
    go_wp2
    refine region_rel_all (by kernel_rfl) (by kernel_rfl) (Drawn w) (fun _ _ _ => False) ⟨1, rfl⟩ ?_
    repeat (refine wpRel_draw rfl rfl (fun nq K hK => ?_); go_wp2)
    refine wpRel_nil ?_
    rintro wd ⟨nd, hwd⟩
    replace k0 : wd.cell? ⟨g, 0, none⟩ = some (.slice (some ⟨b, o, none⟩) n c) := by rw [hwd]; exact k0
    replace k1 : wd.cell? ⟨g, 1, none⟩ = some (.int .i64 (i : Int)) := by rw [hwd]; exact k1
    replace k2 : wd.cell? ⟨g, 2, none⟩ = some (.int .u64 sd) := by rw [hwd]; exact k2
    replace hy : wd.cell? ⟨b, o + i, none⟩ = some (.int .u8 y) := by rw [hwd]; exact hy
    have HB1 : Hid (wd.heap[g]? = some (.cells #[.slice (some ⟨b, o, none⟩) n c, .int .i64 (i : Int), .int .u64 sd] 94 (0, 0))) := Lib.hid (by rw [hwd]; exact HB.out)
    have HC1 : Hid (Chg w wd (fun k => k = g)) := Lib.hid (by rw [hwd]; exact (Chg.refl _ _).drewN _)
    clear hwd HB f0 f1 f2
    go_wp2
    refine region_rel_tail 11 (by kernel_rfl) (by kernel_rfl) (Drawn wd) (fun _ _ _ => False) ⟨1, rfl⟩ ?_
    simp only [List.take_succ_cons, List.take_zero, List.drop_succ_cons, List.drop_zero]
    repeat (refine wpRel_draw rfl rfl (fun nq K hK => ?_); go_wp2)
    refine wpRel_nil ?_
    rintro we ⟨ne, hwe⟩
    have HB2 : we.heap[g]? = some (.cells #[.slice (some ⟨b, o, none⟩) n c, .int .i64 (i : Int), .int .u64 sd] 94 (0, 0)) := by rw [hwe]; exact HB1.out
    have HC2 : Hid (Chg w we (fun k => k = g)) := Lib.hid (by rw [hwe]; exact HC1.out.drewN _)
    obtain ⟨k0, k1, k2, f0, f1, f2⟩ := blk3 HB2
    clear hwe HB1 HC1 hy
    go_wp2
    have P := (Put.one HB2 1 (.int .i64 ((i : Int) + 1))).next 2 (.int .u64 (IntKind.u64.wrap (IntKind.u64.wrap (IntKind.u64.wrap (sd * 6364136223846793005) + y) + 1442695040888963407)))
    obtain ⟨hw0, hw1⟩ := u64_wrap (IntKind.u64.wrap (IntKind.u64.wrap (sd * 6364136223846793005) + y) + 1442695040888963407)
    generalize IntKind.u64.wrap (IntKind.u64.wrap (IntKind.u64.wrap (sd * 6364136223846793005) + y) + 1442695040888963407) = sd2 at *
    generalize (we.setCell ⟨g, 1, none⟩ (.int .i64 ((i : Int) + 1))).setCell ⟨g, 2, none⟩ (.int .u64 sd2) = wf at *
    have HS : Hid (Src wf g (some ⟨b, o, none⟩) n c ((i : Int) + 1)) := Lib.hid ⟨sd2, (P.cs (cs' := #[.slice (some ⟨b, o, none⟩) n c, .int .i64 ((i : Int) + 1), .int .u64 sd2]) (by simp)).heap, hw0, hw1⟩
    have HC3 : Hid (Chg w wf (fun k => k = g)) := Lib.hid (HC2.out.trans P.chg)
    obtain ⟨k0, k1, k2, f0, f1, f2⟩ := blk3 (P.cs (cs' := #[.slice (some ⟨b, o, none⟩) n c, .int .i64 ((i : Int) + 1), .int .u64 sd2]) (by simp)).heap
    clear P HB2 HC2
    refine region_rel_all (by kernel_rfl) (by kernel_rfl) (Drawn wf) (fun _ _ _ => False) ⟨1, rfl⟩ ?_
    repeat (refine wpRel_draw rfl rfl (fun nq K hK => ?_); go_wp2)
    refine wpRel_nil ?_
    rintro wh ⟨nh, hwh⟩
    have Hwh := Lib.hid hwh
    clear hwh
    go_wp2
    go_ret
    exact ⟨_, rfl, hy0, hy1, by rw [Hwh.out]; exact HS.out, by rw [Hwh.out]; exact HC3.out.drewN _⟩

  · obtain ⟨k0, k1, k2, f0, f1, f2⟩ := blk3 hb
    clear hcell hb
    go_enter Tryz.func76, Tryz.ntmps76
    go_wp2
    refine region_rel_all (by kernel_rfl) (by kernel_rfl) (Drawn w) (fun _ _ _ => False) ⟨1, rfl⟩ ?_
    repeat (refine wpRel_draw rfl rfl (fun nq K hK => ?_); go_wp2)
    refine wpRel_nil ?_
    rintro we ⟨ne, hwe⟩
    have HB2 : we.heap[g]? = some (.cells #[.slice a n c, .int .i64 t, .int .u64 sd] 94 (0, 0)) := by rw [hwe]; exact HB.out
    have HC2 : Hid (Chg w we (fun k => k = g)) := Lib.hid (by rw [hwe]; exact (Chg.refl _ _).drewN _)
    obtain ⟨k0, k1, k2, f0, f1, f2⟩ := blk3 HB2
    clear hwe HB
    go_wp2
    have P := (Put.one HB2 1 (.int .i64 (t + 1))).next 2 (.int .u64 (IntKind.u64.wrap (IntKind.u64.wrap (IntKind.u64.wrap (sd * 6364136223846793005)) + 1442695040888963407)))
    obtain ⟨hw0, hw1⟩ := u64_wrap (IntKind.u64.wrap (IntKind.u64.wrap (sd * 6364136223846793005)) + 1442695040888963407)
    generalize IntKind.u64.wrap (IntKind.u64.wrap (IntKind.u64.wrap (sd * 6364136223846793005)) + 1442695040888963407) = sd2 at *
    generalize (we.setCell ⟨g, 1, none⟩ (.int .i64 (t + 1))).setCell ⟨g, 2, none⟩ (.int .u64 sd2) = wf at *
    have hb2 := (P.cs (cs' := #[.slice a n c, .int .i64 (t + 1), .int .u64 sd2]) (by simp)).heap
    have HS : Hid (Src wf g a n c (t + 1)) := Lib.hid ⟨sd2, hb2, hw0, hw1⟩
    have HC3 : Hid (Chg w wf (fun k => k = g)) := Lib.hid (HC2.out.trans P.chg)
    have HB3 := Lib.hid hb2
    obtain ⟨k0, k1, k2, f0, f1, f2⟩ := blk3 hb2
    clear P HB2 HC2 hb2
    refine region_rel_all (by kernel_rfl) (by kernel_rfl) (Drawn wf) (fun _ _ _ => False) ⟨1, rfl⟩ ?_
    repeat (refine wpRel_draw rfl rfl (fun nq K hK => ?_); go_wp2)
    refine wpRel_nil ?_
    rintro wh ⟨nh, hwh⟩
    have Hwh := Lib.hid hwh
    obtain ⟨k0, k1, k2, f0, f1, f2⟩ := blk3 (w := wh) (by rw [hwh]; exact HB3.out)
    clear hwh HB3
    go_wp2
    go_ret
    obtain ⟨hv0, hv1⟩ := low_byte (sd2 / 1099511627776) (Int.ediv_nonneg hw0 (by decide)) (by omega)
    have hv2 : wrap64 (bits BinOp.and IntKind.u64 (sd2 / 1099511627776) 255) = bits BinOp.and IntKind.u64 (sd2 / 1099511627776) 255 := by unfold wrap64; omega
    exact ⟨bits BinOp.and IntKind.u64 (sd2 / 1099511627776) 255, congrArg (fun v => Ending.returned (Value.int .i64 v)) hv2, hv0, hv1, by rw [Hwh.out]; exact HS.out, by rw [Hwh.out]; exact HC3.out.drewN _⟩

set_option maxRecDepth 100000 in
set_option maxHeartbeats 1600000 in
theorem pick_any (w : World) (g : Nat) (a : Option Addr) (n c : Nat) (t m : Int) (hs : Src w g a n c t) (hy : RdY w (.slice a n c) n) (hn : n ≤ 1048576) (ht : 0 ≤ t) (ht2 : t ≤ 1000000) (hm : 2 ≤ m) (hm2 : m ≤ 200) :
    Calls Tryz.prog 39 #[.pointer (some ⟨g, 0, none⟩), .int .i64 m] w fun e w' => ∃ v : Int, e = .returned (.int .i64 v) ∧ 0 ≤ v ∧ v < m ∧ Src w' g a n c (t + 1) ∧ Chg w w' (fun k => k = g) := by
  have HN := Lib.hid (next_any w g a n c t hs hy hn ht ht2)
  clear hs hy
  go_enter Tryz.func39, Tryz.ntmps39
  go_wp2_with fail
  refine HN.out.mono ?_
  rintro e w1 ⟨v, rfl, hv0, hv1, hs1, hc1⟩
  have HS := Lib.hid hs1
  have HC := Lib.hid hc1
  clear hs1 hc1 HN
  have hm0 : ¬ m = 0 := by omega
  have hr0 : 0 ≤ v % m := Int.emod_nonneg _ hm0
  have hr1 : v % m < m := Int.emod_lt_of_pos _ (by omega)
  go_wp2
  go_ret
  exact ⟨v % m, rfl, hr0, hr1, HS.out, HC.out⟩

set_option maxRecDepth 100000 in
set_option maxHeartbeats 400000 in
theorem l00From_any (w : World) (a : Option Addr) (n c : Nat) :
    Calls Tryz.prog 38 #[.slice a n c] w fun e w' => e = .returned (.pointer (some ⟨w.heap.size, 0, none⟩)) ∧ w' = w.alloc (.cells #[.slice a n c, .int .i64 0, .int .u64 0] 94) := by
  go_enter Tryz.func38, Tryz.ntmps38
  go_wp2
  go_ret
  exact ⟨rfl, rfl⟩
theorem fv_four : FV .f32 1082130432 1082130432 := ⟨by decide, by decide +kernel⟩
set_option maxRecDepth 100000 in
set_option maxHeartbeats 800000 in
theorem b10At_any (w : World) (v : Value) (n : Nat) (i m : Int) (hy : RdY w v n) (hn : n ≤ 1048576) (hi : 0 ≤ i) (hi2 : i ≤ 1000) (hm : 2 ≤ m) (hm2 : m ≤ 1000) :
    Calls Tryz.prog 16 #[v, .int .i64 i, .int .i64 m] w fun e w' => ∃ r : Int, e = .returned (.int .i64 r) ∧ 0 ≤ r ∧ r < m ∧ w' = w := by
  obtain ⟨a, c, rfl, hc, hcell⟩ := hy.opened
  clear hy
  have hm0 : ¬ m = 0 := by omega
  by_cases hlt : i < (n : Int)
  · obtain ⟨k, rfl⟩ : ∃ k : Nat, i = k := ⟨i.toNat, by omega⟩
    obtain ⟨b, o, rfl, hlb, y, ⟨hy0, hy1⟩, hy⟩ := hcell k (by omega)
    have hr0 : 0 ≤ y % m := Int.emod_nonneg _ hm0
    have hr1 : y % m < m := Int.emod_lt_of_pos _ (by omega)
    clear hcell
    go_enter Tryz.func16, Tryz.ntmps16
    go_wp2
    go_ret
    exact ⟨y % m, rfl, hr0, hr1, rfl⟩
  · have hr0 : 0 ≤ (i * 37 + 11) % m := Int.emod_nonneg _ hm0
    have hr1 : (i * 37 + 11) % m < m := Int.emod_lt_of_pos _ (by omega)
    clear hcell
    go_enter Tryz.func16, Tryz.ntmps16
    go_wp2
    go_ret
    exact ⟨(i * 37 + 11) % m, rfl, hr0, hr1, rfl⟩
set_option maxRecDepth 100000 in
set_option maxHeartbeats 400000 in
theorem b10Long_any (w : World) (a1 a2 : Option Addr) (n1 n2 c1 c2 : Nat) (h1 : n1 ≤ maxLen) (h2 : n2 ≤ maxLen) :
    Calls Tryz.prog 5 #[.slice a1 n1 c1, .slice a2 n2 c2] w fun e w' => e = .returned (.bool (decide (1048576 < n1) || decide (1048576 < n2))) ∧ w' = w := by
  by_cases h : 1048576 < n1
  · have hd : decide ((n1 : Int) > 1048576) = true := by simp; omega
    go_enter Tryz.func5, Tryz.ntmps5
    go_wp2
    go_ret
    exact ⟨by simp [h], rfl⟩
  · have hd : decide ((n1 : Int) > 1048576) = false := by simp; omega
    by_cases h3 : 1048576 < n2
    · have hd2 : decide ((n2 : Int) > 1048576) = true := by simp; omega
      go_enter Tryz.func5, Tryz.ntmps5
      go_wp2
      go_ret
      exact ⟨by simp [h3], rfl⟩
    · have hd2 : decide ((n2 : Int) > 1048576) = false := by simp; omega
      go_enter Tryz.func5, Tryz.ntmps5
      go_wp2
      go_ret
      exact ⟨by simp [h, h3], rfl⟩
end Go.Proofs.YtlpmkgcknopgoaaGreatDoor
