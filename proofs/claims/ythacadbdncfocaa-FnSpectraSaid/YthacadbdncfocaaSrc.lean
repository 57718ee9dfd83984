/- Walks: the draws. -/
import Derived.Test.YthacadbdncfocaaChg
import Derived.Test.YthacadbdncfocaaPkQ
import Derived.Laws.Bits64b
namespace Go.Proofs.Ythacadbdncfocaa
open Go Go.RowKit

/-- The source of the draws: the bytes, the place, the sequence. -/
def Src (w : World) (g : Nat) (a : Option Addr) (n c : Nat) (t : Int) : Prop :=
  ∃ sd : Int, w.heap[g]? = some (.cells #[.slice a n c, .int .i64 t, .int .u64 sd] 91 (0, 0)) ∧ 0 ≤ sd ∧ sd < 18446744073709551616
theorem low_byte (x : Int) (h : 0 ≤ x) (h2 : x < 18446744073709551616) : 0 ≤ bits BinOp.and IntKind.u64 x 255 ∧ bits BinOp.and IntKind.u64 x 255 < 256 := by
  obtain ⟨m, rfl⟩ : ∃ m : Nat, x = m := ⟨x.toNat, by omega⟩
  have e : bits BinOp.and IntKind.u64 (m : Int) 255 = ((m &&& 255 : Nat) : Int) := bits_and_u64_nat m 255 (by omega) (by decide)
  have h3 : m &&& 255 ≤ 255 := Nat.and_le_right
  rw [e]
  omega
theorem u64_wrap (x : Int) : 0 ≤ IntKind.u64.wrap x ∧ IntKind.u64.wrap x < 18446744073709551616 := by
  have e : IntKind.u64.wrap x = x % 18446744073709551616 := by simp [IntKind.wrap, IntKind.signed, IntKind.bits]
  rw [e]; omega

set_option maxRecDepth 100000 in
set_option maxHeartbeats 3200000 in
theorem next_any (w : World) (g : Nat) (a : Option Addr) (n c : Nat) (t : Int) (hs : Src w g a n c t) (hy : RdY w (.slice a n c) n) (hn : n ≤ 1048576) (ht : 0 ≤ t) (ht2 : t ≤ 1000000) :
    Calls Try.prog 75 #[.pointer (some ⟨g, 0, none⟩)] w fun e w' => ∃ v : Int, e = .returned (.int .i64 v) ∧ 0 ≤ v ∧ v < 256 ∧ Src w' g a n c (t + 1) ∧ Chg w w' (fun k => k = g) := by
  obtain ⟨sd, hb, hsd0, hsd1⟩ := hs
  obtain ⟨a2, c2, hv, hc, hcell⟩ := hy.opened
  obtain ⟨rfl, rfl⟩ : a = a2 ∧ c = c2 := by cases hv; exact ⟨rfl, rfl⟩
  have HB := Lib.hid hb
  clear hv hy
  by_cases hlt : t < (n : Int)
  · obtain ⟨i, rfl⟩ : ∃ i : Nat, t = i := ⟨t.toNat, by omega⟩
    obtain ⟨b, o, rfl, hlb, y, ⟨hy0, hy1⟩, hy⟩ := hcell i (by omega)
    obtain ⟨k0, k1, k2, f0, f1, f2⟩ := blk3 hb
    clear hcell hb
    go_enter Try.func75, Try.ntmps75
    go_wp2
    refine region_rel_all (by kernel_rfl) (by kernel_rfl) (Drawn w) (fun _ _ _ => False) ⟨1, rfl⟩ ?_
    repeat (refine wpRel_draw rfl rfl (fun nq K hK => ?_); go_wp2)
    refine wpRel_nil ?_
    rintro wd ⟨nd, hwd⟩
    replace k0 : wd.cell? ⟨g, 0, none⟩ = some (.slice (some ⟨b, o, none⟩) n c) := by rw [hwd]; exact k0
    replace k1 : wd.cell? ⟨g, 1, none⟩ = some (.int .i64 (i : Int)) := by rw [hwd]; exact k1
    replace k2 : wd.cell? ⟨g, 2, none⟩ = some (.int .u64 sd) := by rw [hwd]; exact k2
    replace hy : wd.cell? ⟨b, o + i, none⟩ = some (.int .u8 y) := by rw [hwd]; exact hy
    have HB1 : Hid (wd.heap[g]? = some (.cells #[.slice (some ⟨b, o, none⟩) n c, .int .i64 (i : Int), .int .u64 sd] 91 (0, 0))) := Lib.hid (by rw [hwd]; exact HB.out)
    have HC1 : Hid (Chg w wd (fun k => k = g)) := Lib.hid (by rw [hwd]; exact (Chg.refl _ _).drewN _)
    clear hwd HB f0 f1 f2
    go_wp2
    refine region_rel_tail 11 (by kernel_rfl) (by kernel_rfl) (Drawn wd) (fun _ _ _ => False) ⟨1, rfl⟩ ?_
    simp only [List.take_succ_cons, List.take_zero, List.drop_succ_cons, List.drop_zero]
    repeat (refine wpRel_draw rfl rfl (fun nq K hK => ?_); go_wp2)
    refine wpRel_nil ?_
    rintro we ⟨ne, hwe⟩
    have HB2 : we.heap[g]? = some (.cells #[.slice (some ⟨b, o, none⟩) n c, .int .i64 (i : Int), .int .u64 sd] 91 (0, 0)) := by rw [hwe]; exact HB1.out
    have HC2 : Hid (Chg w we (fun k => k = g)) := Lib.hid (by rw [hwe]; exact HC1.out.drewN _)
    obtain ⟨k0, k1, k2, f0, f1, f2⟩ := blk3 HB2
    clear hwe HB1 HC1 hy
    go_wp2
    have P := (Put.one HB2 1 (.int .i64 ((i : Int) + 1))).next 2 (.int .u64 (IntKind.u64.wrap (IntKind.u64.wrap (IntKind.u64.wrap (sd * 6364136223846793005) + y) + 1442695040888963407)))
    obtain ⟨hw0, hw1⟩ := u64_wrap (IntKind.u64.wrap (IntKind.u64.wrap (sd * 6364136223846793005) + y) + 1442695040888963407)
    generalize IntKind.u64.wrap (IntKind.u64.wrap (IntKind.u64.wrap (sd * 6364136223846793005) + y) + 1442695040888963407) = sd2 at *
    generalize (we.setCell ⟨g, 1, none⟩ (.int .i64 ((i : Int) + 1))).setCell ⟨g, 2, none⟩ (.int .u64 sd2) = wf at *
    have HS : Hid (Src wf g (some ⟨b, o, none⟩) n c ((i : Int) + 1)) := Lib.hid ⟨sd2, (P.cs (cs' := #[.slice (some ⟨b, o, none⟩) n c, .int .i64 ((i : Int) + 1), .int .u64 sd2]) (by simp)).heap, hw0, hw1⟩
    have HC3 : Hid (Chg w wf (fun k => k = g)) := Lib.hid (HC2.out.trans P.chg)
    obtain ⟨k0, k1, k2, f0, f1, f2⟩ := blk3 (P.cs (cs' := #[.slice (some ⟨b, o, none⟩) n c, .int .i64 ((i : Int) + 1), .int .u64 sd2]) (by simp)).heap
    clear P HB2 HC2
    refine region_rel_all (by kernel_rfl) (by kernel_rfl) (Drawn wf) (fun _ _ _ => False) ⟨1, rfl⟩ ?_
    repeat (refine wpRel_draw rfl rfl (fun nq K hK => ?_); go_wp2)
    refine wpRel_nil ?_
    rintro wh ⟨nh, hwh⟩
    have Hwh := Lib.hid hwh
    clear hwh
    go_wp2
    go_ret
    exact ⟨_, rfl, hy0, hy1, by rw [Hwh.out]; exact HS.out, by rw [Hwh.out]; exact HC3.out.drewN _⟩

  · obtain ⟨k0, k1, k2, f0, f1, f2⟩ := blk3 hb
    clear hcell hb
    go_enter Try.func75, Try.ntmps75
    go_wp2
    refine region_rel_all (by kernel_rfl) (by kernel_rfl) (Drawn w) (fun _ _ _ => False) ⟨1, rfl⟩ ?_
    repeat (refine wpRel_draw rfl rfl (fun nq K hK => ?_); go_wp2)
    refine wpRel_nil ?_
    rintro we ⟨ne, hwe⟩
    have HB2 : we.heap[g]? = some (.cells #[.slice a n c, .int .i64 t, .int .u64 sd] 91 (0, 0)) := by rw [hwe]; exact HB.out
    have HC2 : Hid (Chg w we (fun k => k = g)) := Lib.hid (by rw [hwe]; exact (Chg.refl _ _).drewN _)
    obtain ⟨k0, k1, k2, f0, f1, f2⟩ := blk3 HB2
    clear hwe HB
    go_wp2
    have P := (Put.one HB2 1 (.int .i64 (t + 1))).next 2 (.int .u64 (IntKind.u64.wrap (IntKind.u64.wrap (IntKind.u64.wrap (sd * 6364136223846793005)) + 1442695040888963407)))
    obtain ⟨hw0, hw1⟩ := u64_wrap (IntKind.u64.wrap (IntKind.u64.wrap (sd * 6364136223846793005)) + 1442695040888963407)
    generalize IntKind.u64.wrap (IntKind.u64.wrap (IntKind.u64.wrap (sd * 6364136223846793005)) + 1442695040888963407) = sd2 at *
    generalize (we.setCell ⟨g, 1, none⟩ (.int .i64 (t + 1))).setCell ⟨g, 2, none⟩ (.int .u64 sd2) = wf at *
    have hb2 := (P.cs (cs' := #[.slice a n c, .int .i64 (t + 1), .int .u64 sd2]) (by simp)).heap
    have HS : Hid (Src wf g a n c (t + 1)) := Lib.hid ⟨sd2, hb2, hw0, hw1⟩
    have HC3 : Hid (Chg w wf (fun k => k = g)) := Lib.hid (HC2.out.trans P.chg)
    have HB3 := Lib.hid hb2
    obtain ⟨k0, k1, k2, f0, f1, f2⟩ := blk3 hb2
    clear P HB2 HC2 hb2
    refine region_rel_all (by kernel_rfl) (by kernel_rfl) (Drawn wf) (fun _ _ _ => False) ⟨1, rfl⟩ ?_
    repeat (refine wpRel_draw rfl rfl (fun nq K hK => ?_); go_wp2)
    refine wpRel_nil ?_
    rintro wh ⟨nh, hwh⟩
    have Hwh := Lib.hid hwh
    obtain ⟨k0, k1, k2, f0, f1, f2⟩ := blk3 (w := wh) (by rw [hwh]; exact HB3.out)
    clear hwh HB3
    go_wp2
    go_ret
    obtain ⟨hv0, hv1⟩ := low_byte (sd2 / 1099511627776) (Int.ediv_nonneg hw0 (by decide)) (by omega)
    have hv2 : wrap64 (bits BinOp.and IntKind.u64 (sd2 / 1099511627776) 255) = bits BinOp.and IntKind.u64 (sd2 / 1099511627776) 255 := by unfold wrap64; omega
    exact ⟨bits BinOp.and IntKind.u64 (sd2 / 1099511627776) 255, congrArg (fun v => Ending.returned (Value.int .i64 v)) hv2, hv0, hv1, by rw [Hwh.out]; exact HS.out, by rw [Hwh.out]; exact HC3.out.drewN _⟩

set_option maxRecDepth 100000 in
set_option maxHeartbeats 1600000 in
theorem pick_any (w : World) (g : Nat) (a : Option Addr) (n c : Nat) (t m : Int) (hs : Src w g a n c t) (hy : RdY w (.slice a n c) n) (hn : n ≤ 1048576) (ht : 0 ≤ t) (ht2 : t ≤ 1000000) (hm : 2 ≤ m) (hm2 : m ≤ 200) :
    Calls Try.prog 42 #[.pointer (some ⟨g, 0, none⟩), .int .i64 m] w fun e w' => ∃ v : Int, e = .returned (.int .i64 v) ∧ 0 ≤ v ∧ v < m ∧ Src w' g a n c (t + 1) ∧ Chg w w' (fun k => k = g) := by
  have HN := Lib.hid (next_any w g a n c t hs hy hn ht ht2)
  clear hs hy
  go_enter Try.func42, Try.ntmps42
  go_wp2_with fail
  refine HN.out.mono ?_
  rintro e w1 ⟨v, rfl, hv0, hv1, hs1, hc1⟩
  have HS := Lib.hid hs1
  have HC := Lib.hid hc1
  clear hs1 hc1 HN
  have hm0 : ¬ m = 0 := by omega
  have hr0 : 0 ≤ v % m := Int.emod_nonneg _ hm0
  have hr1 : v % m < m := Int.emod_lt_of_pos _ (by omega)
  go_wp2
  go_ret
  exact ⟨v % m, rfl, hr0, hr1, HS.out, HC.out⟩

set_option maxRecDepth 100000 in
set_option maxHeartbeats 400000 in
theorem l00From_any (w : World) (a : Option Addr) (n c : Nat) :
    Calls Try.prog 41 #[.slice a n c] w fun e w' => e = .returned (.pointer (some ⟨w.heap.size, 0, none⟩)) ∧ w' = w.alloc (.cells #[.slice a n c, .int .i64 0, .int .u64 0] 91) := by
  go_enter Try.func41, Try.ntmps41
  go_wp2
  go_ret
  exact ⟨rfl, rfl⟩
theorem fv_four : FV .f32 1082130432 1082130432 := ⟨by decide, by decide +kernel⟩
set_option maxRecDepth 100000 in
set_option maxHeartbeats 3200000 in
theorem b10Trace_any (w : World) (v : Value) (n : Nat) (hy : RdY w v n) (hn : n ≤ 1048576) :
    Calls Try.prog 8 #[v, .int .i64 6] w fun e w' => ∃ (v' : Value) (s : Six), e = .returned v' ∧ s.ok ∧ OwnF w' w.heap.size v' s.F ∧ Below w.heap.size w w' := by
  have hquo := run_fquo (P := Try.prog)
  obtain ⟨a, c, rfl, -, -⟩ := hy.opened
  have HY := Lib.hid hy
  clear hy
  go_enter Try.func8, Try.ntmps8
  go_wp2_with fail
  refine (l00From_any w a n c).mono ?_
  rintro e w1 ⟨rfl, hw1⟩
  have b1 : Below w.heap.size w w1 := by rw [hw1]; exact (Below.refl _ _).alloc (Nat.le_refl _) _
  have z1 : w1.heap.size = w.heap.size + 1 := by rw [hw1]; exact World.size_alloc _ _
  have hs1 : Src w1 w.heap.size a n c 0 := ⟨0, by rw [hw1]; exact alloc_new _ _, by decide, by decide⟩
  have B2 : Hid (Below w.heap.size w (w1.alloc (.cells #[] 27))) := Lib.hid (b1.trans ((Below.refl _ _).alloc (by omega) _))
  have S2 : Hid (Src (w1.alloc (.cells #[] 27)) w.heap.size a n c 0) := Lib.hid (by
    obtain ⟨sd, h1, h2⟩ := hs1
    exact ⟨sd, by rw [Below.heap_alloc _ _ _ (by omega)]; exact h1, h2⟩)
  have O2 : Hid (OwnF (w1.alloc (.cells #[] 27)) (w.heap.size + 1) (.slice (some ⟨w1.heap.size, 0, none⟩) 0 0) []) := Lib.hid ⟨[], rfl, fun j hj => (by cases hj), World.ownsRow_lit w1 #[] 0 (by omega) (by decide) rfl⟩
  rw [z1] at O2
  clear hw1 b1 hs1
  go_wp2_with fail
  go_loopw [1, 6] (fun q o wr => ∃ (j : Nat) (zs : List Int), j ≤ 6 ∧ zs.length = j ∧ q = .int .i64 (6 - (j : Int)) ∧ (∀ z ∈ zs, -8 ≤ z ∧ z ≤ 8) ∧ OwnF wr (w.heap.size + 1) o (zs.map qv) ∧ Src wr w.heap.size a n c j ∧ Below w.heap.size w wr) (fun q _ _ => (intOf q).toNat)
  case atStart => exact ⟨0, [], by decide, rfl, rfl, (fun z hz => by cases hz), O2.out, S2.out, B2.out⟩
  case round =>
    clear O2 S2 B2
    obtain ⟨wi, rfl⟩ : ∃ wi : World, wi = wr := ⟨_, rfl⟩
    obtain ⟨j, zs, hj, hzl, rfl, hz, ho, hs, hb⟩ := hrel
    have HZ := Lib.hid hz
    have HZL := Lib.hid hzl
    have HO := Lib.hid ho
    have HB := Lib.hid hb
    have hzi := hb.size
    clear hz ho
    by_cases hlt : j < 6
    · have HP := Lib.hid (pick_any wi w.heap.size a n c j 17 hs (HY.out.mono hb) hn (by omega) (by omega) (by decide) (by decide))
      clear hs hb hzl
      have hgt : (6 - (j : Int)) > 0 := by omega
      go_wp2_with fail
      refine HP.out.mono ?_
      rintro e w3 ⟨p, rfl, hp0, hp1, s3, c3⟩
      have HS3 := Lib.hid s3
      have HO3 := Lib.hid (HO.out.chg c3 fun k hk e => by have := (HO.out.lt hk).1; omega)
      have z3 := c3.size
      have HB3 := Lib.hid (Below.chg HB.out c3 (fun k hk => by omega) hzi)
      clear s3 c3 HP HO HB
      have hfv : FV .f32 (fres .quo .f32 (floatOfInt .f32 (p - 8)) 1082130432 w3) (qv (p - 8)) := FV.op (op := .quo) (floatOfInt_fv .f32 (p - 8)) fv_four w3
      have bd : Below w3.heap.size w3 ((w3.drewN (fcnt .quo .f32 (floatOfInt .f32 (p - 8)) 1082130432)).alloc (.cells #[.float .f32 (fres .quo .f32 (floatOfInt .f32 (p - 8)) 1082130432 w3)] 27)) := (Below.drewN (Below.refl _ _) _).alloc (Nat.le_refl _) _
      have bz : ((w3.drewN (fcnt .quo .f32 (floatOfInt .f32 (p - 8)) 1082130432)).alloc (.cells #[.float .f32 (fres .quo .f32 (floatOfInt .f32 (p - 8)) 1082130432 w3)] 27)).heap.size = w3.heap.size + 1 := World.size_alloc _ _
      go_wp2_with (at_builtin; go_must (refine wpList_push rfl _ _ rfl (w.heap.size + 1) _ (zs.map qv) rfl (HO3.out.kept bd) _ _ _ (qv (p - 8)) rfl (cell_new _ _ _) hfv (by rw [List.length_map, HZL.out]; omega) (by omega) ?_); intro v4 w4 o4 g4 b4 l4)
      refine ⟨⟨j + 1, zs ++ [p - 8], by omega, by rw [List.length_append, HZL.out]; rfl, by congr 1; omega, fun z hz => ?_, by rw [List.map_append]; exact o4, ?_, ?_⟩, by simp [intOf]; omega⟩
      · rcases List.mem_append.1 hz with h | h
        · exact HZ.out z h
        · obtain rfl := List.mem_singleton.1 h
          omega
      · obtain ⟨sd, h1, h2⟩ := HS3.out
        have hg : w3.heap[w.heap.size]? = some _ := h1
        have hlt3 : w.heap.size < w3.heap.size := (Array.getElem?_eq_some_iff.1 h1).1
        refine ⟨sd, ?_, h2⟩
        rw [g4.block w.heap.size (by omega) fun e => by have := (HO3.out.lt e.symm).1; omega, bd.block w.heap.size (by omega)]
        exact h1
      · exact Below.trans (HB3.out.trans (bd.mono (by omega))) (b4.mono (by omega))
    · obtain rfl : j = 6 := by omega
      have hgt : ¬ (6 - ((6 : Nat) : Int)) > 0 := by omega
      clear hs hb hzl
      go_wp2_with fail
      go_ret
      obtain ⟨z0, z1, z2, z3, z4, z5, hzz⟩ : ∃ z0 z1 z2 z3 z4 z5, zs = [z0, z1, z2, z3, z4, z5] := by
        have := HZL.out
        match zs, this with
        | [a, b, c, d, e, f], _ => exact ⟨a, b, c, d, e, f, rfl⟩
      subst hzz
      exact ⟨_, rfl, ⟨z0, z1, z2, z3, z4, z5⟩, HZ.out, HO.out.mono (by omega), HB.out⟩

set_option maxRecDepth 100000 in
set_option maxHeartbeats 800000 in
theorem b10At_any (w : World) (v : Value) (n : Nat) (i m : Int) (hy : RdY w v n) (hn : n ≤ 1048576) (hi : 0 ≤ i) (hi2 : i ≤ 1000) (hm : 2 ≤ m) (hm2 : m ≤ 1000) :
    Calls Try.prog 7 #[v, .int .i64 i, .int .i64 m] w fun e w' => ∃ r : Int, e = .returned (.int .i64 r) ∧ 0 ≤ r ∧ r < m ∧ w' = w := by
  obtain ⟨a, c, rfl, hc, hcell⟩ := hy.opened
  clear hy
  have hm0 : ¬ m = 0 := by omega
  by_cases hlt : i < (n : Int)
  · obtain ⟨k, rfl⟩ : ∃ k : Nat, i = k := ⟨i.toNat, by omega⟩
    obtain ⟨b, o, rfl, hlb, y, ⟨hy0, hy1⟩, hy⟩ := hcell k (by omega)
    have hr0 : 0 ≤ y % m := Int.emod_nonneg _ hm0
    have hr1 : y % m < m := Int.emod_lt_of_pos _ (by omega)
    clear hcell
    go_enter Try.func7, Try.ntmps7
    go_wp2
    go_ret
    exact ⟨y % m, rfl, hr0, hr1, rfl⟩
  · have hr0 : 0 ≤ (i * 37 + 11) % m := Int.emod_nonneg _ hm0
    have hr1 : (i * 37 + 11) % m < m := Int.emod_lt_of_pos _ (by omega)
    clear hcell
    go_enter Try.func7, Try.ntmps7
    go_wp2
    go_ret
    exact ⟨(i * 37 + 11) % m, rfl, hr0, hr1, rfl⟩
set_option maxRecDepth 100000 in
set_option maxHeartbeats 400000 in
theorem b10Long_any (w : World) (a1 a2 : Option Addr) (n1 n2 c1 c2 : Nat) (h1 : n1 ≤ maxLen) (h2 : n2 ≤ maxLen) :
    Calls Try.prog 6 #[.slice a1 n1 c1, .slice a2 n2 c2] w fun e w' => e = .returned (.bool (decide (1048576 < n1) || decide (1048576 < n2))) ∧ w' = w := by
  by_cases h : 1048576 < n1
  · have hd : decide ((n1 : Int) > 1048576) = true := by simp; omega
    go_enter Try.func6, Try.ntmps6
    go_wp2
    go_ret
    exact ⟨by simp [h], rfl⟩
  · have hd : decide ((n1 : Int) > 1048576) = false := by simp; omega
    by_cases h3 : 1048576 < n2
    · have hd2 : decide ((n2 : Int) > 1048576) = true := by simp; omega
      go_enter Try.func6, Try.ntmps6
      go_wp2
      go_ret
      exact ⟨by simp [h3], rfl⟩
    · have hd2 : decide ((n2 : Int) > 1048576) = false := by simp; omega
      go_enter Try.func6, Try.ntmps6
      go_wp2
      go_ret
      exact ⟨by simp [h, h3], rfl⟩
end Go.Proofs.Ythacadbdncfocaa
