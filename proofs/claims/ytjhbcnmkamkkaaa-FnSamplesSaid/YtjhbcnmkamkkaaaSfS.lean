/- Walks: the draws of FnShifted; equal lists. -/
import Derived.Test.YtjhbcnmkamkkaaaBs
import Derived.Test.YtjhbcnmkamkkaaaSfP
namespace Go.Proofs.Ytjhbcnmkamkkaaa
open Go Go.RowKit

set_option maxRecDepth 100000 in
set_option maxHeartbeats 3200000 in
theorem r8List_any (w : World) (v : Value) (n : Nat) (hy : RdY w v n) (hn : n ≤ 1048576) :
    Calls Try.prog 35 #[v, .int .i64 8] w fun e w' => ∃ (v' : Value) (s : Eight), e = .returned v' ∧ s.ok ∧ OwnF w' w.heap.size v' (s.l.map qv) ∧ Below w.heap.size w w' := by
  have hquo := run_fquo (P := Try.prog)
  obtain ⟨a, c, rfl, -, -⟩ := hy.opened
  have HY := Lib.hid hy
  clear hy
  go_enter Try.func35, Try.ntmps35
  go_wp2_with fail
  refine (l00From_any w a n c).mono ?_
  rintro e w1 ⟨rfl, hw1⟩
  have b1 : Below w.heap.size w w1 := by rw [hw1]; exact (Below.refl _ _).alloc (Nat.le_refl _) _
  have z1 : w1.heap.size = w.heap.size + 1 := by rw [hw1]; exact World.size_alloc _ _
  have hs1 : Src w1 w.heap.size a n c 0 := ⟨0, by rw [hw1]; exact alloc_new _ _, by decide, by decide⟩
  have B2 : Hid (Below w.heap.size w (w1.alloc (.cells #[] 31))) := Lib.hid (b1.trans ((Below.refl _ _).alloc (by omega) _))
  have S2 : Hid (Src (w1.alloc (.cells #[] 31)) w.heap.size a n c 0) := Lib.hid (by
    obtain ⟨sd, h1, h2⟩ := hs1
    exact ⟨sd, by rw [Below.heap_alloc _ _ _ (by omega)]; exact h1, h2⟩)
  have O2 : Hid (OwnF (w1.alloc (.cells #[] 31)) (w.heap.size + 1) (.slice (some ⟨w1.heap.size, 0, none⟩) 0 0) []) := Lib.hid ⟨[], rfl, fun j hj => (by cases hj), World.ownsRow_lit w1 #[] 0 (by omega) (by decide) rfl⟩
  rw [z1] at O2
  clear hw1 b1 hs1
  go_wp2_with fail
  go_loopw [1, 6] (fun q o wr => ∃ (j : Nat) (zs : List Int), j ≤ 8 ∧ zs.length = j ∧ q = .int .i64 (8 - (j : Int)) ∧ (∀ z ∈ zs, -8 ≤ z ∧ z ≤ 8) ∧ OwnF wr (w.heap.size + 1) o (zs.map qv) ∧ Src wr w.heap.size a n c j ∧ Below w.heap.size w wr) (fun q _ _ => (intOf q).toNat)
  case atStart => exact ⟨0, [], by decide, rfl, rfl, (fun z hz => by cases hz), O2.out, S2.out, B2.out⟩
  case round =>
    clear O2 S2 B2
    obtain ⟨wi, rfl⟩ : ∃ wi : World, wi = wr := ⟨_, rfl⟩
    obtain ⟨j, zs, hj, hzl, rfl, hz, ho, hs, hb⟩ := hrel
    have HZ := Lib.hid hz
    have HZL := Lib.hid hzl
    have HO := Lib.hid ho
    have HB := Lib.hid hb
    have hzi := hb.size
    clear hz ho
    by_cases hlt : j < 8
    · have HP := Lib.hid (pick_any wi w.heap.size a n c j 17 hs (HY.out.mono hb) hn (by omega) (by omega) (by decide) (by decide))
      clear hs hb hzl
      have hgt : (8 - (j : Int)) > 0 := by omega
      go_wp2_with fail
      refine HP.out.mono ?_
      rintro e w3 ⟨p, rfl, hp0, hp1, s3, c3⟩
      have HS3 := Lib.hid s3
      have HO3 := Lib.hid (HO.out.chg c3 fun k hk e => by have := (HO.out.lt hk).1; omega)
      have z3 := c3.size
      have HB3 := Lib.hid (Below.chg HB.out c3 (fun k hk => by omega) hzi)
      clear s3 c3 HP HO HB
      have hfv : FV .f32 (fres .quo .f32 (floatOfInt .f32 (p - 8)) 1082130432 w3) (qv (p - 8)) := FV.op (op := .quo) (floatOfInt_fv .f32 (p - 8)) fv_four w3
      have bd : Below w3.heap.size w3 ((w3.drewN (fcnt .quo .f32 (floatOfInt .f32 (p - 8)) 1082130432)).alloc (.cells #[.float .f32 (fres .quo .f32 (floatOfInt .f32 (p - 8)) 1082130432 w3)] 31)) := (Below.drewN (Below.refl _ _) _).alloc (Nat.le_refl _) _
      have bz : ((w3.drewN (fcnt .quo .f32 (floatOfInt .f32 (p - 8)) 1082130432)).alloc (.cells #[.float .f32 (fres .quo .f32 (floatOfInt .f32 (p - 8)) 1082130432 w3)] 31)).heap.size = w3.heap.size + 1 := World.size_alloc _ _
      go_wp2_with (at_builtin; go_must (refine wpList_push rfl _ _ rfl (w.heap.size + 1) _ (zs.map qv) rfl (HO3.out.kept bd) _ _ _ (qv (p - 8)) rfl (cell_new _ _ _) hfv (by rw [List.length_map, HZL.out]; omega) (by omega) ?_); intro v4 w4 o4 g4 b4 l4)
      refine ⟨⟨j + 1, zs ++ [p - 8], by omega, by rw [List.length_append, HZL.out]; rfl, by congr 1; omega, fun z hz => ?_, by rw [List.map_append]; exact o4, ?_, ?_⟩, by simp [intOf]; omega⟩
      · rcases List.mem_append.1 hz with h | h
        · exact HZ.out z h
        · obtain rfl := List.mem_singleton.1 h
          omega
      · obtain ⟨sd, h1, h2⟩ := HS3.out
        have hg : w3.heap[w.heap.size]? = some _ := h1
        have hlt3 : w.heap.size < w3.heap.size := (Array.getElem?_eq_some_iff.1 h1).1
        refine ⟨sd, ?_, h2⟩
        rw [g4.block w.heap.size (by omega) fun e => by have := (HO3.out.lt e.symm).1; omega, bd.block w.heap.size (by omega)]
        exact h1
      · exact Below.trans (HB3.out.trans (bd.mono (by omega))) (b4.mono (by omega))
    · obtain rfl : j = 8 := by omega
      have hgt : ¬ (8 - ((8 : Nat) : Int)) > 0 := by omega
      clear hs hb hzl
      go_wp2_with fail
      go_ret
      obtain ⟨z0, z1, z2, z3, z4, z5, z6, z7, hzz⟩ : ∃ z0 z1 z2 z3 z4 z5 z6 z7, zs = [z0, z1, z2, z3, z4, z5, z6, z7] := by
        have := HZL.out
        match zs, this with
        | [a, b, c, d, e, f, g, h], _ => exact ⟨a, b, c, d, e, f, g, h, rfl⟩
      subst hzz
      exact ⟨_, rfl, ⟨z0, z1, z2, z3, z4, z5, z6, z7⟩, HZ.out, HO.out.mono (by omega), HB.out⟩

set_option maxRecDepth 100000 in
set_option maxHeartbeats 800000 in
theorem r8At_any (w : World) (v : Value) (n : Nat) (i m : Int) (hy : RdY w v n) (hn : n ≤ 1048576) (hi : 0 ≤ i) (hi2 : i ≤ 1000) (hm : 2 ≤ m) (hm2 : m ≤ 1000) :
    Calls Try.prog 8 #[v, .int .i64 i, .int .i64 m] w fun e w' => ∃ r : Int, e = .returned (.int .i64 r) ∧ 0 ≤ r ∧ r < m ∧ w' = w := by
  obtain ⟨a, c, rfl, hc, hcell⟩ := hy.opened
  clear hy
  have hm0 : ¬ m = 0 := by omega
  have hd1 : decide (m ≤ 1) = false := by simp; omega
  by_cases hlt : i < (n : Int)
  · obtain ⟨k, rfl⟩ : ∃ k : Nat, i = k := ⟨i.toNat, by omega⟩
    obtain ⟨b, o, rfl, hlb, y, ⟨hy0, hy1⟩, hy⟩ := hcell k (by omega)
    have hr0 : 0 ≤ y % m := Int.emod_nonneg _ hm0
    have hr1 : y % m < m := Int.emod_lt_of_pos _ (by omega)
    have hd2 : decide ((k : Int) ≥ n) = false := by simp; omega
    clear hcell
    go_enter Try.func8, Try.ntmps8
    go_wp2
    go_ret
    exact ⟨y % m, rfl, hr0, hr1, rfl⟩
  · have hd2 : decide (i ≥ (n : Int)) = true := by simp; omega
    clear hcell
    go_enter Try.func8, Try.ntmps8
    go_wp2
    go_ret
    exact ⟨0, rfl, by decide, by omega, rfl⟩
set_option maxRecDepth 100000 in
set_option maxHeartbeats 400000 in
theorem r8Long_any (w : World) (a1 a2 : Option Addr) (n1 n2 c1 c2 : Nat) (h1 : n1 ≤ maxLen) (h2 : n2 ≤ maxLen) :
    Calls Try.prog 7 #[.slice a1 n1 c1, .slice a2 n2 c2] w fun e w' => e = .returned (.bool (decide (48 < n1) || decide (48 < n2))) ∧ w' = w := by
  by_cases h : 48 < n1
  · have hd : decide ((n1 : Int) > 48) = true := by simp; omega
    go_enter Try.func7, Try.ntmps7
    go_wp2
    go_ret
    exact ⟨by simp [h], rfl⟩
  · have hd : decide ((n1 : Int) > 48) = false := by simp; omega
    by_cases h3 : 48 < n2
    · have hd2 : decide ((n2 : Int) > 48) = true := by simp; omega
      go_enter Try.func7, Try.ntmps7
      go_wp2
      go_ret
      exact ⟨by simp [h3], rfl⟩
    · have hd2 : decide ((n2 : Int) > 48) = false := by simp; omega
      go_enter Try.func7, Try.ntmps7
      go_wp2
      go_ret
      exact ⟨by simp [h, h3], rfl⟩
end Go.Proofs.Ytjhbcnmkamkkaaa
