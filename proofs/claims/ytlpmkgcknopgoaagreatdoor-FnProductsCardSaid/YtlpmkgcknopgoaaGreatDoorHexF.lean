/- Walks: the digits of a number: strconv's, at the base 16. -/
import Derived.Test.YtlpmkgcknopgoaaGreatDoorBits
namespace Go.Proofs.YtlpmkgcknopgoaaGreatDoor
open Go Go.RowKit

set_option maxRecDepth 100000 in
set_option maxHeartbeats 800000 in
theorem tz16_any (w : World) (hT : w.cell? ⟨8, 15, none⟩ = some (.int .u8 4)) :
    Calls Tryz.prog 133 #[.int .u64 16] w fun e w' => e = .returned (.int .i64 4) ∧ w' = w := by
  have h1 : IntKind.u64.wrap (-16) = 18446744073709551600 := by decide
  have h2 : bits .and .u64 16 18446744073709551600 = 16 := by decide
  have h3 : IntKind.u64.wrap (16 * 285870213051353865) = 4573923408821661840 := by decide
  have h4 : (4573923408821661840 : Int) / 288230376151711744 = 15 := by decide
  go_enter Tryz.func133, Tryz.ntmps133
  go_wp2
  go_ret
  exact ⟨rfl, rfl⟩

theorem and15u (x : Nat) (h : x < 9223372036854775808) : bits .and .u64 (x : Int) 15 = ((x % 16 : Nat) : Int) := by
  have h1 := bits_mask .u64 63 (by decide) (fun n h0 h1 => by rw [IntKind.wrap_u64]; omega) 4 (by decide) (x : Int) (by omega) (by omega)
  have e : (2 : Int) ^ 4 - 1 = 15 := by decide
  have e2 : (2 : Int) ^ 4 = 16 := by decide
  rw [e, e2] at h1
  rw [h1]
  omega
theorem digAt36 (d : Nat) (h : d < 16) (h' : d < (⟨#[48, 49, 50, 51, 52, 53, 54, 55, 56, 57, 97, 98, 99, 100, 101, 102, 103, 104, 105, 106, 107, 108, 109, 110, 111, 112, 113, 114, 115, 116, 117, 118, 119, 120, 121, 122]⟩ : ByteArray).size) :
    (⟨#[48, 49, 50, 51, 52, 53, 54, 55, 56, 57, 97, 98, 99, 100, 101, 102, 103, 104, 105, 106, 107, 108, 109, 110, 111, 112, 113, 114, 115, 116, 117, 118, 119, 120, 121, 122]⟩ : ByteArray)[d]'h' = digH d := by
  have : ∀ d : Fin 16, (⟨#[48, 49, 50, 51, 52, 53, 54, 55, 56, 57, 97, 98, 99, 100, 101, 102, 103, 104, 105, 106, 107, 108, 109, 110, 111, 112, 113, 114, 115, 116, 117, 118, 119, 120, 121, 122]⟩ : ByteArray)[d.1]'(Nat.lt_of_lt_of_le d.2 (by decide)) = digH d.1 := by decide
  exact this ⟨d, h⟩
theorem slice65 (W : World) (g m : Nat) (hm : m < 65) : (Instr.sliceAt 154 (.pointer (some ⟨g, 0, none⟩)) (some (.int .i64 (m : Int))) none none).run Tryz.prog W = .ok (.slice (some ⟨g, m, none⟩) (65 - m) (65 - m)) W := by
  have ha : Tryz.prog.arrayLen 154 = 65 := by kernel_rfl
  have he : Tryz.prog.elem 154 = 5 := by kernel_rfl
  have hsz : (sizeOf 5).run Tryz.prog W = .ok 1 W := by kernel_rfl
  rw [run_sliceAt_array_l W 154 ⟨g, 0, none⟩ (by kernel_rfl) .i64 m (by omega) (by rw [ha]; omega), ha, he, hsz]
  simp only [Result.andThen, slicedAt, Int.toNat_natCast, Nat.mul_one]
  rw [if_neg (by omega), Addr.add_lit, Nat.zero_add]
/-- The array's cells from m on are the bytes L. -/
def ArrB (w : World) (g m : Nat) (L : List UInt8) : Prop := ∃ cs : Array Value, w.heap[g]? = some (.cells cs 154 (0, 0)) ∧ cs.size = 65 ∧ ∀ t, t < L.length → cs[m + t]? = some (bv (L.getD t 0))
theorem ArrB.store {w : World} {g m : Nat} {L : List UInt8} (h : ArrB w g (m + 1) L) (hm : m < 65) (b : UInt8) : ArrB (w.setCell ⟨g, m, none⟩ (bv b)) g m (b :: L) := by
  obtain ⟨cs, hh, hs, hc⟩ := h
  refine ⟨_, heap_setCell_same w g m cs _ _ hh, by simp [hs], fun t ht => ?_⟩
  cases t with
  | zero => simp [hs, hm]
  | succ t =>
    rw [Array.getElem?_setIfInBounds_ne (by omega), show m + (t + 1) = m + 1 + t by omega]
    exact hc t (by simpa using ht)
theorem ArrB.cell {w : World} {g m : Nat} {L : List UInt8} (h : ArrB w g m L) (i : Nat) (hi : i < 65) : (∃ u, w.cell? ⟨g, i, none⟩ = some u) ∧ w.frozen? ⟨g, i, none⟩ = false := by
  obtain ⟨cs, hh, hs, hc⟩ := h
  exact ⟨⟨cs[i], by rw [cell_of_row w g i cs _ (0, 0) hh]; exact Array.getElem?_eq_getElem (by omega)⟩, frozen_of_row w g i cs _ hh⟩
theorem ArrB.read {w : World} {g m : Nat} {L : List UInt8} (h : ArrB w g m L) (j : Nat) (hj : j < L.length) : w.cell? ((⟨g, m, none⟩ : Addr).add j) = some (.int .u8 (L[j].toNat : Int)) := by
  obtain ⟨cs, hh, hs, hc⟩ := h
  rw [Addr.add_lit, cell_of_row w g (m + j) cs _ (0, 0) hh, hc j hj]
  simp [bv, List.getD_eq_getElem?_getD, List.getElem?_eq_getElem hj]

set_option maxRecDepth 100000 in
set_option maxHeartbeats 800000 in
theorem formatBits16_any (w : World) (x : Nat) (hx : x < 4294967296) (hT : w.cell? ⟨8, 15, none⟩ = some (.int .u8 4)) :
    Calls Tryz.prog 111 #[.slice none 0 0, .int .u64 x, .int .i64 16, .bool false, .bool false] w fun e w' => ∃ k, k < 8 ∧ x / 16 ^ k < 16 ∧ e = .returned (.tuple #[.slice none 0 0, .string ⟨(digs (k + 1) x).toArray⟩]) ∧ Below w.heap.size w w' := by
  have hb0 : Below w.heap.size w (w.alloc (.cells Tryz.zeroCells154 154)) := (Below.refl _ _).alloc (Nat.le_refl _) _
  have hA0 : ArrB (w.alloc (.cells Tryz.zeroCells154 154)) w.heap.size 65 [] := ⟨_, alloc_new w _, by kernel_rfl, fun t ht => by cases ht⟩
  have hT0 : (w.alloc (.cells Tryz.zeroCells154 154)).cell? ⟨8, 15, none⟩ = some (.int .u8 4) := by rw [(bcell hb0).1 _ _ (block_lt hT)]; exact hT
  have hp : bits .and .i64 16 15 = 0 := by decide
  go_enter Tryz.func111, Tryz.ntmps111
  go_wp2_with (first | (go_at_call 132; go_in))
  refine (tz16_any _ hT0).mono ?_
  rintro e w1 ⟨rfl, hw1⟩
  rw [← hw1] at hb0 hA0
  clear hw1 hT0 hT
  go_wp2_with fail
  go_loopw [1, 13] (fun u i wr => ∃ j m : Nat, m + j = 65 ∧ j ≤ 7 ∧ u = .int .u64 ((x / 16 ^ j : Nat) : Int) ∧ i = .int .i64 (m : Int) ∧ ArrB wr w.heap.size m (digs j x) ∧ Below w.heap.size w wr) (fun u _ _ => (intOf u).toNat)
  case atStart => exact ⟨0, 65, rfl, by omega, by simp, rfl, hA0, hb0⟩
  case round =>
    obtain ⟨wi, rfl⟩ : ∃ wi : World, wi = wr := ⟨_, rfl⟩
    obtain ⟨j, m, hmj, hj, rfl, rfl, hA, hb⟩ := hrel
    obtain ⟨m, rfl⟩ : ∃ m', m = m' + 1 := ⟨m - 1, by omega⟩
    obtain ⟨u, hu⟩ : ∃ u, x / 16 ^ j = u := ⟨_, rfl⟩
    obtain ⟨d, hd⟩ : ∃ d, u % 16 = d := ⟨_, rfl⟩
    have hux : u ≤ x := by rw [← hu]; exact Nat.div_le_self _ _
    have hd16 : d < 16 := by omega
    have hbits : bits .and .u64 (u : Int) 15 = (d : Int) := by rw [and15u u (by omega), hd]
    obtain ⟨⟨cv, hcv⟩, hfr⟩ := hA.cell m (by omega)
    rw [hu]
    have HA := Lib.hid hA
    have HU := Lib.hid hu
    have HD := Lib.hid hd
    have hdig := digAt36 d hd16 (Nat.lt_of_lt_of_le hd16 (by decide))
    clear hA0 hb0 hA hu hd
    by_cases h16 : 16 ≤ u
    · have h16' : (16 : Int) ≤ (u : Int) := by omega
      go_wp2
      have e1 : digs (j + 1) x = digH d :: digs j x := by
        rw [Nat.add_comm j 1, digs_split, HU.out]
        show ([] ++ [digH (u % 16)]) ++ digs j x = _
        rw [HD.out]
        rfl
      have e2 : x / 16 ^ (j + 1) = u / 16 := by rw [Nat.pow_succ, ← Nat.div_div_eq_div_mul, HU.out]
      have hj6 : j + 1 ≤ 7 := by
        have : u / 16 < 16 ^ (8 - (j + 1)) := by
          rw [← e2]
          apply Nat.div_lt_of_lt_mul
          rw [← Nat.pow_add, show j + 1 + (8 - (j + 1)) = 8 by omega]
          exact hx
        rcases Nat.lt_or_ge 6 j with h | h
        · obtain rfl : j = 7 := by omega
          simp at this; omega
        · omega
      refine ⟨⟨j + 1, m, by omega, hj6, ?_, rfl, ?_, hb.setCell (Nat.le_refl _) _⟩, ?_⟩
      · rw [e2]; congr 1
      · rw [e1]; exact HA.out.store (by omega) (digH d)
      · simp only [intOf]; omega
    · have h16' : ¬ ((16 : Int) ≤ (u : Int)) := by omega
      have hd2 : d = u := by have := HD.out; omega
      subst hd2
      have hsl := fun W => slice65 W w.heap.size m (by omega)
      have e1 : digs (j + 1) x = digH d :: digs j x := by
        rw [Nat.add_comm j 1, digs_split, HU.out]
        show ([] ++ [digH (d % 16)]) ++ digs j x = _
        rw [HD.out]
        rfl
      have hA2 : ArrB (wi.setCell ⟨w.heap.size, m, none⟩ (.int .u8 ((digH d).toNat : Int))) w.heap.size m (digs (j + 1) x) := by rw [e1]; exact HA.out.store (by omega) (digH d)
      have hlen : (digs (j + 1) x).length = 65 - m := by rw [digs_length]; omega
      have hcv := run_convert_bytes_back (P := Tryz.prog) (wi.setCell ⟨w.heap.size, m, none⟩ (.int .u8 ((digH d).toNat : Int))) 22 9 5 ⟨w.heap.size, m, none⟩ (65 - m) (digs (j + 1) x) Tryz.underlying22 Tryz.underlying5 Tryz.underlying9 (fun t ht => hA2.read t ht)
      rw [hlen] at hcv
      have HU2 := Lib.hid (show j < 8 ∧ x / 16 ^ j < 16 from ⟨by omega, by rw [HU.out]; omega⟩)
      clear e1 hA2 hlen
      go_wp2
      go_ret2
      exact ⟨j, HU2.out.1, HU2.out.2, rfl, hb.setCell (Nat.le_refl _) _⟩

set_option maxRecDepth 100000 in
set_option maxHeartbeats 800000 in
theorem formatInt16_any (w : World) (x : Nat) (hx : x < 4294967296) (hT : w.cell? ⟨8, 15, none⟩ = some (.int .u8 4)) :
    Calls Tryz.prog 88 #[.int .i64 x, .int .i64 16] w fun e w' => ∃ k, k < 8 ∧ x / 16 ^ k < 16 ∧ e = .returned (.string ⟨(digs (k + 1) x).toArray⟩) ∧ Below w.heap.size w w' := by
  have hneg : ¬ ((x : Int) < 0) := by omega
  go_enter Tryz.func88, Tryz.ntmps88
  go_wp2_with (first | (go_at_call 96; go_in))
  refine (formatBits16_any w x hx hT).mono ?_
  rintro e w1 ⟨k, hk, hk2, rfl, b1⟩
  have H := Lib.hid (And.intro hk hk2)
  clear hk hk2
  go_wp2
  go_ret
  exact ⟨k, H.out.1, H.out.2, rfl, b1⟩
end Go.Proofs.YtlpmkgcknopgoaaGreatDoor
