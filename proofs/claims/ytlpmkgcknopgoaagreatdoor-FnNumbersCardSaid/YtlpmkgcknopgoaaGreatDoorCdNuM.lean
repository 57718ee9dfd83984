/- Several texts in one: Dw, Dx, Dy, Nu1, Sni, Nu2, Tru, FinNu, Laid9, Hsh, PrNu, CdNu. -/
import Derived.Test.YtlpmkgcknopgoaaGreatDoorSrc
import Derived.Test.YtlpmkgcknopgoaaGreatDoorOwn
import Derived.Test.YtlpmkgcknopgoaaGreatDoorRelOp
import Derived.Test.YtlpmkgcknopgoaaGreatDoorAgx
import Derived.Test.YtlpmkgcknopgoaaGreatDoorTxN
import Derived.Test.YtlpmkgcknopgoaaGreatDoorSne
import Derived.Test.YtlpmkgcknopgoaaGreatDoorRb
import Derived.Test.YtlpmkgcknopgoaaGreatDoorRows
import Derived.ProofKit
import Derived.LaidMore
import Derived.LaidLaws
import Derived.LaidHandle
import Derived.Stop.Joined
import Derived.Lib.LaidTab
import Derived.MakeChecks
import Derived.Stop.LaidErr
import Derived.Lay
import Derived.Shelf.Vars
import Derived.Test.YtlpmkgcknopgoaaGreatDoorOpn
import Derived.HandedShaped
import Derived.Test.YtlpmkgcknopgoaaGreatDoorOpnB
import Derived.Laws.Cover2
import Derived.Test.YtlpmkgcknopgoaaGreatDoorTie
import Derived.Test.YtlpmkgcknopgoaaGreatDoorCards
import Derived.SevenTiedAt
/- Walks: the draws of numbers, whatever they are. -/
namespace Go.Proofs.YtlpmkgcknopgoaaGreatDoor
open Go Go.RowKit

/-- The bytes stay readable while the source moves on. -/
def RY (w : World) (g : Nat) (a : Option Addr) (n c : Nat) : Prop := ∀ w'', Chg w w'' (fun k => k = g) → RdY w'' (.slice a n c) n
theorem RY.next {w w' : World} {g n c : Nat} {a : Option Addr} (h : RY w g a n c) (hc : Chg w w' (fun k => k = g)) : RY w' g a n c := fun w'' h2 => h w'' (hc.trans h2)
theorem RY.now {w : World} {g n c : Nat} {a : Option Addr} (h : RY w g a n c) : RdY w (.slice a n c) n := h w (Chg.refl _ _)
set_option maxRecDepth 100000 in
set_option maxHeartbeats 1600000 in
theorem pickA_any (w : World) (g : Nat) (a : Option Addr) (n c : Nat) (t m : Int) (hs : Src w g a n c t) (hy : RY w g a n c) (hn : n ≤ 1048576) (ht : 0 ≤ t) (ht2 : t ≤ 900000) (hm : 2 ≤ m) (hm2 : m ≤ 65536) :
    Calls Tryz.prog 39 #[.pointer (some ⟨g, 0, none⟩), .int .i64 m] w fun e w' => ∃ v t' : Int, e = .returned (.int .i64 v) ∧ 0 ≤ v ∧ v < m ∧ Src w' g a n c t' ∧ t ≤ t' ∧ t' ≤ t + 2 ∧ Chg w w' (fun k => k = g) := by
  have HY := Lib.hid hy
  have HN := Lib.hid (next_any w g a n c t hs hy.now hn ht (by omega))
  clear hs hy
  go_enter Tryz.func39, Tryz.ntmps39
  go_wp2_with fail
  refine HN.out.mono ?_
  rintro e w1 ⟨v, rfl, hv0, hv1, hs1, hc1⟩
  have HS := Lib.hid hs1
  have HC := Lib.hid hc1
  have hm0 : ¬ m = 0 := by omega
  clear hs1 hc1 HN
  by_cases hb : m ≤ 200
  · have hr0 : 0 ≤ v % m := Int.emod_nonneg _ hm0
    have hr1 : v % m < m := Int.emod_lt_of_pos _ (by omega)
    go_wp2
    go_ret
    exact ⟨v % m, t + 1, rfl, hr0, hr1, HS.out, by omega, by omega, HC.out⟩
  · have HN2 := Lib.hid (next_any w1 g a n c (t + 1) HS.out (HY.out.next HC.out).now hn (by omega) (by omega))
    go_wp2_with fail
    refine HN2.out.mono ?_
    rintro e w2 ⟨v2, rfl, hv20, hv21, hs2, hc2⟩
    have HS2 := Lib.hid hs2
    have HC2 := Lib.hid (HC.out.trans hc2)
    clear hs2 hc2 HN2
    have hr0 : 0 ≤ (v * 256 + v2) % m := Int.emod_nonneg _ hm0
    have hr1 : (v * 256 + v2) % m < m := Int.emod_lt_of_pos _ (by omega)
    go_wp2
    go_ret
    exact ⟨(v * 256 + v2) % m, t + 1 + 1, rfl, hr0, hr1, HS2.out, by omega, by omega, HC2.out⟩
set_option maxRecDepth 100000 in
set_option maxHeartbeats 800000 in
theorem one_any (w : World) (g : Nat) (a : Option Addr) (n c : Nat) (t m : Int) (hs : Src w g a n c t) (hy : RY w g a n c) (hn : n ≤ 1048576) (ht : 0 ≤ t) (ht2 : t ≤ 900000) (hm : 2 ≤ m) (hm2 : m ≤ 200) :
    Calls Tryz.prog 51 #[.pointer (some ⟨g, 0, none⟩), .int .i64 m] w fun e w' => ∃ (b : Bool) (t' : Int), e = .returned (.bool b) ∧ Src w' g a n c t' ∧ t ≤ t' ∧ t' ≤ t + 2 ∧ Chg w w' (fun k => k = g) := by
  have HP := Lib.hid (pickA_any w g a n c t m hs hy hn ht ht2 hm (by omega))
  clear hs hy
  go_enter Tryz.func51, Tryz.ntmps51
  go_wp2_with fail
  refine HP.out.mono ?_
  rintro e w1 ⟨v, t', rfl, hv0, hv1, hs1, ht3, ht4, hc1⟩
  have HS := Lib.hid hs1
  have HC := Lib.hid hc1
  clear hs1 hc1 HP
  go_wp2
  go_ret
  exact ⟨_, t', rfl, HS.out, ht3, ht4, HC.out⟩
set_option maxRecDepth 100000 in
set_option maxHeartbeats 1600000 in
theorem drawPlain_any (w : World) (g : Nat) (a : Option Addr) (n c : Nat) (t : Int) (hs : Src w g a n c t) (hy : RY w g a n c) (hn : n ≤ 1048576) (ht : 0 ≤ t) (ht2 : t ≤ 800000) :
    Calls Tryz.prog 83 #[.pointer (some ⟨g, 0, none⟩)] w fun e w' => ∃ (r x : Nat) (t' : Int), e = .returned (.float .f32 r) ∧ FV .f32 r x ∧ Src w' g a n c t' ∧ t ≤ t' ∧ t' ≤ t + 4 ∧ Chg w w' (fun k => k = g) := by
  have hquo := run_fquo (P := Tryz.prog)
  have HY := Lib.hid hy
  have HP := Lib.hid (pickA_any w g a n c t 129 hs hy hn ht (by omega) (by decide) (by decide))
  clear hs hy
  go_enter Tryz.func83, Tryz.ntmps83
  go_wp2_with fail
  refine HP.out.mono ?_
  rintro e w1 ⟨v, t1, rfl, hv0, hv1, hs1, ht3, ht4, hc1⟩
  have HC := Lib.hid hc1
  have HO := Lib.hid (one_any w1 g a n c t1 4 hs1 (HY.out.next hc1) hn (by omega) (by omega) (by decide) (by decide))
  clear hs1 hc1 HP
  go_wp2_with fail
  refine HO.out.mono ?_
  rintro e w2 ⟨b, t2, rfl, hs2, ht5, ht6, hc2⟩
  have HS := Lib.hid hs2
  have HC2 := Lib.hid (HC.out.trans hc2)
  clear hs2 hc2 HO
  have f7 : FV .f32 1088421888 1088421888 := ⟨by decide, by decide +kernel⟩
  have f16 : FV .f32 1098907648 1098907648 := ⟨by decide, by decide +kernel⟩
  cases b with
  | true =>
    go_wp2
    go_ret
    exact ⟨_, _, t2, rfl, (floatOfInt_fv .f32 (v - 64)).op f7 _, HS.out, by omega, by omega, HC2.out.drewN _⟩
  | false =>
    go_wp2
    go_ret
    exact ⟨_, _, t2, rfl, (floatOfInt_fv .f32 (v - 64)).op f16 _, HS.out, by omega, by omega, HC2.out.drewN _⟩
/-- One of some numbers. -/
def RdJn (w : World) (v : Value) (m : Nat) : Prop := ∃ b c, v = .slice (some ⟨b, 0, none⟩) m c ∧ b < w.heap.size ∧ ∀ j, j < m → ∃ x : Int, w.cell? ⟨b, j, none⟩ = some (.int .i64 x) ∧ 0 ≤ x ∧ x < 4294967296
set_option maxRecDepth 100000 in
set_option maxHeartbeats 1600000 in
theorem among_any (w : World) (g : Nat) (a : Option Addr) (n c : Nat) (t : Int) (v : Value) (m : Nat) (hs : Src w g a n c t) (hy : RY w g a n c) (hn : n ≤ 1048576) (ht : 0 ≤ t) (ht2 : t ≤ 800000) (hm : 2 ≤ m) (hm2 : m ≤ 200) (hv : RdJn w v m) (hg : v.ownBlock ≠ some g) :
    Calls Tryz.prog 84 #[.pointer (some ⟨g, 0, none⟩), v] w fun e w' => ∃ x t' : Int, e = .returned (.int .i64 x) ∧ 0 ≤ x ∧ x < 4294967296 ∧ Src w' g a n c t' ∧ t ≤ t' ∧ t' ≤ t + 2 ∧ Chg w w' (fun k => k = g) := by
  obtain ⟨b, cv, rfl, hb, hcell⟩ := hv
  have hbg : b ≠ g := fun h => hg (by rw [h]; rfl)
  have HP := Lib.hid (pickA_any w g a n c t m hs hy hn ht (by omega) (by omega) (by omega))
  clear hs hy hg
  go_enter Tryz.func84, Tryz.ntmps84
  go_wp2_with fail
  refine HP.out.mono ?_
  rintro e w1 ⟨v, t1, rfl, hv0, hv1, hs1, ht3, ht4, hc1⟩
  obtain ⟨j, rfl⟩ : ∃ j : Nat, v = j := ⟨v.toNat, by omega⟩
  obtain ⟨x, hx, hx0, hx1⟩ := hcell j (by omega)
  have e1 : w1.cell? ⟨b, j, none⟩ = some (.int .i64 x) := by rw [World.cell?_of_block (hc1.block b hb hbg)]; exact hx
  have HS := Lib.hid hs1
  have HC := Lib.hid hc1
  have hji : (j : Int) < (m : Int) := hv1
  clear hs1 hc1 HP hcell hx
  go_wp2
  go_ret
  exact ⟨x, t1, rfl, hx0, hx1, HS.out, ht3, ht4, HC.out⟩
end Go.Proofs.YtlpmkgcknopgoaaGreatDoor

/- Walks: numbers of any kind that are drawn. -/
namespace Go.Proofs.YtlpmkgcknopgoaaGreatDoor
open Go Go.RowKit

theorem run_frombitsX (w : World) (n : Nat) (h : n < 4294967296) : (callFunc 55 #[.int .u32 (n : Int)]).run Tryz.prog w = .ok (.value (.float .f32 n)) w := by
  kernel_rfl
theorem l01FromX_any (w : World) (x : Int) (h0 : 0 ≤ x) (h : x < 4294967296) :
    Calls Tryz.prog 52 #[.int .i64 x] w fun e w' => ∃ r, e = .returned (.float .f32 r) ∧ FV .f32 r (can .f32 r) ∧ (r : Int) = x ∧ w' = w := by
  obtain ⟨n, rfl⟩ : ∃ n : Nat, x = n := ⟨x.toNat, by omega⟩
  have hn : n < 4294967296 := by omega
  have hfb := run_frombitsX w n hn
  go_enter Tryz.func52, Tryz.ntmps52
  go_wp2
  go_ret
  exact ⟨n, rfl, ⟨by rw [width32]; exact hn, rfl⟩, rfl, rfl⟩
theorem rdJn_new {w : World} {m : Nat} {xs : List Int} {cs : Array Value} {ty : TypeId} (hcs : cs = (xs.map (Value.int .i64)).toArray) (hx : ∀ x ∈ xs, 0 ≤ x ∧ x < 4294967296) (hn : xs.length = m) : RdJn (w.alloc (.cells cs ty)) (.slice (some ⟨w.heap.size, 0, none⟩) m m) m := by
  refine ⟨w.heap.size, m, rfl, by rw [World.size_alloc]; omega, fun j hj => ?_⟩
  subst hcs
  have hj2 : j < xs.length := by omega
  refine ⟨xs[j], ?_, hx _ (List.getElem_mem hj2)⟩
  rw [cell_of_row _ _ j _ _ _ (alloc_new _ _)]
  simp [hj2]
theorem Src.lt {w : World} {g n c : Nat} {a : Option Addr} {t : Int} (h : Src w g a n c t) : g < w.heap.size := by
  obtain ⟨sd, h1, -⟩ := h
  exact (Array.getElem?_eq_some_iff.1 h1).1
theorem Src.ext {w w' : World} {g n c : Nat} {a : Option Addr} {t : Int} (h : Src w g a n c t) (hx : Below w.heap.size w w') : Src w' g a n c t := by
  have hg := h.lt
  obtain ⟨sd, h1, h2⟩ := h
  exact ⟨sd, (hx.block g hg).trans h1, h2⟩
set_option maxRecDepth 100000 in
set_option maxHeartbeats 6400000 in
theorem drawFloat_any (w : World) (g : Nat) (a : Option Addr) (n c : Nat) (t : Int) (hs : Src w g a n c t) (hy : RY w g a n c) (hn : n ≤ 1048576) (ht : 0 ≤ t) (ht2 : t ≤ 700000) :
    Calls Tryz.prog 53 #[.pointer (some ⟨g, 0, none⟩)] w fun e w' => ∃ (r x : Nat) (t' : Int), e = .returned (.float .f32 r) ∧ FV .f32 r x ∧ Src w' g a n c t' ∧ t ≤ t' ∧ t' ≤ t + 12 ∧ Chg w w' (fun k => k = g) := by
  have hmul := run_fmul (P := Tryz.prog)
  have HY := Lib.hid hy
  have HO := Lib.hid (one_any w g a n c t 12 hs hy hn ht (by omega) (by decide) (by decide))
  clear hs hy
  go_enter Tryz.func53, Tryz.ntmps53
  go_wp2_with fail
  refine HO.out.mono ?_
  rintro e w1 ⟨b, t1, rfl, hs1, h1a, h1b, hc1⟩
  have C1 := Lib.hid hc1
  have S1 := Lib.hid hs1
  clear hs1 hc1 HO
  cases b with
  | false =>
    go_wp2_with fail
    refine (drawPlain_any w1 g a n c t1 S1.out (HY.out.next C1.out) hn (by omega) (by omega)).mono ?_
    rintro e w2 ⟨r, x, t2, rfl, hf, hs2, h2a, h2b, hc2⟩
    have F2 := Lib.hid hf
    have S2 := Lib.hid hs2
    have C2 := Lib.hid (C1.out.trans hc2)
    clear hf hs2 hc2
    go_wp2
    go_ret
    exact ⟨r, x, t2, rfl, F2.out, S2.out, by omega, by omega, C2.out⟩
  | true =>
    go_wp2_with fail
    refine (pickA_any w1 g a n c t1 4 S1.out (HY.out.next C1.out) hn (by omega) (by omega) (by decide) (by decide)).mono ?_
    rintro e w2 ⟨v, t2, rfl, hv0, hv1, hs2, h2a, h2b, hc2⟩
    have S2 := Lib.hid hs2
    have C2 := Lib.hid (C1.out.trans hc2)
    clear hs2 hc2 S1
    have hv : v = 0 ∨ v = 1 ∨ v = 2 ∨ v = 3 := by omega
    rcases hv with rfl | rfl | rfl | rfl
    · have xa : Below w2.heap.size w2 (w2.alloc (.cells #[.int .i64 0, .int .i64 2147483648, .int .i64 2139095040, .int .i64 4286578688, .int .i64 2143289344, .int .i64 1, .int .i64 2139095039, .int .i64 8388608, .int .i64 8388607, .int .i64 2147483649] 2)) := (Below.refl _ _).alloc (Nat.le_refl _) _
      have CA := Lib.hid (C2.out.trans (Chg.of_below xa (fun k => k = g)))
      have hgl := S2.out.lt
      have HA := Lib.hid (among_any _ g a n c t2 (.slice (some ⟨w2.heap.size, 0, none⟩) 10 10) 10 (S2.out.ext xa) (HY.out.next CA.out) hn (by omega) (by omega) (by decide) (by decide)
        (rdJn_new (xs := [0, 2147483648, 2139095040, 4286578688, 2143289344, 1, 2139095039, 8388608, 8388607, 2147483649]) rfl (by decide) rfl) (by intro h; have h2 : w2.heap.size = g := Option.some.inj h; omega))
      clear xa
      go_wp2_with fail
      refine HA.out.mono ?_
      rintro e w3 ⟨x, t3, rfl, hx0, hx1, hs3, h3a, h3b, hc3⟩
      have S3 := Lib.hid hs3
      have C3 := Lib.hid (CA.out.trans hc3)
      clear hs3 hc3 HA
      go_wp2_with fail
      refine (l01FromX_any w3 x hx0 hx1).mono ?_
      rintro e w4 ⟨r, rfl, hf, -, hw4⟩
      obtain rfl : w3 = w4 := hw4.symm
      have F := Lib.hid hf
      clear hf hw4
      go_wp2
      go_ret
      exact ⟨r, _, t3, rfl, F.out, S3.out, by omega, by omega, C3.out⟩
    · go_wp2_with fail
      refine (pickA_any w2 g a n c t2 65536 S2.out (HY.out.next C2.out) hn (by omega) (by omega) (by decide) (by decide)).mono ?_
      rintro e w3 ⟨v, t3, rfl, hv0, hv1, hs3, h3a, h3b, hc3⟩
      have S3 := Lib.hid hs3
      have C3 := Lib.hid (C2.out.trans hc3)
      clear hs3 hc3
      go_wp2_with fail
      refine (pickA_any w3 g a n c t3 65536 S3.out (HY.out.next C3.out) hn (by omega) (by omega) (by decide) (by decide)).mono ?_
      rintro e w4 ⟨v2, t4, rfl, hv20, hv21, hs4, h4a, h4b, hc4⟩
      have S4 := Lib.hid hs4
      have C4 := Lib.hid (C3.out.trans hc4)
      clear hs4 hc4
      go_wp2_with fail
      refine (l01FromX_any w4 (v * 65536 + v2) (by omega) (by omega)).mono ?_
      rintro e w5 ⟨r, rfl, hf, -, hw5⟩
      obtain rfl : w4 = w5 := hw5.symm
      have F := Lib.hid hf
      clear hf hw5
      go_wp2
      go_ret
      exact ⟨r, _, t4, rfl, F.out, S4.out, by omega, by omega, C4.out⟩
    · go_wp2_with fail
      refine (pickA_any w2 g a n c t2 65536 S2.out (HY.out.next C2.out) hn (by omega) (by omega) (by decide) (by decide)).mono ?_
      rintro e w3 ⟨v, t3, rfl, hv0, hv1, hs3, h3a, h3b, hc3⟩
      have S3 := Lib.hid hs3
      have C3 := Lib.hid (C2.out.trans hc3)
      clear hs3 hc3
      go_wp2_with fail
      refine (l01FromX_any w3 (v * 65536) (by omega) (by omega)).mono ?_
      rintro e w5 ⟨r, rfl, hf, -, hw5⟩
      obtain rfl : w3 = w5 := hw5.symm
      have F := Lib.hid hf
      clear hf hw5
      go_wp2
      go_ret
      exact ⟨r, _, t3, rfl, F.out, S3.out, by omega, by omega, C3.out⟩
    · go_wp2_with fail
      refine (drawPlain_any w2 g a n c t2 S2.out (HY.out.next C2.out) hn (by omega) (by omega)).mono ?_
      rintro e w3 ⟨r3, x3, t3, rfl, hf3, hs3, h3a, h3b, hc3⟩
      have F3 := Lib.hid hf3
      have S3 := Lib.hid hs3
      have C3 := Lib.hid (C2.out.trans hc3)
      clear hf3 hs3 hc3
      have xa : Below w3.heap.size w3 (w3.alloc (.cells #[.int .i64 8388608, .int .i64 2130706432, .int .i64 1610612736, .int .i64 536870912] 2)) := (Below.refl _ _).alloc (Nat.le_refl _) _
      have CA := Lib.hid (C3.out.trans (Chg.of_below xa (fun k => k = g)))
      have hgl := S3.out.lt
      have HA := Lib.hid (among_any _ g a n c t3 (.slice (some ⟨w3.heap.size, 0, none⟩) 4 4) 4 (S3.out.ext xa) (HY.out.next CA.out) hn (by omega) (by omega) (by decide) (by decide)
        (rdJn_new (xs := [8388608, 2130706432, 1610612736, 536870912]) rfl (by decide) rfl) (by intro h; have h2 : w3.heap.size = g := Option.some.inj h; omega))
      clear xa
      go_wp2_with fail
      refine HA.out.mono ?_
      rintro e w4 ⟨x, t4, rfl, hx0, hx1, hs4, h4a, h4b, hc4⟩
      have S4 := Lib.hid hs4
      have C4 := Lib.hid (CA.out.trans hc4)
      clear hs4 hc4 HA
      go_wp2_with fail
      refine (l01FromX_any w4 x hx0 hx1).mono ?_
      rintro e w5 ⟨r, rfl, hf, -, hw5⟩
      obtain rfl : w4 = w5 := hw5.symm
      have F := Lib.hid hf
      clear hf hw5
      go_wp2
      go_ret
      exact ⟨_, _, t4, rfl, F3.out.op F.out _, S4.out.ext (Below.drewN (Below.refl _ _) _), by omega, by omega, C4.out.drewN _⟩
end Go.Proofs.YtlpmkgcknopgoaaGreatDoor

/- Walks: lists of numbers of any kind that are drawn; B10Number, B10Numbers. -/
namespace Go.Proofs.YtlpmkgcknopgoaaGreatDoor
open Go Go.RowKit

theorem Chg.below {a w w' : World} {S : Nat → Prop} (h : Chg a w S) (hb : Below a.heap.size w w') (hs : w.heap.size ≤ w'.heap.size) : Chg a w' S :=
  ⟨hb.os.trans h.os, hb.tape.trans h.tape, hb.output.trans h.output, Nat.le_trans h.size hs, fun k hk hn => (hb.block k hk).trans (h.block k hk hn)⟩
theorem Src.below {w w' : World} {g n c B : Nat} {a : Option Addr} {t : Int} (h : Src w g a n c t) (hg : g < B) (hx : Below B w w') : Src w' g a n c t := by
  obtain ⟨sd, h1, h2⟩ := h
  exact ⟨sd, (hx.block g hg).trans h1, h2⟩
set_option maxRecDepth 100000 in
set_option maxHeartbeats 6400000 in
theorem drawFloats_any (w : World) (g : Nat) (a : Option Addr) (n c m : Nat) (t : Int) (hs : Src w g a n c t) (hy : RY w g a n c) (hn : n ≤ 1048576) (ht : 0 ≤ t) (ht2 : t ≤ 100000) (hm : m ≤ 1000) :
    Calls Tryz.prog 64 #[.pointer (some ⟨g, 0, none⟩), .int .i64 (m : Nat)] w fun e w' => ∃ (v' : Value) (L : List Nat), e = .returned v' ∧ OwnF w' w.heap.size v' L ∧ L.length = m ∧ Chg w w' (fun k => k = g) := by
  have HY := Lib.hid hy
  have hgl := hs.lt
  have xa : Below w.heap.size w (w.alloc (.cells #[] 28)) := (Below.refl _ _).alloc (Nat.le_refl _) _
  have CA := Lib.hid (Chg.of_below xa (fun k => k = g))
  have O0 : Hid (OwnF (w.alloc (.cells #[] 28)) w.heap.size (.slice (some ⟨w.heap.size, 0, none⟩) 0 0) []) := Lib.hid ⟨[], rfl, fun j hj => (by cases hj), World.ownsRow_lit w #[] 0 (Nat.le_refl _) (by decide) rfl⟩
  have HO := Lib.hid (one_any _ g a n c t 4 (hs.ext xa) (HY.out.next CA.out) hn ht (by omega) (by decide) (by decide))
  clear hs hy xa
  go_enter Tryz.func64, Tryz.ntmps64
  go_wp2_with fail
  refine HO.out.mono ?_
  rintro e w1 ⟨b, t1, rfl, hs1, h1a, h1b, hc1⟩
  have C1 := Lib.hid (CA.out.trans hc1)
  have S1 := Lib.hid hs1
  have O1 := Lib.hid (O0.out.chg hc1 fun k hk e => by have := (O0.out.lt hk).1; omega)
  clear hs1 hc1 HO O0 CA
  go_wp2_with fail
  go_loopw [1, 5] (fun i o wr => ∃ (j : Nat) (L : List Nat) (t' : Int), j ≤ m ∧ i = .int .i64 ((m : Int) - j) ∧ L.length = j ∧ OwnF wr w.heap.size o L ∧ Src wr g a n c t' ∧ t ≤ t' ∧ t' ≤ t + 2 + 12 * j ∧ Chg w wr (fun k => k = g)) (fun i _ _ => (intOf i).toNat)
  case atStart => exact ⟨0, [], t1, Nat.zero_le _, by simp, rfl, O1.out, S1.out, by omega, by omega, C1.out⟩
  case round =>
    clear O1 S1 C1
    obtain ⟨wi, rfl⟩ : ∃ wi : World, wi = wr := ⟨_, rfl⟩
    obtain ⟨j, L, t', hj, rfl, hl, ho, hs, hta, htb, hc⟩ := hrel
    have HOw := Lib.hid ho
    have HC := Lib.hid hc
    have HS := Lib.hid hs
    have HLn := Lib.hid hl
    have hz := hc.size
    clear ho hs hc hl
    by_cases hlt : j < m
    · cases b with
      | true =>
        go_wp2_with fail
        refine (drawFloat_any wi g a n c t' HS.out (HY.out.next HC.out) hn (by omega) (by omega)).mono ?_
        rintro e w2 ⟨r, x, t2, rfl, hf, hs2, h2a, h2b, hc2⟩
        have F := Lib.hid hf
        have C2 := Lib.hid (HC.out.trans hc2)
        have hz2 := hc2.size
        have O2 := Lib.hid (HOw.out.chg hc2 fun k hk e => by have := (HOw.out.lt hk).1; omega)
        have xb : Below w2.heap.size w2 (w2.alloc (.cells #[.float .f32 r] 28)) := (Below.refl _ _).alloc (Nat.le_refl _) _
        have O3 := Lib.hid (O2.out.kept xb)
        have S2 := Lib.hid hs2
        have zb : (w2.alloc (.cells #[.float .f32 r] 28)).heap.size = w2.heap.size + 1 := World.size_alloc _ _
        have XB := Lib.hid xb
        have hgl2 := hs2.lt
        clear hf hs2 hc2 xb
        go_wp2_with (at_builtin; go_must (refine wpList_push rfl _ _ rfl w.heap.size _ L rfl O3.out _ _ _ x rfl (cell_new _ _ _) F.out (by rw [HLn.out]; omega) (by omega) ?_); intro v4 w4 o4 g4 b4 l4)
        have hbb := (XB.out.mono (show w.heap.size ≤ w2.heap.size by omega)).trans b4
        have hs4 := g4.size
        exact ⟨⟨j + 1, L ++ [x], t2, by omega, by congr 1; omega, by rw [List.length_append, HLn.out]; rfl, o4, S2.out.below hgl hbb, by omega, by omega, C2.out.below hbb (by omega)⟩, by simp [intOf]; omega⟩
      | false =>
        go_wp2_with fail
        refine (drawPlain_any wi g a n c t' HS.out (HY.out.next HC.out) hn (by omega) (by omega)).mono ?_
        rintro e w2 ⟨r, x, t2, rfl, hf, hs2, h2a, h2b, hc2⟩
        have F := Lib.hid hf
        have C2 := Lib.hid (HC.out.trans hc2)
        have hz2 := hc2.size
        have O2 := Lib.hid (HOw.out.chg hc2 fun k hk e => by have := (HOw.out.lt hk).1; omega)
        have xb : Below w2.heap.size w2 (w2.alloc (.cells #[.float .f32 r] 28)) := (Below.refl _ _).alloc (Nat.le_refl _) _
        have O3 := Lib.hid (O2.out.kept xb)
        have S2 := Lib.hid hs2
        have zb : (w2.alloc (.cells #[.float .f32 r] 28)).heap.size = w2.heap.size + 1 := World.size_alloc _ _
        have XB := Lib.hid xb
        have hgl2 := hs2.lt
        clear hf hs2 hc2 xb
        go_wp2_with (at_builtin; go_must (refine wpList_push rfl _ _ rfl w.heap.size _ L rfl O3.out _ _ _ x rfl (cell_new _ _ _) F.out (by rw [HLn.out]; omega) (by omega) ?_); intro v4 w4 o4 g4 b4 l4)
        have hbb := (XB.out.mono (show w.heap.size ≤ w2.heap.size by omega)).trans b4
        have hs4 := g4.size
        exact ⟨⟨j + 1, L ++ [x], t2, by omega, by congr 1; omega, by rw [List.length_append, HLn.out]; rfl, o4, S2.out.below hgl hbb, by omega, by omega, C2.out.below hbb (by omega)⟩, by simp [intOf]; omega⟩
    · obtain rfl : m = j := by omega
      go_wp2_with fail
      go_ret
      exact ⟨_, L, rfl, HOw.out, HLn.out, HC.out⟩
set_option maxRecDepth 100000 in
set_option maxHeartbeats 1600000 in
theorem b10Number_any (w : World) (v : Value) (n : Nat) (hy : RdY w v n) (hn : n ≤ 1048576) :
    Calls Tryz.prog 19 #[v] w fun e w' => ∃ r x, e = .returned (.float .f32 r) ∧ FV .f32 r x ∧ Below w.heap.size w w' := by
  obtain ⟨a, c, rfl, -, -⟩ := hy.opened
  have xa : Below w.heap.size w (w.alloc (.cells #[.slice a n c, .int .i64 0, .int .u64 0] 94)) := (Below.refl _ _).alloc (Nat.le_refl _) _
  have S0 : Hid (Src (w.alloc (.cells #[.slice a n c, .int .i64 0, .int .u64 0] 94)) w.heap.size a n c 0) := Lib.hid ⟨0, alloc_new _ _, by decide, by decide⟩
  have HCh : Hid (∀ w'', Chg (w.alloc (.cells #[.slice a n c, .int .i64 0, .int .u64 0] 94)) w'' (fun k => k = w.heap.size) → Below w.heap.size w w'') := Lib.hid fun w'' hc => Below.chg xa hc (fun k hk => by omega) (by rw [World.size_alloc]; omega)
  have HY : Hid (RY (w.alloc (.cells #[.slice a n c, .int .i64 0, .int .u64 0] 94)) w.heap.size a n c) := Lib.hid fun w'' hc => hy.mono (HCh.out w'' hc)
  have HF := Lib.hid (l00From_any w a n c)
  clear hy xa
  go_enter Tryz.func19, Tryz.ntmps19
  go_wp2_with fail
  refine HF.out.mono ?_
  rintro e w1 ⟨rfl, hw1⟩
  obtain ⟨W, hW⟩ : ∃ W, w.alloc (.cells #[.slice a n c, .int .i64 0, .int .u64 0] 94) = W := ⟨_, rfl⟩
  rw [hW] at hw1 S0 HCh HY
  obtain rfl : W = w1 := hw1.symm
  clear hW hw1 HF
  go_wp2_with fail
  refine (one_any W w.heap.size a n c 0 2 S0.out HY.out hn (by decide) (by decide) (by decide) (by decide)).mono ?_
  rintro e w2 ⟨b, t1, rfl, hs1, h1a, h1b, hc1⟩
  have S1 := Lib.hid hs1
  have C1 := Lib.hid hc1
  clear hs1 hc1
  cases b with
  | false =>
    go_wp2_with fail
    refine (drawFloat_any w2 w.heap.size a n c t1 S1.out (HY.out.next C1.out) hn (by omega) (by omega)).mono ?_
    rintro e w3 ⟨r, x, t3, rfl, hf, -, -, -, hc3⟩
    have F := Lib.hid hf
    have C3 := Lib.hid (C1.out.trans hc3)
    clear hf hc3
    go_wp2
    go_ret
    exact ⟨r, x, rfl, F.out, HCh.out _ C3.out⟩
  | true =>
    go_wp2_with fail
    refine (pickA_any w2 w.heap.size a n c t1 65536 S1.out (HY.out.next C1.out) hn (by omega) (by omega) (by decide) (by decide)).mono ?_
    rintro e w3 ⟨v, t3, rfl, hv0, hv1, hs3, h3a, h3b, hc3⟩
    have S3 := Lib.hid hs3
    have C3 := Lib.hid (C1.out.trans hc3)
    clear hs3 hc3
    go_wp2_with fail
    refine (pickA_any w3 w.heap.size a n c t3 65536 S3.out (HY.out.next C3.out) hn (by omega) (by omega) (by decide) (by decide)).mono ?_
    rintro e w4 ⟨v2, t4, rfl, hv20, hv21, hs4, h4a, h4b, hc4⟩
    have C4 := Lib.hid (C3.out.trans hc4)
    clear hs4 hc4
    go_wp2_with fail
    refine (l01FromX_any w4 (v * 65536 + v2) (by omega) (by omega)).mono ?_
    rintro e w5 ⟨r, rfl, hf, -, hw5⟩
    obtain rfl : w4 = w5 := hw5.symm
    have F := Lib.hid hf
    clear hf hw5
    go_wp2
    go_ret
    exact ⟨r, _, rfl, F.out, HCh.out _ C4.out⟩
set_option maxRecDepth 100000 in
set_option maxHeartbeats 1600000 in
theorem b10Numbers_any (w : World) (v : Value) (n m : Nat) (hy : RdY w v n) (hn : n ≤ 1048576) (hm : m ≤ 1000) :
    Calls Tryz.prog 29 #[v, .int .i64 (m : Nat)] w fun e w' => ∃ v' L, e = .returned v' ∧ OwnF w' w.heap.size v' L ∧ L.length = m ∧ Below w.heap.size w w' := by
  obtain ⟨a, c, rfl, -, -⟩ := hy.opened
  have xa : Below w.heap.size w (w.alloc (.cells #[.slice a n c, .int .i64 0, .int .u64 0] 94)) := (Below.refl _ _).alloc (Nat.le_refl _) _
  have S0 : Hid (Src (w.alloc (.cells #[.slice a n c, .int .i64 0, .int .u64 0] 94)) w.heap.size a n c 0) := Lib.hid ⟨0, alloc_new _ _, by decide, by decide⟩
  have HCh : Hid (∀ w'', Chg (w.alloc (.cells #[.slice a n c, .int .i64 0, .int .u64 0] 94)) w'' (fun k => k = w.heap.size) → Below w.heap.size w w'') := Lib.hid fun w'' hc => Below.chg xa hc (fun k hk => by omega) (by rw [World.size_alloc]; omega)
  have HY : Hid (RY (w.alloc (.cells #[.slice a n c, .int .i64 0, .int .u64 0] 94)) w.heap.size a n c) := Lib.hid fun w'' hc => hy.mono (HCh.out w'' hc)
  have HF := Lib.hid (l00From_any w a n c)
  have hzW : (w.alloc (.cells #[.slice a n c, .int .i64 0, .int .u64 0] 94)).heap.size = w.heap.size + 1 := World.size_alloc _ _
  clear hy xa
  go_enter Tryz.func29, Tryz.ntmps29
  go_wp2_with fail
  refine HF.out.mono ?_
  rintro e w1 ⟨rfl, hw1⟩
  obtain ⟨W, hW⟩ : ∃ W, w.alloc (.cells #[.slice a n c, .int .i64 0, .int .u64 0] 94) = W := ⟨_, rfl⟩
  rw [hW] at hw1 S0 HCh HY hzW
  obtain rfl : W = w1 := hw1.symm
  clear hW hw1 HF
  go_wp2_with fail
  refine (drawFloats_any W w.heap.size a n c m 0 S0.out HY.out hn (by decide) (by decide) hm).mono ?_
  rintro e w2 ⟨v', L, rfl, ho, hl, hc⟩
  obtain ⟨a2, n2, c2, rfl⟩ : ∃ a n c, v' = .slice a n c := by obtain ⟨a, c, h, -⟩ := ho.rd.opened; exact ⟨a, _, c, h⟩
  have O := Lib.hid ho
  have C := Lib.hid hc
  have HL := Lib.hid hl
  clear ho hc hl
  go_wp2
  go_ret
  exact ⟨_, L, rfl, O.out.mono (by omega), HL.out, HCh.out _ C.out⟩
end Go.Proofs.YtlpmkgcknopgoaaGreatDoor

/- Walks: bits, subnormal numbers, sums and texts of numbers. -/
namespace Go.Proofs.YtlpmkgcknopgoaaGreatDoor
open Go Go.RowKit

theorem beq_cast (x y : Nat) : ((x : Int) == (y : Int)) = (x == y) := by
  rw [Bool.eq_iff_iff, beq_iff_eq, beq_iff_eq]
  omega
set_option maxRecDepth 100000 in
set_option maxHeartbeats 400000 in
theorem isListF_any (w : World) (a : Option Addr) (n c : Nat) (h : n ≤ 256) :
    Calls Tryz.prog 65 #[.slice a n c] w fun e w' => e = .returned (.bool true) ∧ w' = w := by
  have hd : decide ((n : Int) ≤ 256) = true := by simp; omega
  go_enter Tryz.func65, Tryz.ntmps65
  go_wp2
  go_ret
  exact ⟨rfl, rfl⟩
set_option maxRecDepth 100000 in
set_option maxHeartbeats 800000 in
theorem numbersText_any (w : World) (v : Value) (L : List Nat) (h : RdF w v L) (hm : L.length ≤ 256) (hT : Tab16 w) :
    Calls Tryz.prog 31 #[v] w fun e w' => e = .returned (.tuple #[.string (numT L), .bool true]) ∧ Below w.heap.size w w' := by
  have HJ := Lib.hid (joinTexts_any w v L h (by omega) hT)
  obtain ⟨a, c, rfl, -, -⟩ := h.opened
  have HI := Lib.hid (isListF_any w a L.length c hm)
  clear h hT
  go_enter Tryz.func31, Tryz.ntmps31
  go_wp2_with fail
  refine HI.out.mono ?_
  rintro e w1 ⟨rfl, hw1⟩
  obtain rfl : w = w1 := hw1.symm
  clear hw1 HI
  go_wp2_with fail
  refine HJ.out.mono ?_
  rintro e w1 ⟨rfl, hb⟩
  go_wp2
  go_ret2
  exact ⟨rfl, hb⟩
set_option maxRecDepth 100000 in
set_option maxHeartbeats 400000 in
theorem fromBits_any (w : World) (n : Nat) (h : n < 4294967296) :
    Calls Tryz.prog 20 #[.int .i64 n] w fun e w' => e = .returned (.tuple #[.float .f32 n, .bool true]) ∧ w' = w := by
  have hfb := run_frombits w n h
  have h1 : (n : Int) ≤ 4294967295 := by omega
  go_enter Tryz.func20, Tryz.ntmps20
  go_wp2_with (go_at_call 54; go_in)
  go_ret2
  exact ⟨rfl, rfl⟩
set_option maxRecDepth 100000 in
set_option maxHeartbeats 400000 in
theorem specSame_any (w : World) (r s x y : Nat) (hr : FV .f32 r x) (hs : FV .f32 s y) :
    Calls Tryz.prog 10 #[.float .f32 r, .float .f32 s] w fun e w' => e = .returned (.bool (x == y)) ∧ w' = w := by
  have key : ∀ wq : World, Calls Tryz.prog 42 #[.float .f32 r, .float .f32 s] wq fun e w' => e = .returned (.bool (x == y)) ∧ w' = wq := fun wq => by
    rw [← beq_cast]
    go_enter Tryz.func42, Tryz.ntmps42
    go_wp2_with fail
    refine (l01Bits_any wq r x hr).mono ?_
    rintro e1 w1 ⟨rfl, hw1⟩
    obtain rfl : wq = w1 := hw1.symm
    clear hw1
    go_wp2_with fail
    refine (l01Bits_any wq s y hs).mono ?_
    rintro e1 w1 ⟨rfl, hw1⟩
    obtain rfl : wq = w1 := hw1.symm
    clear hw1
    go_wp2
    go_ret
    exact ⟨rfl, rfl⟩
  have HK := Lib.hid key
  clear key hr hs
  go_enter Tryz.func10, Tryz.ntmps10
  go_wp2_with fail
  refine (HK.out w).mono ?_
  rintro e1 w1 ⟨rfl, hw1⟩
  obtain rfl : w = w1 := hw1.symm
  clear hw1
  go_wp2
  go_ret
  exact ⟨rfl, rfl⟩
/-- Sums from the left. -/
def sumS (L : List Nat) : Nat → Nat
  | 0 => 0
  | j + 1 => fop .add .f32 (sumS L j) (L.getD j 0)
set_option maxRecDepth 100000 in
set_option maxHeartbeats 800000 in
theorem sum_any (w : World) (v : Value) (L : List Nat) (h : RdF w v L) (hl : L.length ≤ 1000) :
    Calls Tryz.prog 66 #[v] w fun e w' => ∃ r, e = .returned (.float .f32 r) ∧ FV .f32 r (sumS L L.length) ∧ ∃ n, w' = w.drewN n := by
  have hadd := run_fadd (P := Tryz.prog)
  obtain ⟨a, c, rfl, hc, -, hcell⟩ := h.opened
  clear h
  go_enter Tryz.func66, Tryz.ntmps66
  go_wp2
  go_loopw [3, 8] (fun q i wr => ∃ (j n r : Nat), j ≤ L.length ∧ i = .int .i64 j ∧ q = .float .f32 r ∧ FV .f32 r (sumS L j) ∧ wr = w.drewN n) (fun _ i _ => L.length - (intOf i).toNat)
  case atStart => exact ⟨0, 0, 0, Nat.zero_le _, rfl, rfl, fv0 _, rfl⟩
  case round =>
    obtain ⟨wi, rfl⟩ : ∃ wi : World, wi = wr := ⟨_, rfl⟩
    obtain ⟨j, n, r, hj, rfl, rfl, hf, hw⟩ := hrel
    have HW := Lib.hid hw
    have HF := Lib.hid hf
    by_cases hlt : j < L.length
    · obtain ⟨b, o, x, rfl, hx1, hx2⟩ := hcell j hlt
      have hx1' : wi.cell? ⟨b, o + j, none⟩ = some (.float .f32 x) := by rw [hw]; exact hx1
      have HX := Lib.hid hx2
      clear hcell hx1 hx2 hw hf
      go_wp2
      refine ⟨⟨j + 1, n + fcnt .add .f32 r x, _, by omega, by go_num, rfl, FV.op (op := .add) HF.out HX.out _, ?_⟩, by simp [intOf]; omega⟩
      rw [HW.out, World.drewN_drewN]
    · obtain rfl : j = L.length := by omega
      clear hw hf
      go_wp2
      go_ret
      exact ⟨r, rfl, HF.out, n, HW.out⟩
set_option maxRecDepth 100000 in
set_option maxHeartbeats 800000 in
theorem sumNumbers_any (w : World) (v : Value) (L : List Nat) (h : RdF w v L) (hl : L.length ≤ 256) :
    Calls Tryz.prog 30 #[v] w fun e w' => ∃ r, e = .returned (.tuple #[.float .f32 r, .bool true]) ∧ FV .f32 r (sumS L L.length) ∧ ∃ n, w' = w.drewN n := by
  have HJ := Lib.hid (sum_any w v L h (by omega))
  obtain ⟨a, c, rfl, -, -⟩ := h.opened
  have HI := Lib.hid (isListF_any w a L.length c hl)
  clear h
  go_enter Tryz.func30, Tryz.ntmps30
  go_wp2_with fail
  refine HI.out.mono ?_
  rintro e w1 ⟨rfl, hw1⟩
  obtain rfl : w = w1 := hw1.symm
  clear hw1 HI
  go_wp2_with fail
  refine HJ.out.mono ?_
  rintro e w1 ⟨r, rfl, hf, n, hw⟩
  have HF := Lib.hid hf
  have HW := Lib.hid hw
  clear hf hw
  go_wp2
  go_ret2
  exact ⟨r, rfl, HF.out, n, HW.out⟩
/-- Is it subnormal? -/
def subB (x : Nat) : Bool := (FloatKind.f32.format.order x 0 != some .eq) && (FloatKind.f64.format.order (absW (cwide x)) 4039728865751334912 == some .lt)
theorem absW_fv {b y : Nat} (h : FV .f64 b y) : FV .f64 (absW b) (absW y) := by
  have hb : b < 18446744073709551616 := h.1
  have hlt : absW b < 2 ^ FloatKind.f64.format.width := by
    rw [width64]
    unfold absW
    omega
  have hn : ∀ z, isN .f64 (absW z) = isN .f64 z := fun z => by
    show (Ieee.double.read (absW z)).isNaN = (Ieee.double.read z).isNaN
    rw [read_absW]
    cases Ieee.double.read z <;> rfl
  refine ⟨hlt, ?_⟩
  cases hb' : isN .f64 b with
  | true =>
    rw [can_of_nan (by rw [hn]; exact hb')]
    have : y = nanC .f64 := by rw [← h.2, can_of_nan hb']
    rw [this]
    decide +kernel
  | false =>
    obtain rfl : b = y := h.eq_of_not (by rw [← h.isN]; exact hb')
    exact can_of_not (by rw [hn]; exact hb')
theorem fvTiny : FV .f64 4039728865751334912 4039728865751334912 := ⟨by decide, by decide +kernel⟩
set_option maxRecDepth 100000 in
set_option maxHeartbeats 800000 in
theorem isSubnormal_any (w : World) (r x : Nat) (hr : FV .f32 r x) :
    Calls Tryz.prog 33 #[.float .f32 r] w fun e w' => e = .returned (.bool (subB x)) ∧ ∃ n, w' = w.drewN n := by
  have hcv := run_widen (P := Tryz.prog) 28 46 (by kernel_rfl) (by kernel_rfl)
  have ho : FloatKind.f32.format.order r 0 = FloatKind.f32.format.order x 0 := hr.order (fv0 _)
  have h2 : Hid (∀ wq, FloatKind.f64.format.order (absW (cres r wq)) 4039728865751334912 = FloatKind.f64.format.order (absW (cwide x)) 4039728865751334912) := Lib.hid fun wq => (absW_fv (hr.wide wq)).order fvTiny
  have HK := Lib.hid (fun wq wq2 => mathAbs_any wq2 (cres r wq) (hr.wide wq).1)
  cases h0 : (FloatKind.f32.format.order x 0 != some .eq) with
  | false =>
    have hs : Hid (subB x = false) := Lib.hid (by unfold subB; rw [h0]; rfl)
    have h1 : (FloatKind.f32.format.order r 0 != some .eq) = false := by rw [ho]; exact h0
    clear h0 ho hr
    go_enter Tryz.func33, Tryz.ntmps33
    go_wp2
    go_ret
    exact ⟨by rw [hs.out]; rfl, 0, rfl⟩
  | true =>
    have hs : Hid (subB x = (FloatKind.f64.format.order (absW (cwide x)) 4039728865751334912 == some .lt)) := Lib.hid (by unfold subB; rw [h0]; rfl)
    have h1 : (FloatKind.f32.format.order r 0 != some .eq) = true := by rw [ho]; exact h0
    clear h0 ho hr
    go_enter Tryz.func33, Tryz.ntmps33
    go_wp2_with fail
    refine (HK.out _ _).mono ?_
    rintro e w1 ⟨rfl, hw1⟩
    have HW := Lib.hid hw1
    clear hw1
    go_wp2
    go_ret
    exact ⟨by rw [hs.out, ← h2.out w]; rfl, _, HW.out⟩
end Go.Proofs.YtlpmkgcknopgoaaGreatDoor

/- Walks: the program's sine. -/
namespace Go.Proofs.YtlpmkgcknopgoaaGreatDoor
open Go Go.RowKit

theorem run_truncX (w : World) (x : Nat) (h : isN .f64 x = false) : (callFunc 121 #[.float .f64 x]).run Tryz.prog w = .ok (.value (.float .f64 (trnc x))) w := by
  have e : (callFunc 121 #[.float .f64 x]).run Tryz.prog w = (do pure (.value (← Extern.MathFloor.toIntegral "math.archTrunc" .zero #[.float .f64 x])) : Sem Next).run Tryz.prog w := by kernel_rfl
  rw [e, Sem.run_bind, run_trnc w x h]
  rfl
set_option maxRecDepth 100000 in
theorem mathTrunc_any (w : World) (x : Nat) (h : isN .f64 x = false) :
    Calls Tryz.prog 102 #[.float .f64 x] w fun e w' => e = .returned (.float .f64 (trnc x)) ∧ w' = w := by
  have h1 := run_truncX w x h
  clear h
  go_enter Tryz.func102, Tryz.ntmps102
  go_wp2
  go_ret
  exact ⟨rfl, rfl⟩
set_option maxRecDepth 100000 in
set_option maxHeartbeats 1600000 in
theorem fraction_fine (w : World) (t : Nat) (h : frcOk t = true) :
    Calls Tryz.prog 91 #[.float .f64 t] w fun e w' => e = .returned (.float .f64 (frcF t)) ∧ w' = w := by
  unfold frcOk at h
  simp only [Bool.and_eq_true, Bool.not_eq_true', Bool.or_eq_true] at h
  obtain ⟨n1, n2, n3⟩ := h
  have HT := Lib.hid (fun wq => mathTrunc_any wq t n1)
  have q1 := fun wq ty => run_fineK (P := Tryz.prog) .f64 .sub (by simp) wq ty t (whlF t) n2
  rw [show fop .sub .f64 t (whlF t) = frcD t from rfl] at q1
  have HF : Hid (frcF t = if ltB (frcD t) 0 then fop .add .f64 (frcD t) 4607182418800017408 else frcD t) := Lib.hid rfl
  have HW : Hid (whlF t = if eqB (trnc t) 0 then 0 else trnc t) := Lib.hid rfl
  clear n1 n2
  generalize frcD t = d at *
  generalize trnc t = tr at *
  generalize whlF t = wh at *
  have hlt : (FloatKind.f64.format.order d 0 == some Ordering.lt) = ltB d 0 := rfl
  have heq : (FloatKind.f64.format.order tr 0 == some Ordering.eq) = eqB tr 0 := rfl
  have q2 : ltB d 0 = true → ∀ wq ty, (binOp .add ty (.float .f64 d) (.float .f64 4607182418800017408)).run Tryz.prog wq = .ok (.float .f64 (fop .add .f64 d 4607182418800017408)) wq := fun hl => by
    rcases n3 with h | h
    · rw [hl] at h; cases h
    · exact fun wq ty => run_fineK (P := Tryz.prog) .f64 .add (by simp) wq ty _ _ h
  go_enter Tryz.func91, Tryz.ntmps91
  go_wp2_with fail
  refine (HT.out _).mono ?_
  rintro e w1 ⟨rfl, hw1⟩
  obtain rfl : w = w1 := hw1.symm
  clear hw1 HT n3
  cases h1 : eqB tr 0 <;> cases h2 : ltB d 0
  all_goals
    rw [h1] at heq HW
    rw [h2] at hlt HF
    replace HW := HW.out
    simp only [Bool.false_eq_true, if_false, if_true] at HW
    replace HF := HF.out
    simp only [Bool.false_eq_true, if_false, if_true] at HF
    subst HW
    try (have q3 := q2 h2)
    have HF := Lib.hid HF
    clear q2 h1 h2
    go_wp2_with fail
    go_ret
    exact ⟨by rw [HF.out]; rfl, rfl⟩
set_option maxRecDepth 100000 in
set_option maxHeartbeats 3200000 in
theorem sine_fine (w : World) (t : Nat) (h : frcOk t = true) (h2 : sinOk (frcF t) = true) :
    Calls Tryz.prog 75 #[.float .f64 t] w fun e w' => e = .returned (.float .f64 (sinF (frcF t))) ∧ w' = w := by
  have HFr := Lib.hid (fun wq => fraction_fine wq t h)
  clear h
  generalize frcF t = f at *
  unfold sinOk at h2
  simp only [Bool.and_eq_true, Bool.not_eq_true', Bool.or_eq_true, List.all_eq_true] at h2
  obtain ⟨n1, n2, n3, n4, n5, n6, n7⟩ := h2
  have q1 := fun wq ty => run_fineK (P := Tryz.prog) .f64 .mul (by simp) wq ty (snG f) 4618760256179416344 n4
  have q2 := fun wq ty => run_fineK (P := Tryz.prog) .f64 .mul (by simp) wq ty (snZ (snG f)) (snZ (snG f)) n5
  have q3 := fun wq ty => run_fineK (P := Tryz.prog) .f64 .mul (by simp) wq ty (snZ (snG f)) (polF (snU (snG f)) 8) n7
  rw [show fop .mul .f64 (snG f) 4618760256179416344 = snZ (snG f) from rfl] at q1
  rw [show fop .mul .f64 (snZ (snG f)) (snZ (snG f)) = snU (snG f) from rfl] at q2
  rw [show fop .mul .f64 (snZ (snG f)) (polF (snU (snG f)) 8) = snO (snG f) from rfl] at q3
  have HP := Lib.hid n6
  have HS : Hid (sinF f = if geB f 4602678819172646912 then ngF .f64 (snO (snG f)) else snO (snG f)) := Lib.hid rfl
  have HG : Hid (snG f = if gtB (snA f) 4598175219545276416 then fop .sub .f64 4602678819172646912 (snA f) else snA f) := Lib.hid rfl
  have HA : Hid (snA f = if geB f 4602678819172646912 then fop .sub .f64 f 4602678819172646912 else f) := Lib.hid rfl
  clear n4 n5 n6 n7
  generalize snO (snG f) = o at *
  generalize snU (snG f) = u at *
  generalize snZ (snG f) = z at *
  have hng : ∀ wq : World, (Op.unary .neg (.float .f64 o)).run Tryz.prog wq = .ok (.float .f64 (ngF .f64 o)) wq := fun wq => run_ngF .f64 wq o
  go_enter Tryz.func75, Tryz.ntmps75
  go_wp2_with fail
  refine (HFr.out _).mono ?_
  rintro e w1 ⟨rfl, hw1⟩
  obtain rfl : w = w1 := hw1.symm
  clear hw1 HFr
  have hge : (FloatKind.f64.format.order f 4602678819172646912 == some Ordering.gt || FloatKind.f64.format.order f 4602678819172646912 == some Ordering.eq) = geB f 4602678819172646912 := rfl
  have hgt : (FloatKind.f64.format.order (snA f) 4598175219545276416 == some Ordering.gt) = gtB (snA f) 4598175219545276416 := rfl
  have q4 : geB f 4602678819172646912 = true → ∀ wq ty, (binOp .sub ty (.float .f64 f) (.float .f64 4602678819172646912)).run Tryz.prog wq = .ok (.float .f64 (snA f)) wq := fun hl wq ty => by
    rw [HA.out, hl, if_pos rfl]
    exact run_fineK (P := Tryz.prog) .f64 .sub (by simp) wq ty _ _ (n2.resolve_left (by rw [hl]; decide))
  have q5 : gtB (snA f) 4598175219545276416 = true → ∀ wq ty, (binOp .sub ty (.float .f64 4602678819172646912) (.float .f64 (snA f))).run Tryz.prog wq = .ok (.float .f64 (snG f)) wq := fun hl wq ty => by
    rw [HG.out, hl, if_pos rfl]
    exact run_fineK (P := Tryz.prog) .f64 .sub (by simp) wq ty _ _ (n3.resolve_left (by rw [hl]; decide))
  have HA0 : geB f 4602678819172646912 = false → snA f = f := fun h => by rw [HA.out, h]; rfl
  have HG0 : gtB (snA f) 4598175219545276416 = false → snG f = snA f := fun h => by rw [HG.out, h]; rfl
  clear n1 n2 n3 HA HG
  have key : ∀ (wq : World) (x8 x30 : Value), True := fun _ _ _ => trivial
  clear key
  cases h1 : geB f 4602678819172646912 <;> cases h3 : gtB (snA f) 4598175219545276416
  all_goals
    rw [h1] at hge HS
    rw [h3] at hgt
    replace HS := HS.out
    simp only [Bool.false_eq_true, if_false, if_true] at HS
    have HS := Lib.hid HS
    first
      | (have a0 := HA0 h1; rw [a0] at hgt q5 HG0 h3; clear a0)
      | (have a1 := q4 h1; clear q4)
    first
      | (have g0 := HG0 h3; rw [g0] at q1; clear g0)
      | (have g1 := q5 h3; clear q5)
    try clear q4
    try clear q5
    clear HA0 HG0 h1 h3
    try generalize snG f = b at *
    try generalize snA f = a at *
    go_wp2_with fail
    go_loopw [7, 8] (fun p i wr => ∃ j : Nat, j ≤ 8 ∧ i = .int .i64 (8 - (j : Int)) ∧ p = .float .f64 (polF u j) ∧ wr = w) (fun _ i _ => (intOf i).toNat)
    case atStart => exact ⟨0, Nat.zero_le _, rfl, rfl, rfl⟩
    case round =>
      obtain ⟨j, hj, rfl, rfl, hwr⟩ := hrel
      obtain rfl : w = wr := hwr.symm
      clear hwr
      by_cases hlt : j < 8
      · have hpo := HP.out j (List.mem_range.2 hlt)
        unfold polOk at hpo
        simp only [Bool.and_eq_true, Bool.not_eq_true'] at hpo
        obtain ⟨p1, p2, p3⟩ := hpo
        have r1 := fun wq ty => run_fineK (P := Tryz.prog) .f64 .mul (by simp) wq ty u (polF u j) p1
        have r2 := fun wq ty => run_fineK (P := Tryz.prog) .f64 .quo (by simp) wq ty (polM u (polF u j)) _ p2
        have r3 := fun wq ty => run_fineK (P := Tryz.prog) .f64 .sub (by simp) wq ty 4607182418800017408 _ p3
        rw [show fop .mul .f64 u (polF u j) = polM u (polF u j) from rfl] at r1
        rw [show fop .quo .f64 (polM u (polF u j)) (floatOfInt .f64 (2 * ((8 - j : Nat) : Int) * (2 * ((8 - j : Nat) : Int) + 1))) = polQ u (polF u j) (8 - j) from rfl] at r2
        rw [show fop .sub .f64 4607182418800017408 (polQ u (polF u j) (8 - j)) = polF u (j + 1) from rfl] at r3
        obtain ⟨N, hN⟩ : ∃ N : Int, 2 * ((8 - j : Nat) : Int) * (2 * ((8 - j : Nat) : Int) + 1) = N := ⟨_, rfl⟩
        rw [hN] at r2
        obtain ⟨j1, hj1⟩ : ∃ j1, j + 1 = j1 := ⟨_, rfl⟩
        rw [hj1] at r3
        have HJ := Lib.hid hj1
        clear p1 p2 p3 hj1
        have hc : j = 0 ∨ j = 1 ∨ j = 2 ∨ j = 3 ∨ j = 4 ∨ j = 5 ∨ j = 6 ∨ j = 7 := by omega
        generalize polQ u (polF u j) (8 - j) = y2 at *
        generalize polM u (polF u j) = y1 at *
        obtain ⟨y3, hy3⟩ : ∃ y3, polF u j1 = y3 := ⟨_, rfl⟩
        obtain ⟨y0, hy0⟩ : ∃ y0, polF u j = y0 := ⟨_, rfl⟩
        rw [hy3] at r3
        rw [hy0] at r1
        rw [hy0]
        have HY := Lib.hid hy3
        clear hy0 hy3
        rcases hc with rfl | rfl | rfl | rfl | rfl | rfl | rfl | rfl
        all_goals
          simp at hN
          subst hN
          go_wp2_with fail
          have hj1 := HJ.out
          exact ⟨⟨j1, by omega, by congr 1; omega, by rw [HY.out], trivial⟩, by simp [intOf]⟩
      · obtain rfl : j = 8 := by omega
        go_wp2_with fail
        go_ret
        exact ⟨by rw [HS.out]; rfl, rfl⟩
end Go.Proofs.YtlpmkgcknopgoaaGreatDoor

/- Walks: flushed numbers, numbers made narrow again, the sine of a quarter. -/
namespace Go.Proofs.YtlpmkgcknopgoaaGreatDoor
open Go Go.RowKit

set_option maxRecDepth 100000 in
set_option maxHeartbeats 800000 in
theorem copysign_any (w : World) (b : Nat) (hb : b < 18446744073709551616) :
    Calls Tryz.prog 63 #[.float .f64 0, .float .f64 b] w fun e w' => e = .returned (.float .f64 (b &&& 9223372036854775808)) ∧ w' = w := by
  have hle : b &&& 9223372036854775808 < 18446744073709551616 := Nat.lt_of_le_of_lt Nat.and_le_right (by decide)
  have h1 := fun wq x => run_bits64 wq x
  have h2 := fun wq => run_from64 wq (b &&& 9223372036854775808)
  have e0 : bits BinOp.andNot IntKind.u64 0 9223372036854775808 = 0 := by decide +kernel
  have e1 : bits BinOp.and IntKind.u64 (b : Int) 9223372036854775808 = ((b &&& 9223372036854775808 : Nat) : Int) := u64_and_nat b 9223372036854775808 hb (by decide)
  have e2 : bits BinOp.or IntKind.u64 0 ((b &&& 9223372036854775808 : Nat) : Int) = ((b &&& 9223372036854775808 : Nat) : Int) := by
    have := u64_or_nat 0 (b &&& 9223372036854775808) (by decide) hle
    rw [Nat.zero_or] at this
    exact this
  have h3 : ∀ wq : World, (callFunc 87 #[.float .f64 0]).run Tryz.prog wq = .ok (.value (.int .u64 0)) wq := fun wq => run_bits64 wq 0
  generalize b &&& 9223372036854775808 = c at *
  go_enter Tryz.func63, Tryz.ntmps63
  go_wp2
  go_ret
  exact ⟨rfl, rfl⟩
theorem and_sign (b : Nat) : b &&& 9223372036854775808 = 0 ∨ b &&& 9223372036854775808 = 9223372036854775808 := by
  have e : (9223372036854775808 : Nat) = 2 ^ 63 := by decide
  rw [e]
  cases h : b.testBit 63
  · left
    apply Nat.eq_of_testBit_eq
    intro i
    rw [Nat.testBit_and, Nat.zero_testBit]
    by_cases hi : i = 63
    · rw [hi, h, Bool.false_and]
    · rw [Nat.testBit_two_pow_of_ne (by omega), Bool.and_false]
  · right
    apply Nat.eq_of_testBit_eq
    intro i
    rw [Nat.testBit_and]
    by_cases hi : i = 63
    · rw [hi, h, Bool.true_and]
    · rw [Nat.testBit_two_pow_of_ne (by omega), Bool.and_false]
theorem subB_not {x : Nat} (h : subB x = true) : isN .f32 x = false ∧ x ≠ 0 ∧ x ≠ 2147483648 := by
  refine ⟨?_, ?_, ?_⟩
  · cases hn : isN .f32 x with
    | false => rfl
    | true =>
      exfalso
      unfold subB at h
      rw [Bool.and_eq_true] at h
      have hw : isN .f64 (absW (cwide x)) = true := by
        unfold cwide
        rw [if_pos hn]
        decide +kernel
      rw [show FloatKind.f64.format.order (absW (cwide x)) 4039728865751334912 = none from order_nan _ _ _ (.inl hw)] at h
      exact absurd h.2 (by decide)
  · rintro rfl; revert h; decide +kernel
  · rintro rfl; revert h; decide +kernel
theorem nrw_zero : nrw 0 = 0 ∧ nrwOk 0 = true := by decide +kernel
theorem nrw_minus : nrw 9223372036854775808 = 2147483648 ∧ nrwOk 9223372036854775808 = true := by decide +kernel
def FlRes (r x : Nat) (z : Nat) : Prop := if subB x then z = 0 ∨ z = 2147483648 else z = r
set_option maxRecDepth 100000 in
set_option maxHeartbeats 800000 in
theorem flush_any (w : World) (r x : Nat) (hr : FV .f32 r x) :
    Calls Tryz.prog 28 #[.float .f32 r] w fun e w' => ∃ z, e = .returned (.float .f32 z) ∧ FlRes r x z ∧ ∃ n, w' = w.drewN n := by
  have HS := Lib.hid (isSubnormal_any w r x hr)
  cases hb : subB x with
  | false =>
    have HF : Hid (FlRes r x r) := Lib.hid (by unfold FlRes; rw [hb]; rfl)
    rw [hb] at HS
    clear hr hb
    go_enter Tryz.func28, Tryz.ntmps28
    go_wp2_with fail
    refine HS.out.mono ?_
    rintro e w1 ⟨rfl, n, hw⟩
    have HW := Lib.hid hw
    clear hw HS
    go_wp2
    go_ret
    exact ⟨r, rfl, HF.out, n, HW.out⟩
  | true =>
    obtain ⟨hn, -, -⟩ := subB_not hb
    obtain rfl : r = x := hr.eq_of_not hn
    have HF : Hid (∀ z, (z = 0 ∨ z = 2147483648) → FlRes r r z) := Lib.hid fun z hz => by unfold FlRes; rw [hb]; exact hz
    rw [hb] at HS
    have hcv := fun wq => run_wideF (P := Tryz.prog) 28 46 (by kernel_rfl) (by kernel_rfl) wq r hn
    have HC := Lib.hid (fun wq => copysign_any wq (cwide r) (cwide_lt r))
    obtain ⟨z, hz, hz2⟩ : ∃ z, z = cwide r &&& 9223372036854775808 ∧ nrwOk z = true ∧ (nrw z = 0 ∨ nrw z = 2147483648) := ⟨_, rfl, by
      rcases and_sign (cwide r) with h | h
      · rw [h]; exact ⟨nrw_zero.2, .inl nrw_zero.1⟩
      · rw [h]; exact ⟨nrw_minus.2, .inr nrw_minus.1⟩⟩
    rw [← hz] at HC
    have hnw := fun wq => run_narrowF (P := Tryz.prog) 46 28 (by kernel_rfl) (by kernel_rfl) wq z hz2.1
    have HZ := Lib.hid hz2.2
    clear hz hz2 hb hr hn
    generalize cwide r = b at *
    generalize nrw z = z2 at *
    go_enter Tryz.func28, Tryz.ntmps28
    go_wp2_with fail
    refine HS.out.mono ?_
    rintro e w1 ⟨rfl, n, hw⟩
    have HW := Lib.hid hw
    clear hw HS
    go_wp2_with fail
    refine (HC.out _).mono ?_
    rintro e w2 ⟨rfl, hw2⟩
    obtain rfl : w1 = w2 := hw2.symm
    clear hw2
    go_wp2
    go_ret
    exact ⟨z2, rfl, HF.out _ HZ.out, n, HW.out⟩
/-- What the law asks of a number and its flushed one. -/
theorem flush_law {r x z : Nat} (hr : FV .f32 r x) (h : FlRes r x z) : ∃ y, FV .f32 z y ∧ subB y = false ∧ (subB x == (x == y)) = false := by
  unfold FlRes at h
  cases hb : subB x with
  | false =>
    rw [hb] at h
    obtain rfl : z = r := h
    exact ⟨x, hr, hb, by simp⟩
  | true =>
    rw [hb] at h
    obtain ⟨-, h0, h1⟩ := subB_not hb
    rcases h with rfl | rfl
    · exact ⟨0, fv0 _, by decide +kernel, by simp [h0]⟩
    · exact ⟨2147483648, ⟨by decide, by decide +kernel⟩, by decide +kernel, by simp [h1]⟩
theorem word_sign (k : Nat) : Ieee.single.word true k = 2147483648 + Ieee.single.word false k := by
  have e1 : Ieee.single.signWeight = 2147483648 := by decide
  unfold Ieee.Format.word
  rw [if_pos rfl, if_neg (by decide), e1]
theorem cut_sign (n d : Nat) : Ieee.Toward.even.cut true n d = Ieee.Toward.even.cut false n d := rfl
theorem nearest_sign (M : Nat) (P : Int) : Ieee.single.nearest true M P = 2147483648 + Ieee.single.nearest false M P := by
  unfold Ieee.Format.nearest
  dsimp only
  rw [cut_sign, word_sign, word_sign]
  split
  · rfl
  · rfl
theorem sign_parts (r : Nat) (hr : r < 4294967296) (s : Bool) (hs : s = (r / 2147483648 % 2 == 1)) : r = (if s then 2147483648 else 0) + r % 2147483648 := by
  have h2 : r / 2147483648 % 2 = r / 2147483648 := Nat.mod_eq_of_lt (by omega)
  rw [h2] at hs
  cases s
  · have h3 := hs.symm
    rw [beq_eq_false_iff_ne] at h3
    rw [if_neg (by decide)]; omega
  · have h3 := hs.symm
    rw [beq_iff_eq] at h3
    rw [if_pos rfl]; omega
theorem cres_number (r : Nat) (s : Bool) (m : Nat) (e : Int) (hd : Ieee.single.read r = .number s m e) (w : World) : cres r w = Ieee.double.nearest s m e := by
  have hn : isN .f32 r = false := by
    show (Ieee.single.read r).isNaN = false
    rw [hd]; rfl
  unfold cres
  rw [hn]
  show Ieee.double.write (Ieee.single.read r) = _
  rw [hd]
  rfl
theorem zero_parts (s : Bool) : Ieee.double.read (Ieee.double.word s 0) = .number s 0 (-1074) ∧ Ieee.single.write (.number s 0 (-1074)) = (if s then 2147483648 else 0) := by
  cases s
  · exact ⟨by decide +kernel, by decide +kernel⟩
  · exact ⟨by decide +kernel, by decide +kernel⟩
theorem nearest_zero (s : Bool) (e : Int) : Ieee.double.nearest s 0 e = Ieee.double.word s 0 := by
  unfold Ieee.Format.nearest
  rw [if_pos rfl]
theorem wide_back (r : Nat) (hr : r < 4294967296) (s : Bool) (m : Nat) (e : Int) (hd : Ieee.single.read r = .number s m e) (w : World) : ∃ M P, Ieee.double.read (cres r w) = .number s M P ∧ Ieee.single.write (.number s M P) = r := by
  have hb := read_bounds32 r hd
  obtain ⟨hs, h32⟩ := read32 r hd
  rw [cres_number r s m e hd w]
  have hr2 := sign_parts r hr s hs
  clear hs
  by_cases hm0 : m = 0
  · subst hm0
    have hz : r % 2147483648 = 0 := by
      rcases h32 with ⟨-, -, h⟩ | ⟨h, -⟩
      · exact h
      · omega
    rw [hz, Nat.add_zero] at hr2
    refine ⟨0, -1074, ?_, ?_⟩
    · rw [nearest_zero]
      exact (zero_parts s).1
    · rw [(zero_parts s).2]
      exact hr2.symm
  · obtain ⟨rung, h1, h2, h3⟩ := wide_number s m e hm0 hb.1 hb.2.1 hb.2.2
    have hN := narrow_number m e hm0 hb.1 hb.2.1 hb.2.2 (fun h => by rcases h32 with ⟨-, h, -⟩ | ⟨h, -⟩ <;> omega)
    refine ⟨m * 2 ^ (52 - m.log2), e - (52 - m.log2 : Nat), ?_, ?_⟩
    · rw [h1, h3 s]
    · have hlow : (e + 149).toNat * 8388608 + m = r % 2147483648 := by
        rcases h32 with ⟨-, h5, h6⟩ | ⟨-, -, -, -, h6⟩
        · rw [h6, h5, show ((-149 : Int) + 149).toNat = 0 by decide, Nat.zero_mul, Nat.zero_add]
        · exact h6
      show Ieee.single.nearest s _ _ = r
      cases s
      · rw [hN, hlow]
        rw [if_neg (by decide), Nat.zero_add] at hr2
        exact hr2.symm
      · rw [nearest_sign, hN, hlow]
        rw [if_pos rfl] at hr2
        exact hr2.symm
theorem run_narrow_wide {P : Program} (src dst : TypeId) (hs : (P.underlying src).isSome = true) (hd : P.underlying dst = some (.float .f32)) (r x : Nat) (hr : FV .f32 r x) (w w1 : World) :
    ∃ q n, (convert src dst (.float .f64 (cres r w))).run P w1 = .ok (.float .f32 q) (w1.drewN n) ∧ FV .f32 q x := by
  obtain ⟨u, hs'⟩ := Option.isSome_iff_exists.1 hs
  have key : ∃ q n, (Conv.floatToFloat .f64 (cres r w) .f32).run P w1 = .ok (.float .f32 q) (w1.drewN n) ∧ FV .f32 q x := by
    cases hd : Ieee.single.read r with
    | nan s t =>
      have hn : isN .f32 r = true := by show (Ieee.single.read r).isNaN = true; rw [hd]; rfl
      have hx : x = nanC .f32 := by rw [← hr.2, can_of_nan hn]
      rw [hx]
      have hnn : isN .f64 (cres r w) = true := by
        unfold cres
        rw [if_pos hn, (nanOf_fv .f64 _).isN]
        exact isN_nanC _
      exact ⟨_, _, narrow_nan _ _ (datum_nan hnn), nanOf_fv _ _⟩
    | infinity s =>
      have hn : isN .f32 r = false := by show (Ieee.single.read r).isNaN = false; rw [hd]; rfl
      obtain rfl : r = x := hr.eq_of_not (by rw [← hr.isN]; exact hn)
      have h1 := inf_rung32 r hd
      have hs := sign_read r hr.1
      rw [hd] at hs
      have hs : s = decide (2147483648 ≤ r) := hs
      have hlt : r < 4294967296 := hr.1
      cases s
      · have h2 : ¬ 2147483648 ≤ r := by simpa using hs.symm
        obtain rfl : r = 2139095040 := by omega
        refine ⟨2139095040, 0, ?_, hr⟩
        have : cres 2139095040 w = Ieee.double.write (.infinity false) := by unfold cres; rw [hn, if_neg (by decide)]; decide +kernel
        rw [this]
        exact narrow_inf _ _ (by decide +kernel)
      · have h2 : 2147483648 ≤ r := by simpa using hs.symm
        obtain rfl : r = 4286578688 := by omega
        refine ⟨4286578688, 0, ?_, hr⟩
        have : cres 4286578688 w = Ieee.double.write (.infinity true) := by unfold cres; rw [hn, if_neg (by decide)]; decide +kernel
        rw [this]
        have hdc : FloatKind.f64.decode (Ieee.double.write (.infinity true)) = .infinity true := by decide +kernel
        unfold Conv.floatToFloat
        rw [if_neg (by decide), hdc]
        dsimp only
        rw [show FloatKind.f32.encode (.infinity true) = 4286578688 by decide +kernel]
        rfl
    | number s m e =>
      have hn : isN .f32 r = false := by show (Ieee.single.read r).isNaN = false; rw [hd]; rfl
      obtain rfl : r = x := hr.eq_of_not (by rw [← hr.isN]; exact hn)
      obtain ⟨M, E, h1, h2⟩ := wide_back r hr.1 s m e hd w
      refine ⟨r, 0, ?_, hr⟩
      unfold Conv.floatToFloat
      rw [if_neg (by decide), show FloatKind.f64.decode (cres r w) = .number s M E from h1]
      dsimp only
      have hi : (FloatKind.f32.decode (FloatKind.f32.encode (.number s M E))).isInfinity = false := by
        rw [show FloatKind.f32.encode (.number s M E) = r from h2, show FloatKind.f32.decode r = .number s m e from hd]
        rfl
      rw [hi, show FloatKind.f32.encode (.number s M E) = r from h2]
      rfl
  obtain ⟨q, n, h1, h2⟩ := key
  refine ⟨q, n, ?_, h2⟩
  cases u <;> simp [convert, run_underlying hs', run_underlying hd, h1]
set_option maxRecDepth 100000 in
set_option maxHeartbeats 400000 in
theorem narrowNumber_any (w w0 : World) (r x : Nat) (hr : FV .f32 r x) :
    Calls Tryz.prog 36 #[.float .f64 (cres r w0)] w fun e w' => ∃ q, e = .returned (.float .f32 q) ∧ FV .f32 q x ∧ ∃ n, w' = w.drewN n := by
  obtain ⟨q, n, h1, h2⟩ := run_narrow_wide (P := Tryz.prog) 46 28 (by kernel_rfl) (by kernel_rfl) r x hr w0 w
  have H2 := Lib.hid h2
  clear h2
  generalize cres r w0 = b at *
  go_enter Tryz.func36, Tryz.ntmps36
  go_wp2
  go_ret
  exact ⟨q, rfl, H2.out, n, rfl⟩
theorem quarter_ok : frcOk (cwide 1048576000) = true ∧ sinOk (frcF (cwide 1048576000)) = true ∧ nrwOk (sinF (frcF (cwide 1048576000))) = true ∧ nrw (sinF (frcF (cwide 1048576000))) = 1065353216 := by decide +kernel
theorem quarter_wide : cwide 1048576000 = 4598175219545276416 := by decide +kernel
set_option maxRecDepth 100000 in
set_option maxHeartbeats 800000 in
theorem sineQuarter_any (w : World) :
    Calls Tryz.prog 37 #[.float .f32 1048576000] w fun e w' => e = .returned (.float .f32 1065353216) ∧ w' = w := by
  obtain ⟨q1, q2, q3, q4⟩ := quarter_ok
  have HS := Lib.hid (fun wq => sine_fine wq _ q1 q2)
  have hcv := fun wq => run_wideF (P := Tryz.prog) 28 46 (by kernel_rfl) (by kernel_rfl) wq 1048576000 (by decide +kernel)
  have hnw := fun wq => run_narrowF (P := Tryz.prog) 46 28 (by kernel_rfl) (by kernel_rfl) wq _ q3
  rw [q4] at hnw
  clear q1 q2 q3 q4
  generalize sinF (frcF (cwide 1048576000)) = y at *
  rw [quarter_wide] at *
  have HA := Lib.hid (fun wq => mathAbs_any wq 4598175219545276416 (by decide))
  rw [show absW 4598175219545276416 = 4598175219545276416 by decide] at HA
  have hge : (FloatKind.f64.format.order 4598175219545276416 4841369599423283200 == some Ordering.gt || FloatKind.f64.format.order 4598175219545276416 4841369599423283200 == some Ordering.eq) = false := by decide +kernel
  have hf : ∀ wq, Calls Tryz.prog 74 #[.float .f64 4598175219545276416] wq fun e w' => e = .returned (.bool true) ∧ w' = wq := fun wq => by
    have hsub := fun w ty => run_fineK (P := Tryz.prog) .f64 .sub (by simp) w ty 4598175219545276416 4598175219545276416 (by decide +kernel)
    rw [show fop .sub .f64 4598175219545276416 4598175219545276416 = 0 by decide +kernel] at hsub
    have h0 : (FloatKind.f64.format.order 0 0 == some Ordering.eq) = true := by decide +kernel
    go_enter Tryz.func74, Tryz.ntmps74
    go_wp2
    go_ret
    exact ⟨rfl, rfl⟩
  have HF := Lib.hid hf
  clear hf
  go_enter Tryz.func37, Tryz.ntmps37
  go_wp2_with fail
  refine (HF.out _).mono ?_
  rintro e w1 ⟨rfl, hw1⟩
  obtain rfl : w = w1 := hw1.symm
  clear hw1
  go_wp2_with fail
  refine (HA.out _).mono ?_
  rintro e w1 ⟨rfl, hw1⟩
  obtain rfl : w = w1 := hw1.symm
  clear hw1
  go_wp2_with fail
  refine (HS.out _).mono ?_
  rintro e w1 ⟨rfl, hw1⟩
  obtain rfl : w = w1 := hw1.symm
  clear hw1
  go_wp2
  go_ret
  exact ⟨rfl, rfl⟩
end Go.Proofs.YtlpmkgcknopgoaaGreatDoor

/- What a law hands back. -/
namespace Go.Proofs.YtlpmkgcknopgoaaGreatDoor
open Go Go.RowKit
def TrueB (w : World) (e : Ending) (w' : World) : Prop := e = .returned (.bool true) ∧ Below w.heap.size w w'
theorem TrueB.mk {w w' : World} (h : Below w.heap.size w w') : TrueB w (.returned (.bool true)) w' := ⟨rfl, h⟩
end Go.Proofs.YtlpmkgcknopgoaaGreatDoor

/- FnNumbers: the walk of the law. -/
namespace Go.Proofs.YtlpmkgcknopgoaaGreatDoor
open Go Go.RowKit

theorem own_wrd {w : World} {B : Nat} {v : Value} {L : List Nat} (h : OwnF w B v L) : Wrd L := fun x hx => by
  obtain ⟨bits, hl, hf, -⟩ := h
  obtain ⟨j, hj, rfl⟩ := List.getElem_of_mem hx
  have := (hf j hj).cls
  rw [show L.getD j 0 = L[j] by simp [List.getD_eq_getElem?_getD, List.getElem?_eq_getElem hj]] at this
  exact this
theorem numT_small (L : List Nat) (h : L.length ≤ 1000) : (numT L).size ≤ 1048576 := by
  unfold numT
  split
  · decide
  · rename_i hn
    have hp : 0 < L.length := List.length_pos_iff.2 hn
    have := txt_length L L.length hp (Nat.le_refl _)
    show (txt L L.length).toArray.size ≤ _
    rw [List.size_toArray]
    omega
theorem order_one : (FloatKind.f32.format.order 1065353216 1065353216 == some Ordering.eq) = true := by decide +kernel
set_option maxRecDepth 100000 in
set_option maxHeartbeats 6400000 in
theorem lawNumbers_any (w : World) (v1 v2 : Value) (n1 n2 : Nat) (h1 : RdY w v1 n1) (h2 : RdY w v2 n2) (m1 : n1 ≤ maxLen) (m2 : n2 ≤ maxLen) (hD : Dr w) :
    Calls Tryz.prog 4 #[v1, v2] w (TrueB w) := by
  have H1 := Lib.hid h1
  have H2 := Lib.hid h2
  have HD := Lib.hid hD
  obtain ⟨a1, c1, rfl, -, -⟩ := h1.opened
  obtain ⟨a2, c2, rfl, -, -⟩ := h2.opened
  have HL := Lib.hid (b10Long_any w a1 a2 n1 n2 c1 c2 m1 m2)
  clear h1 h2 m1 m2 hD
  cases hq : decide (1048576 < n1) || decide (1048576 < n2) with
  | true =>
    rw [hq] at HL
    clear hq
    go_enter Tryz.func4, Tryz.ntmps4
    go_wp2_with fail
    refine HL.out.mono ?_
    rintro e w1 ⟨rfl, hw1⟩
    obtain rfl : w = w1 := hw1.symm
    go_wp2
    go_ret
    exact TrueB.mk (Below.refl _ _)
  | false =>
    rw [hq] at HL
    have l1 : n1 ≤ 1048576 := by simp at hq; omega
    have l2 : n2 ≤ 1048576 := by simp at hq; omega
    clear hq
    have hadd := run_fadd (P := Tryz.prog)
    go_enter Tryz.func4, Tryz.ntmps4
    go_wp2_with fail
    refine HL.out.mono ?_
    rintro e w0 ⟨rfl, hw0⟩
    obtain rfl : w = w0 := hw0.symm
    clear HL hw0
    go_wp2_with fail
    refine (b10Number_any w _ n1 H1.out l1).mono ?_
    rintro e w1 ⟨r, x, rfl, hf1, b1⟩
    have F1 := Lib.hid hf1
    have C1 := Lib.hid b1
    clear hf1 b1
    go_wp2_with fail
    refine (b10Number_any w1 _ n2 (H2.out.mono C1.out) l2).mono ?_
    rintro e w2 ⟨s, y, rfl, hf2, b2⟩
    have F2 := Lib.hid hf2
    have C2 := Lib.hid (C1.out.trans (b2.mono C1.out.size))
    clear hf2 b2 C1
    go_wp2_with fail
    refine (bitsOf_any w2 r x F1.out).mono ?_
    rintro e w3 ⟨rfl, hw3⟩
    obtain rfl : w2 = w3 := hw3.symm
    clear hw3
    go_wp2_with fail
    refine (fromBits_any w2 x F1.out.lt).mono ?_
    rintro e w3 ⟨rfl, hw3⟩
    obtain rfl : w2 = w3 := hw3.symm
    clear hw3
    go_wp2_with fail
    refine (flush_any w2 r x F1.out).mono ?_
    rintro e w3 ⟨z, rfl, hfl, nd, hw3⟩
    obtain ⟨u, hz1, hz2, hz3⟩ := flush_law F1.out hfl
    have FZ := Lib.hid hz1
    have Z2 := Lib.hid hz2
    have Z3 := Lib.hid hz3
    have C3 : Hid (Below w.heap.size w w3) := Lib.hid (by rw [hw3]; exact Go.Proofs.YtlpmkgcknopgoaaGreatDoor.Below.drewN C2.out nd)
    clear hfl hw3 hz1 hz2 hz3 C2
    go_wp2_with fail
    refine (b10At_any w3 _ n1 0 12 (H1.out.mono C3.out) l1 (by decide) (by decide) (by decide) (by decide)).mono ?_
    rintro e w4 ⟨t', rfl, ht0, ht1, hw4⟩
    obtain rfl : w3 = w4 := hw4.symm
    obtain ⟨t, rfl⟩ : ∃ t : Nat, t' = t := ⟨t'.toNat, by omega⟩
    clear hw4
    go_wp2_with fail
    refine (b10Numbers_any w3 _ n2 t (H2.out.mono C3.out) l2 (by omega)).mono ?_
    rintro e w4 ⟨v4, L, rfl, ho, hl, b4⟩
    have hwd := own_wrd ho
    obtain ⟨aL, cL, rfl, -⟩ := ho.rd.opened
    have O4 := Lib.hid ho
    have C4 := Lib.hid (C3.out.trans (b4.mono C3.out.size))
    have HLn := Lib.hid hl
    have hlt12 : L.length ≤ 12 := by omega
    have HWD := Lib.hid hwd
    clear ho hl b4 hwd C3
    go_wp2_with fail
    go_loopw [11, 12, 41] (fun q _ i wr => ∃ (j nd p : Nat), j ≤ L.length ∧ i = .int .i64 j ∧ q = .float .f32 p ∧ FV .f32 p (sumS L j) ∧ wr = w4.drewN nd) (fun _ _ i _ => L.length - (intOf i).toNat)
    case atStart => exact ⟨0, 0, 0, Nat.zero_le _, rfl, rfl, fv0 _, rfl⟩
    case round =>
      obtain ⟨wi, rfl⟩ : ∃ wi : World, wi = wr := ⟨_, rfl⟩
      obtain ⟨j, nd, p, hj, rfl, rfl, hf, hw⟩ := hrel
      have HW := Lib.hid hw
      have HF := Lib.hid hf
      by_cases hlt : j < L.length
      · obtain ⟨a, c, hav, hc, -, hcell⟩ := O4.out.rd.opened
        cases hav
        obtain ⟨b, o, q, rfl, hx1, hx2⟩ := hcell j hlt
        have hx1' : wi.cell? ⟨b, o + j, none⟩ = some (.float .f32 q) := by rw [hw]; exact hx1
        have HX := Lib.hid hx2
        clear hcell hx1 hx2 hw hf
        go_wp2
        refine ⟨⟨j + 1, nd + fcnt .add .f32 p q, _, by omega, by go_num, rfl, FV.op (op := .add) HF.out HX.out _, ?_⟩, by simp [intOf]; omega⟩
        rw [HW.out, World.drewN_drewN]
      · obtain rfl : j = L.length := by omega
        have C5 : Hid (Below w.heap.size w wi) := Lib.hid (by rw [hw]; exact Go.Proofs.YtlpmkgcknopgoaaGreatDoor.Below.drewN C4.out nd)
        have O5 : Hid (OwnF wi w3.heap.size (.slice aL L.length cL) L) := Lib.hid (by rw [hw]; exact O4.out.drewN nd)
        clear hw hf HW C4 O4
        go_wp2_with fail
        refine (sumNumbers_any wi _ L O5.out.rd (by omega)).mono ?_
        rintro e w6 ⟨p2, rfl, hf6, n6, hw6⟩
        have F6 := Lib.hid hf6
        have C6 : Hid (Below w.heap.size w w6) := Lib.hid (by rw [hw6]; exact Go.Proofs.YtlpmkgcknopgoaaGreatDoor.Below.drewN C5.out n6)
        have O6 : Hid (OwnF w6 w3.heap.size (.slice aL L.length cL) L) := Lib.hid (by rw [hw6]; exact O5.out.drewN n6)
        clear hf6 hw6 C5 O5
        go_wp2_with fail
        refine (numbersText_any w6 _ L O6.out.rd (by omega) (Tab16.mono HD.out.tab C6.out)).mono ?_
        rintro e w7 ⟨rfl, b7⟩
        have C7 := Lib.hid (C6.out.trans (b7.mono C6.out.size))
        have O7 := Lib.hid (O6.out.kept b7)
        clear b7 C6 O6
        have HR := Lib.hid (readNumbers_any w7 (numT L) (numT_small L (by omega)) (HD.out.mono C7.out))
        have HRN := Lib.hid (rn_numT HWD.out (by omega))
        generalize numT L = tx at *
        go_wp2_with fail
        refine HR.out.mono ?_
        clear HR
        rintro e w8 ⟨u8, rfl, hu, b8⟩
        have C8 := Lib.hid (C7.out.trans (b8.mono C7.out.size))
        have O8 := Lib.hid (O7.out.kept b8)
        clear b8
        rcases hu with ⟨L2, v8, hL2, rfl, o8⟩ | ⟨hL2, rfl⟩
        · obtain rfl : L = L2 := Option.some.inj (HRN.out.symm.trans hL2)
          obtain ⟨a8, c8, rfl, -⟩ := o8.rd.opened
          have OR := Lib.hid o8
          clear hL2 o8 HRN C7 O7
          have e1 : (x == x) = true := beq_self_eq_true x
          go_wp2_with fail
          refine (specSame_any w8 x r x x F1.out.cls F1.out).mono ?_
          rw [e1]
          rintro e w9 ⟨rfl, hw9⟩
          obtain rfl : w8 = w9 := hw9.symm
          clear hw9
          go_wp2_with fail
          refine (isSubnormal_any w8 z u FZ.out).mono ?_
          rw [Z2.out]
          rintro e w9 ⟨rfl, n9, hw9⟩
          have C9 : Hid (Below w.heap.size w w9) := Lib.hid (by rw [hw9]; exact Go.Proofs.YtlpmkgcknopgoaaGreatDoor.Below.drewN C8.out n9)
          have O9 : Hid (OwnF w9 w3.heap.size (.slice aL L.length cL) L) := Lib.hid (by rw [hw9]; exact O8.out.drewN n9)
          have OR9 : Hid (OwnF w9 w7.heap.size (.slice a8 L.length c8) L) := Lib.hid (by rw [hw9]; exact OR.out.drewN n9)
          clear hw9 C8 O8 OR
          go_wp2_with fail
          refine (isSubnormal_any w9 r x F1.out).mono ?_
          rintro e w10 ⟨rfl, n10, hw10⟩
          have C10 : Hid (Below w.heap.size w w10) := Lib.hid (by rw [hw10]; exact Go.Proofs.YtlpmkgcknopgoaaGreatDoor.Below.drewN C9.out n10)
          have O10 : Hid (OwnF w10 w3.heap.size (.slice aL L.length cL) L) := Lib.hid (by rw [hw10]; exact O9.out.drewN n10)
          have OR10 : Hid (OwnF w10 w7.heap.size (.slice a8 L.length c8) L) := Lib.hid (by rw [hw10]; exact OR9.out.drewN n10)
          clear hw10 C9 O9 OR9
          go_wp2_with fail
          refine (specSame_any w10 r z x u F1.out FZ.out).mono ?_
          rintro e w11 ⟨rfl, hw11⟩
          obtain rfl : w10 = w11 := hw11.symm
          clear hw11
          have z3 := Z3.out
          have e2 : (sumS L L.length == sumS L L.length) = true := beq_self_eq_true _
          go_wp2_with fail
          refine (specSame_any w10 p2 p _ _ F6.out HF.out).mono ?_
          rw [e2]
          rintro e w11 ⟨rfl, hw11⟩
          obtain rfl : w10 = w11 := hw11.symm
          clear hw11
          go_wp2_with fail
          clear z3 e1 e2 F6 Z2 Z3 FZ
          go_loopw [19, 113] (fun _ i wr => ∃ j q : Nat, j ≤ L.length ∧ i = .int .i64 (j : Nat) ∧ wr = w10.drewN q) (fun _ i _ => L.length - (intOf i).toNat)
          case atStart => exact ⟨0, 0, Nat.zero_le _, rfl, rfl⟩
          case round =>
            obtain ⟨wi, rfl⟩ : ∃ wi : World, wi = wr := ⟨_, rfl⟩
            obtain ⟨k, q, hk, rfl, hq⟩ := hrel
            by_cases hlt : k < L.length
            · obtain ⟨aa, cc, hav, hc, -, hcell1⟩ := OR10.out.rd.opened
              cases hav
              obtain ⟨ab, cb, hav, hc, -, hcell2⟩ := O10.out.rd.opened
              cases hav
              obtain ⟨b, o, r1, rfl, d0, f0⟩ := hcell1 k hlt
              obtain ⟨b', o', s1, rfl, g0, e0⟩ := hcell2 k hlt
              have D0 : wi.cell? ⟨b, o + k, none⟩ = some (.float .f32 r1) := by rw [hq]; exact d0
              have G0 : wi.cell? ⟨b', o' + k, none⟩ = some (.float .f32 s1) := by rw [hq]; exact g0
              have Hq := Lib.hid hq
              clear hcell1 hcell2 d0 g0 hq
              go_wp2
              refine region_rel_all (by kernel_rfl) (by kernel_rfl) (Drawn wi) (fun _ _ v => v = .bool true) ⟨1, rfl⟩ ?_
              repeat (refine wpRel_draw rfl rfl (fun nq K hK => ?_); go_wp2)
              refine wpRel_callF #[.float .f32 r1, .float .f32 s1] Tryz.func10 (by kernel_rfl) (by kernel_rfl) (by simp [go_sem]) ⟨wi, 0, rfl⟩ ⟨_, rfl⟩ ?_ ?_
              · rintro wd ⟨nd, rfl⟩
                refine (specSame_any (wi.drewN nd) r1 s1 _ _ f0 e0).mono ?_
                rintro e w'' ⟨rfl, rfl⟩
                exact ⟨_, rfl, by rw [beq_self_eq_true], nd, rfl⟩
              · rintro v rfl
                simp only [Act.put, List.setIfInBounds_toArray, List.set_cons_succ, List.set_cons_zero]
                repeat (refine wpRel_draw rfl rfl (fun nq K hK => ?_); go_wp2)
                refine wpRel_nil ?_
                rintro wd ⟨nd, hwd⟩
                have Hwd := Lib.hid hwd
                clear hwd
                go_wp2
                exact ⟨⟨k + 1, q + nd, by omega, by go_num, by rw [Hwd.out, Hq.out, World.drewN_drewN]⟩, by simp [intOf]; omega⟩
            · obtain rfl : k = L.length := by omega
              have CX : Hid (Below w.heap.size w wi) := Lib.hid (by rw [hq]; exact Go.Proofs.YtlpmkgcknopgoaaGreatDoor.Below.drewN C10.out q)
              clear hq C10 O10 OR10
              have hcv := run_widen (P := Tryz.prog) 28 46 (by kernel_rfl) (by kernel_rfl)
              have e3 : (angC y x == angC y x) = true := beq_self_eq_true _
              have e4 : (x == x) = true := beq_self_eq_true _
              have e5 := order_one
              go_wp2_with fail
              refine (angle_any wi s r y x F2.out F1.out).mono ?_
              rintro e wA ⟨qA, rfl, hqA, bA⟩
              have FA := Lib.hid hqA
              have CA := Lib.hid (CX.out.trans (bA.mono CX.out.size))
              clear hqA bA CX
              go_wp2_with fail
              refine (angleOf_any wA s r y x F2.out F1.out).mono ?_
              rintro e wB ⟨qB, rfl, hqB, bB⟩
              have FB := Lib.hid hqB
              have CB := Lib.hid (CA.out.trans (bB.mono CA.out.size))
              clear hqB bB CA
              go_wp2_with fail
              refine (specSame_any wB qA qB _ _ FA.out FB.out).mono ?_
              rw [e3]
              rintro e wC ⟨rfl, hwC⟩
              obtain rfl : wB = wC := hwC.symm
              clear hwC
              go_wp2_with fail
              refine (narrowNumber_any _ wB r x F1.out).mono ?_
              rintro e wD ⟨qD, rfl, hqD, nD, hwD⟩
              have FD1 := Lib.hid hqD
              have CD : Hid (Below w.heap.size w wD) := Lib.hid (by rw [hwD]; exact Go.Proofs.YtlpmkgcknopgoaaGreatDoor.Below.drewN (Go.Proofs.YtlpmkgcknopgoaaGreatDoor.Below.drewN CB.out _) nD)
              clear hqD hwD CB
              go_wp2_with fail
              refine (specSame_any wD qD r _ _ FD1.out F1.out).mono ?_
              rw [e4]
              rintro e wE ⟨rfl, hwE⟩
              obtain rfl : wD = wE := hwE.symm
              clear hwE
              go_wp2_with fail
              refine (sineQuarter_any wD).mono ?_
              rintro e wE ⟨rfl, hwE⟩
              obtain rfl : wD = wE := hwE.symm
              clear hwE
              go_wp2_with fail
              go_ret
              exact TrueB.mk CD.out
        · rw [HRN.out] at hL2
          cases hL2
end Go.Proofs.YtlpmkgcknopgoaaGreatDoor

/- What the listed variables, and the world's shape, give a walk; a world in which they are laid. -/
namespace Go.Proofs.YtlpmkgcknopgoaaGreatDoor
open Go Go.RowKit

def laid7 : List (String × DataW Unit) := [("math/bits.deBruijn32tab", Rows.laid_math_bits_deBruijn32tab), ("math/bits.deBruijn64tab", Rows.laid_math_bits_deBruijn64tab), ("internal/strconv.uint64pow10", Rows.laid_internal_strconv_uint64pow10), ("unicode/utf8.acceptRanges", Rows.laid_unicode_utf8_acceptRanges), ("strconv.ErrRange", Rows.laid_strconv_ErrRange), ("strconv.ErrSyntax", Rows.laid_strconv_ErrSyntax), ("unicode/utf8.first", Rows.laid_unicode_utf8_first)]
theorem plain7 (W : World) : laidMetH Tryz.prog laid7 W ↔ laidMet Tryz.prog laid7 W := by rw [MakeChecks.laidMetH_plain _ _ _ (by kernel_rfl)]
theorem lay_met (os : Os) (args : Array Value) : laidMetH Tryz.prog laid7 ((World.laidAll Tryz.prog os laid7).forCall (fun _ _ => 0) ⟨#[], args, []⟩).memory :=
  (plain7 _).2 (laidMet_laidAll _ (by kernel_rfl) (by kernel_rfl))
theorem cell_of_var {W : World} {n : String} {g : Nat} {v : Value} (hg : Tryz.prog.globalNamed n = some g) (h : W.var? Tryz.prog n = some #[v]) : W.cell? ⟨g, 0, none⟩ = some v := by
  unfold World.var? at h
  rw [hg] at h
  simp only [Option.bind_some] at h
  unfold World.cell?
  split at h
  · rename_i cs t fz he
    rw [he]
    cases h
    rfl
  · cases h
theorem star9 : "*" ++ "errors.errorString" = "*errors.errorString" := by decide
theorem errRow (u : TypeId) (h : Tryz.prog.typeName? 3 u = some "*errors.errorString") : u = 162 :=
  typeName_ptr_named (nm := "errors.errorString") (by rw [star9]; kernel_rfl) (by kernel_rfl) (by decide) u (by rw [star9]; exact h)
theorem of_laid {W : World} (hs : W.ShapedOpen Tryz.prog) (h : laidMetH Tryz.prog laid7 W) : Dr W := by
  rw [plain7] at h
  have h2 := laidMet.tail h
  have h3 : Lib.TabIs Tryz.prog W "math/bits.deBruijn64tab" .u8 [0, 1, 56, 2, 57, 49, 28, 3, 61, 58, 42, 50, 38, 29, 17, 4, 62, 47, 59, 36, 45, 43, 51, 22, 53, 39, 33, 30, 24, 18, 12, 5, 63, 55, 48, 27, 60, 41, 37, 16, 46, 35, 44, 21, 52, 32, 23, 11, 54, 26, 40, 15, 34, 20, 31, 10, 25, 14, 19, 9, 13, 8, 7, 6] :=
    Lib.tabIs_of_head (g := 8) (t := 171) (e := 5) (n := 64) (by kernel_rfl) (by kernel_rfl) (by kernel_rfl) (by kernel_rfl) (by kernel_rfl) (by kernel_rfl) h2
  have h5 := laidMet.tail (laidMet.tail (laidMet.tail h2))
  have h6 := laidMet.tail h5
  refine ⟨h3.cell (by kernel_rfl) 15 (by decide), ?_, ?_, ?_⟩
  · obtain ⟨a, s, hv, -⟩ := laid_sentinel (g := 2) (ti := 108) (tp := 162) (te := 164) (ts := 9) h6 (by kernel_rfl) (by kernel_rfl) Tryz.underlying108 errRow Tryz.underlying162 Tryz.underlying164 rfl rfl Tryz.underlying9 (by kernel_rfl) (by kernel_rfl)
    exact ⟨_, _, cell_of_var (by kernel_rfl) hv⟩
  · obtain ⟨a, s, hv, -⟩ := laid_sentinel (g := 3) (ti := 108) (tp := 162) (te := 164) (ts := 9) h5 (by kernel_rfl) (by kernel_rfl) Tryz.underlying108 errRow Tryz.underlying162 Tryz.underlying164 rfl rfl Tryz.underlying9 (by kernel_rfl) (by kernel_rfl)
    exact ⟨_, _, cell_of_var (by kernel_rfl) hv⟩
  · exact cell_of_shapedOpen_int (P := Tryz.prog) (g := 4) (t := 3) (zero := #[.int .i64 0]) hs (of_decide_eq_true (by kernel_rfl)) (by kernel_rfl) rfl (by kernel_rfl) (by kernel_rfl) Tryz.underlying3
end Go.Proofs.YtlpmkgcknopgoaaGreatDoor

/- The wrap of a row that lists variables, the world's shape kept. -/
namespace Go.Proofs.YtlpmkgcknopgoaaGreatDoor
open Go
variable {H : Type} {enc : TypeId × Value → H}

theorem returnsInHanded_laid_shaped {a : Assume} {C : Checked} {os : Os} {f : FuncId} {fn : Func} {s : ChangeSpec} {conds : List PathCond} {apart fresh handsOn again : Bool} {X : World → Array Value → Prop}
    (hX : ∀ (w w' : World) (args : Array Value), w.heap = w'.heap → X w args → X w' args)
    (own : ownKnob C.prog.godebug = none) (started : os.Started) (noInit : C.prog.inits.idxOf? f = none) (hfn : C.prog.funcs[f]? = some fn)
    (witness : ∃ (w : World) (tape : Tape) (i : Input), w.os = os ∧ (w.forCall tape i).Shaped C.prog ∧ i.vars = [] ∧ Input.okWide C.prog (w.forCall tape i) .any w.heap.size f i ∧
      ((s.pre enc C.prog fn conds apart (w.forCall tape i).memory i.args ∧ X (w.forCall tape i).memory i.args) ∧ sizedMet enc C.prog fn (OpenSpec.ofChange s) apart (w.forCall tape i).memory i.args) ∧ a.holds C.prog (lone (Frame.enter C.prog f i.args .normal) [] (w.forCall tape i)))
    (contract : ∀ (W : World) (base : Nat) (args : Array Value) (ds gs : List (DataW H)) (before : List MemPlace),
      (∀ (j : Nat) t v, fn.params[j]? = some t → args[j]? = some v → Value.okWide C.prog W .any base t v) →
      DataW.Whole enc C.prog fn.params.toList s.vars apart W args.toList ds gs before →
      W.ShapedOpen C.prog → X W args →
      Calls C.prog f args W fun e W' => ∃ v, e = .returned v ∧ s.post enc C.prog fn apart fresh handsOn again W args v W') :
    ReturnsInHanded a C os f .any (fun w args => (s.pre enc C.prog fn conds apart w args ∧ X w args) ∧ sizedMet enc C.prog fn (OpenSpec.ofChange s) apart w args) (s.post enc C.prog fn apart fresh handsOn again) := by
  refine returnsInHanded_of_calls own started noInit witness ?_
  intro w tape i _ hsh _ hok hpre hholds
  obtain ⟨_, _, _, fn', hfn', _, _, _, _, hval⟩ := hok
  have e : fn' = fn := Option.some.inj (hfn'.symm.trans hfn)
  subst e
  obtain ⟨⟨⟨ds, gs, before, hw, hc⟩, hx⟩, hz⟩ := hpre
  have hw' := DataW.Whole.of_heap (w' := w.forCall tape i) (by rfl) hw
  refine (contract (w.forCall tape i) w.heap.size i.args ds gs before hval hw' hsh (hX _ _ _ (by rfl) hx)).mono fun e W' ⟨v, he, hp⟩ => ?_
  subst he
  exact ChangeSpec.post_blind hp
end Go.Proofs.YtlpmkgcknopgoaaGreatDoor

/- FnNumbers returns true for every input; the package variables that it names begin as the program lays them. -/
namespace Go.Proofs.YtlpmkgcknopgoaaGreatDoor.lawNumbers
open Go.ChangeShapes Go.WideShapes Go.ChangeAt Go.RowKit

theorem own : ownKnob Tryz.prog.godebug = none := by kernel_rfl
theorem laidOut : laidOutB Tryz.prog = true := by kernel_rfl

set_option maxRecDepth 100000 in
theorem lifted (os : Os) (started : os.Started) (H : Type) (enc : TypeId × Value → H) :
    ReturnsInHanded {} Tryz.checked os 4 .any (fun w args => (Rows.fnNumbersSpec.pre enc Tryz.prog Tryz.f4 [] false w args ∧ laidMetH Tryz.prog laid7 w) ∧ sizedMet enc Tryz.prog Tryz.f4 (OpenSpec.ofChange Rows.fnNumbersSpec) false w args)
      (Rows.fnNumbersSpec.post enc Tryz.prog Tryz.f4 false true false false) := by
  refine returnsInHanded_laid_shaped (C := Tryz.checked) (X := fun w _ => laidMetH Tryz.prog laid7 w) (fun _ _ _ hh h => h.of_heap hh) own started (by kernel_rfl) Tryz.func4
    (ChangeSpec.witness_shaped (enc := enc) (C := Tryz.checked) (os := os) (X := fun w _ => laidMetH Tryz.prog laid7 w) false (World.laidAll Tryz.prog os laid7) #[.slice none 0 0, .slice none 0 0] 8 (World.laidAll_os _ _ _) (World.shaped_of_ZipB (by kernel_rfl) (by kernel_rfl)) (by kernel_rfl) (by kernel_rfl) (by kernel_rfl) (lay_met os _)) ?_
  intro W base args ds gs before hval0 hW hsh hL
  have hval : ∀ (j : Nat) t v, Tryz.f4.params[j]? = some t → args[j]? = some v → Value.okWide Tryz.prog W .any base t v := hval0
  have hW' := hW
  obtain ⟨p, q, hA0, hV, rfl, hfz, hnd⟩ := hW
  have hA : DataW.TrodAll enc Tryz.prog W 0 (fun _ => true) true Tryz.f4.params.toList args.toList ds p := hA0
  rw [Tryz.params4] at hA hval
  obtain ⟨v0, vs0, d0, ds0, p0, q0, hargs, rfl, rfl, h0, r0⟩ := trodAll_cons hA
  obtain ⟨v1, vs1, d1, ds1, p1, q1, rfl, rfl, rfl, h1, r1⟩ := trodAll_cons r0
  obtain ⟨rfl, rfl, rfl⟩ := trodAll_nil r1
  obtain rfl : args = #[v0, v1] := by cases args; simp_all
  obtain ⟨rfl, rfl⟩ := trodVars_none hV
  have k0 := h0
  have lt0 : ∀ x ∈ p0, x.block < W.heap.size := by obtain ⟨m, hm⟩ := k0; exact DataW.trod_lt m _ _ _ hm
  have k1 := h1
  have lt1 : ∀ x ∈ p1, x.block < W.heap.size := by obtain ⟨m, hm⟩ := k1; exact DataW.trod_lt m _ _ _ hm
  obtain ⟨a0, len0, cap0, rfl⟩ := okWide_slice Tryz.underlying22 (hval 0 22 v0 rfl rfl)
  obtain ⟨m0, R0⟩ := open_bytes Tryz.underlying22 Tryz.underlying5 (by kernel_rfl) h0
  obtain ⟨a1, len1, cap1, rfl⟩ := okWide_slice Tryz.underlying22 (hval 1 22 v1 rfl rfl)
  obtain ⟨m1, R1⟩ := open_bytes Tryz.underlying22 Tryz.underlying5 (by kernel_rfl) h1
  clear hA0 hval0
  refine (lawNumbers_any W _ _ _ _ R0 R1 m0 m1 (of_laid hsh hL)).mono fun e W' ⟨he, bel⟩ => ?_
  subst he
  exact ⟨_, rfl, _, _, _, [], _, [], hW', trodAll_mk1 (shut_bool Tryz.underlying4 _), (trodAll_cons_mk (Below.trod laidOut (by kernel_rfl) (of_decide_eq_true (by kernel_rfl)) k0 bel lt0) (trodAll_cons_mk (Below.trod laidOut (by kernel_rfl) (of_decide_eq_true (by kernel_rfl)) k1 bel lt1) trodAll_mk0)), rfl, bel.frame _, fun h => by cases h⟩

theorem over : Rows.fnNumbersRow.holds Tryz.pinned (OpenSpec.ofChange Rows.fnNumbersSpec) :=
  OpenClaim.holds_of_wide 4 Tryz.f4 rfl rfl rfl rfl rfl rfl rfl ⟨rfl, rfl, rfl, rfl, rfl⟩ rfl rfl rfl rfl rfl (by kernel_rfl) Tryz.func4 (by kernel_rfl)
    (of_decide_eq_true (by kernel_rfl)) (by unfold Func.isWrapper; first | (rw [if_pos (by decide +kernel)]; kernel_rfl) | (rw [if_neg (by decide +kernel)]; exact ⟨rfl, rfl⟩))
    (fun os started H enc _ => lifted os started H enc)

/-- THE STATEMENT. -/
theorem proved : Rows.FnNumbersSaid := over
end Go.Proofs.YtlpmkgcknopgoaaGreatDoor.lawNumbers

/- The tied card of FnNumbers. -/
namespace Go.Proofs.YtlpmkgcknopgoaaGreatDoor.lawNumbers
open Go

theorem card : Rows.FnNumbersCardSaid :=
  Claim7.holds_tied_plain_at .later [] [.data, .data, .data, .data, .sentinel, .sentinel, .pinned] true (true, "ded60722041a26fdb6866281c3fa5bd126e16f72c48e063ab9476be98a50528f") true
    proved (fun _ h => by cases h) (by kernel_rfl) (fun _ h => by cases h) fnNumbers_row_tie rfl ⟨rfl, rfl⟩ (by kernel_rfl) rfl
    (fun f fn hf hfn => by
      obtain rfl : f = 4 := Option.some.inj ((show Tryz.prog.funcNamed "loop.example/g01231/laws.FnNumbers" = some 4 by kernel_rfl).symm.trans hf) |>.symm
      obtain rfl : fn = Tryz.f4 := (Option.some.inj (Tryz.func4.symm.trans hfn)).symm
      exact ⟨by kernel_rfl, fun j t ht => by
        rw [Tryz.params4] at ht
        have hm : t ∈ [22, 22] := by simpa using Array.mem_of_getElem? ht
        have hall : ([22, 22].all fun u => !Tryz.prog.wantsStandIn u) = true := by kernel_rfl
        exact (show Tryz.prog.wantsStandIn t = false by simpa using List.all_eq_true.1 hall t hm)⟩)
    (by kernel_rfl)
end Go.Proofs.YtlpmkgcknopgoaaGreatDoor.lawNumbers

