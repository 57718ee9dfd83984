/- Several texts in one: Dw, Dx, Dy, Nu1, Sni, Nu2, Pd1, Pd2, Pd3, Pd4, Pd5, Pd6, Tru, FinPd, Laid9, Hsh, PrPd, CdPd. -/
import Derived.Test.YtlpmkgcknopgoaaGreatDoorSrc
import Derived.Test.YtlpmkgcknopgoaaGreatDoorOwn
import Derived.Test.YtlpmkgcknopgoaaGreatDoorRelOp
import Derived.Test.YtlpmkgcknopgoaaGreatDoorAgx
import Derived.Test.YtlpmkgcknopgoaaGreatDoorTxN
import Derived.Test.YtlpmkgcknopgoaaGreatDoorSne
import Derived.Test.YtlpmkgcknopgoaaGreatDoorRb
import Derived.Test.YtlpmkgcknopgoaaGreatDoorRows
import Derived.ProofKit
import Derived.LaidMore
import Derived.LaidLaws
import Derived.LaidHandle
import Derived.Stop.Joined
import Derived.Lib.LaidTab
import Derived.MakeChecks
import Derived.Stop.LaidErr
import Derived.Lay
import Derived.Shelf.Vars
import Derived.Test.YtlpmkgcknopgoaaGreatDoorOpn
import Derived.HandedShaped
import Derived.Test.YtlpmkgcknopgoaaGreatDoorOpnB
import Derived.Laws.Cover2
import Derived.Test.YtlpmkgcknopgoaaGreatDoorTie
import Derived.Test.YtlpmkgcknopgoaaGreatDoorCards
import Derived.SevenTiedAt
/- Walks: the draws of numbers, whatever they are. -/
namespace Go.Proofs.YtlpmkgcknopgoaaGreatDoor
open Go Go.RowKit

/-- The bytes stay readable while the source moves on. -/
def RY (w : World) (g : Nat) (a : Option Addr) (n c : Nat) : Prop := ∀ w'', Chg w w'' (fun k => k = g) → RdY w'' (.slice a n c) n
theorem RY.next {w w' : World} {g n c : Nat} {a : Option Addr} (h : RY w g a n c) (hc : Chg w w' (fun k => k = g)) : RY w' g a n c := fun w'' h2 => h w'' (hc.trans h2)
theorem RY.now {w : World} {g n c : Nat} {a : Option Addr} (h : RY w g a n c) : RdY w (.slice a n c) n := h w (Chg.refl _ _)
set_option maxRecDepth 100000 in
set_option maxHeartbeats 1600000 in
theorem pickA_any (w : World) (g : Nat) (a : Option Addr) (n c : Nat) (t m : Int) (hs : Src w g a n c t) (hy : RY w g a n c) (hn : n ≤ 1048576) (ht : 0 ≤ t) (ht2 : t ≤ 900000) (hm : 2 ≤ m) (hm2 : m ≤ 65536) :
    Calls Tryz.prog 39 #[.pointer (some ⟨g, 0, none⟩), .int .i64 m] w fun e w' => ∃ v t' : Int, e = .returned (.int .i64 v) ∧ 0 ≤ v ∧ v < m ∧ Src w' g a n c t' ∧ t ≤ t' ∧ t' ≤ t + 2 ∧ Chg w w' (fun k => k = g) := by
  have HY := Lib.hid hy
  have HN := Lib.hid (next_any w g a n c t hs hy.now hn ht (by omega))
  clear hs hy
  go_enter Tryz.func39, Tryz.ntmps39
  go_wp2_with fail
  refine HN.out.mono ?_
  rintro e w1 ⟨v, rfl, hv0, hv1, hs1, hc1⟩
  have HS := Lib.hid hs1
  have HC := Lib.hid hc1
  have hm0 : ¬ m = 0 := by omega
  clear hs1 hc1 HN
  by_cases hb : m ≤ 200
  · have hr0 : 0 ≤ v % m := Int.emod_nonneg _ hm0
    have hr1 : v % m < m := Int.emod_lt_of_pos _ (by omega)
    go_wp2
    go_ret
    exact ⟨v % m, t + 1, rfl, hr0, hr1, HS.out, by omega, by omega, HC.out⟩
  · have HN2 := Lib.hid (next_any w1 g a n c (t + 1) HS.out (HY.out.next HC.out).now hn (by omega) (by omega))
    go_wp2_with fail
    refine HN2.out.mono ?_
    rintro e w2 ⟨v2, rfl, hv20, hv21, hs2, hc2⟩
    have HS2 := Lib.hid hs2
    have HC2 := Lib.hid (HC.out.trans hc2)
    clear hs2 hc2 HN2
    have hr0 : 0 ≤ (v * 256 + v2) % m := Int.emod_nonneg _ hm0
    have hr1 : (v * 256 + v2) % m < m := Int.emod_lt_of_pos _ (by omega)
    go_wp2
    go_ret
    exact ⟨(v * 256 + v2) % m, t + 1 + 1, rfl, hr0, hr1, HS2.out, by omega, by omega, HC2.out⟩
set_option maxRecDepth 100000 in
set_option maxHeartbeats 800000 in
theorem one_any (w : World) (g : Nat) (a : Option Addr) (n c : Nat) (t m : Int) (hs : Src w g a n c t) (hy : RY w g a n c) (hn : n ≤ 1048576) (ht : 0 ≤ t) (ht2 : t ≤ 900000) (hm : 2 ≤ m) (hm2 : m ≤ 200) :
    Calls Tryz.prog 51 #[.pointer (some ⟨g, 0, none⟩), .int .i64 m] w fun e w' => ∃ (b : Bool) (t' : Int), e = .returned (.bool b) ∧ Src w' g a n c t' ∧ t ≤ t' ∧ t' ≤ t + 2 ∧ Chg w w' (fun k => k = g) := by
  have HP := Lib.hid (pickA_any w g a n c t m hs hy hn ht ht2 hm (by omega))
  clear hs hy
  go_enter Tryz.func51, Tryz.ntmps51
  go_wp2_with fail
  refine HP.out.mono ?_
  rintro e w1 ⟨v, t', rfl, hv0, hv1, hs1, ht3, ht4, hc1⟩
  have HS := Lib.hid hs1
  have HC := Lib.hid hc1
  clear hs1 hc1 HP
  go_wp2
  go_ret
  exact ⟨_, t', rfl, HS.out, ht3, ht4, HC.out⟩
set_option maxRecDepth 100000 in
set_option maxHeartbeats 1600000 in
theorem drawPlain_any (w : World) (g : Nat) (a : Option Addr) (n c : Nat) (t : Int) (hs : Src w g a n c t) (hy : RY w g a n c) (hn : n ≤ 1048576) (ht : 0 ≤ t) (ht2 : t ≤ 800000) :
    Calls Tryz.prog 83 #[.pointer (some ⟨g, 0, none⟩)] w fun e w' => ∃ (r x : Nat) (t' : Int), e = .returned (.float .f32 r) ∧ FV .f32 r x ∧ Src w' g a n c t' ∧ t ≤ t' ∧ t' ≤ t + 4 ∧ Chg w w' (fun k => k = g) := by
  have hquo := run_fquo (P := Tryz.prog)
  have HY := Lib.hid hy
  have HP := Lib.hid (pickA_any w g a n c t 129 hs hy hn ht (by omega) (by decide) (by decide))
  clear hs hy
  go_enter Tryz.func83, Tryz.ntmps83
  go_wp2_with fail
  refine HP.out.mono ?_
  rintro e w1 ⟨v, t1, rfl, hv0, hv1, hs1, ht3, ht4, hc1⟩
  have HC := Lib.hid hc1
  have HO := Lib.hid (one_any w1 g a n c t1 4 hs1 (HY.out.next hc1) hn (by omega) (by omega) (by decide) (by decide))
  clear hs1 hc1 HP
  go_wp2_with fail
  refine HO.out.mono ?_
  rintro e w2 ⟨b, t2, rfl, hs2, ht5, ht6, hc2⟩
  have HS := Lib.hid hs2
  have HC2 := Lib.hid (HC.out.trans hc2)
  clear hs2 hc2 HO
  have f7 : FV .f32 1088421888 1088421888 := ⟨by decide, by decide +kernel⟩
  have f16 : FV .f32 1098907648 1098907648 := ⟨by decide, by decide +kernel⟩
  cases b with
  | true =>
    go_wp2
    go_ret
    exact ⟨_, _, t2, rfl, (floatOfInt_fv .f32 (v - 64)).op f7 _, HS.out, by omega, by omega, HC2.out.drewN _⟩
  | false =>
    go_wp2
    go_ret
    exact ⟨_, _, t2, rfl, (floatOfInt_fv .f32 (v - 64)).op f16 _, HS.out, by omega, by omega, HC2.out.drewN _⟩
/-- One of some numbers. -/
def RdJn (w : World) (v : Value) (m : Nat) : Prop := ∃ b c, v = .slice (some ⟨b, 0, none⟩) m c ∧ b < w.heap.size ∧ ∀ j, j < m → ∃ x : Int, w.cell? ⟨b, j, none⟩ = some (.int .i64 x) ∧ 0 ≤ x ∧ x < 4294967296
set_option maxRecDepth 100000 in
set_option maxHeartbeats 1600000 in
theorem among_any (w : World) (g : Nat) (a : Option Addr) (n c : Nat) (t : Int) (v : Value) (m : Nat) (hs : Src w g a n c t) (hy : RY w g a n c) (hn : n ≤ 1048576) (ht : 0 ≤ t) (ht2 : t ≤ 800000) (hm : 2 ≤ m) (hm2 : m ≤ 200) (hv : RdJn w v m) (hg : v.ownBlock ≠ some g) :
    Calls Tryz.prog 84 #[.pointer (some ⟨g, 0, none⟩), v] w fun e w' => ∃ x t' : Int, e = .returned (.int .i64 x) ∧ 0 ≤ x ∧ x < 4294967296 ∧ Src w' g a n c t' ∧ t ≤ t' ∧ t' ≤ t + 2 ∧ Chg w w' (fun k => k = g) := by
  obtain ⟨b, cv, rfl, hb, hcell⟩ := hv
  have hbg : b ≠ g := fun h => hg (by rw [h]; rfl)
  have HP := Lib.hid (pickA_any w g a n c t m hs hy hn ht (by omega) (by omega) (by omega))
  clear hs hy hg
  go_enter Tryz.func84, Tryz.ntmps84
  go_wp2_with fail
  refine HP.out.mono ?_
  rintro e w1 ⟨v, t1, rfl, hv0, hv1, hs1, ht3, ht4, hc1⟩
  obtain ⟨j, rfl⟩ : ∃ j : Nat, v = j := ⟨v.toNat, by omega⟩
  obtain ⟨x, hx, hx0, hx1⟩ := hcell j (by omega)
  have e1 : w1.cell? ⟨b, j, none⟩ = some (.int .i64 x) := by rw [World.cell?_of_block (hc1.block b hb hbg)]; exact hx
  have HS := Lib.hid hs1
  have HC := Lib.hid hc1
  have hji : (j : Int) < (m : Int) := hv1
  clear hs1 hc1 HP hcell hx
  go_wp2
  go_ret
  exact ⟨x, t1, rfl, hx0, hx1, HS.out, ht3, ht4, HC.out⟩
end Go.Proofs.YtlpmkgcknopgoaaGreatDoor

/- Walks: numbers of any kind that are drawn. -/
namespace Go.Proofs.YtlpmkgcknopgoaaGreatDoor
open Go Go.RowKit

theorem run_frombitsX (w : World) (n : Nat) (h : n < 4294967296) : (callFunc 55 #[.int .u32 (n : Int)]).run Tryz.prog w = .ok (.value (.float .f32 n)) w := by
  kernel_rfl
theorem l01FromX_any (w : World) (x : Int) (h0 : 0 ≤ x) (h : x < 4294967296) :
    Calls Tryz.prog 52 #[.int .i64 x] w fun e w' => ∃ r, e = .returned (.float .f32 r) ∧ FV .f32 r (can .f32 r) ∧ (r : Int) = x ∧ w' = w := by
  obtain ⟨n, rfl⟩ : ∃ n : Nat, x = n := ⟨x.toNat, by omega⟩
  have hn : n < 4294967296 := by omega
  have hfb := run_frombitsX w n hn
  go_enter Tryz.func52, Tryz.ntmps52
  go_wp2
  go_ret
  exact ⟨n, rfl, ⟨by rw [width32]; exact hn, rfl⟩, rfl, rfl⟩
theorem rdJn_new {w : World} {m : Nat} {xs : List Int} {cs : Array Value} {ty : TypeId} (hcs : cs = (xs.map (Value.int .i64)).toArray) (hx : ∀ x ∈ xs, 0 ≤ x ∧ x < 4294967296) (hn : xs.length = m) : RdJn (w.alloc (.cells cs ty)) (.slice (some ⟨w.heap.size, 0, none⟩) m m) m := by
  refine ⟨w.heap.size, m, rfl, by rw [World.size_alloc]; omega, fun j hj => ?_⟩
  subst hcs
  have hj2 : j < xs.length := by omega
  refine ⟨xs[j], ?_, hx _ (List.getElem_mem hj2)⟩
  rw [cell_of_row _ _ j _ _ _ (alloc_new _ _)]
  simp [hj2]
theorem Src.lt {w : World} {g n c : Nat} {a : Option Addr} {t : Int} (h : Src w g a n c t) : g < w.heap.size := by
  obtain ⟨sd, h1, -⟩ := h
  exact (Array.getElem?_eq_some_iff.1 h1).1
theorem Src.ext {w w' : World} {g n c : Nat} {a : Option Addr} {t : Int} (h : Src w g a n c t) (hx : Below w.heap.size w w') : Src w' g a n c t := by
  have hg := h.lt
  obtain ⟨sd, h1, h2⟩ := h
  exact ⟨sd, (hx.block g hg).trans h1, h2⟩
set_option maxRecDepth 100000 in
set_option maxHeartbeats 6400000 in
theorem drawFloat_any (w : World) (g : Nat) (a : Option Addr) (n c : Nat) (t : Int) (hs : Src w g a n c t) (hy : RY w g a n c) (hn : n ≤ 1048576) (ht : 0 ≤ t) (ht2 : t ≤ 700000) :
    Calls Tryz.prog 53 #[.pointer (some ⟨g, 0, none⟩)] w fun e w' => ∃ (r x : Nat) (t' : Int), e = .returned (.float .f32 r) ∧ FV .f32 r x ∧ Src w' g a n c t' ∧ t ≤ t' ∧ t' ≤ t + 12 ∧ Chg w w' (fun k => k = g) := by
  have hmul := run_fmul (P := Tryz.prog)
  have HY := Lib.hid hy
  have HO := Lib.hid (one_any w g a n c t 12 hs hy hn ht (by omega) (by decide) (by decide))
  clear hs hy
  go_enter Tryz.func53, Tryz.ntmps53
  go_wp2_with fail
  refine HO.out.mono ?_
  rintro e w1 ⟨b, t1, rfl, hs1, h1a, h1b, hc1⟩
  have C1 := Lib.hid hc1
  have S1 := Lib.hid hs1
  clear hs1 hc1 HO
  cases b with
  | false =>
    go_wp2_with fail
    refine (drawPlain_any w1 g a n c t1 S1.out (HY.out.next C1.out) hn (by omega) (by omega)).mono ?_
    rintro e w2 ⟨r, x, t2, rfl, hf, hs2, h2a, h2b, hc2⟩
    have F2 := Lib.hid hf
    have S2 := Lib.hid hs2
    have C2 := Lib.hid (C1.out.trans hc2)
    clear hf hs2 hc2
    go_wp2
    go_ret
    exact ⟨r, x, t2, rfl, F2.out, S2.out, by omega, by omega, C2.out⟩
  | true =>
    go_wp2_with fail
    refine (pickA_any w1 g a n c t1 4 S1.out (HY.out.next C1.out) hn (by omega) (by omega) (by decide) (by decide)).mono ?_
    rintro e w2 ⟨v, t2, rfl, hv0, hv1, hs2, h2a, h2b, hc2⟩
    have S2 := Lib.hid hs2
    have C2 := Lib.hid (C1.out.trans hc2)
    clear hs2 hc2 S1
    have hv : v = 0 ∨ v = 1 ∨ v = 2 ∨ v = 3 := by omega
    rcases hv with rfl | rfl | rfl | rfl
    · have xa : Below w2.heap.size w2 (w2.alloc (.cells #[.int .i64 0, .int .i64 2147483648, .int .i64 2139095040, .int .i64 4286578688, .int .i64 2143289344, .int .i64 1, .int .i64 2139095039, .int .i64 8388608, .int .i64 8388607, .int .i64 2147483649] 2)) := (Below.refl _ _).alloc (Nat.le_refl _) _
      have CA := Lib.hid (C2.out.trans (Chg.of_below xa (fun k => k = g)))
      have hgl := S2.out.lt
      have HA := Lib.hid (among_any _ g a n c t2 (.slice (some ⟨w2.heap.size, 0, none⟩) 10 10) 10 (S2.out.ext xa) (HY.out.next CA.out) hn (by omega) (by omega) (by decide) (by decide)
        (rdJn_new (xs := [0, 2147483648, 2139095040, 4286578688, 2143289344, 1, 2139095039, 8388608, 8388607, 2147483649]) rfl (by decide) rfl) (by intro h; have h2 : w2.heap.size = g := Option.some.inj h; omega))
      clear xa
      go_wp2_with fail
      refine HA.out.mono ?_
      rintro e w3 ⟨x, t3, rfl, hx0, hx1, hs3, h3a, h3b, hc3⟩
      have S3 := Lib.hid hs3
      have C3 := Lib.hid (CA.out.trans hc3)
      clear hs3 hc3 HA
      go_wp2_with fail
      refine (l01FromX_any w3 x hx0 hx1).mono ?_
      rintro e w4 ⟨r, rfl, hf, -, hw4⟩
      obtain rfl : w3 = w4 := hw4.symm
      have F := Lib.hid hf
      clear hf hw4
      go_wp2
      go_ret
      exact ⟨r, _, t3, rfl, F.out, S3.out, by omega, by omega, C3.out⟩
    · go_wp2_with fail
      refine (pickA_any w2 g a n c t2 65536 S2.out (HY.out.next C2.out) hn (by omega) (by omega) (by decide) (by decide)).mono ?_
      rintro e w3 ⟨v, t3, rfl, hv0, hv1, hs3, h3a, h3b, hc3⟩
      have S3 := Lib.hid hs3
      have C3 := Lib.hid (C2.out.trans hc3)
      clear hs3 hc3
      go_wp2_with fail
      refine (pickA_any w3 g a n c t3 65536 S3.out (HY.out.next C3.out) hn (by omega) (by omega) (by decide) (by decide)).mono ?_
      rintro e w4 ⟨v2, t4, rfl, hv20, hv21, hs4, h4a, h4b, hc4⟩
      have S4 := Lib.hid hs4
      have C4 := Lib.hid (C3.out.trans hc4)
      clear hs4 hc4
      go_wp2_with fail
      refine (l01FromX_any w4 (v * 65536 + v2) (by omega) (by omega)).mono ?_
      rintro e w5 ⟨r, rfl, hf, -, hw5⟩
      obtain rfl : w4 = w5 := hw5.symm
      have F := Lib.hid hf
      clear hf hw5
      go_wp2
      go_ret
      exact ⟨r, _, t4, rfl, F.out, S4.out, by omega, by omega, C4.out⟩
    · go_wp2_with fail
      refine (pickA_any w2 g a n c t2 65536 S2.out (HY.out.next C2.out) hn (by omega) (by omega) (by decide) (by decide)).mono ?_
      rintro e w3 ⟨v, t3, rfl, hv0, hv1, hs3, h3a, h3b, hc3⟩
      have S3 := Lib.hid hs3
      have C3 := Lib.hid (C2.out.trans hc3)
      clear hs3 hc3
      go_wp2_with fail
      refine (l01FromX_any w3 (v * 65536) (by omega) (by omega)).mono ?_
      rintro e w5 ⟨r, rfl, hf, -, hw5⟩
      obtain rfl : w3 = w5 := hw5.symm
      have F := Lib.hid hf
      clear hf hw5
      go_wp2
      go_ret
      exact ⟨r, _, t3, rfl, F.out, S3.out, by omega, by omega, C3.out⟩
    · go_wp2_with fail
      refine (drawPlain_any w2 g a n c t2 S2.out (HY.out.next C2.out) hn (by omega) (by omega)).mono ?_
      rintro e w3 ⟨r3, x3, t3, rfl, hf3, hs3, h3a, h3b, hc3⟩
      have F3 := Lib.hid hf3
      have S3 := Lib.hid hs3
      have C3 := Lib.hid (C2.out.trans hc3)
      clear hf3 hs3 hc3
      have xa : Below w3.heap.size w3 (w3.alloc (.cells #[.int .i64 8388608, .int .i64 2130706432, .int .i64 1610612736, .int .i64 536870912] 2)) := (Below.refl _ _).alloc (Nat.le_refl _) _
      have CA := Lib.hid (C3.out.trans (Chg.of_below xa (fun k => k = g)))
      have hgl := S3.out.lt
      have HA := Lib.hid (among_any _ g a n c t3 (.slice (some ⟨w3.heap.size, 0, none⟩) 4 4) 4 (S3.out.ext xa) (HY.out.next CA.out) hn (by omega) (by omega) (by decide) (by decide)
        (rdJn_new (xs := [8388608, 2130706432, 1610612736, 536870912]) rfl (by decide) rfl) (by intro h; have h2 : w3.heap.size = g := Option.some.inj h; omega))
      clear xa
      go_wp2_with fail
      refine HA.out.mono ?_
      rintro e w4 ⟨x, t4, rfl, hx0, hx1, hs4, h4a, h4b, hc4⟩
      have S4 := Lib.hid hs4
      have C4 := Lib.hid (CA.out.trans hc4)
      clear hs4 hc4 HA
      go_wp2_with fail
      refine (l01FromX_any w4 x hx0 hx1).mono ?_
      rintro e w5 ⟨r, rfl, hf, -, hw5⟩
      obtain rfl : w4 = w5 := hw5.symm
      have F := Lib.hid hf
      clear hf hw5
      go_wp2
      go_ret
      exact ⟨_, _, t4, rfl, F3.out.op F.out _, S4.out.ext (Below.drewN (Below.refl _ _) _), by omega, by omega, C4.out.drewN _⟩
end Go.Proofs.YtlpmkgcknopgoaaGreatDoor

/- Walks: lists of numbers of any kind that are drawn; B10Number, B10Numbers. -/
namespace Go.Proofs.YtlpmkgcknopgoaaGreatDoor
open Go Go.RowKit

theorem Chg.below {a w w' : World} {S : Nat → Prop} (h : Chg a w S) (hb : Below a.heap.size w w') (hs : w.heap.size ≤ w'.heap.size) : Chg a w' S :=
  ⟨hb.os.trans h.os, hb.tape.trans h.tape, hb.output.trans h.output, Nat.le_trans h.size hs, fun k hk hn => (hb.block k hk).trans (h.block k hk hn)⟩
theorem Src.below {w w' : World} {g n c B : Nat} {a : Option Addr} {t : Int} (h : Src w g a n c t) (hg : g < B) (hx : Below B w w') : Src w' g a n c t := by
  obtain ⟨sd, h1, h2⟩ := h
  exact ⟨sd, (hx.block g hg).trans h1, h2⟩
set_option maxRecDepth 100000 in
set_option maxHeartbeats 6400000 in
theorem drawFloats_any (w : World) (g : Nat) (a : Option Addr) (n c m : Nat) (t : Int) (hs : Src w g a n c t) (hy : RY w g a n c) (hn : n ≤ 1048576) (ht : 0 ≤ t) (ht2 : t ≤ 100000) (hm : m ≤ 1000) :
    Calls Tryz.prog 64 #[.pointer (some ⟨g, 0, none⟩), .int .i64 (m : Nat)] w fun e w' => ∃ (v' : Value) (L : List Nat), e = .returned v' ∧ OwnF w' w.heap.size v' L ∧ L.length = m ∧ Chg w w' (fun k => k = g) := by
  have HY := Lib.hid hy
  have hgl := hs.lt
  have xa : Below w.heap.size w (w.alloc (.cells #[] 28)) := (Below.refl _ _).alloc (Nat.le_refl _) _
  have CA := Lib.hid (Chg.of_below xa (fun k => k = g))
  have O0 : Hid (OwnF (w.alloc (.cells #[] 28)) w.heap.size (.slice (some ⟨w.heap.size, 0, none⟩) 0 0) []) := Lib.hid ⟨[], rfl, fun j hj => (by cases hj), World.ownsRow_lit w #[] 0 (Nat.le_refl _) (by decide) rfl⟩
  have HO := Lib.hid (one_any _ g a n c t 4 (hs.ext xa) (HY.out.next CA.out) hn ht (by omega) (by decide) (by decide))
  clear hs hy xa
  go_enter Tryz.func64, Tryz.ntmps64
  go_wp2_with fail
  refine HO.out.mono ?_
  rintro e w1 ⟨b, t1, rfl, hs1, h1a, h1b, hc1⟩
  have C1 := Lib.hid (CA.out.trans hc1)
  have S1 := Lib.hid hs1
  have O1 := Lib.hid (O0.out.chg hc1 fun k hk e => by have := (O0.out.lt hk).1; omega)
  clear hs1 hc1 HO O0 CA
  go_wp2_with fail
  go_loopw [1, 5] (fun i o wr => ∃ (j : Nat) (L : List Nat) (t' : Int), j ≤ m ∧ i = .int .i64 ((m : Int) - j) ∧ L.length = j ∧ OwnF wr w.heap.size o L ∧ Src wr g a n c t' ∧ t ≤ t' ∧ t' ≤ t + 2 + 12 * j ∧ Chg w wr (fun k => k = g)) (fun i _ _ => (intOf i).toNat)
  case atStart => exact ⟨0, [], t1, Nat.zero_le _, by simp, rfl, O1.out, S1.out, by omega, by omega, C1.out⟩
  case round =>
    clear O1 S1 C1
    obtain ⟨wi, rfl⟩ : ∃ wi : World, wi = wr := ⟨_, rfl⟩
    obtain ⟨j, L, t', hj, rfl, hl, ho, hs, hta, htb, hc⟩ := hrel
    have HOw := Lib.hid ho
    have HC := Lib.hid hc
    have HS := Lib.hid hs
    have HLn := Lib.hid hl
    have hz := hc.size
    clear ho hs hc hl
    by_cases hlt : j < m
    · cases b with
      | true =>
        go_wp2_with fail
        refine (drawFloat_any wi g a n c t' HS.out (HY.out.next HC.out) hn (by omega) (by omega)).mono ?_
        rintro e w2 ⟨r, x, t2, rfl, hf, hs2, h2a, h2b, hc2⟩
        have F := Lib.hid hf
        have C2 := Lib.hid (HC.out.trans hc2)
        have hz2 := hc2.size
        have O2 := Lib.hid (HOw.out.chg hc2 fun k hk e => by have := (HOw.out.lt hk).1; omega)
        have xb : Below w2.heap.size w2 (w2.alloc (.cells #[.float .f32 r] 28)) := (Below.refl _ _).alloc (Nat.le_refl _) _
        have O3 := Lib.hid (O2.out.kept xb)
        have S2 := Lib.hid hs2
        have zb : (w2.alloc (.cells #[.float .f32 r] 28)).heap.size = w2.heap.size + 1 := World.size_alloc _ _
        have XB := Lib.hid xb
        have hgl2 := hs2.lt
        clear hf hs2 hc2 xb
        go_wp2_with (at_builtin; go_must (refine wpList_push rfl _ _ rfl w.heap.size _ L rfl O3.out _ _ _ x rfl (cell_new _ _ _) F.out (by rw [HLn.out]; omega) (by omega) ?_); intro v4 w4 o4 g4 b4 l4)
        have hbb := (XB.out.mono (show w.heap.size ≤ w2.heap.size by omega)).trans b4
        have hs4 := g4.size
        exact ⟨⟨j + 1, L ++ [x], t2, by omega, by congr 1; omega, by rw [List.length_append, HLn.out]; rfl, o4, S2.out.below hgl hbb, by omega, by omega, C2.out.below hbb (by omega)⟩, by simp [intOf]; omega⟩
      | false =>
        go_wp2_with fail
        refine (drawPlain_any wi g a n c t' HS.out (HY.out.next HC.out) hn (by omega) (by omega)).mono ?_
        rintro e w2 ⟨r, x, t2, rfl, hf, hs2, h2a, h2b, hc2⟩
        have F := Lib.hid hf
        have C2 := Lib.hid (HC.out.trans hc2)
        have hz2 := hc2.size
        have O2 := Lib.hid (HOw.out.chg hc2 fun k hk e => by have := (HOw.out.lt hk).1; omega)
        have xb : Below w2.heap.size w2 (w2.alloc (.cells #[.float .f32 r] 28)) := (Below.refl _ _).alloc (Nat.le_refl _) _
        have O3 := Lib.hid (O2.out.kept xb)
        have S2 := Lib.hid hs2
        have zb : (w2.alloc (.cells #[.float .f32 r] 28)).heap.size = w2.heap.size + 1 := World.size_alloc _ _
        have XB := Lib.hid xb
        have hgl2 := hs2.lt
        clear hf hs2 hc2 xb
        go_wp2_with (at_builtin; go_must (refine wpList_push rfl _ _ rfl w.heap.size _ L rfl O3.out _ _ _ x rfl (cell_new _ _ _) F.out (by rw [HLn.out]; omega) (by omega) ?_); intro v4 w4 o4 g4 b4 l4)
        have hbb := (XB.out.mono (show w.heap.size ≤ w2.heap.size by omega)).trans b4
        have hs4 := g4.size
        exact ⟨⟨j + 1, L ++ [x], t2, by omega, by congr 1; omega, by rw [List.length_append, HLn.out]; rfl, o4, S2.out.below hgl hbb, by omega, by omega, C2.out.below hbb (by omega)⟩, by simp [intOf]; omega⟩
    · obtain rfl : m = j := by omega
      go_wp2_with fail
      go_ret
      exact ⟨_, L, rfl, HOw.out, HLn.out, HC.out⟩
set_option maxRecDepth 100000 in
set_option maxHeartbeats 1600000 in
theorem b10Number_any (w : World) (v : Value) (n : Nat) (hy : RdY w v n) (hn : n ≤ 1048576) :
    Calls Tryz.prog 19 #[v] w fun e w' => ∃ r x, e = .returned (.float .f32 r) ∧ FV .f32 r x ∧ Below w.heap.size w w' := by
  obtain ⟨a, c, rfl, -, -⟩ := hy.opened
  have xa : Below w.heap.size w (w.alloc (.cells #[.slice a n c, .int .i64 0, .int .u64 0] 94)) := (Below.refl _ _).alloc (Nat.le_refl _) _
  have S0 : Hid (Src (w.alloc (.cells #[.slice a n c, .int .i64 0, .int .u64 0] 94)) w.heap.size a n c 0) := Lib.hid ⟨0, alloc_new _ _, by decide, by decide⟩
  have HCh : Hid (∀ w'', Chg (w.alloc (.cells #[.slice a n c, .int .i64 0, .int .u64 0] 94)) w'' (fun k => k = w.heap.size) → Below w.heap.size w w'') := Lib.hid fun w'' hc => Below.chg xa hc (fun k hk => by omega) (by rw [World.size_alloc]; omega)
  have HY : Hid (RY (w.alloc (.cells #[.slice a n c, .int .i64 0, .int .u64 0] 94)) w.heap.size a n c) := Lib.hid fun w'' hc => hy.mono (HCh.out w'' hc)
  have HF := Lib.hid (l00From_any w a n c)
  clear hy xa
  go_enter Tryz.func19, Tryz.ntmps19
  go_wp2_with fail
  refine HF.out.mono ?_
  rintro e w1 ⟨rfl, hw1⟩
  obtain ⟨W, hW⟩ : ∃ W, w.alloc (.cells #[.slice a n c, .int .i64 0, .int .u64 0] 94) = W := ⟨_, rfl⟩
  rw [hW] at hw1 S0 HCh HY
  obtain rfl : W = w1 := hw1.symm
  clear hW hw1 HF
  go_wp2_with fail
  refine (one_any W w.heap.size a n c 0 2 S0.out HY.out hn (by decide) (by decide) (by decide) (by decide)).mono ?_
  rintro e w2 ⟨b, t1, rfl, hs1, h1a, h1b, hc1⟩
  have S1 := Lib.hid hs1
  have C1 := Lib.hid hc1
  clear hs1 hc1
  cases b with
  | false =>
    go_wp2_with fail
    refine (drawFloat_any w2 w.heap.size a n c t1 S1.out (HY.out.next C1.out) hn (by omega) (by omega)).mono ?_
    rintro e w3 ⟨r, x, t3, rfl, hf, -, -, -, hc3⟩
    have F := Lib.hid hf
    have C3 := Lib.hid (C1.out.trans hc3)
    clear hf hc3
    go_wp2
    go_ret
    exact ⟨r, x, rfl, F.out, HCh.out _ C3.out⟩
  | true =>
    go_wp2_with fail
    refine (pickA_any w2 w.heap.size a n c t1 65536 S1.out (HY.out.next C1.out) hn (by omega) (by omega) (by decide) (by decide)).mono ?_
    rintro e w3 ⟨v, t3, rfl, hv0, hv1, hs3, h3a, h3b, hc3⟩
    have S3 := Lib.hid hs3
    have C3 := Lib.hid (C1.out.trans hc3)
    clear hs3 hc3
    go_wp2_with fail
    refine (pickA_any w3 w.heap.size a n c t3 65536 S3.out (HY.out.next C3.out) hn (by omega) (by omega) (by decide) (by decide)).mono ?_
    rintro e w4 ⟨v2, t4, rfl, hv20, hv21, hs4, h4a, h4b, hc4⟩
    have C4 := Lib.hid (C3.out.trans hc4)
    clear hs4 hc4
    go_wp2_with fail
    refine (l01FromX_any w4 (v * 65536 + v2) (by omega) (by omega)).mono ?_
    rintro e w5 ⟨r, rfl, hf, -, hw5⟩
    obtain rfl : w4 = w5 := hw5.symm
    have F := Lib.hid hf
    clear hf hw5
    go_wp2
    go_ret
    exact ⟨r, _, rfl, F.out, HCh.out _ C4.out⟩
set_option maxRecDepth 100000 in
set_option maxHeartbeats 1600000 in
theorem b10Numbers_any (w : World) (v : Value) (n m : Nat) (hy : RdY w v n) (hn : n ≤ 1048576) (hm : m ≤ 1000) :
    Calls Tryz.prog 29 #[v, .int .i64 (m : Nat)] w fun e w' => ∃ v' L, e = .returned v' ∧ OwnF w' w.heap.size v' L ∧ L.length = m ∧ Below w.heap.size w w' := by
  obtain ⟨a, c, rfl, -, -⟩ := hy.opened
  have xa : Below w.heap.size w (w.alloc (.cells #[.slice a n c, .int .i64 0, .int .u64 0] 94)) := (Below.refl _ _).alloc (Nat.le_refl _) _
  have S0 : Hid (Src (w.alloc (.cells #[.slice a n c, .int .i64 0, .int .u64 0] 94)) w.heap.size a n c 0) := Lib.hid ⟨0, alloc_new _ _, by decide, by decide⟩
  have HCh : Hid (∀ w'', Chg (w.alloc (.cells #[.slice a n c, .int .i64 0, .int .u64 0] 94)) w'' (fun k => k = w.heap.size) → Below w.heap.size w w'') := Lib.hid fun w'' hc => Below.chg xa hc (fun k hk => by omega) (by rw [World.size_alloc]; omega)
  have HY : Hid (RY (w.alloc (.cells #[.slice a n c, .int .i64 0, .int .u64 0] 94)) w.heap.size a n c) := Lib.hid fun w'' hc => hy.mono (HCh.out w'' hc)
  have HF := Lib.hid (l00From_any w a n c)
  have hzW : (w.alloc (.cells #[.slice a n c, .int .i64 0, .int .u64 0] 94)).heap.size = w.heap.size + 1 := World.size_alloc _ _
  clear hy xa
  go_enter Tryz.func29, Tryz.ntmps29
  go_wp2_with fail
  refine HF.out.mono ?_
  rintro e w1 ⟨rfl, hw1⟩
  obtain ⟨W, hW⟩ : ∃ W, w.alloc (.cells #[.slice a n c, .int .i64 0, .int .u64 0] 94) = W := ⟨_, rfl⟩
  rw [hW] at hw1 S0 HCh HY hzW
  obtain rfl : W = w1 := hw1.symm
  clear hW hw1 HF
  go_wp2_with fail
  refine (drawFloats_any W w.heap.size a n c m 0 S0.out HY.out hn (by decide) (by decide) hm).mono ?_
  rintro e w2 ⟨v', L, rfl, ho, hl, hc⟩
  obtain ⟨a2, n2, c2, rfl⟩ : ∃ a n c, v' = .slice a n c := by obtain ⟨a, c, h, -⟩ := ho.rd.opened; exact ⟨a, _, c, h⟩
  have O := Lib.hid ho
  have C := Lib.hid hc
  have HL := Lib.hid hl
  clear ho hc hl
  go_wp2
  go_ret
  exact ⟨_, L, rfl, O.out.mono (by omega), HL.out, HCh.out _ C.out⟩
end Go.Proofs.YtlpmkgcknopgoaaGreatDoor

/- Walks: bits, subnormal numbers, sums and texts of numbers. -/
namespace Go.Proofs.YtlpmkgcknopgoaaGreatDoor
open Go Go.RowKit

theorem beq_cast (x y : Nat) : ((x : Int) == (y : Int)) = (x == y) := by
  rw [Bool.eq_iff_iff, beq_iff_eq, beq_iff_eq]
  omega
set_option maxRecDepth 100000 in
set_option maxHeartbeats 400000 in
theorem isListF_any (w : World) (a : Option Addr) (n c : Nat) (h : n ≤ 256) :
    Calls Tryz.prog 65 #[.slice a n c] w fun e w' => e = .returned (.bool true) ∧ w' = w := by
  have hd : decide ((n : Int) ≤ 256) = true := by simp; omega
  go_enter Tryz.func65, Tryz.ntmps65
  go_wp2
  go_ret
  exact ⟨rfl, rfl⟩
set_option maxRecDepth 100000 in
set_option maxHeartbeats 800000 in
theorem numbersText_any (w : World) (v : Value) (L : List Nat) (h : RdF w v L) (hm : L.length ≤ 256) (hT : Tab16 w) :
    Calls Tryz.prog 31 #[v] w fun e w' => e = .returned (.tuple #[.string (numT L), .bool true]) ∧ Below w.heap.size w w' := by
  have HJ := Lib.hid (joinTexts_any w v L h (by omega) hT)
  obtain ⟨a, c, rfl, -, -⟩ := h.opened
  have HI := Lib.hid (isListF_any w a L.length c hm)
  clear h hT
  go_enter Tryz.func31, Tryz.ntmps31
  go_wp2_with fail
  refine HI.out.mono ?_
  rintro e w1 ⟨rfl, hw1⟩
  obtain rfl : w = w1 := hw1.symm
  clear hw1 HI
  go_wp2_with fail
  refine HJ.out.mono ?_
  rintro e w1 ⟨rfl, hb⟩
  go_wp2
  go_ret2
  exact ⟨rfl, hb⟩
set_option maxRecDepth 100000 in
set_option maxHeartbeats 400000 in
theorem fromBits_any (w : World) (n : Nat) (h : n < 4294967296) :
    Calls Tryz.prog 20 #[.int .i64 n] w fun e w' => e = .returned (.tuple #[.float .f32 n, .bool true]) ∧ w' = w := by
  have hfb := run_frombits w n h
  have h1 : (n : Int) ≤ 4294967295 := by omega
  go_enter Tryz.func20, Tryz.ntmps20
  go_wp2_with (go_at_call 54; go_in)
  go_ret2
  exact ⟨rfl, rfl⟩
set_option maxRecDepth 100000 in
set_option maxHeartbeats 400000 in
theorem specSame_any (w : World) (r s x y : Nat) (hr : FV .f32 r x) (hs : FV .f32 s y) :
    Calls Tryz.prog 10 #[.float .f32 r, .float .f32 s] w fun e w' => e = .returned (.bool (x == y)) ∧ w' = w := by
  have key : ∀ wq : World, Calls Tryz.prog 42 #[.float .f32 r, .float .f32 s] wq fun e w' => e = .returned (.bool (x == y)) ∧ w' = wq := fun wq => by
    rw [← beq_cast]
    go_enter Tryz.func42, Tryz.ntmps42
    go_wp2_with fail
    refine (l01Bits_any wq r x hr).mono ?_
    rintro e1 w1 ⟨rfl, hw1⟩
    obtain rfl : wq = w1 := hw1.symm
    clear hw1
    go_wp2_with fail
    refine (l01Bits_any wq s y hs).mono ?_
    rintro e1 w1 ⟨rfl, hw1⟩
    obtain rfl : wq = w1 := hw1.symm
    clear hw1
    go_wp2
    go_ret
    exact ⟨rfl, rfl⟩
  have HK := Lib.hid key
  clear key hr hs
  go_enter Tryz.func10, Tryz.ntmps10
  go_wp2_with fail
  refine (HK.out w).mono ?_
  rintro e1 w1 ⟨rfl, hw1⟩
  obtain rfl : w = w1 := hw1.symm
  clear hw1
  go_wp2
  go_ret
  exact ⟨rfl, rfl⟩
/-- Sums from the left. -/
def sumS (L : List Nat) : Nat → Nat
  | 0 => 0
  | j + 1 => fop .add .f32 (sumS L j) (L.getD j 0)
set_option maxRecDepth 100000 in
set_option maxHeartbeats 800000 in
theorem sum_any (w : World) (v : Value) (L : List Nat) (h : RdF w v L) (hl : L.length ≤ 1000) :
    Calls Tryz.prog 66 #[v] w fun e w' => ∃ r, e = .returned (.float .f32 r) ∧ FV .f32 r (sumS L L.length) ∧ ∃ n, w' = w.drewN n := by
  have hadd := run_fadd (P := Tryz.prog)
  obtain ⟨a, c, rfl, hc, -, hcell⟩ := h.opened
  clear h
  go_enter Tryz.func66, Tryz.ntmps66
  go_wp2
  go_loopw [3, 8] (fun q i wr => ∃ (j n r : Nat), j ≤ L.length ∧ i = .int .i64 j ∧ q = .float .f32 r ∧ FV .f32 r (sumS L j) ∧ wr = w.drewN n) (fun _ i _ => L.length - (intOf i).toNat)
  case atStart => exact ⟨0, 0, 0, Nat.zero_le _, rfl, rfl, fv0 _, rfl⟩
  case round =>
    obtain ⟨wi, rfl⟩ : ∃ wi : World, wi = wr := ⟨_, rfl⟩
    obtain ⟨j, n, r, hj, rfl, rfl, hf, hw⟩ := hrel
    have HW := Lib.hid hw
    have HF := Lib.hid hf
    by_cases hlt : j < L.length
    · obtain ⟨b, o, x, rfl, hx1, hx2⟩ := hcell j hlt
      have hx1' : wi.cell? ⟨b, o + j, none⟩ = some (.float .f32 x) := by rw [hw]; exact hx1
      have HX := Lib.hid hx2
      clear hcell hx1 hx2 hw hf
      go_wp2
      refine ⟨⟨j + 1, n + fcnt .add .f32 r x, _, by omega, by go_num, rfl, FV.op (op := .add) HF.out HX.out _, ?_⟩, by simp [intOf]; omega⟩
      rw [HW.out, World.drewN_drewN]
    · obtain rfl : j = L.length := by omega
      clear hw hf
      go_wp2
      go_ret
      exact ⟨r, rfl, HF.out, n, HW.out⟩
set_option maxRecDepth 100000 in
set_option maxHeartbeats 800000 in
theorem sumNumbers_any (w : World) (v : Value) (L : List Nat) (h : RdF w v L) (hl : L.length ≤ 256) :
    Calls Tryz.prog 30 #[v] w fun e w' => ∃ r, e = .returned (.tuple #[.float .f32 r, .bool true]) ∧ FV .f32 r (sumS L L.length) ∧ ∃ n, w' = w.drewN n := by
  have HJ := Lib.hid (sum_any w v L h (by omega))
  obtain ⟨a, c, rfl, -, -⟩ := h.opened
  have HI := Lib.hid (isListF_any w a L.length c hl)
  clear h
  go_enter Tryz.func30, Tryz.ntmps30
  go_wp2_with fail
  refine HI.out.mono ?_
  rintro e w1 ⟨rfl, hw1⟩
  obtain rfl : w = w1 := hw1.symm
  clear hw1 HI
  go_wp2_with fail
  refine HJ.out.mono ?_
  rintro e w1 ⟨r, rfl, hf, n, hw⟩
  have HF := Lib.hid hf
  have HW := Lib.hid hw
  clear hf hw
  go_wp2
  go_ret2
  exact ⟨r, rfl, HF.out, n, HW.out⟩
/-- Is it subnormal? -/
def subB (x : Nat) : Bool := (FloatKind.f32.format.order x 0 != some .eq) && (FloatKind.f64.format.order (absW (cwide x)) 4039728865751334912 == some .lt)
theorem absW_fv {b y : Nat} (h : FV .f64 b y) : FV .f64 (absW b) (absW y) := by
  have hb : b < 18446744073709551616 := h.1
  have hlt : absW b < 2 ^ FloatKind.f64.format.width := by
    rw [width64]
    unfold absW
    omega
  have hn : ∀ z, isN .f64 (absW z) = isN .f64 z := fun z => by
    show (Ieee.double.read (absW z)).isNaN = (Ieee.double.read z).isNaN
    rw [read_absW]
    cases Ieee.double.read z <;> rfl
  refine ⟨hlt, ?_⟩
  cases hb' : isN .f64 b with
  | true =>
    rw [can_of_nan (by rw [hn]; exact hb')]
    have : y = nanC .f64 := by rw [← h.2, can_of_nan hb']
    rw [this]
    decide +kernel
  | false =>
    obtain rfl : b = y := h.eq_of_not (by rw [← h.isN]; exact hb')
    exact can_of_not (by rw [hn]; exact hb')
theorem fvTiny : FV .f64 4039728865751334912 4039728865751334912 := ⟨by decide, by decide +kernel⟩
set_option maxRecDepth 100000 in
set_option maxHeartbeats 800000 in
theorem isSubnormal_any (w : World) (r x : Nat) (hr : FV .f32 r x) :
    Calls Tryz.prog 33 #[.float .f32 r] w fun e w' => e = .returned (.bool (subB x)) ∧ ∃ n, w' = w.drewN n := by
  have hcv := run_widen (P := Tryz.prog) 28 46 (by kernel_rfl) (by kernel_rfl)
  have ho : FloatKind.f32.format.order r 0 = FloatKind.f32.format.order x 0 := hr.order (fv0 _)
  have h2 : Hid (∀ wq, FloatKind.f64.format.order (absW (cres r wq)) 4039728865751334912 = FloatKind.f64.format.order (absW (cwide x)) 4039728865751334912) := Lib.hid fun wq => (absW_fv (hr.wide wq)).order fvTiny
  have HK := Lib.hid (fun wq wq2 => mathAbs_any wq2 (cres r wq) (hr.wide wq).1)
  cases h0 : (FloatKind.f32.format.order x 0 != some .eq) with
  | false =>
    have hs : Hid (subB x = false) := Lib.hid (by unfold subB; rw [h0]; rfl)
    have h1 : (FloatKind.f32.format.order r 0 != some .eq) = false := by rw [ho]; exact h0
    clear h0 ho hr
    go_enter Tryz.func33, Tryz.ntmps33
    go_wp2
    go_ret
    exact ⟨by rw [hs.out]; rfl, 0, rfl⟩
  | true =>
    have hs : Hid (subB x = (FloatKind.f64.format.order (absW (cwide x)) 4039728865751334912 == some .lt)) := Lib.hid (by unfold subB; rw [h0]; rfl)
    have h1 : (FloatKind.f32.format.order r 0 != some .eq) = true := by rw [ho]; exact h0
    clear h0 ho hr
    go_enter Tryz.func33, Tryz.ntmps33
    go_wp2_with fail
    refine (HK.out _ _).mono ?_
    rintro e w1 ⟨rfl, hw1⟩
    have HW := Lib.hid hw1
    clear hw1
    go_wp2
    go_ret
    exact ⟨by rw [hs.out, ← h2.out w]; rfl, _, HW.out⟩
end Go.Proofs.YtlpmkgcknopgoaaGreatDoor

/- Walks: the program's sine. -/
namespace Go.Proofs.YtlpmkgcknopgoaaGreatDoor
open Go Go.RowKit

theorem run_truncX (w : World) (x : Nat) (h : isN .f64 x = false) : (callFunc 121 #[.float .f64 x]).run Tryz.prog w = .ok (.value (.float .f64 (trnc x))) w := by
  have e : (callFunc 121 #[.float .f64 x]).run Tryz.prog w = (do pure (.value (← Extern.MathFloor.toIntegral "math.archTrunc" .zero #[.float .f64 x])) : Sem Next).run Tryz.prog w := by kernel_rfl
  rw [e, Sem.run_bind, run_trnc w x h]
  rfl
set_option maxRecDepth 100000 in
theorem mathTrunc_any (w : World) (x : Nat) (h : isN .f64 x = false) :
    Calls Tryz.prog 102 #[.float .f64 x] w fun e w' => e = .returned (.float .f64 (trnc x)) ∧ w' = w := by
  have h1 := run_truncX w x h
  clear h
  go_enter Tryz.func102, Tryz.ntmps102
  go_wp2
  go_ret
  exact ⟨rfl, rfl⟩
set_option maxRecDepth 100000 in
set_option maxHeartbeats 1600000 in
theorem fraction_fine (w : World) (t : Nat) (h : frcOk t = true) :
    Calls Tryz.prog 91 #[.float .f64 t] w fun e w' => e = .returned (.float .f64 (frcF t)) ∧ w' = w := by
  unfold frcOk at h
  simp only [Bool.and_eq_true, Bool.not_eq_true', Bool.or_eq_true] at h
  obtain ⟨n1, n2, n3⟩ := h
  have HT := Lib.hid (fun wq => mathTrunc_any wq t n1)
  have q1 := fun wq ty => run_fineK (P := Tryz.prog) .f64 .sub (by simp) wq ty t (whlF t) n2
  rw [show fop .sub .f64 t (whlF t) = frcD t from rfl] at q1
  have HF : Hid (frcF t = if ltB (frcD t) 0 then fop .add .f64 (frcD t) 4607182418800017408 else frcD t) := Lib.hid rfl
  have HW : Hid (whlF t = if eqB (trnc t) 0 then 0 else trnc t) := Lib.hid rfl
  clear n1 n2
  generalize frcD t = d at *
  generalize trnc t = tr at *
  generalize whlF t = wh at *
  have hlt : (FloatKind.f64.format.order d 0 == some Ordering.lt) = ltB d 0 := rfl
  have heq : (FloatKind.f64.format.order tr 0 == some Ordering.eq) = eqB tr 0 := rfl
  have q2 : ltB d 0 = true → ∀ wq ty, (binOp .add ty (.float .f64 d) (.float .f64 4607182418800017408)).run Tryz.prog wq = .ok (.float .f64 (fop .add .f64 d 4607182418800017408)) wq := fun hl => by
    rcases n3 with h | h
    · rw [hl] at h; cases h
    · exact fun wq ty => run_fineK (P := Tryz.prog) .f64 .add (by simp) wq ty _ _ h
  go_enter Tryz.func91, Tryz.ntmps91
  go_wp2_with fail
  refine (HT.out _).mono ?_
  rintro e w1 ⟨rfl, hw1⟩
  obtain rfl : w = w1 := hw1.symm
  clear hw1 HT n3
  cases h1 : eqB tr 0 <;> cases h2 : ltB d 0
  all_goals
    rw [h1] at heq HW
    rw [h2] at hlt HF
    replace HW := HW.out
    simp only [Bool.false_eq_true, if_false, if_true] at HW
    replace HF := HF.out
    simp only [Bool.false_eq_true, if_false, if_true] at HF
    subst HW
    try (have q3 := q2 h2)
    have HF := Lib.hid HF
    clear q2 h1 h2
    go_wp2_with fail
    go_ret
    exact ⟨by rw [HF.out]; rfl, rfl⟩
set_option maxRecDepth 100000 in
set_option maxHeartbeats 3200000 in
theorem sine_fine (w : World) (t : Nat) (h : frcOk t = true) (h2 : sinOk (frcF t) = true) :
    Calls Tryz.prog 75 #[.float .f64 t] w fun e w' => e = .returned (.float .f64 (sinF (frcF t))) ∧ w' = w := by
  have HFr := Lib.hid (fun wq => fraction_fine wq t h)
  clear h
  generalize frcF t = f at *
  unfold sinOk at h2
  simp only [Bool.and_eq_true, Bool.not_eq_true', Bool.or_eq_true, List.all_eq_true] at h2
  obtain ⟨n1, n2, n3, n4, n5, n6, n7⟩ := h2
  have q1 := fun wq ty => run_fineK (P := Tryz.prog) .f64 .mul (by simp) wq ty (snG f) 4618760256179416344 n4
  have q2 := fun wq ty => run_fineK (P := Tryz.prog) .f64 .mul (by simp) wq ty (snZ (snG f)) (snZ (snG f)) n5
  have q3 := fun wq ty => run_fineK (P := Tryz.prog) .f64 .mul (by simp) wq ty (snZ (snG f)) (polF (snU (snG f)) 8) n7
  rw [show fop .mul .f64 (snG f) 4618760256179416344 = snZ (snG f) from rfl] at q1
  rw [show fop .mul .f64 (snZ (snG f)) (snZ (snG f)) = snU (snG f) from rfl] at q2
  rw [show fop .mul .f64 (snZ (snG f)) (polF (snU (snG f)) 8) = snO (snG f) from rfl] at q3
  have HP := Lib.hid n6
  have HS : Hid (sinF f = if geB f 4602678819172646912 then ngF .f64 (snO (snG f)) else snO (snG f)) := Lib.hid rfl
  have HG : Hid (snG f = if gtB (snA f) 4598175219545276416 then fop .sub .f64 4602678819172646912 (snA f) else snA f) := Lib.hid rfl
  have HA : Hid (snA f = if geB f 4602678819172646912 then fop .sub .f64 f 4602678819172646912 else f) := Lib.hid rfl
  clear n4 n5 n6 n7
  generalize snO (snG f) = o at *
  generalize snU (snG f) = u at *
  generalize snZ (snG f) = z at *
  have hng : ∀ wq : World, (Op.unary .neg (.float .f64 o)).run Tryz.prog wq = .ok (.float .f64 (ngF .f64 o)) wq := fun wq => run_ngF .f64 wq o
  go_enter Tryz.func75, Tryz.ntmps75
  go_wp2_with fail
  refine (HFr.out _).mono ?_
  rintro e w1 ⟨rfl, hw1⟩
  obtain rfl : w = w1 := hw1.symm
  clear hw1 HFr
  have hge : (FloatKind.f64.format.order f 4602678819172646912 == some Ordering.gt || FloatKind.f64.format.order f 4602678819172646912 == some Ordering.eq) = geB f 4602678819172646912 := rfl
  have hgt : (FloatKind.f64.format.order (snA f) 4598175219545276416 == some Ordering.gt) = gtB (snA f) 4598175219545276416 := rfl
  have q4 : geB f 4602678819172646912 = true → ∀ wq ty, (binOp .sub ty (.float .f64 f) (.float .f64 4602678819172646912)).run Tryz.prog wq = .ok (.float .f64 (snA f)) wq := fun hl wq ty => by
    rw [HA.out, hl, if_pos rfl]
    exact run_fineK (P := Tryz.prog) .f64 .sub (by simp) wq ty _ _ (n2.resolve_left (by rw [hl]; decide))
  have q5 : gtB (snA f) 4598175219545276416 = true → ∀ wq ty, (binOp .sub ty (.float .f64 4602678819172646912) (.float .f64 (snA f))).run Tryz.prog wq = .ok (.float .f64 (snG f)) wq := fun hl wq ty => by
    rw [HG.out, hl, if_pos rfl]
    exact run_fineK (P := Tryz.prog) .f64 .sub (by simp) wq ty _ _ (n3.resolve_left (by rw [hl]; decide))
  have HA0 : geB f 4602678819172646912 = false → snA f = f := fun h => by rw [HA.out, h]; rfl
  have HG0 : gtB (snA f) 4598175219545276416 = false → snG f = snA f := fun h => by rw [HG.out, h]; rfl
  clear n1 n2 n3 HA HG
  have key : ∀ (wq : World) (x8 x30 : Value), True := fun _ _ _ => trivial
  clear key
  cases h1 : geB f 4602678819172646912 <;> cases h3 : gtB (snA f) 4598175219545276416
  all_goals
    rw [h1] at hge HS
    rw [h3] at hgt
    replace HS := HS.out
    simp only [Bool.false_eq_true, if_false, if_true] at HS
    have HS := Lib.hid HS
    first
      | (have a0 := HA0 h1; rw [a0] at hgt q5 HG0 h3; clear a0)
      | (have a1 := q4 h1; clear q4)
    first
      | (have g0 := HG0 h3; rw [g0] at q1; clear g0)
      | (have g1 := q5 h3; clear q5)
    try clear q4
    try clear q5
    clear HA0 HG0 h1 h3
    try generalize snG f = b at *
    try generalize snA f = a at *
    go_wp2_with fail
    go_loopw [7, 8] (fun p i wr => ∃ j : Nat, j ≤ 8 ∧ i = .int .i64 (8 - (j : Int)) ∧ p = .float .f64 (polF u j) ∧ wr = w) (fun _ i _ => (intOf i).toNat)
    case atStart => exact ⟨0, Nat.zero_le _, rfl, rfl, rfl⟩
    case round =>
      obtain ⟨j, hj, rfl, rfl, hwr⟩ := hrel
      obtain rfl : w = wr := hwr.symm
      clear hwr
      by_cases hlt : j < 8
      · have hpo := HP.out j (List.mem_range.2 hlt)
        unfold polOk at hpo
        simp only [Bool.and_eq_true, Bool.not_eq_true'] at hpo
        obtain ⟨p1, p2, p3⟩ := hpo
        have r1 := fun wq ty => run_fineK (P := Tryz.prog) .f64 .mul (by simp) wq ty u (polF u j) p1
        have r2 := fun wq ty => run_fineK (P := Tryz.prog) .f64 .quo (by simp) wq ty (polM u (polF u j)) _ p2
        have r3 := fun wq ty => run_fineK (P := Tryz.prog) .f64 .sub (by simp) wq ty 4607182418800017408 _ p3
        rw [show fop .mul .f64 u (polF u j) = polM u (polF u j) from rfl] at r1
        rw [show fop .quo .f64 (polM u (polF u j)) (floatOfInt .f64 (2 * ((8 - j : Nat) : Int) * (2 * ((8 - j : Nat) : Int) + 1))) = polQ u (polF u j) (8 - j) from rfl] at r2
        rw [show fop .sub .f64 4607182418800017408 (polQ u (polF u j) (8 - j)) = polF u (j + 1) from rfl] at r3
        obtain ⟨N, hN⟩ : ∃ N : Int, 2 * ((8 - j : Nat) : Int) * (2 * ((8 - j : Nat) : Int) + 1) = N := ⟨_, rfl⟩
        rw [hN] at r2
        obtain ⟨j1, hj1⟩ : ∃ j1, j + 1 = j1 := ⟨_, rfl⟩
        rw [hj1] at r3
        have HJ := Lib.hid hj1
        clear p1 p2 p3 hj1
        have hc : j = 0 ∨ j = 1 ∨ j = 2 ∨ j = 3 ∨ j = 4 ∨ j = 5 ∨ j = 6 ∨ j = 7 := by omega
        generalize polQ u (polF u j) (8 - j) = y2 at *
        generalize polM u (polF u j) = y1 at *
        obtain ⟨y3, hy3⟩ : ∃ y3, polF u j1 = y3 := ⟨_, rfl⟩
        obtain ⟨y0, hy0⟩ : ∃ y0, polF u j = y0 := ⟨_, rfl⟩
        rw [hy3] at r3
        rw [hy0] at r1
        rw [hy0]
        have HY := Lib.hid hy3
        clear hy0 hy3
        rcases hc with rfl | rfl | rfl | rfl | rfl | rfl | rfl | rfl
        all_goals
          simp at hN
          subst hN
          go_wp2_with fail
          have hj1 := HJ.out
          exact ⟨⟨j1, by omega, by congr 1; omega, by rw [HY.out], trivial⟩, by simp [intOf]⟩
      · obtain rfl : j = 8 := by omega
        go_wp2_with fail
        go_ret
        exact ⟨by rw [HS.out]; rfl, rfl⟩
end Go.Proofs.YtlpmkgcknopgoaaGreatDoor

/- Walks: flushed numbers, numbers made narrow again, the sine of a quarter. -/
namespace Go.Proofs.YtlpmkgcknopgoaaGreatDoor
open Go Go.RowKit

set_option maxRecDepth 100000 in
set_option maxHeartbeats 800000 in
theorem copysign_any (w : World) (b : Nat) (hb : b < 18446744073709551616) :
    Calls Tryz.prog 63 #[.float .f64 0, .float .f64 b] w fun e w' => e = .returned (.float .f64 (b &&& 9223372036854775808)) ∧ w' = w := by
  have hle : b &&& 9223372036854775808 < 18446744073709551616 := Nat.lt_of_le_of_lt Nat.and_le_right (by decide)
  have h1 := fun wq x => run_bits64 wq x
  have h2 := fun wq => run_from64 wq (b &&& 9223372036854775808)
  have e0 : bits BinOp.andNot IntKind.u64 0 9223372036854775808 = 0 := by decide +kernel
  have e1 : bits BinOp.and IntKind.u64 (b : Int) 9223372036854775808 = ((b &&& 9223372036854775808 : Nat) : Int) := u64_and_nat b 9223372036854775808 hb (by decide)
  have e2 : bits BinOp.or IntKind.u64 0 ((b &&& 9223372036854775808 : Nat) : Int) = ((b &&& 9223372036854775808 : Nat) : Int) := by
    have := u64_or_nat 0 (b &&& 9223372036854775808) (by decide) hle
    rw [Nat.zero_or] at this
    exact this
  have h3 : ∀ wq : World, (callFunc 87 #[.float .f64 0]).run Tryz.prog wq = .ok (.value (.int .u64 0)) wq := fun wq => run_bits64 wq 0
  generalize b &&& 9223372036854775808 = c at *
  go_enter Tryz.func63, Tryz.ntmps63
  go_wp2
  go_ret
  exact ⟨rfl, rfl⟩
theorem and_sign (b : Nat) : b &&& 9223372036854775808 = 0 ∨ b &&& 9223372036854775808 = 9223372036854775808 := by
  have e : (9223372036854775808 : Nat) = 2 ^ 63 := by decide
  rw [e]
  cases h : b.testBit 63
  · left
    apply Nat.eq_of_testBit_eq
    intro i
    rw [Nat.testBit_and, Nat.zero_testBit]
    by_cases hi : i = 63
    · rw [hi, h, Bool.false_and]
    · rw [Nat.testBit_two_pow_of_ne (by omega), Bool.and_false]
  · right
    apply Nat.eq_of_testBit_eq
    intro i
    rw [Nat.testBit_and]
    by_cases hi : i = 63
    · rw [hi, h, Bool.true_and]
    · rw [Nat.testBit_two_pow_of_ne (by omega), Bool.and_false]
theorem subB_not {x : Nat} (h : subB x = true) : isN .f32 x = false ∧ x ≠ 0 ∧ x ≠ 2147483648 := by
  refine ⟨?_, ?_, ?_⟩
  · cases hn : isN .f32 x with
    | false => rfl
    | true =>
      exfalso
      unfold subB at h
      rw [Bool.and_eq_true] at h
      have hw : isN .f64 (absW (cwide x)) = true := by
        unfold cwide
        rw [if_pos hn]
        decide +kernel
      rw [show FloatKind.f64.format.order (absW (cwide x)) 4039728865751334912 = none from order_nan _ _ _ (.inl hw)] at h
      exact absurd h.2 (by decide)
  · rintro rfl; revert h; decide +kernel
  · rintro rfl; revert h; decide +kernel
theorem nrw_zero : nrw 0 = 0 ∧ nrwOk 0 = true := by decide +kernel
theorem nrw_minus : nrw 9223372036854775808 = 2147483648 ∧ nrwOk 9223372036854775808 = true := by decide +kernel
def FlRes (r x : Nat) (z : Nat) : Prop := if subB x then z = 0 ∨ z = 2147483648 else z = r
set_option maxRecDepth 100000 in
set_option maxHeartbeats 800000 in
theorem flush_any (w : World) (r x : Nat) (hr : FV .f32 r x) :
    Calls Tryz.prog 28 #[.float .f32 r] w fun e w' => ∃ z, e = .returned (.float .f32 z) ∧ FlRes r x z ∧ ∃ n, w' = w.drewN n := by
  have HS := Lib.hid (isSubnormal_any w r x hr)
  cases hb : subB x with
  | false =>
    have HF : Hid (FlRes r x r) := Lib.hid (by unfold FlRes; rw [hb]; rfl)
    rw [hb] at HS
    clear hr hb
    go_enter Tryz.func28, Tryz.ntmps28
    go_wp2_with fail
    refine HS.out.mono ?_
    rintro e w1 ⟨rfl, n, hw⟩
    have HW := Lib.hid hw
    clear hw HS
    go_wp2
    go_ret
    exact ⟨r, rfl, HF.out, n, HW.out⟩
  | true =>
    obtain ⟨hn, -, -⟩ := subB_not hb
    obtain rfl : r = x := hr.eq_of_not hn
    have HF : Hid (∀ z, (z = 0 ∨ z = 2147483648) → FlRes r r z) := Lib.hid fun z hz => by unfold FlRes; rw [hb]; exact hz
    rw [hb] at HS
    have hcv := fun wq => run_wideF (P := Tryz.prog) 28 46 (by kernel_rfl) (by kernel_rfl) wq r hn
    have HC := Lib.hid (fun wq => copysign_any wq (cwide r) (cwide_lt r))
    obtain ⟨z, hz, hz2⟩ : ∃ z, z = cwide r &&& 9223372036854775808 ∧ nrwOk z = true ∧ (nrw z = 0 ∨ nrw z = 2147483648) := ⟨_, rfl, by
      rcases and_sign (cwide r) with h | h
      · rw [h]; exact ⟨nrw_zero.2, .inl nrw_zero.1⟩
      · rw [h]; exact ⟨nrw_minus.2, .inr nrw_minus.1⟩⟩
    rw [← hz] at HC
    have hnw := fun wq => run_narrowF (P := Tryz.prog) 46 28 (by kernel_rfl) (by kernel_rfl) wq z hz2.1
    have HZ := Lib.hid hz2.2
    clear hz hz2 hb hr hn
    generalize cwide r = b at *
    generalize nrw z = z2 at *
    go_enter Tryz.func28, Tryz.ntmps28
    go_wp2_with fail
    refine HS.out.mono ?_
    rintro e w1 ⟨rfl, n, hw⟩
    have HW := Lib.hid hw
    clear hw HS
    go_wp2_with fail
    refine (HC.out _).mono ?_
    rintro e w2 ⟨rfl, hw2⟩
    obtain rfl : w1 = w2 := hw2.symm
    clear hw2
    go_wp2
    go_ret
    exact ⟨z2, rfl, HF.out _ HZ.out, n, HW.out⟩
/-- What the law asks of a number and its flushed one. -/
theorem flush_law {r x z : Nat} (hr : FV .f32 r x) (h : FlRes r x z) : ∃ y, FV .f32 z y ∧ subB y = false ∧ (subB x == (x == y)) = false := by
  unfold FlRes at h
  cases hb : subB x with
  | false =>
    rw [hb] at h
    obtain rfl : z = r := h
    exact ⟨x, hr, hb, by simp⟩
  | true =>
    rw [hb] at h
    obtain ⟨-, h0, h1⟩ := subB_not hb
    rcases h with rfl | rfl
    · exact ⟨0, fv0 _, by decide +kernel, by simp [h0]⟩
    · exact ⟨2147483648, ⟨by decide, by decide +kernel⟩, by decide +kernel, by simp [h1]⟩
theorem word_sign (k : Nat) : Ieee.single.word true k = 2147483648 + Ieee.single.word false k := by
  have e1 : Ieee.single.signWeight = 2147483648 := by decide
  unfold Ieee.Format.word
  rw [if_pos rfl, if_neg (by decide), e1]
theorem cut_sign (n d : Nat) : Ieee.Toward.even.cut true n d = Ieee.Toward.even.cut false n d := rfl
theorem nearest_sign (M : Nat) (P : Int) : Ieee.single.nearest true M P = 2147483648 + Ieee.single.nearest false M P := by
  unfold Ieee.Format.nearest
  dsimp only
  rw [cut_sign, word_sign, word_sign]
  split
  · rfl
  · rfl
theorem sign_parts (r : Nat) (hr : r < 4294967296) (s : Bool) (hs : s = (r / 2147483648 % 2 == 1)) : r = (if s then 2147483648 else 0) + r % 2147483648 := by
  have h2 : r / 2147483648 % 2 = r / 2147483648 := Nat.mod_eq_of_lt (by omega)
  rw [h2] at hs
  cases s
  · have h3 := hs.symm
    rw [beq_eq_false_iff_ne] at h3
    rw [if_neg (by decide)]; omega
  · have h3 := hs.symm
    rw [beq_iff_eq] at h3
    rw [if_pos rfl]; omega
theorem cres_number (r : Nat) (s : Bool) (m : Nat) (e : Int) (hd : Ieee.single.read r = .number s m e) (w : World) : cres r w = Ieee.double.nearest s m e := by
  have hn : isN .f32 r = false := by
    show (Ieee.single.read r).isNaN = false
    rw [hd]; rfl
  unfold cres
  rw [hn]
  show Ieee.double.write (Ieee.single.read r) = _
  rw [hd]
  rfl
theorem zero_parts (s : Bool) : Ieee.double.read (Ieee.double.word s 0) = .number s 0 (-1074) ∧ Ieee.single.write (.number s 0 (-1074)) = (if s then 2147483648 else 0) := by
  cases s
  · exact ⟨by decide +kernel, by decide +kernel⟩
  · exact ⟨by decide +kernel, by decide +kernel⟩
theorem nearest_zero (s : Bool) (e : Int) : Ieee.double.nearest s 0 e = Ieee.double.word s 0 := by
  unfold Ieee.Format.nearest
  rw [if_pos rfl]
theorem wide_back (r : Nat) (hr : r < 4294967296) (s : Bool) (m : Nat) (e : Int) (hd : Ieee.single.read r = .number s m e) (w : World) : ∃ M P, Ieee.double.read (cres r w) = .number s M P ∧ Ieee.single.write (.number s M P) = r := by
  have hb := read_bounds32 r hd
  obtain ⟨hs, h32⟩ := read32 r hd
  rw [cres_number r s m e hd w]
  have hr2 := sign_parts r hr s hs
  clear hs
  by_cases hm0 : m = 0
  · subst hm0
    have hz : r % 2147483648 = 0 := by
      rcases h32 with ⟨-, -, h⟩ | ⟨h, -⟩
      · exact h
      · omega
    rw [hz, Nat.add_zero] at hr2
    refine ⟨0, -1074, ?_, ?_⟩
    · rw [nearest_zero]
      exact (zero_parts s).1
    · rw [(zero_parts s).2]
      exact hr2.symm
  · obtain ⟨rung, h1, h2, h3⟩ := wide_number s m e hm0 hb.1 hb.2.1 hb.2.2
    have hN := narrow_number m e hm0 hb.1 hb.2.1 hb.2.2 (fun h => by rcases h32 with ⟨-, h, -⟩ | ⟨h, -⟩ <;> omega)
    refine ⟨m * 2 ^ (52 - m.log2), e - (52 - m.log2 : Nat), ?_, ?_⟩
    · rw [h1, h3 s]
    · have hlow : (e + 149).toNat * 8388608 + m = r % 2147483648 := by
        rcases h32 with ⟨-, h5, h6⟩ | ⟨-, -, -, -, h6⟩
        · rw [h6, h5, show ((-149 : Int) + 149).toNat = 0 by decide, Nat.zero_mul, Nat.zero_add]
        · exact h6
      show Ieee.single.nearest s _ _ = r
      cases s
      · rw [hN, hlow]
        rw [if_neg (by decide), Nat.zero_add] at hr2
        exact hr2.symm
      · rw [nearest_sign, hN, hlow]
        rw [if_pos rfl] at hr2
        exact hr2.symm
theorem run_narrow_wide {P : Program} (src dst : TypeId) (hs : (P.underlying src).isSome = true) (hd : P.underlying dst = some (.float .f32)) (r x : Nat) (hr : FV .f32 r x) (w w1 : World) :
    ∃ q n, (convert src dst (.float .f64 (cres r w))).run P w1 = .ok (.float .f32 q) (w1.drewN n) ∧ FV .f32 q x := by
  obtain ⟨u, hs'⟩ := Option.isSome_iff_exists.1 hs
  have key : ∃ q n, (Conv.floatToFloat .f64 (cres r w) .f32).run P w1 = .ok (.float .f32 q) (w1.drewN n) ∧ FV .f32 q x := by
    cases hd : Ieee.single.read r with
    | nan s t =>
      have hn : isN .f32 r = true := by show (Ieee.single.read r).isNaN = true; rw [hd]; rfl
      have hx : x = nanC .f32 := by rw [← hr.2, can_of_nan hn]
      rw [hx]
      have hnn : isN .f64 (cres r w) = true := by
        unfold cres
        rw [if_pos hn, (nanOf_fv .f64 _).isN]
        exact isN_nanC _
      exact ⟨_, _, narrow_nan _ _ (datum_nan hnn), nanOf_fv _ _⟩
    | infinity s =>
      have hn : isN .f32 r = false := by show (Ieee.single.read r).isNaN = false; rw [hd]; rfl
      obtain rfl : r = x := hr.eq_of_not (by rw [← hr.isN]; exact hn)
      have h1 := inf_rung32 r hd
      have hs := sign_read r hr.1
      rw [hd] at hs
      have hs : s = decide (2147483648 ≤ r) := hs
      have hlt : r < 4294967296 := hr.1
      cases s
      · have h2 : ¬ 2147483648 ≤ r := by simpa using hs.symm
        obtain rfl : r = 2139095040 := by omega
        refine ⟨2139095040, 0, ?_, hr⟩
        have : cres 2139095040 w = Ieee.double.write (.infinity false) := by unfold cres; rw [hn, if_neg (by decide)]; decide +kernel
        rw [this]
        exact narrow_inf _ _ (by decide +kernel)
      · have h2 : 2147483648 ≤ r := by simpa using hs.symm
        obtain rfl : r = 4286578688 := by omega
        refine ⟨4286578688, 0, ?_, hr⟩
        have : cres 4286578688 w = Ieee.double.write (.infinity true) := by unfold cres; rw [hn, if_neg (by decide)]; decide +kernel
        rw [this]
        have hdc : FloatKind.f64.decode (Ieee.double.write (.infinity true)) = .infinity true := by decide +kernel
        unfold Conv.floatToFloat
        rw [if_neg (by decide), hdc]
        dsimp only
        rw [show FloatKind.f32.encode (.infinity true) = 4286578688 by decide +kernel]
        rfl
    | number s m e =>
      have hn : isN .f32 r = false := by show (Ieee.single.read r).isNaN = false; rw [hd]; rfl
      obtain rfl : r = x := hr.eq_of_not (by rw [← hr.isN]; exact hn)
      obtain ⟨M, E, h1, h2⟩ := wide_back r hr.1 s m e hd w
      refine ⟨r, 0, ?_, hr⟩
      unfold Conv.floatToFloat
      rw [if_neg (by decide), show FloatKind.f64.decode (cres r w) = .number s M E from h1]
      dsimp only
      have hi : (FloatKind.f32.decode (FloatKind.f32.encode (.number s M E))).isInfinity = false := by
        rw [show FloatKind.f32.encode (.number s M E) = r from h2, show FloatKind.f32.decode r = .number s m e from hd]
        rfl
      rw [hi, show FloatKind.f32.encode (.number s M E) = r from h2]
      rfl
  obtain ⟨q, n, h1, h2⟩ := key
  refine ⟨q, n, ?_, h2⟩
  cases u <;> simp [convert, run_underlying hs', run_underlying hd, h1]
set_option maxRecDepth 100000 in
set_option maxHeartbeats 400000 in
theorem narrowNumber_any (w w0 : World) (r x : Nat) (hr : FV .f32 r x) :
    Calls Tryz.prog 36 #[.float .f64 (cres r w0)] w fun e w' => ∃ q, e = .returned (.float .f32 q) ∧ FV .f32 q x ∧ ∃ n, w' = w.drewN n := by
  obtain ⟨q, n, h1, h2⟩ := run_narrow_wide (P := Tryz.prog) 46 28 (by kernel_rfl) (by kernel_rfl) r x hr w0 w
  have H2 := Lib.hid h2
  clear h2
  generalize cres r w0 = b at *
  go_enter Tryz.func36, Tryz.ntmps36
  go_wp2
  go_ret
  exact ⟨q, rfl, H2.out, n, rfl⟩
theorem quarter_ok : frcOk (cwide 1048576000) = true ∧ sinOk (frcF (cwide 1048576000)) = true ∧ nrwOk (sinF (frcF (cwide 1048576000))) = true ∧ nrw (sinF (frcF (cwide 1048576000))) = 1065353216 := by decide +kernel
theorem quarter_wide : cwide 1048576000 = 4598175219545276416 := by decide +kernel
set_option maxRecDepth 100000 in
set_option maxHeartbeats 800000 in
theorem sineQuarter_any (w : World) :
    Calls Tryz.prog 37 #[.float .f32 1048576000] w fun e w' => e = .returned (.float .f32 1065353216) ∧ w' = w := by
  obtain ⟨q1, q2, q3, q4⟩ := quarter_ok
  have HS := Lib.hid (fun wq => sine_fine wq _ q1 q2)
  have hcv := fun wq => run_wideF (P := Tryz.prog) 28 46 (by kernel_rfl) (by kernel_rfl) wq 1048576000 (by decide +kernel)
  have hnw := fun wq => run_narrowF (P := Tryz.prog) 46 28 (by kernel_rfl) (by kernel_rfl) wq _ q3
  rw [q4] at hnw
  clear q1 q2 q3 q4
  generalize sinF (frcF (cwide 1048576000)) = y at *
  rw [quarter_wide] at *
  have HA := Lib.hid (fun wq => mathAbs_any wq 4598175219545276416 (by decide))
  rw [show absW 4598175219545276416 = 4598175219545276416 by decide] at HA
  have hge : (FloatKind.f64.format.order 4598175219545276416 4841369599423283200 == some Ordering.gt || FloatKind.f64.format.order 4598175219545276416 4841369599423283200 == some Ordering.eq) = false := by decide +kernel
  have hf : ∀ wq, Calls Tryz.prog 74 #[.float .f64 4598175219545276416] wq fun e w' => e = .returned (.bool true) ∧ w' = wq := fun wq => by
    have hsub := fun w ty => run_fineK (P := Tryz.prog) .f64 .sub (by simp) w ty 4598175219545276416 4598175219545276416 (by decide +kernel)
    rw [show fop .sub .f64 4598175219545276416 4598175219545276416 = 0 by decide +kernel] at hsub
    have h0 : (FloatKind.f64.format.order 0 0 == some Ordering.eq) = true := by decide +kernel
    go_enter Tryz.func74, Tryz.ntmps74
    go_wp2
    go_ret
    exact ⟨rfl, rfl⟩
  have HF := Lib.hid hf
  clear hf
  go_enter Tryz.func37, Tryz.ntmps37
  go_wp2_with fail
  refine (HF.out _).mono ?_
  rintro e w1 ⟨rfl, hw1⟩
  obtain rfl : w = w1 := hw1.symm
  clear hw1
  go_wp2_with fail
  refine (HA.out _).mono ?_
  rintro e w1 ⟨rfl, hw1⟩
  obtain rfl : w = w1 := hw1.symm
  clear hw1
  go_wp2_with fail
  refine (HS.out _).mono ?_
  rintro e w1 ⟨rfl, hw1⟩
  obtain rfl : w = w1 := hw1.symm
  clear hw1
  go_wp2
  go_ret
  exact ⟨rfl, rfl⟩
end Go.Proofs.YtlpmkgcknopgoaaGreatDoor

/- Walks: products, powers, quotients of complex numbers whose parts are integers. -/
namespace Go.Proofs.YtlpmkgcknopgoaaGreatDoor
open Go Go.RowKit Ieee

theorem rep_int64 (n : Int) (h : n.natAbs < 9007199254740992) : Rep .f64 (n : Rat) 0 := ⟨n, by rw [sc_zero]; grind, h, by decide, by decide⟩
theorem rep_int32 (n : Int) (h : n.natAbs < 16777216) : Rep .f32 (n : Rat) 0 := ⟨n, by rw [sc_zero]; grind, h, by decide, by decide⟩
/-- Integers as floats. -/
def ZI (k : FloatKind) (x : Nat) (n : Int) : Prop := RQ k x (n : Rat) ∧ x < 2 ^ k.format.width
theorem ZI.nn {k : FloatKind} {x : Nat} {n : Int} (h : ZI k x n) : isN k x = false := h.1.notNan
theorem ZI.add {x y : Nat} {a b : Int} (hx : ZI .f64 x a) (hy : ZI .f64 y b) (h : (a + b).natAbs < 9007199254740992) : ZI .f64 (fop .add .f64 x y) (a + b) := by
  refine ⟨?_, (fop_cls (k := .f64)).1⟩
  have := hx.1.add_rep hy.1 (g := 0) (by rw [← Rat.intCast_add]; exact rep_int64 _ h)
  rw [← Rat.intCast_add] at this
  exact this
theorem ZI.sub {x y : Nat} {a b : Int} (hx : ZI .f64 x a) (hy : ZI .f64 y b) (h : (a - b).natAbs < 9007199254740992) : ZI .f64 (fop .sub .f64 x y) (a - b) := by
  refine ⟨?_, (fop_cls (k := .f64)).1⟩
  have := hx.1.sub_rep hy.1 (g := 0) (by rw [← Rat.intCast_sub]; exact rep_int64 _ h)
  rw [← Rat.intCast_sub] at this
  exact this
theorem ZI.mul {x y : Nat} {a b : Int} (hx : ZI .f64 x a) (hy : ZI .f64 y b) (h : (a * b).natAbs < 9007199254740992) : ZI .f64 (fop .mul .f64 x y) (a * b) := by
  refine ⟨?_, (fop_cls (k := .f64)).1⟩
  have := hx.1.mul_rep hy.1 (g := 0) (by rw [← Rat.intCast_mul]; exact rep_int64 _ h)
  rw [← Rat.intCast_mul] at this
  exact this
theorem ZI.wide {x : Nat} {a : Int} (hx : ZI .f32 x a) : ZI .f64 (cwide x) a := ⟨hx.1.wide, cwide_lt x⟩
theorem ZI.narrow {x : Nat} {a : Int} (hx : ZI .f64 x a) (h : a.natAbs < 16777216) : ZI .f32 (nrw x) a ∧ nrwOk x = true := by
  obtain ⟨h1, h2⟩ := hx.1.narrow_rep (rep_int32 a h)
  exact ⟨⟨h1, (nrw_cls h2).1⟩, h2⟩
theorem ZI.neg {k : FloatKind} {x : Nat} {a : Int} (hx : ZI k x a) (hlt : ngF k x < 2 ^ k.format.width) : ZI k (ngF k x) (-a) := by
  refine ⟨?_, hlt⟩
  rw [Rat.intCast_neg]
  exact hx.1.neg hx.2
theorem ngF_lt {x : Nat} (h : x < 2 ^ FloatKind.f32.format.width) : ngF .f32 x < 2 ^ FloatKind.f32.format.width := by
  rw [width32] at *
  show x ^^^ 2 ^ 31 < 2 ^ 32
  exact Nat.xor_lt_two_pow h (by decide)
theorem ZI.ofInt {k : FloatKind} (n : Int) (h : n.natAbs < 2 ^ (fracB k + 1)) : ZI k (floatOfInt k n) n := ⟨RQ.ofInt k n h, k.format.nearest_lt _ _ _⟩
theorem ZI.eq {k : FloatKind} {x y : Nat} {a b : Int} (hx : ZI k x a) (hy : ZI k y b) : (k.format.order x y == some Ordering.eq) = (a == b) := by
  rw [hx.1.order hy.1]
  by_cases h : a = b
  · subst h
    simp
  · rcases Int.lt_or_gt_of_ne h with h1 | h1
    · have : (a : Rat) < (b : Rat) := Rat.intCast_lt_intCast.2 h1
      rw [if_pos this]
      simp [h]
    · have h2 : ¬ (a : Rat) < (b : Rat) := fun h3 => by have := Rat.intCast_lt_intCast.1 h3; omega
      have h3 : ¬ (a : Rat) = (b : Rat) := fun h4 => h (Rat.intCast_inj.1 h4)
      rw [if_neg h2, if_neg h3]
      simp [h]

theorem nab (a : Int) (B : Nat) (h1 : -(B : Int) ≤ a) (h2 : a ≤ B) : a.natAbs ≤ B := by omega
theorem mul_abs {a b : Int} {A B : Nat} (ha : a.natAbs ≤ A) (hb : b.natAbs ≤ B) : (a * b).natAbs ≤ A * B := by
  rw [Int.natAbs_mul]
  exact Nat.mul_le_mul ha hb

set_option maxRecDepth 100000 in
set_option maxHeartbeats 400000 in
theorem parts_fine (w : World) (r i : Nat) (hr : isN .f32 r = false) (hi : isN .f32 i = false) :
    Calls Tryz.prog 77 #[.complex .f32 r i] w fun e w' => e = .returned (.tuple #[.float .f64 (cwide r), .float .f64 (cwide i)]) ∧ w' = w := by
  have h1 := fun wq => run_wideF (P := Tryz.prog) 28 46 (by kernel_rfl) (by kernel_rfl) wq r hr
  have h2 := fun wq => run_wideF (P := Tryz.prog) 28 46 (by kernel_rfl) (by kernel_rfl) wq i hi
  go_enter Tryz.func77, Tryz.ntmps77
  go_wp2
  go_ret2
  exact ⟨rfl, rfl⟩
def prX (a b c d : Nat) : Nat := fop .sub .f64 (fop .mul .f64 a c) (fop .mul .f64 b d)
def prY (a b c d : Nat) : Nat := fop .add .f64 (fop .mul .f64 a d) (fop .mul .f64 b c)
def prX2 (a b c d : Nat) : Nat := prX (cwide a) (cwide b) (cwide c) (cwide d)
def prY2 (a b c d : Nat) : Nat := prY (cwide a) (cwide b) (cwide c) (cwide d)
theorem fine_op (op : BinOp) (h : op = .add ∨ op = .sub ∨ op = .mul ∨ op = .quo) (x y z : Nat) (hz : fop op .f64 x y = z) (hn : isN .f64 z = false) (wq : World) (ty : TypeId) : (binOp op ty (.float .f64 x) (.float .f64 y)).run Tryz.prog wq = .ok (.float .f64 z) wq := by
  subst hz
  exact run_fineK .f64 op h wq ty x y hn
set_option maxRecDepth 100000 in
set_option maxHeartbeats 800000 in
theorem product_fine (w : World) (a b c d : Nat) (A B C D : Int) (ha : ZI .f32 a A) (hb : ZI .f32 b B) (hc : ZI .f32 c C) (hd : ZI .f32 d D)
    (bA : A.natAbs ≤ 1000000) (bB : B.natAbs ≤ 1000000) (bC : C.natAbs ≤ 1000000) (bD : D.natAbs ≤ 1000000) :
    Calls Tryz.prog 40 #[.complex .f32 a b, .complex .f32 c d] w fun e w' => e = .returned (.tuple #[.float .f64 (prX2 a b c d), .float .f64 (prY2 a b c d)]) ∧ w' = w := by
  have HP1 := Lib.hid (fun wq => parts_fine wq a b ha.nn hb.nn)
  have HP2 := Lib.hid (fun wq => parts_fine wq c d hc.nn hd.nn)
  have b1 := mul_abs bA bC
  have b2 := mul_abs bB bD
  have b3 := mul_abs bA bD
  have b4 := mul_abs bB bC
  have z1 := ha.wide.mul hc.wide (by omega)
  have z2 := hb.wide.mul hd.wide (by omega)
  have z3 := ha.wide.mul hd.wide (by omega)
  have z4 := hb.wide.mul hc.wide (by omega)
  have z5 := z1.sub z2 (by omega)
  have z6 := z3.add z4 (by omega)
  obtain ⟨x1, hx1⟩ : ∃ x, fop .mul .f64 (cwide a) (cwide c) = x := ⟨_, rfl⟩
  obtain ⟨x2, hx2⟩ : ∃ x, fop .mul .f64 (cwide b) (cwide d) = x := ⟨_, rfl⟩
  obtain ⟨x3, hx3⟩ : ∃ x, fop .mul .f64 (cwide a) (cwide d) = x := ⟨_, rfl⟩
  obtain ⟨x4, hx4⟩ : ∃ x, fop .mul .f64 (cwide b) (cwide c) = x := ⟨_, rfl⟩
  obtain ⟨x5, hx5⟩ : ∃ x, prX2 a b c d = x := ⟨_, rfl⟩
  obtain ⟨x6, hx6⟩ : ∃ x, prY2 a b c d = x := ⟨_, rfl⟩
  have hx5' : fop .sub .f64 x1 x2 = x5 := by rw [← hx5, ← hx1, ← hx2]; rfl
  have hx6' : fop .add .f64 x3 x4 = x6 := by rw [← hx6, ← hx3, ← hx4]; rfl
  rw [hx1] at z1 z5
  rw [hx2] at z2 z5
  rw [hx3] at z3 z6
  rw [hx4] at z4 z6
  rw [hx5'] at z5
  rw [hx6'] at z6
  have q1 := fine_op .mul (by simp) _ _ _ hx1 z1.nn
  have q2 := fine_op .mul (by simp) _ _ _ hx2 z2.nn
  have q3 := fine_op .mul (by simp) _ _ _ hx3 z3.nn
  have q4 := fine_op .mul (by simp) _ _ _ hx4 z4.nn
  have q5 := fine_op .sub (by simp) _ _ _ hx5' z5.nn
  have q6 := fine_op .add (by simp) _ _ _ hx6' z6.nn
  rw [hx5, hx6]
  clear hx1 hx2 hx3 hx4 hx5 hx6 hx5' hx6' z1 z2 z3 z4 z5 z6 b1 b2 b3 b4 ha hb hc hd bA bB bC bD
  go_enter Tryz.func40, Tryz.ntmps40
  go_wp2_with fail
  refine (HP1.out _).mono ?_
  rintro e w1 ⟨rfl, hw1⟩
  obtain rfl : w = w1 := hw1.symm
  clear hw1
  go_wp2_with fail
  refine (HP2.out _).mono ?_
  rintro e w1 ⟨rfl, hw1⟩
  obtain rfl : w = w1 := hw1.symm
  clear hw1
  go_wp2_with fail
  go_ret2
  exact ⟨rfl, rfl⟩
theorem prX_zi {a b c d : Nat} {A B C D : Int} (ha : ZI .f32 a A) (hb : ZI .f32 b B) (hc : ZI .f32 c C) (hd : ZI .f32 d D)
    (bA : A.natAbs ≤ 1000000) (bB : B.natAbs ≤ 1000000) (bC : C.natAbs ≤ 1000000) (bD : D.natAbs ≤ 1000000) :
    ZI .f64 (prX2 a b c d) (A * C - B * D) ∧ ZI .f64 (prY2 a b c d) (A * D + B * C) := by
  have b1 := mul_abs bA bC
  have b2 := mul_abs bB bD
  have b3 := mul_abs bA bD
  have b4 := mul_abs bB bC
  have z1 := ha.wide.mul hc.wide (by omega)
  have z2 := hb.wide.mul hd.wide (by omega)
  have z3 := ha.wide.mul hd.wide (by omega)
  have z4 := hb.wide.mul hc.wide (by omega)
  exact ⟨z1.sub z2 (by omega), z3.add z4 (by omega)⟩
set_option maxRecDepth 100000 in
set_option maxHeartbeats 800000 in
theorem mulC_fine (w : World) (a b c d : Nat) (A B C D : Int) (ha : ZI .f32 a A) (hb : ZI .f32 b B) (hc : ZI .f32 c C) (hd : ZI .f32 d D)
    (bA : A.natAbs ≤ 200) (bB : B.natAbs ≤ 200) (bC : C.natAbs ≤ 200) (bD : D.natAbs ≤ 200) :
    Calls Tryz.prog 7 #[.complex .f32 a b, .complex .f32 c d] w fun e w' => ∃ x y, e = .returned (.complex .f32 x y) ∧ ZI .f32 x (A * C - B * D) ∧ ZI .f32 y (A * D + B * C) ∧ w' = w := by
  have HP := Lib.hid (fun wq => product_fine wq a b c d A B C D ha hb hc hd (by omega) (by omega) (by omega) (by omega))
  obtain ⟨z1, z2⟩ := prX_zi ha hb hc hd (by omega) (by omega) (by omega) (by omega)
  have b1 := mul_abs bA bC
  have b2 := mul_abs bB bD
  have b3 := mul_abs bA bD
  have b4 := mul_abs bB bC
  obtain ⟨y1, o1⟩ := z1.narrow (by omega)
  obtain ⟨y2, o2⟩ := z2.narrow (by omega)
  have n1 := fun wq => run_narrowF (P := Tryz.prog) 46 28 (by kernel_rfl) (by kernel_rfl) wq _ o1
  have n2 := fun wq => run_narrowF (P := Tryz.prog) 46 28 (by kernel_rfl) (by kernel_rfl) wq _ o2
  have Y1 := Lib.hid y1
  have Y2 := Lib.hid y2
  clear y1 y2 o1 o2 z1 z2 b1 b2 b3 b4 ha hb hc hd bA bB bC bD
  generalize prX2 a b c d = x at *
  generalize prY2 a b c d = y at *
  go_enter Tryz.func7, Tryz.ntmps7
  go_wp2_with fail
  refine (HP.out _).mono ?_
  rintro e w1 ⟨rfl, hw1⟩
  obtain rfl : w = w1 := hw1.symm
  clear hw1
  go_wp2_with fail
  go_ret
  exact ⟨_, _, rfl, Y1.out, Y2.out, rfl⟩
def pwW (a b : Nat) : Nat := fop .add .f64 (fop .mul .f64 (cwide a) (cwide a)) (fop .mul .f64 (cwide b) (cwide b))
theorem pw_zi {a b : Nat} {A B : Int} (ha : ZI .f32 a A) (hb : ZI .f32 b B) (bA : A.natAbs ≤ 1000000) (bB : B.natAbs ≤ 1000000) : ZI .f64 (pwW a b) (A * A + B * B) := by
  have b1 := mul_abs bA bA
  have b2 := mul_abs bB bB
  exact (ha.wide.mul ha.wide (by omega)).add (hb.wide.mul hb.wide (by omega)) (by omega)
set_option maxRecDepth 100000 in
set_option maxHeartbeats 800000 in
theorem power_fine (w : World) (a b : Nat) (A B : Int) (ha : ZI .f32 a A) (hb : ZI .f32 b B) (bA : A.natAbs ≤ 1000000) (bB : B.natAbs ≤ 1000000) :
    Calls Tryz.prog 41 #[.complex .f32 a b] w fun e w' => e = .returned (.float .f64 (pwW a b)) ∧ w' = w := by
  have HP1 := Lib.hid (fun wq => parts_fine wq a b ha.nn hb.nn)
  have b1 := mul_abs bA bA
  have b2 := mul_abs bB bB
  have z1 := ha.wide.mul ha.wide (by omega)
  have z2 := hb.wide.mul hb.wide (by omega)
  have z5 := z1.add z2 (by omega)
  obtain ⟨x1, hx1⟩ : ∃ x, fop .mul .f64 (cwide a) (cwide a) = x := ⟨_, rfl⟩
  obtain ⟨x2, hx2⟩ : ∃ x, fop .mul .f64 (cwide b) (cwide b) = x := ⟨_, rfl⟩
  obtain ⟨x5, hx5⟩ : ∃ x, pwW a b = x := ⟨_, rfl⟩
  have hx5' : fop .add .f64 x1 x2 = x5 := by rw [← hx5, ← hx1, ← hx2]; rfl
  rw [hx1] at z1 z5
  rw [hx2] at z2 z5
  rw [hx5'] at z5
  have q1 := fine_op .mul (by simp) _ _ _ hx1 z1.nn
  have q2 := fine_op .mul (by simp) _ _ _ hx2 z2.nn
  have q5 := fine_op .add (by simp) _ _ _ hx5' z5.nn
  rw [hx5]
  clear hx1 hx2 hx5 hx5' z1 z2 z5 b1 b2 ha hb bA bB
  go_enter Tryz.func41, Tryz.ntmps41
  go_wp2_with fail
  refine (HP1.out _).mono ?_
  rintro e w1 ⟨rfl, hw1⟩
  obtain rfl : w = w1 := hw1.symm
  clear hw1
  go_wp2_with fail
  go_ret
  exact ⟨rfl, rfl⟩
set_option maxRecDepth 100000 in
set_option maxHeartbeats 800000 in
theorem powerOf_fine (w : World) (a b : Nat) (A B : Int) (ha : ZI .f32 a A) (hb : ZI .f32 b B) (bA : A.natAbs ≤ 200) (bB : B.natAbs ≤ 200) :
    Calls Tryz.prog 8 #[.complex .f32 a b] w fun e w' => ∃ x, e = .returned (.float .f32 x) ∧ ZI .f32 x (A * A + B * B) ∧ w' = w := by
  have HP := Lib.hid (fun wq => power_fine wq a b A B ha hb (by omega) (by omega))
  have b1 := mul_abs bA bA
  have b2 := mul_abs bB bB
  obtain ⟨y1, o1⟩ := (pw_zi ha hb (by omega) (by omega)).narrow (by omega)
  have n1 := fun wq => run_narrowF (P := Tryz.prog) 46 28 (by kernel_rfl) (by kernel_rfl) wq _ o1
  have Y1 := Lib.hid y1
  clear y1 o1 b1 b2 ha hb bA bB
  generalize pwW a b = x at *
  go_enter Tryz.func8, Tryz.ntmps8
  go_wp2_with fail
  refine (HP.out _).mono ?_
  rintro e w1 ⟨rfl, hw1⟩
  obtain rfl : w = w1 := hw1.symm
  clear hw1
  go_wp2_with fail
  go_ret
  exact ⟨_, rfl, Y1.out, rfl⟩
set_option maxRecDepth 100000 in
set_option maxHeartbeats 400000 in
theorem conj_any (w : World) (a b : Nat) :
    Calls Tryz.prog 9 #[.complex .f32 a b] w fun e w' => e = .returned (.complex .f32 a (ngF .f32 b)) ∧ w' = w := by
  have hng : ∀ wq : World, (Op.unary .neg (.float .f32 b)).run Tryz.prog wq = .ok (.float .f32 (ngF .f32 b)) wq := fun wq => run_ngF .f32 wq b
  go_enter Tryz.func9, Tryz.ntmps9
  go_wp2
  go_ret
  exact ⟨rfl, rfl⟩
end Go.Proofs.YtlpmkgcknopgoaaGreatDoor

/- Walks: quotients, lengths, sums of complex numbers whose parts are integers. -/
namespace Go.Proofs.YtlpmkgcknopgoaaGreatDoor
open Go Go.RowKit Ieee

/-- The law's first part of algebra: the product with the conjugate, over the power. -/
theorem quo_alg (A B C D : Int) : (A * C - B * D) * C - (A * D + B * C) * (-D) = A * (C * C + D * D) ∧ (A * C - B * D) * (-D) + (A * D + B * C) * C = B * (C * C + D * D) := by
  constructor <;> grind
theorem ZI.quo {x y : Nat} {a b q : Int} (hx : ZI .f64 x a) (hy : ZI .f64 y b) (hb : b ≠ 0) (hq : q * b = a) (h : q.natAbs < 9007199254740992) : ZI .f64 (fop .quo .f64 x y) q := by
  refine ⟨?_, (fop_cls (k := .f64)).1⟩
  have hb' : (b : Rat) ≠ 0 := fun h0 => hb (Rat.intCast_inj.1 h0)
  exact hx.1.quo_rep hy.1 hb' (by rw [← Rat.intCast_mul, hq]) (rep_int64 q h)
set_option maxRecDepth 100000 in
set_option maxHeartbeats 1600000 in
theorem quotient_fine (w : World) (x y c d : Nat) (A B C D : Int) (hx : ZI .f32 x (A * C - B * D)) (hy : ZI .f32 y (A * D + B * C)) (hc : ZI .f32 c C) (hd : ZI .f32 d D)
    (bA : A.natAbs ≤ 200) (bB : B.natAbs ≤ 200) (bC : C.natAbs ≤ 200) (bD : D.natAbs ≤ 200) (h0 : C * C + D * D ≠ 0) :
    Calls Tryz.prog 13 #[.complex .f32 x y, .complex .f32 c d] w fun e w' => ∃ u v, e = .returned (.complex .f32 u v) ∧ ZI .f32 u A ∧ ZI .f32 v B ∧ w' = w := by
  have b1 := mul_abs bA bC
  have b2 := mul_abs bB bD
  have b3 := mul_abs bA bD
  have b4 := mul_abs bB bC
  have hnd := hd.neg (ngF_lt hd.2)
  have bx : (A * C - B * D).natAbs ≤ 1000000 := by omega
  have byy : (A * D + B * C).natAbs ≤ 1000000 := by omega
  have HP := Lib.hid (fun wq => product_fine wq x y c (ngF .f32 d) _ _ C (-D) hx hy hc hnd bx byy (by omega) (by omega))
  obtain ⟨z1, z2⟩ := prX_zi hx hy hc hnd bx byy (by omega) (by omega)
  rw [(quo_alg A B C D).1] at z1
  rw [(quo_alg A B C D).2] at z2
  have HW := Lib.hid (fun wq => power_fine wq c d C D hc hd (by omega) (by omega))
  have HC := Lib.hid (fun wq => conj_any wq c d)
  have zp := pw_zi hc hd (by omega) (by omega)
  have q1 := z1.quo zp h0 rfl (by omega)
  have q2 := z2.quo zp h0 rfl (by omega)
  obtain ⟨y1, o1⟩ := q1.narrow (by omega)
  obtain ⟨y2, o2⟩ := q2.narrow (by omega)
  have n1 := fun wq => run_narrowF (P := Tryz.prog) 46 28 (by kernel_rfl) (by kernel_rfl) wq _ o1
  have n2 := fun wq => run_narrowF (P := Tryz.prog) 46 28 (by kernel_rfl) (by kernel_rfl) wq _ o2
  have f1 := fine_op .quo (by simp) _ _ _ rfl q1.nn
  have f2 := fine_op .quo (by simp) _ _ _ rfl q2.nn
  have Y1 := Lib.hid y1
  have Y2 := Lib.hid y2
  clear y1 y2 o1 o2 q1 q2 z1 z2 zp b1 b2 b3 b4 bx byy hx hy hc hd hnd bA bB bC bD h0
  generalize fop .quo .f64 (prX2 x y c (ngF .f32 d)) (pwW c d) = u1 at *
  generalize fop .quo .f64 (prY2 x y c (ngF .f32 d)) (pwW c d) = u2 at *
  generalize prX2 x y c (ngF .f32 d) = p1 at *
  generalize prY2 x y c (ngF .f32 d) = p2 at *
  generalize pwW c d = p3 at *
  generalize ngF .f32 d = d2 at *
  go_enter Tryz.func13, Tryz.ntmps13
  go_wp2_with fail
  refine (HC.out _).mono ?_
  rintro e w1 ⟨rfl, hw1⟩
  obtain rfl : w = w1 := hw1.symm
  clear hw1
  go_wp2_with fail
  refine (HP.out _).mono ?_
  rintro e w1 ⟨rfl, hw1⟩
  obtain rfl : w = w1 := hw1.symm
  clear hw1
  go_wp2_with fail
  refine (HW.out _).mono ?_
  rintro e w1 ⟨rfl, hw1⟩
  obtain rfl : w = w1 := hw1.symm
  clear hw1
  go_wp2_with fail
  go_ret
  exact ⟨_, _, rfl, Y1.out, Y2.out, rfl⟩
theorem ZI.mul32 {x y : Nat} {a b : Int} (hx : ZI .f32 x a) (hy : ZI .f32 y b) (h : (a * b).natAbs < 16777216) : ZI .f32 (fop .mul .f32 x y) (a * b) := by
  refine ⟨?_, (fop_cls (k := .f32)).1⟩
  have := hx.1.mul_rep hy.1 (g := 0) (by rw [← Rat.intCast_mul]; exact rep_int32 _ h)
  rw [← Rat.intCast_mul] at this
  exact this
theorem ZI.add32 {x y : Nat} {a b : Int} (hx : ZI .f32 x a) (hy : ZI .f32 y b) (h : (a + b).natAbs < 16777216) : ZI .f32 (fop .add .f32 x y) (a + b) := by
  refine ⟨?_, (fop_cls (k := .f32)).1⟩
  have := hx.1.add_rep hy.1 (g := 0) (by rw [← Rat.intCast_add]; exact rep_int32 _ h)
  rw [← Rat.intCast_add] at this
  exact this
theorem two_zi : ZI .f32 1073741824 2 := ⟨⟨false, 8388608, -22, by decide +kernel, by decide +kernel⟩, by decide⟩
set_option maxRecDepth 100000 in
set_option maxHeartbeats 800000 in
theorem scale_fine (w : World) (a b : Nat) (A B : Int) (ha : ZI .f32 a A) (hb : ZI .f32 b B) (bA : A.natAbs ≤ 200) (bB : B.natAbs ≤ 200) :
    Calls Tryz.prog 14 #[.complex .f32 a b, .float .f32 1073741824] w fun e w' => ∃ x y, e = .returned (.complex .f32 x y) ∧ ZI .f32 x (A * 2) ∧ ZI .f32 y (B * 2) ∧ w' = w := by
  have z1 := ha.mul32 two_zi (by omega)
  have z2 := hb.mul32 two_zi (by omega)
  have f1 := fun wq ty => run_fineK (P := Tryz.prog) .f32 .mul (by simp) wq ty a 1073741824 z1.nn
  have f2 := fun wq ty => run_fineK (P := Tryz.prog) .f32 .mul (by simp) wq ty b 1073741824 z2.nn
  have Z1 := Lib.hid z1
  have Z2 := Lib.hid z2
  clear z1 z2 ha hb bA bB
  go_enter Tryz.func14, Tryz.ntmps14
  go_wp2
  go_ret
  exact ⟨_, _, rfl, Z1.out, Z2.out, rfl⟩
/-- Complex numbers, added and compared. -/
theorem run_farithK {P : Program} (op : BinOp) (h : op = .add ∨ op = .sub ∨ op = .mul ∨ op = .quo) (k : FloatKind) (w : World) (a c x : Nat) (h1 : fop op k a c = x) (n1 : isN k x = false) : (Op.floatArith op k a c).run P w = .ok (.float k x) w := by
  have := run_fineK (P := P) k op h w 0 a c (by rw [h1]; exact n1)
  rw [h1] at this
  rcases h with rfl | rfl | rfl | rfl <;> simpa [binOp] using this
theorem run_caddK (w : World) (t : TypeId) (a b c d x y : Nat) (h1 : fop .add .f32 a c = x) (h2 : fop .add .f32 b d = y) (n1 : isN .f32 x = false) (n2 : isN .f32 y = false) :
    (binOp .add t (.complex .f32 a b) (.complex .f32 c d)).run Tryz.prog w = .ok (.complex .f32 x y) w := by
  have e1 := fun w => run_farithK (P := Tryz.prog) .add (by simp) .f32 w a c x h1 n1
  have e2 := fun w => run_farithK (P := Tryz.prog) .add (by simp) .f32 w b d y h2 n2
  simp [binOp, Op.complexOp, Op.Complex.arith, e1, e2]
theorem run_ceq (w : World) (t : TypeId) (a b c d : Nat) : (binOp .neq t (.complex .f32 a b) (.complex .f32 c d)).run Tryz.prog w = .ok (.bool (!((FloatKind.f32.format.order a c == some Ordering.eq) && (FloatKind.f32.format.order b d == some Ordering.eq)))) w := by
  cases h1 : (FloatKind.f32.format.order a c == some Ordering.eq) <;> cases h2 : (FloatKind.f32.format.order b d == some Ordering.eq) <;> simp [binOp, Op.complexOp, Op.Complex.cmp, Op.floatCmp, h1, h2, asBool]
theorem add_word {k : FloatKind} {x y : Nat} {a b : Rat} (hx : RQ k x a) (hy : RQ k y b) (hp : 0 < a + b) : ∃ T p, fop .add k x y = k.format.nearest false T p ∧ (T : Rat) * sc p = a + b := by
  obtain ⟨s, m, i, h1, rfl⟩ := hx
  obtain ⟨t, n, j, h2, rfl⟩ := hy
  obtain ⟨bb, T, p, hs, hv, -⟩ := sum_rq (s := s) (t := t) (m := m) (n := n) (i := i) (j := j)
  have hnn : (0 : Rat) ≤ (T : Rat) * sc p := Rat.mul_nonneg (nat_nn T) (Rat.le_of_lt (sc_pos p))
  cases bb with
  | true =>
    exfalso
    unfold sgr at hv
    simp only [if_true] at hv
    unfold sgr at hp
    grind
  | false =>
    refine ⟨T, p, ?_, by rw [← hv]; unfold sgr; simp only [Bool.false_eq_true, if_false]; grind⟩
    unfold fop floatBits Format.add
    rw [h1, h2, hs]
    rfl
theorem wide_word {x : Nat} {q : Rat} (hx : RQ .f32 x q) (hp : 0 < q) : ∃ T p, cwide x = Ieee.double.nearest false T p ∧ (T : Rat) * sc p = q := by
  have hn := hx.notNan
  obtain ⟨s, m, e, h1, rfl⟩ := hx
  have hnn : (0 : Rat) ≤ (m : Rat) * sc e := Rat.mul_nonneg (nat_nn m) (Rat.le_of_lt (sc_pos e))
  cases s with
  | true =>
    exfalso
    unfold sgr at hp
    simp only [if_true] at hp
    grind
  | false =>
    refine ⟨m, e, ?_, by unfold sgr; simp only [Bool.false_eq_true, if_false]; grind⟩
    unfold cwide
    rw [hn, if_neg (by decide)]
    unfold FloatKind.encode FloatKind.decode
    rw [h1]
    rfl
theorem int_sq (A : Int) : 0 ≤ A * A := by
  rcases Int.le_total 0 A with h | h
  · exact Int.mul_nonneg h h
  · exact Int.mul_nonneg_of_nonpos_of_nonpos h h
theorem pw_word (A B : Int) (bA : A.natAbs ≤ 200) (bB : B.natAbs ≤ 200) : pwW (floatOfInt .f32 A) (floatOfInt .f32 B) = cwide (floatOfInt .f32 (A * A + B * B)) := by
  have b1 := mul_abs bA bA
  have b2 := mul_abs bB bB
  have ha : ZI .f32 (floatOfInt .f32 A) A := ZI.ofInt A (Nat.lt_of_le_of_lt bA (by decide))
  have hb : ZI .f32 (floatOfInt .f32 B) B := ZI.ofInt B (Nat.lt_of_le_of_lt bB (by decide))
  by_cases h0 : A * A + B * B = 0
  · have hA2 : 0 ≤ A * A := int_sq A
    have hB2 : 0 ≤ B * B := int_sq B
    have e1 : A * A = 0 := by omega
    have e2 : B * B = 0 := by omega
    obtain rfl : A = 0 := by rcases Int.mul_eq_zero.1 e1 with h | h <;> exact h
    obtain rfl : B = 0 := by rcases Int.mul_eq_zero.1 e2 with h | h <;> exact h
    decide +kernel
  · have hA2 : 0 ≤ A * A := int_sq A
    have hB2 : 0 ≤ B * B := int_sq B
    have hpi : (0 : Int) < A * A + B * B := by omega
    have hpos : (0 : Rat) < ((A * A + B * B : Int) : Rat) := Rat.intCast_lt_intCast.2 hpi
    have z1 := ha.wide.mul ha.wide (by omega)
    have z2 := hb.wide.mul hb.wide (by omega)
    obtain ⟨T, p, e1, v1⟩ := add_word z1.1 z2.1 (by rw [← Rat.intCast_add]; exact hpos)
    have hp : ZI .f32 (floatOfInt .f32 (A * A + B * B)) (A * A + B * B) := ZI.ofInt _ (Nat.lt_of_le_of_lt (show (A * A + B * B).natAbs ≤ 80000 by omega) (by decide))
    obtain ⟨T', p', e2, v2⟩ := wide_word hp.1 hpos
    have e3 : pwW (floatOfInt .f32 A) (floatOfInt .f32 B) = Ieee.double.nearest false T p := e1
    rw [e3, e2]
    exact nearest_by_value _ _ _ _ _ _ (by rw [v1, v2, Rat.intCast_add])
theorem root_ok {x : Nat} {P : Int} (hx : ZI .f32 x P) (h0 : 0 ≤ P) (h1 : P ≤ 100000) : (FloatKind.f64.format.sqrt (cwide x)).isSome = true ∧ nrwOk (sqr (cwide x)) = true := by
  have hP0 : (0 : Rat) ≤ (P : Rat) := Rat.intCast_le_intCast.2 h0
  have hP1 : (P : Rat) ≤ 100000 := Rat.intCast_le_intCast.2 h1
  have hs : (P : Rat) < sc 1000 := by
    have : (100000 : Rat) < sc 1000 := by decide +kernel
    grind
  obtain ⟨y, r, hs, y0, hy⟩ := hx.1.wide.sqrt hP0 hs
  have hyb : y ≤ 1000 := sq_le (by grind) (by
    have h3 := uu64
    rw [h3] at hy
    unfold Ab at hy
    have := Rat.mul_le_mul_of_nonneg_right hP1 (show (0 : Rat) ≤ 8 * (1 / 9007199254740992) by decide +kernel)
    grind)
  obtain ⟨d, -, -, h⟩ := r.narrow (B := 1000) (by unfold Ab; grind) (by decide +kernel)
  exact ⟨hs, h⟩
set_option maxRecDepth 100000 in
set_option maxHeartbeats 800000 in
theorem long_fine (w : World) (A B : Int) (bA : A.natAbs ≤ 200) (bB : B.natAbs ≤ 200) :
    Calls Tryz.prog 11 #[.complex .f32 (floatOfInt .f32 A) (floatOfInt .f32 B)] w fun e w' => e = .returned (.float .f32 (nrw (sqr (cwide (floatOfInt .f32 (A * A + B * B)))))) ∧ w' = w := by
  have b1 := mul_abs bA bA
  have b2 := mul_abs bB bB
  have ha : ZI .f32 (floatOfInt .f32 A) A := ZI.ofInt A (Nat.lt_of_le_of_lt bA (by decide))
  have hb : ZI .f32 (floatOfInt .f32 B) B := ZI.ofInt B (Nat.lt_of_le_of_lt bB (by decide))
  have HW := Lib.hid (fun wq => power_fine wq _ _ A B ha hb (by omega) (by omega))
  rw [pw_word A B bA bB] at HW
  have hA2 : 0 ≤ A * A := int_sq A
  have hB2 : 0 ≤ B * B := int_sq B
  have hp : ZI .f32 (floatOfInt .f32 (A * A + B * B)) (A * A + B * B) := ZI.ofInt _ (Nat.lt_of_le_of_lt (show (A * A + B * B).natAbs ≤ 80000 by omega) (by decide))
  obtain ⟨o1, o2⟩ := root_ok hp (by omega) (by omega)
  have HS := Lib.hid (fun wq => mathSqrt_any wq _ o1)
  have n1 := fun wq => run_narrowF (P := Tryz.prog) 46 28 (by kernel_rfl) (by kernel_rfl) wq _ o2
  clear o1 o2 hp hA2 hB2 ha hb b1 b2 bA bB
  generalize cwide (floatOfInt .f32 (A * A + B * B)) = x at *
  generalize nrw (sqr x) = z at *
  generalize sqr x = y at *
  generalize floatOfInt .f32 A = a at *
  generalize floatOfInt .f32 B = b at *
  go_enter Tryz.func11, Tryz.ntmps11
  go_wp2_with fail
  refine (HW.out _).mono ?_
  rintro e w1 ⟨rfl, hw1⟩
  obtain rfl : w = w1 := hw1.symm
  clear hw1
  go_wp2_with fail
  refine (HS.out _).mono ?_
  rintro e w1 ⟨rfl, hw1⟩
  obtain rfl : w = w1 := hw1.symm
  clear hw1
  go_wp2_with fail
  go_ret
  exact ⟨rfl, rfl⟩
set_option maxRecDepth 100000 in
set_option maxHeartbeats 800000 in
theorem specRoot_fine (w : World) (x : Nat) (P : Int) (hx : ZI .f32 x P) (h0 : 0 ≤ P) (h1 : P ≤ 100000) :
    Calls Tryz.prog 12 #[.float .f32 x] w fun e w' => e = .returned (.float .f32 (nrw (sqr (cwide x)))) ∧ w' = w := by
  obtain ⟨o1, o2⟩ := root_ok hx h0 h1
  have HS := Lib.hid (fun wq => mathSqrt_any wq _ o1)
  have n1 := fun wq => run_narrowF (P := Tryz.prog) 46 28 (by kernel_rfl) (by kernel_rfl) wq _ o2
  have hwx := fun wq => run_wideF (P := Tryz.prog) 28 46 (by kernel_rfl) (by kernel_rfl) wq x hx.nn
  clear o1 o2 hx h0 h1
  generalize cwide x = x2 at *
  generalize nrw (sqr x2) = z at *
  generalize sqr x2 = y at *
  have HR : Hid (∀ wq, Calls Tryz.prog 44 #[.float .f32 x] wq fun e w' => e = .returned (.float .f32 z) ∧ w' = wq) := Lib.hid fun wq => by
    go_enter Tryz.func44, Tryz.ntmps44
    go_wp2_with fail
    refine (HS.out _).mono ?_
    rintro e w1 ⟨rfl, hw1⟩
    obtain rfl : wq = w1 := hw1.symm
    clear hw1
    go_wp2_with (go_at_call 80; go_in)
    go_ret
    exact ⟨rfl, rfl⟩
  clear HS n1 hwx
  go_enter Tryz.func12, Tryz.ntmps12
  go_wp2_with fail
  refine (HR.out _).mono ?_
  rintro e w1 ⟨rfl, hw1⟩
  obtain rfl : w = w1 := hw1.symm
  clear hw1
  go_wp2_with fail
  go_ret
  exact ⟨rfl, rfl⟩
end Go.Proofs.YtlpmkgcknopgoaaGreatDoor

/- Walks: complex numbers that are drawn. -/

namespace Go.Proofs.YtlpmkgcknopgoaaGreatDoor
open Go Go.RowKit

def cxV (p : Nat × Nat) : Value := .complex .f32 p.1 p.2
/-- A row of complex numbers that a call has made. -/
def OwnX (w : World) (B : Nat) (v : Value) (L : List (Nat × Nat)) : Prop := w.ownsRow B 24 1 v L.length (L.map cxV)
theorem OwnX.kept {w w' : World} {B : Nat} {v : Value} {L : List (Nat × Nat)} (h : OwnX w B v L) (hb : Below w.heap.size w w') : OwnX w' B v L := by
  refine ⟨h.1, ?_⟩
  rcases h.2 with hn | ⟨g, cap, cur, rfl, hB, hg, r⟩
  · exact .inl hn
  · exact .inr ⟨g, cap, cur, rfl, hB, by rw [hb.block g (Array.getElem?_eq_some_iff.1 hg).1]; exact hg, r⟩
theorem OwnX.lt {w : World} {B : Nat} {v : Value} {L : List (Nat × Nat)} (h : OwnX w B v L) {k : Nat} (hk : v.ownBlock = some k) : B ≤ k ∧ k < w.heap.size := World.ownsRow.lt h k hk
theorem OwnX.chg {w w' : World} {B : Nat} {v : Value} {L : List (Nat × Nat)} (h : OwnX w B v L) {S : Nat → Prop} (hc : Chg w w' S) (hn : ∀ k, v.ownBlock = some k → ¬ S k) : OwnX w' B v L := by
  refine ⟨h.1, ?_⟩
  rcases h.2 with h2 | ⟨g, cap, cur, rfl, hB, hg, r⟩
  · exact .inl h2
  · exact .inr ⟨g, cap, cur, rfl, hB, by rw [hc.block g (Array.getElem?_eq_some_iff.1 hg).1 (hn g rfl)]; exact hg, r⟩
theorem OwnX.mono {w : World} {B B' : Nat} {v : Value} {L : List (Nat × Nat)} (h : OwnX w B v L) (hB : B' ≤ B) : OwnX w B' v L := by
  refine ⟨h.1, ?_⟩
  rcases h.2 with h2 | ⟨g, cap, cur, rfl, hB', r⟩
  · exact .inl h2
  · exact .inr ⟨g, cap, cur, rfl, Nat.le_trans hB hB', r⟩
theorem OwnX.nil (w : World) (B : Nat) : OwnX w B (.slice none 0 0) [] := World.ownsRow_nil _ _ _ _
theorem OwnX.cellAt {w : World} {B : Nat} {v : Value} {P : List (Nat × Nat)} (h : OwnX w B v P) : ∃ a c, v = .slice a P.length c ∧ ∀ j, j < P.length → ∃ b o, a = some ⟨b, o, none⟩ ∧ b < w.heap.size ∧ w.cell? ⟨b, o + j, none⟩ = some (cxV (P.getD j (0, 0))) := by
  have h0 := h
  rcases h.2 with ⟨rfl, hn⟩ | ⟨g, cap, cur, rfl, hb, hg, hn, _⟩
  · exact ⟨none, 0, by rw [hn], fun j hj => by omega⟩
  · refine ⟨some ⟨g, 0, none⟩, cap, rfl, fun j hj => ⟨g, 0, rfl, (Array.getElem?_eq_some_iff.1 hg).1, ?_⟩⟩
    rw [Nat.zero_add, World.ownsRow.cellAt h0 j (by omega), List.getElem?_map, List.getElem?_eq_getElem hj]
    simp [List.getD_eq_getElem?_getD, List.getElem?_eq_getElem hj]
theorem Tryz.infoX : (Tryz.prog.info? 24).map (fun i => (i.zero, i.size, i.bytes)) = some (some (.complex .f32 0 0), 1, 8) := by kernel_rfl
/-- Both parts are words. -/
def Wd (p : Nat × Nat) : Prop := p.1 < 4294967296 ∧ p.2 < 4294967296
theorem wd_snoc {L : List (Nat × Nat)} {q : Nat × Nat} (h : ∀ p ∈ L, Wd p) (hq : Wd q) : ∀ p ∈ L ++ [q], Wd p := fun p hp => by
  rcases List.mem_append.1 hp with h1 | h1
  · exact h p h1
  · rw [List.mem_singleton.1 h1]; exact hq
set_option maxRecDepth 100000 in
set_option maxHeartbeats 1600000 in
theorem drawComplex_any (w : World) (g : Nat) (a : Option Addr) (n c : Nat) (t : Int) (hs : Src w g a n c t) (hy : RY w g a n c) (hn : n ≤ 1048576) (ht : 0 ≤ t) (ht2 : t ≤ 600000) :
    Calls Tryz.prog 57 #[.pointer (some ⟨g, 0, none⟩)] w fun e w' => ∃ (r i : Nat) (t' : Int), e = .returned (.complex .f32 r i) ∧ Wd (r, i) ∧ Src w' g a n c t' ∧ t ≤ t' ∧ t' ≤ t + 24 ∧ Chg w w' (fun k => k = g) := by
  have HY := Lib.hid hy
  have H1 := Lib.hid (drawFloat_any w g a n c t hs hy hn ht (by omega))
  clear hs hy
  go_enter Tryz.func57, Tryz.ntmps57
  go_wp2_with fail
  refine H1.out.mono ?_
  rintro e w1 ⟨r, x, t1, rfl, hf, hs1, h1a, h1b, hc1⟩
  have F := Lib.hid hf
  have S1 := Lib.hid hs1
  have C1 := Lib.hid hc1
  clear hf hs1 hc1 H1
  go_wp2_with fail
  refine (drawFloat_any w1 g a n c t1 S1.out (HY.out.next C1.out) hn (by omega) (by omega)).mono ?_
  rintro e w2 ⟨i, y, t2, rfl, hf2, hs2, h2a, h2b, hc2⟩
  have F2 := Lib.hid hf2
  have S2 := Lib.hid hs2
  have C2 := Lib.hid (C1.out.trans hc2)
  clear hf2 hs2 hc2
  go_wp2_with fail
  go_ret
  exact ⟨r, i, t2, rfl, ⟨F.out.1, F2.out.1⟩, S2.out, by omega, by omega, C2.out⟩
theorem fv16 : FV .f32 1098907648 1098907648 := ⟨by decide, by decide +kernel⟩
set_option maxRecDepth 100000 in
set_option maxHeartbeats 1600000 in
theorem drawFine_any (w : World) (g : Nat) (a : Option Addr) (n c : Nat) (t : Int) (hs : Src w g a n c t) (hy : RY w g a n c) (hn : n ≤ 1048576) (ht : 0 ≤ t) (ht2 : t ≤ 600000) :
    Calls Tryz.prog 58 #[.pointer (some ⟨g, 0, none⟩)] w fun e w' => ∃ (r i : Nat) (t' : Int), e = .returned (.complex .f32 r i) ∧ Wd (r, i) ∧ Src w' g a n c t' ∧ t ≤ t' ∧ t' ≤ t + 24 ∧ Chg w w' (fun k => k = g) := by
  have hquo := run_fquo (P := Tryz.prog)
  have HY := Lib.hid hy
  have H1 := Lib.hid (pickA_any w g a n c t 65 hs hy hn ht (by omega) (by decide) (by decide))
  clear hs hy
  go_enter Tryz.func58, Tryz.ntmps58
  go_wp2_with fail
  refine H1.out.mono ?_
  rintro e w1 ⟨v, t1, rfl, hv0, hv1, hs1, h1a, h1b, hc1⟩
  have HW : Hid (∀ wq, fres .quo .f32 (floatOfInt .f32 (v - 32)) 1098907648 wq < 4294967296) := Lib.hid fun wq => (FV.op (op := .quo) (floatOfInt_fv .f32 _) fv16 wq).1
  obtain ⟨wa, hwa⟩ : ∃ wa, w1.drewN (fcnt .quo .f32 (floatOfInt .f32 (v - 32)) 1098907648) = wa := ⟨_, rfl⟩
  have S1 := Lib.hid (show Src wa g a n c t1 by rw [← hwa]; exact hs1)
  have C1 := Lib.hid (show Chg w wa (fun k => k = g) by rw [← hwa]; exact ⟨hc1.os, hc1.tape, hc1.output, hc1.size, hc1.block⟩)
  clear hs1 hc1 H1
  go_wp2_with fail
  clear hwa
  refine (pickA_any wa g a n c t1 65 S1.out (HY.out.next C1.out) hn (by omega) (by omega) (by decide) (by decide)).mono ?_
  rintro e w2 ⟨v2, t2, rfl, hv20, hv21, hs2, h2a, h2b, hc2⟩
  have HW2 : Hid (∀ wq, fres .quo .f32 (floatOfInt .f32 (v2 - 32)) 1098907648 wq < 4294967296) := Lib.hid fun wq => (FV.op (op := .quo) (floatOfInt_fv .f32 _) fv16 wq).1
  have S2 := Lib.hid hs2
  have C2 := Lib.hid (C1.out.trans hc2)
  clear hs2 hc2
  go_wp2_with fail
  go_ret
  exact ⟨_, _, t2, rfl, ⟨HW.out _, HW2.out _⟩, S2.out, by omega, by omega, ⟨C2.out.os, C2.out.tape, C2.out.output, C2.out.size, C2.out.block⟩⟩
set_option maxRecDepth 100000 in
set_option maxHeartbeats 6400000 in
theorem drawComplexes_any (w : World) (g : Nat) (a : Option Addr) (n c m : Nat) (t : Int) (hs : Src w g a n c t) (hy : RY w g a n c) (hn : n ≤ 1048576) (ht : 0 ≤ t) (ht2 : t ≤ 100000) (hm : m ≤ 1000) :
    Calls Tryz.prog 45 #[.pointer (some ⟨g, 0, none⟩), .int .i64 (m : Nat)] w fun e w' => ∃ (v' : Value) (L : List (Nat × Nat)), e = .returned v' ∧ OwnX w' w.heap.size v' L ∧ L.length = m ∧ (∀ p ∈ L, Wd p) ∧ Chg w w' (fun k => k = g) := by
  have HY := Lib.hid hy
  have hgl := hs.lt
  have xa : Below w.heap.size w (w.alloc (.cells #[] 24)) := (Below.refl _ _).alloc (Nat.le_refl _) _
  have CA := Lib.hid (Chg.of_below xa (fun k => k = g))
  have O0 : Hid (OwnX (w.alloc (.cells #[] 24)) w.heap.size (.slice (some ⟨w.heap.size, 0, none⟩) 0 0) []) := Lib.hid (World.ownsRow_lit w #[] 0 (Nat.le_refl _) (by decide) rfl)
  have HO := Lib.hid (one_any _ g a n c t 5 (hs.ext xa) (HY.out.next CA.out) hn ht (by omega) (by decide) (by decide))
  clear hs hy xa
  go_enter Tryz.func45, Tryz.ntmps45
  go_wp2_with fail
  refine HO.out.mono ?_
  rintro e w1 ⟨b, t1, rfl, hs1, h1a, h1b, hc1⟩
  have C1 := Lib.hid (CA.out.trans hc1)
  have S1 := Lib.hid hs1
  have O1 := Lib.hid (O0.out.chg hc1 fun k hk e => by have := (O0.out.lt hk).1; omega)
  clear hs1 hc1 HO O0 CA
  go_wp2_with fail
  go_loopw [1, 5] (fun i o wr => ∃ (j : Nat) (L : List (Nat × Nat)) (t' : Int), j ≤ m ∧ i = .int .i64 ((m : Int) - j) ∧ L.length = j ∧ (∀ p ∈ L, Wd p) ∧ OwnX wr w.heap.size o L ∧ Src wr g a n c t' ∧ t ≤ t' ∧ t' ≤ t + 2 + 24 * j ∧ Chg w wr (fun k => k = g)) (fun i _ _ => (intOf i).toNat)
  case atStart => exact ⟨0, [], t1, Nat.zero_le _, by simp, rfl, (fun p hp => by cases hp), O1.out, S1.out, by omega, by omega, C1.out⟩
  case round =>
    clear O1 S1 C1
    obtain ⟨wi, rfl⟩ : ∃ wi : World, wi = wr := ⟨_, rfl⟩
    obtain ⟨j, L, t', hj, rfl, hl, hwd, ho, hs, hta, htb, hc⟩ := hrel
    have HWd := Lib.hid hwd
    have HOw := Lib.hid ho
    have HC := Lib.hid hc
    have HS := Lib.hid hs
    have HLn := Lib.hid hl
    have hz := hc.size
    clear ho hs hc hl hwd
    by_cases hlt : j < m
    · cases b with
      | true =>
        go_wp2_with fail
        refine (drawComplex_any wi g a n c t' HS.out (HY.out.next HC.out) hn (by omega) (by omega)).mono ?_
        rintro e w2 ⟨r, x, t2, rfl, hf, hs2, h2a, h2b, hc2⟩
        have F := Lib.hid hf
        have C2 := Lib.hid (HC.out.trans hc2)
        have hz2 := hc2.size
        have O2 := Lib.hid (HOw.out.chg hc2 fun k hk e => by have := (HOw.out.lt hk).1; omega)
        have xb : Below w2.heap.size w2 (w2.alloc (.cells #[.complex .f32 r x] 24)) := (Below.refl _ _).alloc (Nat.le_refl _) _
        have O3 := Lib.hid (O2.out.kept xb)
        have S2 := Lib.hid hs2
        have zb : (w2.alloc (.cells #[.complex .f32 r x] 24)).heap.size = w2.heap.size + 1 := World.size_alloc _ _
        have XB := Lib.hid xb
        have hgl2 := hs2.lt
        clear hf hs2 hc2 xb
        go_wp2_with (at_builtin; go_must (refine wpList_push1 rfl _ _ 25 24 rfl (.complex .f32 0 0) 8 Tryz.underlying25 Tryz.infoX rfl (by decide) w.heap.size _ _ _ rfl O3.out _ _ _ rfl (cell_new _ _ _) rfl (by rw [HLn.out]; omega) (by omega) ?_); intro v4 w4 o4 g4 b4)
        have hbb := (XB.out.mono (show w.heap.size ≤ w2.heap.size by omega)).trans b4
        have hs4 := g4.size
        have o5 : OwnX w4 w.heap.size v4 (L ++ [(r, x)]) := by unfold OwnX; rw [List.map_append, List.length_append]; exact o4
        exact ⟨⟨j + 1, L ++ [(r, x)], t2, by omega, by congr 1; omega, by rw [List.length_append, HLn.out]; rfl, wd_snoc HWd.out F.out, o5, S2.out.below hgl hbb, by omega, by omega, C2.out.below hbb (by omega)⟩, by simp [intOf]; omega⟩
      | false =>
        go_wp2_with fail
        refine (drawFine_any wi g a n c t' HS.out (HY.out.next HC.out) hn (by omega) (by omega)).mono ?_
        rintro e w2 ⟨r, x, t2, rfl, hf, hs2, h2a, h2b, hc2⟩
        have F := Lib.hid hf
        have C2 := Lib.hid (HC.out.trans hc2)
        have hz2 := hc2.size
        have O2 := Lib.hid (HOw.out.chg hc2 fun k hk e => by have := (HOw.out.lt hk).1; omega)
        have xb : Below w2.heap.size w2 (w2.alloc (.cells #[.complex .f32 r x] 24)) := (Below.refl _ _).alloc (Nat.le_refl _) _
        have O3 := Lib.hid (O2.out.kept xb)
        have S2 := Lib.hid hs2
        have zb : (w2.alloc (.cells #[.complex .f32 r x] 24)).heap.size = w2.heap.size + 1 := World.size_alloc _ _
        have XB := Lib.hid xb
        have hgl2 := hs2.lt
        clear hf hs2 hc2 xb
        go_wp2_with (at_builtin; go_must (refine wpList_push1 rfl _ _ 25 24 rfl (.complex .f32 0 0) 8 Tryz.underlying25 Tryz.infoX rfl (by decide) w.heap.size _ _ _ rfl O3.out _ _ _ rfl (cell_new _ _ _) rfl (by rw [HLn.out]; omega) (by omega) ?_); intro v4 w4 o4 g4 b4)
        have hbb := (XB.out.mono (show w.heap.size ≤ w2.heap.size by omega)).trans b4
        have hs4 := g4.size
        have o5 : OwnX w4 w.heap.size v4 (L ++ [(r, x)]) := by unfold OwnX; rw [List.map_append, List.length_append]; exact o4
        exact ⟨⟨j + 1, L ++ [(r, x)], t2, by omega, by congr 1; omega, by rw [List.length_append, HLn.out]; rfl, wd_snoc HWd.out F.out, o5, S2.out.below hgl hbb, by omega, by omega, C2.out.below hbb (by omega)⟩, by simp [intOf]; omega⟩
    · obtain rfl : m = j := by omega
      go_wp2_with fail
      go_ret
      exact ⟨_, L, rfl, HOw.out, HLn.out, HWd.out, HC.out⟩
set_option maxRecDepth 100000 in
set_option maxHeartbeats 1600000 in
theorem b10Complex_any (w : World) (v : Value) (n : Nat) (hy : RdY w v n) (hn : n ≤ 1048576) :
    Calls Tryz.prog 22 #[v] w fun e w' => ∃ r i, e = .returned (.complex .f32 r i) ∧ Wd (r, i) ∧ Below w.heap.size w w' := by
  obtain ⟨a, c, rfl, -, -⟩ := hy.opened
  have xa : Below w.heap.size w (w.alloc (.cells #[.slice a n c, .int .i64 0, .int .u64 0] 94)) := (Below.refl _ _).alloc (Nat.le_refl _) _
  have S0 : Hid (Src (w.alloc (.cells #[.slice a n c, .int .i64 0, .int .u64 0] 94)) w.heap.size a n c 0) := Lib.hid ⟨0, alloc_new _ _, by decide, by decide⟩
  have HCh : Hid (∀ w'', Chg (w.alloc (.cells #[.slice a n c, .int .i64 0, .int .u64 0] 94)) w'' (fun k => k = w.heap.size) → Below w.heap.size w w'') := Lib.hid fun w'' hc => Below.chg xa hc (fun k hk => by omega) (by rw [World.size_alloc]; omega)
  have HY : Hid (RY (w.alloc (.cells #[.slice a n c, .int .i64 0, .int .u64 0] 94)) w.heap.size a n c) := Lib.hid fun w'' hc => hy.mono (HCh.out w'' hc)
  have HF := Lib.hid (l00From_any w a n c)
  clear hy xa
  go_enter Tryz.func22, Tryz.ntmps22
  go_wp2_with fail
  refine HF.out.mono ?_
  rintro e w1 ⟨rfl, hw1⟩
  obtain ⟨W, hW⟩ : ∃ W, w.alloc (.cells #[.slice a n c, .int .i64 0, .int .u64 0] 94) = W := ⟨_, rfl⟩
  rw [hW] at hw1 S0 HCh HY
  obtain rfl : W = w1 := hw1.symm
  clear hW hw1 HF
  go_wp2_with fail
  refine (one_any W w.heap.size a n c 0 4 S0.out HY.out hn (by decide) (by decide) (by decide) (by decide)).mono ?_
  rintro e w2 ⟨b, t1, rfl, hs1, h1a, h1b, hc1⟩
  have S1 := Lib.hid hs1
  have C1 := Lib.hid hc1
  clear hs1 hc1
  cases b with
  | false =>
    go_wp2_with fail
    refine (drawFine_any w2 w.heap.size a n c t1 S1.out (HY.out.next C1.out) hn (by omega) (by omega)).mono ?_
    rintro e w3 ⟨r, i, t3, rfl, hf, -, -, -, hc3⟩
    have F := Lib.hid hf
    have C3 := Lib.hid (C1.out.trans hc3)
    clear hf hc3
    go_wp2
    go_ret
    exact ⟨r, i, rfl, F.out, HCh.out _ C3.out⟩
  | true =>
    go_wp2_with fail
    refine (drawComplex_any w2 w.heap.size a n c t1 S1.out (HY.out.next C1.out) hn (by omega) (by omega)).mono ?_
    rintro e w3 ⟨r, i, t3, rfl, hf, -, -, -, hc3⟩
    have F := Lib.hid hf
    have C3 := Lib.hid (C1.out.trans hc3)
    clear hf hc3
    go_wp2
    go_ret
    exact ⟨r, i, rfl, F.out, HCh.out _ C3.out⟩
set_option maxRecDepth 100000 in
set_option maxHeartbeats 1600000 in
theorem b10Any_any (w : World) (v : Value) (n m : Nat) (hy : RdY w v n) (hn : n ≤ 1048576) (hm : m ≤ 1000) :
    Calls Tryz.prog 15 #[v, .int .i64 (m : Nat)] w fun e w' => ∃ v' L, e = .returned v' ∧ OwnX w' w.heap.size v' L ∧ L.length = m ∧ (∀ p ∈ L, Wd p) ∧ Below w.heap.size w w' := by
  obtain ⟨a, c, rfl, -, -⟩ := hy.opened
  have xa : Below w.heap.size w (w.alloc (.cells #[.slice a n c, .int .i64 0, .int .u64 0] 94)) := (Below.refl _ _).alloc (Nat.le_refl _) _
  have S0 : Hid (Src (w.alloc (.cells #[.slice a n c, .int .i64 0, .int .u64 0] 94)) w.heap.size a n c 0) := Lib.hid ⟨0, alloc_new _ _, by decide, by decide⟩
  have HCh : Hid (∀ w'', Chg (w.alloc (.cells #[.slice a n c, .int .i64 0, .int .u64 0] 94)) w'' (fun k => k = w.heap.size) → Below w.heap.size w w'') := Lib.hid fun w'' hc => Below.chg xa hc (fun k hk => by omega) (by rw [World.size_alloc]; omega)
  have HY : Hid (RY (w.alloc (.cells #[.slice a n c, .int .i64 0, .int .u64 0] 94)) w.heap.size a n c) := Lib.hid fun w'' hc => hy.mono (HCh.out w'' hc)
  have HF := Lib.hid (l00From_any w a n c)
  have hzW : (w.alloc (.cells #[.slice a n c, .int .i64 0, .int .u64 0] 94)).heap.size = w.heap.size + 1 := World.size_alloc _ _
  clear hy xa
  go_enter Tryz.func15, Tryz.ntmps15
  go_wp2_with fail
  refine HF.out.mono ?_
  rintro e w1 ⟨rfl, hw1⟩
  obtain ⟨W, hW⟩ : ∃ W, w.alloc (.cells #[.slice a n c, .int .i64 0, .int .u64 0] 94) = W := ⟨_, rfl⟩
  rw [hW] at hw1 S0 HCh HY hzW
  obtain rfl : W = w1 := hw1.symm
  clear hW hw1 HF
  go_wp2_with fail
  refine (drawComplexes_any W w.heap.size a n c m 0 S0.out HY.out hn (by decide) (by decide) hm).mono ?_
  rintro e w2 ⟨v', L, rfl, ho, hl, hwd, hc⟩
  obtain ⟨a2, n2, c2, rfl⟩ : ∃ a n c, v' = .slice a n c := by obtain ⟨a, c, h, -⟩ := ho.cellAt; exact ⟨a, _, c, h⟩
  have O := Lib.hid ho
  have C := Lib.hid hc
  have HL := Lib.hid hl
  have HWd := Lib.hid hwd
  clear ho hc hl hwd
  go_wp2
  go_ret
  exact ⟨_, L, rfl, O.out.mono (by omega), HL.out, HWd.out, HCh.out _ C.out⟩
end Go.Proofs.YtlpmkgcknopgoaaGreatDoor

/- Walks: texts of complex numbers, written and read back. -/
namespace Go.Proofs.YtlpmkgcknopgoaaGreatDoor
open Go Go.RowKit

def dgX (p : Nat × Nat) : List UInt8 := digs 8 (can .f32 p.1) ++ digs 8 (can .f32 p.2)
def cxT (p : Nat × Nat) : ByteArray := mkB (dgX p)
def caX (p : Nat × Nat) : Nat × Nat := (can .f32 p.1, can .f32 p.2)
theorem dgX_length (p : Nat × Nat) : (dgX p).length = 16 := by unfold dgX; rw [List.length_append, digs_length, digs_length]
theorem dgX_no (p : Nat × Nat) : (44 : UInt8) ∉ dgX p := fun h => by
  rcases List.mem_append.1 h with h | h
  · exact digs_no 8 _ 44 digH_44 h
  · exact digs_no 8 _ 44 digH_44 h
theorem cxT_app (p : Nat × Nat) : hexT (can .f32 p.1) ++ hexT (can .f32 p.2) = cxT p := bytes_append _ _
def txX (L : List (Nat × Nat)) : ByteArray := if L = [] then noneT else mkB (Lib.join (L.map dgX) [44])
theorem join_length : ∀ (x : List UInt8) (r : List (List UInt8)) (n : Nat), x.length = n → (∀ p ∈ r, p.length = n) → (Lib.join (x :: r) [44]).length + 1 = (n + 1) * (r.length + 1)
  | x, [], n, hx, _ => by rw [Lib.join_one, hx]; simp
  | x, y :: r, n, hx, hr => by
    have ih := join_length y r n (hr y (by simp)) (fun p hp => hr p (by simp [hp]))
    rw [Lib.join_cons] at ih ⊢
    have e : x ++ Lib.joinTail [44] (y :: r) = x ++ (44 :: (y ++ Lib.joinTail [44] r)) := by simp [Lib.joinTail]
    rw [e, List.length_append, List.length_cons, List.length_cons, hx, Nat.mul_add (n + 1) (r.length + 1) 1]
    omega
theorem txX_length (L : List (Nat × Nat)) (h : 0 < L.length) : (Lib.join (L.map dgX) [44]).length + 1 = 17 * L.length := by
  match L, h with
  | p :: r, _ =>
    rw [List.map_cons]
    have := join_length (dgX p) (r.map dgX) 16 (dgX_length p) (fun q hq => by obtain ⟨y, -, rfl⟩ := List.mem_map.1 hq; exact dgX_length y)
    rw [List.length_map] at this
    rw [List.length_cons]
    exact this
theorem txX_small (L : List (Nat × Nat)) (h : L.length ≤ 1000) : (txX L).size ≤ 1048576 := by
  unfold txX
  split
  · decide
  · rename_i hn
    have := txX_length L (List.length_pos_iff.2 hn)
    rw [mkB_size]
    omega
theorem cut_txX {L : List (Nat × Nat)} (h : 0 < L.length) : cutB 44 (txX L) = L.map cxT := by
  unfold txX
  rw [if_neg (by intro e; rw [e] at h; cases h)]
  unfold cutB
  match L, h with
  | p :: r, _ =>
    show List.map mkB (cutL 44 (Lib.join (dgX p :: r.map dgX) [44])) = _
    rw [cutL_join 44 (dgX p) (r.map dgX) (dgX_no p) (fun q hq => by
      obtain ⟨y, -, rfl⟩ := List.mem_map.1 hq
      exact dgX_no y)]
    rw [List.map_cons, List.map_cons, List.map_map]
    rfl
theorem txX_not {L : List (Nat × Nat)} (h : 0 < L.length) : ¬ txX L = noneT := fun e => by
  have h1 := congrArg ByteArray.size e
  have h2 := txX_length L h
  unfold txX at h1
  rw [if_neg (by intro e; rw [e] at h; cases h), mkB_size] at h1
  have h3 : noneT.size = 4 := by decide
  omega
set_option maxRecDepth 100000 in
set_option maxHeartbeats 800000 in
theorem complexText_any (w : World) (p : Nat × Nat) (hp : Wd p) (hT : Tab16 w) :
    Calls Tryz.prog 48 #[.complex .f32 p.1 p.2] w fun e w' => e = .returned (.string (cxT p)) ∧ Below w.heap.size w w' := by
  have H1 := Lib.hid (fun wq hq => bitsText_any wq p.1 _ (FV.can (k := .f32) hp.1) hq)
  have H2 := Lib.hid (fun wq hq => bitsText_any wq p.2 _ (FV.can (k := .f32) hp.2) hq)
  have HT := Lib.hid hT
  have HA := Lib.hid (cxT_app p)
  have hz1 := hexT_size (can .f32 p.1)
  have hz2 := hexT_size (can .f32 p.2)
  clear hp hT
  generalize hexT (can .f32 p.1) = s1 at *
  generalize hexT (can .f32 p.2) = s2 at *
  generalize cxT p = s3 at *
  generalize p.1 = r at *
  generalize p.2 = i at *
  go_enter Tryz.func48, Tryz.ntmps48
  go_wp2_with fail
  refine (H1.out w HT.out).mono ?_
  rintro e w1 ⟨rfl, b1⟩
  have B1 := Lib.hid b1
  have z1 := b1.size
  clear b1
  go_wp2_with fail
  refine (H2.out w1 (Tab16.mono HT.out B1.out)).mono ?_
  rintro e w2 ⟨rfl, b2⟩
  have B2 := Lib.hid (B1.out.trans (b2.mono z1))
  clear b2
  go_wp2
  go_ret
  exact ⟨by rw [← HA.out]; rfl, B2.out⟩
theorem map_take_snoc {α β : Type} (f : α → β) (d : α) (L : List α) (j : Nat) (h : j < L.length) : (L.take (j + 1)).map f = (L.take j).map f ++ [f (L.getD j d)] := by
  rw [List.take_add_one, List.getElem?_eq_getElem h, List.map_append, List.getD_eq_getElem?_getD, List.getElem?_eq_getElem h]
  rfl
set_option maxRecDepth 100000 in
set_option maxHeartbeats 1600000 in
theorem joinTextsX_any (w : World) (B : Nat) (v : Value) (L : List (Nat × Nat)) (h : OwnX w B v L) (hwd : ∀ p ∈ L, Wd p) (hm : L.length ≤ 1000) (hT : Tab16 w) :
    Calls Tryz.prog 47 #[v, .func (.func 48) #[] #[]] w fun e w' => e = .returned (.string (txX L)) ∧ Below w.heap.size w w' := by
  obtain ⟨a, c, rfl, hcell⟩ := h.cellAt
  have H := Lib.hid h
  have HT := Lib.hid hT
  have HWd := Lib.hid hwd
  clear h hT hwd
  by_cases hl : 0 < L.length
  · have HX : Hid (txX L = mkB (Lib.join (L.map dgX) [44])) := Lib.hid (by unfold txX; rw [if_neg (by intro e; rw [e] at hl; cases hl)])
    have hz : ((L.length : Int) == 0) = false := beq_eq_false_iff_ne.2 (by omega)
    have hown0 : OwnStr w w.heap.size (.slice none 0 0) [] := World.ownsRow_nil _ _ _ _
    go_enter Tryz.func47, Tryz.ntmps47
    go_wp2_with fail
    go_loopw [5, 7, 13] (fun u _ i wr => ∃ j : Nat, j ≤ L.length ∧ i = .int .i64 j ∧ OwnStr wr w.heap.size u ((L.take j).map cxT) ∧ Below w.heap.size w wr) (fun _ _ i _ => L.length - (intOf i).toNat)
    case atStart => exact ⟨0, Nat.zero_le _, rfl, hown0, Below.refl _ _⟩
    case round =>
      obtain ⟨wi, rfl⟩ : ∃ wi : World, wi = wr := ⟨_, rfl⟩
      obtain ⟨j, hj, rfl, ho, hb⟩ := hrel
      by_cases hlt : j < L.length
      · obtain ⟨b, o, rfl, -, d0⟩ := hcell j hlt
        have hwj : Wd (L.getD j (0, 0)) := HWd.out _ (by rw [List.getD_eq_getElem?_getD, List.getElem?_eq_getElem hlt]; exact List.getElem_mem hlt)
        have HTk := Lib.hid (map_take_snoc cxT (0, 0) L j hlt)
        obtain ⟨p, hp⟩ : ∃ p, L.getD j (0, 0) = p := ⟨_, rfl⟩
        rw [hp] at d0 hwj HTk
        have d : wi.cell? ⟨b, o + j, none⟩ = some (.complex .f32 p.1 p.2) := by rw [(bcell hb).1 _ _ (block_lt d0)]; exact d0
        have HT2 := Lib.hid (HT.out.mono hb)
        have Ho := Lib.hid ho
        have Hp := Lib.hid hwj
        clear hcell d0 ho hown0 hz hp hwj
        have HCT := Lib.hid (complexText_any wi p Hp.out HT2.out)
        generalize cxT p = s at *
        go_wp2_with fail
        refine HCT.out.mono ?_
        rintro e w2 ⟨rfl, b2⟩
        have hb2 := hb.trans (b2.mono hb.size)
        have Ho2 := Lib.hid (OwnStr.kept Ho.out b2)
        clear d
        go_wp2_with (at_builtin; refine wpList_push1 rfl _ _ 97 9 rfl (.string ⟨#[]⟩) 16 Tryz.underlying97 Tryz.infoStrT rfl (by decide) w.heap.size _ _ _ rfl (World.ownsRow.alloc Ho2.out _) _ _ _ rfl (cell_new _ _ _) rfl (by rw [List.length_map, List.length_take]; omega) (by have := hb2.size; simp; omega) ?_; intro v2 w3 h2 g2 b3)
        refine ⟨⟨j + 1, by omega, by go_num, ?_, (hb2.alloc hb2.size _).trans b3⟩, by simp [intOf]; omega⟩
        unfold OwnStr
        rw [HTk.out, List.map_append, List.length_append]
        exact h2
      · obtain rfl : j = L.length := by omega
        rw [List.take_length] at ho
        obtain ⟨g, cap, rfl, hg, hg2, hcap, hcells⟩ := ho.form (by simpa using hl)
        have htxt : Lib.join ((L.map cxT).map (·.data.toList)) (⟨#[44]⟩ : ByteArray).data.toList = Lib.join (L.map dgX) [44] := by
          rw [List.map_map]
          rfl
        have hj : Calls Tryz.prog 81 #[.slice (some ⟨g, 0, none⟩) (L.map cxT).length cap, .string ⟨#[44]⟩] wi fun e w' => e = .returned (.string (txX L)) ∧ Below wi.heap.size wi w' := by
          rw [HX.out]
          unfold mkB
          rw [← htxt]
          exact Tryz.strings_Join g 0 cap (L.map cxT) ⟨#[44]⟩ wi hcells hg2 (by simp; omega) hcap (by rw [htxt]; have := txX_length L hl; omega)
        rw [List.length_map] at hj ⊢
        have Hj := Lib.hid hj
        clear hj htxt hcells ho hown0 hz hcell
        go_wp2_with fail
        refine Hj.out.mono ?_
        rintro e w2 ⟨rfl, b2⟩
        go_wp2
        go_ret
        exact ⟨rfl, hb.trans (b2.mono hb.size)⟩
  · obtain rfl : L = [] := List.eq_nil_of_length_eq_zero (by omega)
    go_enter Tryz.func47, Tryz.ntmps47
    go_wp2
    go_ret
    exact ⟨rfl, Below.refl _ _⟩
set_option maxRecDepth 100000 in
set_option maxHeartbeats 800000 in
theorem complexTextL_any (w : World) (B : Nat) (v : Value) (L : List (Nat × Nat)) (h : OwnX w B v L) (hwd : ∀ p ∈ L, Wd p) (hm : L.length ≤ 256) (hT : Tab16 w) :
    Calls Tryz.prog 17 #[v] w fun e w' => e = .returned (.tuple #[.string (txX L), .bool true]) ∧ Below w.heap.size w w' := by
  have HJ := Lib.hid (joinTextsX_any w B v L h hwd (by omega) hT)
  obtain ⟨a, c, rfl, -⟩ := h.cellAt
  have hle : (L.length : Int) ≤ 256 := by omega
  clear h hT hwd
  generalize txX L = s at *
  go_enter Tryz.func17, Tryz.ntmps17
  go_wp2_with (go_at_call 46; go_in)
  refine HJ.out.mono ?_
  rintro e w1 ⟨rfl, hb⟩
  go_wp2
  go_ret2
  exact ⟨rfl, hb⟩
end Go.Proofs.YtlpmkgcknopgoaaGreatDoor

/- Walks: complex numbers read back from their texts. -/
namespace Go.Proofs.YtlpmkgcknopgoaaGreatDoor
open Go Go.RowKit

theorem rb_hex {x : Nat} (h : x < 4294967296) (hc : can .f32 x = x) : rb (hexT x) = some x := rb_some ⟨h, hc, rfl⟩
set_option maxRecDepth 100000 in
set_option maxHeartbeats 800000 in
theorem readComplex_good (w : World) (x y : Nat) (hx : x < 4294967296) (hy : y < 4294967296) (cx : can .f32 x = x) (cy : can .f32 y = y) (hD : Dr w) :
    Calls Tryz.prog 50 #[.string (mkB (digs 8 x ++ digs 8 y))] w fun e w' => e = .returned (.tuple #[.complex .f32 x y, .bool true]) ∧ Below w.heap.size w w' := by
  have l1 := digs_length 8 x
  have l2 := digs_length 8 y
  have hsz : (mkB (digs 8 x ++ digs 8 y)).size = 16 := by rw [mkB_size, List.length_append, l1, l2]
  have H1 := Lib.hid (fun wq hq => readBits_any wq (hexT x) (by rw [hexT_size]; decide) hq)
  have H2 := Lib.hid (fun wq hq => readBits_any wq (hexT y) (by rw [hexT_size]; decide) hq)
  have R1 := Lib.hid (rb_hex hx cx)
  have R2 := Lib.hid (rb_hex hy cy)
  have HD := Lib.hid hD
  clear hD hx hy cx cy
  have e1 : (mkB (digs 8 x ++ digs 8 y)).extract 0 8 = hexT x := by
    apply ByteArray.ext
    apply Array.toList_inj.1
    rw [Lib.extract_data]
    show List.take 8 (List.drop 0 (digs 8 x ++ digs 8 y)) = digs 8 x
    rw [List.drop_zero, List.take_append_of_le_length (by omega), List.take_of_length_le (by omega)]
  have e2 : (mkB (digs 8 x ++ digs 8 y)).extract 8 16 = hexT y := by
    apply ByteArray.ext
    apply Array.toList_inj.1
    rw [Lib.extract_data]
    show List.take 8 (List.drop 8 (digs 8 x ++ digs 8 y)) = digs 8 y
    rw [List.drop_append_of_le_length (by omega), List.drop_of_length_le (by omega), List.nil_append, List.take_of_length_le (by omega)]
  have E1 := Lib.hid e1
  have E2 := Lib.hid e2
  clear e1 e2 l1 l2
  generalize mkB (digs 8 x ++ digs 8 y) = s at *
  go_enter Tryz.func50, Tryz.ntmps50
  go_wp2_with fail
  rw [E1.out]
  refine (H1.out w HD.out).mono ?_
  rintro e w1 ⟨u, rfl, hu, b1⟩
  have B1 := Lib.hid b1
  have z1 := b1.size
  clear b1
  rcases hu with ⟨n, hn, rfl⟩ | ⟨hn, -⟩
  · obtain rfl : x = n := Option.some.inj (R1.out.symm.trans hn)
    clear hn
    go_wp2_with fail
    rw [E2.out]
    refine (H2.out w1 (HD.out.mono B1.out)).mono ?_
    rintro e w2 ⟨u, rfl, hu, b2⟩
    have B2 := Lib.hid (B1.out.trans (b2.mono z1))
    clear b2
    rcases hu with ⟨n, hn, rfl⟩ | ⟨hn, -⟩
    · obtain rfl : y = n := Option.some.inj (R2.out.symm.trans hn)
      clear hn
      go_wp2_with fail
      go_ret2
      exact ⟨rfl, B2.out⟩
    · rw [R2.out] at hn; cases hn
  · rw [R1.out] at hn; cases hn
/-- The texts of all are read back. -/
def CxT (L : List (Nat × Nat)) : Prop := ∀ p ∈ L, Wd p
theorem caX_wd {p : Nat × Nat} (h : Wd p) : (caX p).1 < 4294967296 ∧ (caX p).2 < 4294967296 ∧ can .f32 (caX p).1 = (caX p).1 ∧ can .f32 (caX p).2 = (caX p).2 :=
  ⟨can_lt (k := .f32) h.1, can_lt (k := .f32) h.2, can_can _ _, can_can _ _⟩
theorem prt_map {α : Type} (f : α → ByteArray) (d : α) (L : List α) (j : Nat) (h : j < L.length) : prt (L.map f) j = f (L.getD j d) := by
  unfold prt
  rw [List.getD_eq_getElem?_getD, List.getElem?_map, List.getD_eq_getElem?_getD, List.getElem?_eq_getElem h]
  rfl
set_option maxRecDepth 100000 in
set_option maxHeartbeats 1600000 in
theorem readComplexL_any (w : World) (L : List (Nat × Nat)) (hwd : ∀ p ∈ L, Wd p) (hm : L.length ≤ 100) (hD : Dr w) :
    Calls Tryz.prog 49 #[.string (txX L), .int .i64 256, .func (.func 50) #[] #[]] w fun e w' => ∃ v, e = .returned (.tuple #[v, .bool true]) ∧ OwnX w' w.heap.size v (L.map caX) ∧ Below w.heap.size w w' := by
  by_cases hl : 0 < L.length
  · have hno := txX_not hl
    have hne : ¬ (txX L).toList = [110, 111, 110, 101] := fun e => neq_bytes hno (by rw [e, ByteArray.toList_eq]; rfl)
    have hne2 : ((txX L).toList == [110, 111, 110, 101]) = false := by rw [beq_eq_false_iff_ne]; exact hne
    obtain ⟨m, hmx⟩ := hD.mxl
    have hsm := txX_small L (by omega)
    have HSp := Lib.hid (Tryz.strings_Split (txX L) ⟨#[44]⟩ m w (by omega) hmx (Nat.le_refl 1))
    obtain ⟨hs1, hs2⟩ := splitB_cut 44 (txX L)
    have hcut := cut_txX hl
    rw [hs1, hs2, hcut] at HSp
    have HD := Lib.hid hD
    have HWd := Lib.hid hwd
    have hpl : (L.map cxT).length = L.length := List.length_map _
    have HPr := Lib.hid (prt_map cxT (0, 0) L)
    rw [hpl] at HSp
    clear hs1 hs2 hmx hD hno hwd hcut hsm
    generalize txX L = t at *
    go_enter Tryz.func49, Tryz.ntmps49
    go_wp2_with fail
    refine HSp.out.mono ?_
    clear HSp
    rintro e w1 ⟨rfl, hw1⟩
    have hcell : ∀ j, j < L.length → w1.cell? ⟨w.heap.size, j, none⟩ = some (.string (prt (L.map cxT) j)) := fun j hj => by
      rw [cell_of_row w1 _ j _ _ _ (by rw [hw1]; exact alloc_new _ _)]
      rw [List.getElem?_toArray, List.getElem?_map, List.getElem?_eq_getElem (by rw [List.length_map]; exact hj)]
      simp [prt, List.getD_eq_getElem?_getD, List.getElem?_eq_getElem hj]
    have hb1 : Below w.heap.size w w1 := by rw [hw1]; exact (Below.refl _ _).alloc (Nat.le_refl _) _
    have hz1 : w1.heap.size = w.heap.size + 1 := by rw [hw1]; exact World.size_alloc _ _
    have HC := Lib.hid hcell
    have B1 := Lib.hid hb1
    clear hcell hb1 hw1
    go_wp2_with fail
    go_loopw [8, 18] (fun v i wr => ∃ (j : Nat), j ≤ L.length ∧ i = .int .i64 j ∧ OwnX wr w1.heap.size v ((L.take j).map caX) ∧ Below w1.heap.size w1 wr) (fun _ i _ => L.length - (intOf i).toNat)
    case atStart => exact ⟨0, Nat.zero_le _, rfl, OwnX.nil _ _, Below.refl _ _⟩
    case round =>
      obtain ⟨wi, rfl⟩ : ∃ wi : World, wi = wr := ⟨_, rfl⟩
      obtain ⟨j, hj, rfl, ho, hb⟩ := hrel
      have HO := Lib.hid ho
      have HB := Lib.hid hb
      have hzi := hb.size
      obtain ⟨a8, c8, rfl, -⟩ := ho.cellAt
      have hl8 : ((L.take j).map caX).length = j := by rw [List.length_map, List.length_take]; omega
      by_cases hlt : j < L.length
      · have hc0 := ((bcell hb).1 _ _ (by omega)).trans (HC.out j hlt)
        rw [HPr.out j hlt] at hc0
        have hwj : Wd (L.getD j (0, 0)) := HWd.out _ (by rw [List.getD_eq_getElem?_getD, List.getElem?_eq_getElem hlt]; exact List.getElem_mem hlt)
        have HTk := Lib.hid (map_take_snoc caX (0, 0) L j hlt)
        obtain ⟨p, hp⟩ : ∃ p, L.getD j (0, 0) = p := ⟨_, rfl⟩
        rw [hp] at hc0 hwj HTk
        obtain ⟨k1, k2, k3, k4⟩ := caX_wd hwj
        have HRC := Lib.hid (readComplex_good wi _ _ k1 k2 k3 k4 (HD.out.mono (B1.out.trans (hb.mono (by omega)))))
        rw [show mkB (digs 8 (caX p).1 ++ digs 8 (caX p).2) = cxT p from rfl] at HRC
        have hd : ((j : Int) == 256) = false := by rw [beq_eq_false_iff_ne]; omega
        have H8 := Lib.hid hl8
        clear ho hb hp hwj k1 k2 k3 k4
        rw [hl8] at HO ⊢
        clear hl8
        generalize cxT p = s at *
        obtain ⟨x, hx⟩ : ∃ x, (caX p).1 = x := ⟨_, rfl⟩
        obtain ⟨y, hy⟩ : ∃ y, (caX p).2 = y := ⟨_, rfl⟩
        have HPP : Hid (cxV (caX p) = .complex .f32 x y) := Lib.hid (by unfold cxV; rw [hx, hy])
        rw [hx, hy] at HRC
        clear hx hy
        go_wp2_with fail
        refine HRC.out.mono ?_
        clear HRC
        rintro e w2 ⟨rfl, b2⟩
        have B2 := Lib.hid b2
        have hz2 := b2.size
        clear b2
        have HO2 : Hid (w2.ownsRow w1.heap.size 24 1 (.slice a8 j c8) j (((L.take j).map caX).map cxV)) := Lib.hid (by have := HO.out.kept B2.out; unfold OwnX at this; rw [H8.out] at this; exact this)
        go_wp2_with (at_builtin; go_must (refine wpList_push1 rfl _ _ 25 24 rfl (.complex .f32 0 0) 8 Tryz.underlying25 Tryz.infoX rfl (by decide) w1.heap.size _ _ _ rfl (World.ownsRow.alloc HO2.out _) _ _ _ rfl (cell_new _ _ _) rfl (by omega) (by rw [World.size_alloc]; omega) ?_); intro v9 w9 o9 g9 b9)
        refine ⟨⟨j + 1, by omega, by go_num, ?_, ((HB.out.trans (B2.out.mono hzi)).alloc (by omega) _).trans b9⟩, by simp [intOf]; omega⟩
        unfold OwnX
        rw [HTk.out, List.map_append, List.length_append, H8.out]
        have e9 : List.map cxV [caX p] = [.complex .f32 x y] := by rw [List.map_cons, List.map_nil, HPP.out]
        rw [e9]
        exact o9
      · obtain rfl : j = L.length := by omega
        have HF : Hid (OwnX wi w1.heap.size (.slice a8 L.length c8) (L.map caX)) := Lib.hid (by have := HO.out; rw [hl8, List.take_length] at this; exact this)
        clear ho hb
        rw [hl8]
        clear hl8 HO
        go_wp2
        go_ret2
        exact ⟨_, rfl, HF.out.mono (by omega), B1.out.trans (HB.out.mono (by omega))⟩
  · obtain rfl : L = [] := List.eq_nil_of_length_eq_zero (by omega)
    rw [show txX [] = noneT from rfl]
    go_enter Tryz.func49, Tryz.ntmps49
    unfold noneT at *
    go_wp2
    go_ret2
    exact ⟨_, rfl, OwnX.nil _ _, Below.refl _ _⟩
end Go.Proofs.YtlpmkgcknopgoaaGreatDoor

/- Walks: complex numbers compared, narrowed, finite; whole complex numbers drawn. -/
namespace Go.Proofs.YtlpmkgcknopgoaaGreatDoor
open Go Go.RowKit

set_option maxRecDepth 100000 in
set_option maxHeartbeats 400000 in
theorem readComplexT_any (w : World) (L : List (Nat × Nat)) (hwd : ∀ p ∈ L, Wd p) (hm : L.length ≤ 100) (hD : Dr w) :
    Calls Tryz.prog 18 #[.string (txX L)] w fun e w' => ∃ v, e = .returned (.tuple #[v, .bool true]) ∧ OwnX w' w.heap.size v (L.map caX) ∧ Below w.heap.size w w' := by
  have HR := Lib.hid (readComplexL_any w L hwd hm hD)
  clear hD hwd
  generalize txX L = t at *
  go_enter Tryz.func18, Tryz.ntmps18
  go_wp2_with fail
  refine HR.out.mono ?_
  rintro e w1 ⟨v, rfl, o1, b1⟩
  have O1 := Lib.hid o1
  have B1 := Lib.hid b1
  clear o1 b1 HR
  go_wp2
  go_ret2
  exact ⟨v, rfl, O1.out, B1.out⟩
set_option maxRecDepth 100000 in
set_option maxHeartbeats 400000 in
theorem l01SameP_any (w : World) (r s x y : Nat) (hr : FV .f32 r x) (hs : FV .f32 s y) :
    Calls Tryz.prog 42 #[.float .f32 r, .float .f32 s] w fun e w' => e = .returned (.bool (x == y)) ∧ w' = w := by
  rw [← beq_cast]
  go_enter Tryz.func42, Tryz.ntmps42
  go_wp2_with fail
  refine (l01Bits_any w r x hr).mono ?_
  rintro e1 w1 ⟨rfl, hw1⟩
  obtain rfl : w = w1 := hw1.symm
  clear hw1
  go_wp2_with fail
  refine (l01Bits_any w s y hs).mono ?_
  rintro e1 w1 ⟨rfl, hw1⟩
  obtain rfl : w = w1 := hw1.symm
  clear hw1
  go_wp2
  go_ret
  exact ⟨rfl, rfl⟩
set_option maxRecDepth 100000 in
set_option maxHeartbeats 400000 in
theorem sameNumberP_any (w : World) (r s x y : Nat) (hr : FV .f32 r x) (hs : FV .f32 s y) :
    Calls Tryz.prog 60 #[.float .f32 r, .float .f32 s] w fun e w' => e = .returned (.bool (x == y)) ∧ w' = w := by
  rw [← beq_cast]
  go_enter Tryz.func60, Tryz.ntmps60
  go_wp2_with fail
  refine (bitsOf_any w r x hr).mono ?_
  rintro e1 w1 ⟨rfl, hw1⟩
  obtain rfl : w = w1 := hw1.symm
  clear hw1
  go_wp2_with fail
  refine (bitsOf_any w s y hs).mono ?_
  rintro e1 w1 ⟨rfl, hw1⟩
  obtain rfl : w = w1 := hw1.symm
  clear hw1
  go_wp2
  go_ret
  exact ⟨rfl, rfl⟩
set_option maxRecDepth 100000 in
set_option maxHeartbeats 800000 in
theorem specSameC_true (w : World) (r i s j x y : Nat) (h1 : FV .f32 r x) (h2 : FV .f32 i y) (h3 : FV .f32 s x) (h4 : FV .f32 j y) :
    Calls Tryz.prog 59 #[.complex .f32 r i, .complex .f32 s j] w fun e w' => e = .returned (.bool true) ∧ w' = w := by
  have K1 := Lib.hid (fun wq => l01SameP_any wq r s x x h1 h3)
  have K2 := Lib.hid (fun wq => l01SameP_any wq i j y y h2 h4)
  rw [beq_self_eq_true] at K1 K2
  clear h1 h2 h3 h4
  have HK : Hid (∀ wq, Calls Tryz.prog 85 #[.complex .f32 r i, .complex .f32 s j] wq fun e w' => e = .returned (.bool true) ∧ w' = wq) := Lib.hid fun wq => by
    go_enter Tryz.func85, Tryz.ntmps85
    go_wp2_with fail
    refine (K1.out _).mono ?_
    rintro e1 w1 ⟨rfl, hw1⟩
    obtain rfl : wq = w1 := hw1.symm
    clear hw1
    go_wp2_with fail
    refine (K2.out _).mono ?_
    rintro e1 w1 ⟨rfl, hw1⟩
    obtain rfl : wq = w1 := hw1.symm
    clear hw1
    go_wp2
    go_ret
    exact ⟨rfl, rfl⟩
  clear K1 K2
  go_enter Tryz.func59, Tryz.ntmps59
  go_wp2_with fail
  refine (HK.out _).mono ?_
  rintro e1 w1 ⟨rfl, hw1⟩
  obtain rfl : w = w1 := hw1.symm
  clear hw1
  go_wp2
  go_ret
  exact ⟨rfl, rfl⟩
set_option maxRecDepth 100000 in
set_option maxHeartbeats 800000 in
theorem implSameC_true (w : World) (r i s j x y : Nat) (h1 : FV .f32 r x) (h2 : FV .f32 i y) (h3 : FV .f32 s x) (h4 : FV .f32 j y) :
    Calls Tryz.prog 24 #[.complex .f32 r i, .complex .f32 s j] w fun e w' => e = .returned (.bool true) ∧ w' = w := by
  have K1 := Lib.hid (fun wq => sameNumberP_any wq r s x x h1 h3)
  have K2 := Lib.hid (fun wq => sameNumberP_any wq i j y y h2 h4)
  rw [beq_self_eq_true] at K1 K2
  clear h1 h2 h3 h4
  go_enter Tryz.func24, Tryz.ntmps24
  go_wp2_with fail
  refine (K1.out _).mono ?_
  rintro e1 w1 ⟨rfl, hw1⟩
  obtain rfl : w = w1 := hw1.symm
  clear hw1
  go_wp2_with fail
  refine (K2.out _).mono ?_
  rintro e1 w1 ⟨rfl, hw1⟩
  obtain rfl : w = w1 := hw1.symm
  clear hw1
  go_wp2
  go_ret
  exact ⟨rfl, rfl⟩
set_option maxRecDepth 100000 in
set_option maxHeartbeats 800000 in
theorem b10Same_true (w : World) (B B2 : Nat) (v v2 : Value) (L : List (Nat × Nat)) (hwd : ∀ p ∈ L, Wd p) (h1 : OwnX w B v (L.map caX)) (h2 : OwnX w B2 v2 L) (hm : L.length ≤ 100) :
    Calls Tryz.prog 23 #[v, v2] w fun e w' => e = .returned (.bool true) ∧ ∃ n, w' = w.drewN n := by
  obtain ⟨a1, c1, rfl, hcell1⟩ := h1.cellAt
  obtain ⟨a2, c2, rfl, hcell2⟩ := h2.cellAt
  have HWd := Lib.hid hwd
  rw [List.length_map] at hcell1 ⊢
  have hne : ((L.length : Int) != (L.length : Int)) = false := by simp
  clear h1 h2 hwd
  go_enter Tryz.func23, Tryz.ntmps23
  go_wp2_with fail
  go_loopw [5, 13] (fun _ i wr => ∃ j q : Nat, j ≤ L.length ∧ i = .int .i64 (j : Nat) ∧ wr = w.drewN q) (fun _ i _ => L.length - (intOf i).toNat)
  case atStart => exact ⟨0, 0, Nat.zero_le _, rfl, rfl⟩
  case round =>
    obtain ⟨wi, rfl⟩ : ∃ wi : World, wi = wr := ⟨_, rfl⟩
    obtain ⟨k, q, hk, rfl, hq⟩ := hrel
    by_cases hlt : k < L.length
    · obtain ⟨b, o, rfl, -, d0⟩ := hcell1 k hlt
      obtain ⟨b', o', rfl, -, g0⟩ := hcell2 k hlt
      have hwj : Wd (L.getD k (0, 0)) := HWd.out _ (by rw [List.getD_eq_getElem?_getD, List.getElem?_eq_getElem hlt]; exact List.getElem_mem hlt)
      rw [show (L.map caX).getD k (0, 0) = caX (L.getD k (0, 0)) by rw [List.getD_eq_getElem?_getD, List.getElem?_map, List.getD_eq_getElem?_getD, List.getElem?_eq_getElem hlt]; rfl] at d0
      obtain ⟨p, hp⟩ : ∃ p, L.getD k (0, 0) = p := ⟨_, rfl⟩
      rw [hp] at d0 g0 hwj
      have f1 := (FV.can (k := .f32) hwj.1).cls
      have f2 := (FV.can (k := .f32) hwj.2).cls
      have f3 := FV.can (k := .f32) hwj.1
      have f4 := FV.can (k := .f32) hwj.2
      have D0 : wi.cell? ⟨b, o + k, none⟩ = some (.complex .f32 (can .f32 p.1) (can .f32 p.2)) := by rw [hq]; exact d0
      have G0 : wi.cell? ⟨b', o' + k, none⟩ = some (.complex .f32 p.1 p.2) := by rw [hq]; exact g0
      have HK := Lib.hid (fun wq => specSameC_true wq _ _ _ _ _ _ f1 f2 f3 f4)
      have Hq := Lib.hid hq
      clear hcell1 hcell2 d0 g0 hq f1 f2 f3 f4 hwj hp
      generalize can .f32 p.1 = x1 at *
      generalize can .f32 p.2 = x2 at *
      generalize p.1 = y1 at *
      generalize p.2 = y2 at *
      go_wp2
      refine region_rel_all (by kernel_rfl) (by kernel_rfl) (Drawn wi) (fun _ _ v => v = .bool true) ⟨1, rfl⟩ ?_
      repeat (refine wpRel_draw rfl rfl (fun nq K hK => ?_); go_wp2)
      refine wpRel_callF #[.complex .f32 x1 x2, .complex .f32 y1 y2] Tryz.func59 (by kernel_rfl) (by kernel_rfl) (by simp [go_sem]) ⟨wi, 0, rfl⟩ ⟨_, rfl⟩ ?_ ?_
      · rintro wd ⟨nd, rfl⟩
        refine (HK.out _).mono ?_
        rintro e w'' ⟨rfl, rfl⟩
        exact ⟨_, rfl, rfl, nd, rfl⟩
      · rintro v rfl
        simp only [Act.put, List.setIfInBounds_toArray, List.set_cons_succ, List.set_cons_zero]
        repeat (refine wpRel_draw rfl rfl (fun nq K hK => ?_); go_wp2)
        refine wpRel_nil ?_
        rintro wd ⟨nd, hwd⟩
        have Hwd := Lib.hid hwd
        clear hwd
        go_wp2
        exact ⟨⟨k + 1, q + nd, by omega, by go_num, by rw [Hwd.out, Hq.out, World.drewN_drewN]⟩, by simp [intOf]; omega⟩
    · obtain rfl : k = L.length := by omega
      have Hq := Lib.hid hq
      clear hcell1 hcell2 hq
      go_wp2
      go_ret
      exact ⟨rfl, q, Hq.out⟩
set_option maxRecDepth 100000 in
set_option maxHeartbeats 800000 in
theorem narrowComplex_any (w w0 w1 : World) (r i x y : Nat) (hr : FV .f32 r x) (hi : FV .f32 i y) :
    Calls Tryz.prog 25 #[.complex .f64 (cres r w0) (cres i w1)] w fun e w' => ∃ q s, e = .returned (.complex .f32 q s) ∧ FV .f32 q x ∧ FV .f32 s y ∧ ∃ n, w' = w.drewN n := by
  obtain ⟨q, n, h1, h2⟩ := run_narrow_wide (P := Tryz.prog) 46 28 (by kernel_rfl) (by kernel_rfl) r x hr w0 w
  obtain ⟨s, m, h3, h4⟩ := run_narrow_wide (P := Tryz.prog) 46 28 (by kernel_rfl) (by kernel_rfl) i y hi w1 (w.drewN n)
  have H2 := Lib.hid h2
  have H4 := Lib.hid h4
  clear h2 h4
  generalize cres r w0 = b at *
  generalize cres i w1 = c at *
  go_enter Tryz.func25, Tryz.ntmps25
  go_wp2
  go_ret
  exact ⟨q, s, rfl, H2.out, H4.out, n + m, rfl⟩
set_option maxRecDepth 100000 in
set_option maxHeartbeats 800000 in
theorem finiteC_any (w : World) (r i x y : Nat) (hr : FV .f32 r x) (hi : FV .f32 i y) :
    Calls Tryz.prog 26 #[.complex .f32 r i] w fun e w' => e = .returned (.bool (fin .f32 x && fin .f32 y)) ∧ ∃ n, w' = w.drewN n := by
  have K1 := Lib.hid (isFinite_any w r x hr)
  have K2 := Lib.hid (fun wq => isFinite_any wq i y hi)
  clear hr hi
  cases hx : fin .f32 x with
  | false =>
    rw [hx] at K1
    clear hx
    go_enter Tryz.func26, Tryz.ntmps26
    go_wp2_with fail
    refine K1.out.mono ?_
    rintro e1 w1 ⟨rfl, n1, hw1⟩
    have HW := Lib.hid hw1
    clear hw1
    go_wp2
    go_ret
    exact ⟨rfl, n1, HW.out⟩
  | true =>
    rw [hx] at K1
    clear hx
    go_enter Tryz.func26, Tryz.ntmps26
    go_wp2_with fail
    refine K1.out.mono ?_
    rintro e1 w1 ⟨rfl, n1, hw1⟩
    have HW := Lib.hid hw1
    clear hw1
    go_wp2_with fail
    refine (K2.out _).mono ?_
    rintro e1 w2 ⟨rfl, n2, hw2⟩
    have HW2 := Lib.hid hw2
    clear hw2
    go_wp2
    go_ret
    exact ⟨rfl, n1 + n2, by rw [HW2.out, HW.out, World.drewN_drewN]⟩
set_option maxRecDepth 100000 in
set_option maxHeartbeats 400000 in
theorem specFinite_any (w : World) (r x : Nat) (hr : FV .f32 r x) :
    Calls Tryz.prog 27 #[.float .f32 r] w fun e w' => e = .returned (.bool (fin .f32 x)) ∧ ∃ n, w' = w.drewN n := by
  have HF : Hid (∀ wq, Calls Tryz.prog 62 #[.float .f32 r] wq fun e w' => e = .returned (.bool (fin .f32 x)) ∧ ∃ n, w' = wq.drewN n) := Lib.hid fun wq => by
    have hsub := run_fsub (P := Tryz.prog)
    have hs : ∀ w2 : World, (FloatKind.f32.format.order (fres .sub .f32 r r w2) 0 == some Ordering.eq) = fin .f32 x := fun w2 => by
      rw [(FV.op hr hr w2).order (fv0 _), self_less]
    go_enter Tryz.func62, Tryz.ntmps62
    go_wp2
    go_ret
    exact ⟨rfl, _, rfl⟩
  clear hr
  go_enter Tryz.func27, Tryz.ntmps27
  go_wp2_with fail
  refine (HF.out _).mono ?_
  rintro e1 w1 ⟨rfl, n1, hw1⟩
  have HW := Lib.hid hw1
  clear hw1
  go_wp2
  go_ret
  exact ⟨rfl, n1, HW.out⟩
theorem ngF_ngF {x : Nat} : ngF .f32 (ngF .f32 x) = x := by
  show (x ^^^ 2 ^ 31) ^^^ 2 ^ 31 = x
  rw [Nat.xor_assoc, Nat.xor_self, Nat.xor_zero]
theorem toI_table : (List.range 401).all (fun k => toIOk .f32 (floatOfInt .f32 ((k : Int) - 200)) && (toI .f32 (floatOfInt .f32 ((k : Int) - 200)) == (k : Int) - 200)) = true := by decide +kernel
theorem toI_of {A : Int} (h : A.natAbs ≤ 200) : toIOk .f32 (floatOfInt .f32 A) = true ∧ toI .f32 (floatOfInt .f32 A) = A := by
  have := List.all_eq_true.1 toI_table (A + 200).toNat (List.mem_range.2 (by omega))
  rw [show (((A + 200).toNat : Nat) : Int) - 200 = A by omega] at this
  simpa using this
set_option maxRecDepth 100000 in
set_option maxHeartbeats 3200000 in
theorem b10Whole_any (w : World) (v : Value) (n : Nat) (hy : RdY w v n) (hn : n ≤ 1048576) :
    Calls Tryz.prog 6 #[v, .int .i64 1, .int .i64 200] w fun e w' => ∃ v' A B, e = .returned v' ∧ OwnX w' w.heap.size v' [(floatOfInt .f32 A, floatOfInt .f32 B)] ∧ A.natAbs ≤ 200 ∧ B.natAbs ≤ 200 ∧ Below w.heap.size w w' := by
  obtain ⟨a, c, rfl, -, -⟩ := hy.opened
  have xa : Below w.heap.size w (w.alloc (.cells #[.slice a n c, .int .i64 0, .int .u64 0] 94)) := (Below.refl _ _).alloc (Nat.le_refl _) _
  have S0 : Hid (Src (w.alloc (.cells #[.slice a n c, .int .i64 0, .int .u64 0] 94)) w.heap.size a n c 0) := Lib.hid ⟨0, alloc_new _ _, by decide, by decide⟩
  have HCh : Hid (∀ w'', Chg (w.alloc (.cells #[.slice a n c, .int .i64 0, .int .u64 0] 94)) w'' (fun k => k = w.heap.size) → Below w.heap.size w w'') := Lib.hid fun w'' hc => Below.chg xa hc (fun k hk => by omega) (by rw [World.size_alloc]; omega)
  have HY : Hid (RY (w.alloc (.cells #[.slice a n c, .int .i64 0, .int .u64 0] 94)) w.heap.size a n c) := Lib.hid fun w'' hc => hy.mono (HCh.out w'' hc)
  have HF := Lib.hid (l00From_any w a n c)
  have hzW : (w.alloc (.cells #[.slice a n c, .int .i64 0, .int .u64 0] 94)).heap.size = w.heap.size + 1 := World.size_alloc _ _
  clear hy xa
  go_enter Tryz.func6, Tryz.ntmps6
  go_wp2_with fail
  refine HF.out.mono ?_
  rintro e w1 ⟨rfl, hw1⟩
  obtain ⟨W, hW⟩ : ∃ W, w.alloc (.cells #[.slice a n c, .int .i64 0, .int .u64 0] 94) = W := ⟨_, rfl⟩
  rw [hW] at hw1 S0 HCh HY hzW
  obtain rfl : W = w1 := hw1.symm
  clear hW hw1 HF
  have xb : Below W.heap.size W (W.alloc (.cells #[] 24)) := (Below.refl _ _).alloc (Nat.le_refl _) _
  have CB := Lib.hid (Chg.of_below xb (fun k => k = w.heap.size))
  have S1 := Lib.hid (S0.out.ext xb)
  have O1 : Hid (OwnX (W.alloc (.cells #[] 24)) (w.heap.size + 1) (.slice (some ⟨w.heap.size + 1, 0, none⟩) 0 0) []) := Lib.hid (by rw [← hzW]; exact World.ownsRow_lit W #[] 0 (Nat.le_refl _) (by decide) rfl)
  have hzb : (W.alloc (.cells #[] 24)).heap.size = W.heap.size + 1 := World.size_alloc _ _
  clear xb S0
  go_wp2_with fail
  refine wp_loop_rounds 2 ?_
  rw [rounds_succ]
  go_wp2_with fail
  refine (pickA_any _ w.heap.size a n c 0 401 S1.out (HY.out.next CB.out) hn (by decide) (by decide) (by decide) (by decide)).mono ?_
  rintro e w2 ⟨A, t2, rfl, hA0, hA1, hs2, h2a, h2b, hc2⟩
  have S2 := Lib.hid hs2
  have C2 := Lib.hid (CB.out.trans hc2)
  have O2 := Lib.hid (O1.out.chg hc2 fun k hk e => by have := (O1.out.lt hk).1; omega)
  have hz2 := hc2.size
  clear hs2 hc2 S1 O1
  go_wp2_with fail
  refine (pickA_any w2 w.heap.size a n c t2 401 S2.out (HY.out.next C2.out) hn (by omega) (by omega) (by decide) (by decide)).mono ?_
  rintro e w3 ⟨B, t3, rfl, hB0, hB1, hs3, h3a, h3b, hc3⟩
  have C3 := Lib.hid (C2.out.trans hc3)
  have O3 := Lib.hid (O2.out.chg hc3 fun k hk e => by have := (O2.out.lt hk).1; omega)
  have hz3 := hc3.size
  clear hs3 hc3 S2 O2 CB
  have xc : Below w3.heap.size w3 (w3.alloc (.cells #[.complex .f32 (floatOfInt .f32 (A - 200)) (floatOfInt .f32 (B - 200))] 24)) := (Below.refl _ _).alloc (Nat.le_refl _) _
  have O4 := Lib.hid (O3.out.kept xc)
  have XC := Lib.hid xc
  have hz4 : (w3.alloc (.cells #[.complex .f32 (floatOfInt .f32 (A - 200)) (floatOfInt .f32 (B - 200))] 24)).heap.size = w3.heap.size + 1 := World.size_alloc _ _
  clear xc
  go_wp2_with (at_builtin; go_must (refine wpList_push1 rfl _ _ 25 24 rfl (.complex .f32 0 0) 8 Tryz.underlying25 Tryz.infoX rfl (by decide) (w.heap.size + 1) _ _ _ rfl O4.out _ _ _ rfl (cell_new _ _ _) rfl (by decide) (by omega) ?_); intro v5 w5 o5 g5 b5)
  rw [rounds_succ]
  have hzw : w.heap.size ≤ w3.heap.size := by omega
  have C5 : Hid (Below w.heap.size w w5) := Lib.hid ((HCh.out _ C3.out).trans ((XC.out.mono hzw).trans (b5.mono (by omega))))
  have O5 : Hid (OwnX w5 (w.heap.size + 1) v5 [(floatOfInt .f32 (A - 200), floatOfInt .f32 (B - 200))]) := Lib.hid o5
  obtain ⟨a5, c5, hv5, -⟩ := O5.out.cellAt
  subst hv5
  go_wp2_with fail
  go_ret
  exact ⟨_, A - 200, B - 200, rfl, O5.out.mono (by omega), by omega, by omega, C5.out⟩
end Go.Proofs.YtlpmkgcknopgoaaGreatDoor

/- What a law hands back. -/
namespace Go.Proofs.YtlpmkgcknopgoaaGreatDoor
open Go Go.RowKit
def TrueB (w : World) (e : Ending) (w' : World) : Prop := e = .returned (.bool true) ∧ Below w.heap.size w w'
theorem TrueB.mk {w w' : World} (h : Below w.heap.size w w') : TrueB w (.returned (.bool true)) w' := ⟨rfl, h⟩
end Go.Proofs.YtlpmkgcknopgoaaGreatDoor

/- FnProducts: the walk of the law. -/
namespace Go.Proofs.YtlpmkgcknopgoaaGreatDoor
open Go Go.RowKit

theorem zi_of {A : Int} (h : A.natAbs ≤ 200) : ZI .f32 (floatOfInt .f32 A) A := ZI.ofInt A (Nat.lt_of_le_of_lt h (by decide))
theorem zi_big {A : Int} (h : A.natAbs ≤ 1000000) : ZI .f32 (floatOfInt .f32 A) A := ZI.ofInt A (Nat.lt_of_le_of_lt h (by decide))
theorem zi_zero : ZI .f32 0 0 := ⟨⟨false, 0, -149, by decide +kernel, by decide +kernel⟩, by decide⟩
theorem zi_same {x y : Nat} {a b : Int} (hx : ZI .f32 x a) (hy : ZI .f32 y b) (h : a = b) : (FloatKind.f32.format.order x y == some Ordering.eq) = true := by rw [hx.eq hy, h, beq_self_eq_true]
theorem not_true2 : (!(true && true)) = false := rfl
theorem alg1 (A B C D : Int) : C * A - D * B = A * C - B * D ∧ C * B + D * A = A * D + B * C := by constructor <;> grind
theorem alg2 (A B : Int) : A * A - B * (-B) = A * A + B * B ∧ A * (-B) + B * A = 0 := by constructor <;> grind
/-- The bounds of a product. -/
theorem prod_bd {a b : Int} (ha : a.natAbs ≤ 200) (hb : b.natAbs ≤ 200) : -40000 ≤ a * b ∧ a * b ≤ 40000 := by
  have := mul_abs ha hb
  omega
theorem OwnX.drewN {w : World} {B : Nat} {v : Value} {L : List (Nat × Nat)} (h : OwnX w B v L) (n : Nat) : OwnX (w.drewN n) B v L := h
theorem pow_nz {C D : Int} {bz : Bool} (hC : ZI .f32 (floatOfInt .f32 C) C) (hD : ZI .f32 (floatOfInt .f32 D) D) (hb : (!((FloatKind.f32.format.order (floatOfInt .f32 C) 0 == some Ordering.eq) && (FloatKind.f32.format.order (floatOfInt .f32 D) 0 == some Ordering.eq))) = bz) (ht : bz = true) : C * C + D * D ≠ 0 := fun h0 => by
  have h3 := int_sq C
  have h4 := int_sq D
  have e1 : C * C = 0 := by omega
  have e2 : D * D = 0 := by omega
  obtain rfl : C = 0 := by rcases Int.mul_eq_zero.1 e1 with h | h <;> exact h
  obtain rfl : D = 0 := by rcases Int.mul_eq_zero.1 e2 with h | h <;> exact h
  rw [hC.eq zi_zero] at hb
  rw [← hb] at ht
  cases ht
set_option maxRecDepth 100000 in
set_option maxHeartbeats 12800000 in
theorem lawProducts_any (w : World) (v1 v2 : Value) (n1 n2 : Nat) (h1 : RdY w v1 n1) (h2 : RdY w v2 n2) (m1 : n1 ≤ maxLen) (m2 : n2 ≤ maxLen) (hD : Dr w) :
    Calls Tryz.prog 3 #[v1, v2] w (TrueB w) := by
  have H1 := Lib.hid h1
  have H2 := Lib.hid h2
  have HD := Lib.hid hD
  obtain ⟨a1, c1, rfl, -, -⟩ := h1.opened
  obtain ⟨a2, c2, rfl, -, -⟩ := h2.opened
  have HL := Lib.hid (b10Long_any w a1 a2 n1 n2 c1 c2 m1 m2)
  clear h1 h2 m1 m2 hD
  cases hq : decide (1048576 < n1) || decide (1048576 < n2) with
  | true =>
    rw [hq] at HL
    clear hq
    go_enter Tryz.func3, Tryz.ntmps3
    go_wp2_with fail
    refine HL.out.mono ?_
    rintro e w1 ⟨rfl, hw1⟩
    obtain rfl : w = w1 := hw1.symm
    go_wp2
    go_ret
    exact TrueB.mk (Below.refl _ _)
  | false =>
    rw [hq] at HL
    have l1 : n1 ≤ 1048576 := by simp at hq; omega
    have l2 : n2 ≤ 1048576 := by simp at hq; omega
    clear hq
    go_enter Tryz.func3, Tryz.ntmps3
    go_wp2_with fail
    refine HL.out.mono ?_
    rintro e w0 ⟨rfl, hw0⟩
    obtain rfl : w = w0 := hw0.symm
    clear HL hw0
    go_wp2_with fail
    refine (b10Whole_any w _ n1 H1.out l1).mono ?_
    rintro e w1 ⟨va, A, B, rfl, oa, bA, bB, b1⟩
    obtain ⟨aa, ca, rfl, hcell⟩ := oa.cellAt
    obtain ⟨ba, oa', rfl, -, da⟩ := hcell 0 Nat.zero_lt_one
    have da' : w1.cell? ⟨ba, oa', none⟩ = some (.complex .f32 (floatOfInt .f32 A) (floatOfInt .f32 B)) := da
    have C1 := Lib.hid b1
    clear oa hcell b1 da
    go_wp2_with fail
    refine (b10Whole_any w1 _ n2 (H2.out.mono C1.out) l2).mono ?_
    rintro e w2 ⟨vb, C, D, rfl, ob, bC, bD, b2⟩
    obtain ⟨ab, cb, rfl, hcell⟩ := ob.cellAt
    obtain ⟨bb, ob', rfl, -, db⟩ := hcell 0 Nat.zero_lt_one
    have db' : w2.cell? ⟨bb, ob', none⟩ = some (.complex .f32 (floatOfInt .f32 C) (floatOfInt .f32 D)) := db
    have C2 := Lib.hid (C1.out.trans (b2.mono C1.out.size))
    clear ob hcell b2 da' C1 db
    have zA := zi_of bA
    have zB := zi_of bB
    have zC := zi_of bC
    have zD := zi_of bD
    have ZA := Lib.hid zA
    have ZB := Lib.hid zB
    have ZC := Lib.hid zC
    have ZD := Lib.hid zD
    go_wp2_with fail
    refine (mulC_fine w2 _ _ _ _ A B C D ZA.out ZB.out ZC.out ZD.out bA bB bC bD).mono ?_
    rintro e w3 ⟨p1, p2, rfl, hp1, hp2, hw3⟩
    obtain rfl : w2 = w3 := hw3.symm
    have P1 := Lib.hid hp1
    have P2 := Lib.hid hp2
    clear hw3 hp1 hp2 zA zB zC zD db'
    have iA := fun wq => run_toI (P := Tryz.prog) 28 2 (by kernel_rfl) (by kernel_rfl) wq .f32 _ (toI_of bA).1
    have iB := fun wq => run_toI (P := Tryz.prog) 28 2 (by kernel_rfl) (by kernel_rfl) wq .f32 _ (toI_of bB).1
    have iC := fun wq => run_toI (P := Tryz.prog) 28 2 (by kernel_rfl) (by kernel_rfl) wq .f32 _ (toI_of bC).1
    have iD := fun wq => run_toI (P := Tryz.prog) 28 2 (by kernel_rfl) (by kernel_rfl) wq .f32 _ (toI_of bD).1
    rw [(toI_of bA).2] at iA
    rw [(toI_of bB).2] at iB
    rw [(toI_of bC).2] at iC
    rw [(toI_of bD).2] at iD
    obtain ⟨q1, q1'⟩ := prod_bd bA bC
    obtain ⟨q2, q2'⟩ := prod_bd bB bD
    obtain ⟨q3, q3'⟩ := prod_bd bA bD
    obtain ⟨q4, q4'⟩ := prod_bd bB bC
    obtain ⟨q5, q5'⟩ := prod_bd bA bA
    obtain ⟨q6, q6'⟩ := prod_bd bB bB
    have hceq := fun wq ty a b c d => run_ceq wq ty a b c d
    have zp1 := zi_big (A := A * C - B * D) (by omega)
    have zp2 := zi_big (A := A * D + B * C) (by omega)
    have zpw := zi_big (A := A * A + B * B) (by omega)
    have e1 := zi_same P1.out zp1 rfl
    have e2 := zi_same P2.out zp2 rfl
    have ZPW := Lib.hid zpw
    have hpw0 : 0 ≤ A * A + B * B := by have := int_sq A; have := int_sq B; omega
    clear zp1 zp2 zpw
    have BA := Lib.hid bA
    have BB := Lib.hid bB
    have BC := Lib.hid bC
    have BD := Lib.hid bD
    clear bA bB bC bD
    go_wp2_with fail
    refine (mulC_fine w2 _ _ _ _ C D A B ZC.out ZD.out ZA.out ZB.out BC.out BD.out BA.out BB.out).mono ?_
    rintro e w3 ⟨p3, p4, rfl, hp3, hp4, hw3⟩
    obtain rfl : w2 = w3 := hw3.symm
    have e3 := zi_same hp3 P1.out (alg1 A B C D).1
    have e4 := zi_same hp4 P2.out (alg1 A B C D).2
    clear hw3 hp3 hp4
    go_wp2_with fail
    refine (powerOf_fine w2 _ _ A B ZA.out ZB.out BA.out BB.out).mono ?_
    rintro e w3 ⟨p5, rfl, hp5, hw3⟩
    obtain rfl : w2 = w3 := hw3.symm
    have e5 := zi_same hp5 ZPW.out rfl
    have e5' : (FloatKind.f32.format.order p5 (floatOfInt .f32 (A * A + B * B)) != some Ordering.eq) = false := by rw [bne, e5]; rfl
    clear hw3 hp5
    go_wp2_with fail
    refine (conj_any w2 _ _).mono ?_
    rintro e w3 ⟨rfl, hw3⟩
    obtain rfl : w2 = w3 := hw3.symm
    clear hw3
    go_wp2_with fail
    refine (mulC_fine w2 _ _ _ _ A B A (-B) ZA.out ZB.out ZA.out (ZB.out.neg (ngF_lt ZB.out.2)) BA.out BB.out BA.out (by have := BB.out; omega)).mono ?_
    rintro e w3 ⟨p6, p7, rfl, hp6, hp7, hw3⟩
    obtain rfl : w2 = w3 := hw3.symm
    have e6 := zi_same hp6 ZPW.out (alg2 A B).1
    have e7 := zi_same hp7 zi_zero (alg2 A B).2
    clear hw3 hp6 hp7
    go_wp2_with fail
    refine (long_fine w2 A B BA.out BB.out).mono ?_
    rintro e w3 ⟨rfl, hw3⟩
    obtain rfl : w2 = w3 := hw3.symm
    clear hw3
    go_wp2_with fail
    refine (specRoot_fine w2 _ _ ZPW.out hpw0 (by omega)).mono ?_
    rintro e w3 ⟨rfl, hw3⟩
    obtain rfl : w2 = w3 := hw3.symm
    clear hw3
    have fr := nrw_cls (root_ok ZPW.out hpw0 (by omega)).2
    have FR := Lib.hid fr
    clear fr
    have e8 : ∀ z : Nat, (z == z) = true := fun z => beq_self_eq_true z
    go_wp2_with fail
    refine (specSame_any w2 _ _ _ _ FR.out FR.out).mono ?_
    rw [e8]
    rintro e w3 ⟨rfl, hw3⟩
    obtain rfl : w2 = w3 := hw3.symm
    clear hw3 e8
    obtain ⟨bz, hbz⟩ : ∃ bz, (!((FloatKind.f32.format.order (floatOfInt .f32 C) 0 == some Ordering.eq) && (FloatKind.f32.format.order (floatOfInt .f32 D) 0 == some Ordering.eq))) = bz := ⟨_, rfl⟩
    have key : Hid (bz = true → C * C + D * D ≠ 0) := Lib.hid (fun ht => pow_nz (bz := bz) ZC.out ZD.out hbz ht)
    have zs1 := ZA.out.add32 ZA.out (by have := BA.out; omega)
    have zs2 := ZB.out.add32 ZB.out (by have := BB.out; omega)
    have hadd := fun wq ty => run_caddK wq ty _ _ _ _ _ _ rfl rfl zs1.nn zs2.nn
    have ZS1 := Lib.hid zs1
    have ZS2 := Lib.hid zs2
    clear zs1 zs2 e1 e2 e3 e4 e5 e5' e6 e7 iA iB iC iD
    cases bz
    case' true =>
      go_wp2_with fail
      refine (quotient_fine w2 p1 p2 _ _ A B C D P1.out P2.out ZC.out ZD.out BA.out BB.out BC.out BD.out (by first | exact key.out rfl | exact key.out trivial)).mono ?_
      rintro e w3 ⟨s1, s2, rfl, hs1, hs2, hw3⟩
      obtain rfl : w2 = w3 := hw3.symm
      have e1 := zi_same hs1 ZA.out rfl
      have e2 := zi_same hs2 ZB.out rfl
      clear hw3 hs1 hs2
    all_goals
      clear key
      go_wp2_with fail
      refine (scale_fine w2 _ _ A B ZA.out ZB.out BA.out BB.out).mono ?_
      rintro e w3 ⟨s3, s4, rfl, hs3, hs4, hw3⟩
      obtain rfl : w2 = w3 := hw3.symm
      have e3 := zi_same hs3 ZS1.out (by omega)
      have e4 := zi_same hs4 ZS2.out (by omega)
      clear hw3 hs3 hs4
      go_wp2_with fail
      clear e3 e4 hadd
      refine (b10At_any w2 _ n1 0 9 (H1.out.mono C2.out) l1 (by decide) (by decide) (by decide) (by decide)).mono ?_
      rintro e w4 ⟨t', rfl, ht0, ht1, hw4⟩
      obtain rfl : w2 = w4 := hw4.symm
      obtain ⟨t, rfl⟩ : ∃ t : Nat, t' = t := ⟨t'.toNat, by omega⟩
      clear hw4
      go_wp2_with fail
      refine (b10Any_any w2 _ n2 t (H2.out.mono C2.out) l2 (by omega)).mono ?_
      rintro e w4 ⟨v4, L, rfl, ho, hl, hwd, b4⟩
      obtain ⟨aL, cL, rfl, -⟩ := ho.cellAt
      have O4 := Lib.hid ho
      have C4 := Lib.hid (C2.out.trans (b4.mono C2.out.size))
      have HWd := Lib.hid hwd
      have hl12 : L.length ≤ 12 := by omega
      clear ho hl b4 hwd
      go_wp2_with fail
      refine (complexTextL_any w4 _ _ L O4.out HWd.out (by omega) (Tab16.mono HD.out.tab C4.out)).mono ?_
      rintro e w5 ⟨rfl, b5⟩
      have C5 := Lib.hid (C4.out.trans (b5.mono C4.out.size))
      have O5 := Lib.hid (O4.out.kept b5)
      clear b5 C4 O4
      have HR := Lib.hid (readComplexT_any w5 L HWd.out (by omega) (HD.out.mono C5.out))
      generalize txX L = tx at *
      go_wp2_with fail
      refine HR.out.mono ?_
      clear HR
      rintro e w6 ⟨v6, rfl, o6, b6⟩
      obtain ⟨a6, c6, hv6, -⟩ := o6.cellAt
      rw [List.length_map] at hv6
      subst hv6
      have O6 := Lib.hid o6
      have O7 := Lib.hid (O5.out.kept b6)
      have C6 := Lib.hid (C5.out.trans (b6.mono C5.out.size))
      clear o6 b6 O5 C5
      go_wp2_with fail
      refine (b10Number_any w6 _ n1 (H1.out.mono C6.out) l1).mono ?_
      rintro e w7 ⟨r, x, rfl, hf1, b7⟩
      have F1 := Lib.hid hf1
      have C7 := Lib.hid (C6.out.trans (b7.mono C6.out.size))
      have O8 := Lib.hid (O6.out.kept b7)
      have O9 := Lib.hid (O7.out.kept b7)
      clear hf1 b7 O6 O7 C6
      go_wp2_with fail
      refine (bitsOf_any w7 r x F1.out).mono ?_
      rintro e w8 ⟨rfl, hw8⟩
      obtain rfl : w7 = w8 := hw8.symm
      clear hw8
      go_wp2_with fail
      refine (fromBits_any w7 x F1.out.lt).mono ?_
      rintro e w8 ⟨rfl, hw8⟩
      obtain rfl : w7 = w8 := hw8.symm
      clear hw8
      go_wp2_with fail
      refine (b10Complex_any w7 _ n1 (H1.out.mono C7.out) l1).mono ?_
      rintro e w8 ⟨s, i, rfl, hwd, b8⟩
      have FS : Hid (FV .f32 s (can .f32 s)) := Lib.hid (FV.can (k := .f32) hwd.1)
      have FI : Hid (FV .f32 i (can .f32 i)) := Lib.hid (FV.can (k := .f32) hwd.2)
      have C8 := Lib.hid (C7.out.trans (b8.mono C7.out.size))
      have O10 := Lib.hid (O8.out.kept b8)
      have O11 := Lib.hid (O9.out.kept b8)
      have hcv := run_widen (P := Tryz.prog) 28 46 (by kernel_rfl) (by kernel_rfl)
      clear hwd b8 O8 O9 C7
      go_wp2_with fail
      refine (b10Same_true _ _ _ _ _ L HWd.out (O10.out.drewN _) (O11.out.drewN _) (by omega)).mono ?_
      rintro e w9 ⟨rfl, n9, hw9⟩
      have C9 : Hid (Below w.heap.size w w9) := Lib.hid (by rw [hw9]; exact Go.Proofs.YtlpmkgcknopgoaaGreatDoor.Below.drewN (Go.Proofs.YtlpmkgcknopgoaaGreatDoor.Below.drewN C8.out _) n9)
      clear hw9
      have e1 : (x == x) = true := beq_self_eq_true x
      go_wp2_with fail
      refine (specSame_any w9 x r x x F1.out.cls F1.out).mono ?_
      rw [e1]
      rintro e w10 ⟨rfl, hw10⟩
      obtain rfl : w9 = w10 := hw10.symm
      clear hw10
      go_wp2_with fail
      refine (narrowComplex_any w9 _ _ s i _ _ FS.out FI.out).mono ?_
      rintro e w10 ⟨g1, g2, rfl, hg1, hg2, n10, hw10⟩
      have G1 := Lib.hid hg1
      have G2 := Lib.hid hg2
      have C10 : Hid (Below w.heap.size w w10) := Lib.hid (by rw [hw10]; exact Go.Proofs.YtlpmkgcknopgoaaGreatDoor.Below.drewN C9.out n10)
      clear hw10 hg1 hg2
      go_wp2_with fail
      refine (implSameC_true w10 _ _ _ _ _ _ G1.out G2.out FS.out FI.out).mono ?_
      rintro e w11 ⟨rfl, hw11⟩
      obtain rfl : w10 = w11 := hw11.symm
      clear hw11
      go_wp2_with fail
      refine (conj_any w10 _ _).mono ?_
      rintro e w11 ⟨rfl, hw11⟩
      obtain rfl : w10 = w11 := hw11.symm
      clear hw11
      go_wp2_with fail
      refine (conj_any w10 _ _).mono ?_
      rw [ngF_ngF]
      rintro e w11 ⟨rfl, hw11⟩
      obtain rfl : w10 = w11 := hw11.symm
      clear hw11
      go_wp2_with fail
      refine (implSameC_true w10 _ _ _ _ _ _ FS.out FI.out FS.out FI.out).mono ?_
      rintro e w11 ⟨rfl, hw11⟩
      obtain rfl : w10 = w11 := hw11.symm
      clear hw11
      obtain ⟨fs, hfs⟩ : ∃ b, fin .f32 (can .f32 s) = b := ⟨_, rfl⟩
      obtain ⟨fi, hfi⟩ : ∃ b, fin .f32 (can .f32 i) = b := ⟨_, rfl⟩
      have HFS := Lib.hid hfs
      have HFI := Lib.hid hfi
      clear hfs hfi
      go_wp2_with fail
      refine (finiteC_any w10 s i _ _ FS.out FI.out).mono ?_
      rw [HFS.out, HFI.out]
      rintro e w11 ⟨rfl, n11, hw11⟩
      have C11 : Hid (Below w.heap.size w w11) := Lib.hid (by rw [hw11]; exact Go.Proofs.YtlpmkgcknopgoaaGreatDoor.Below.drewN C10.out n11)
      clear hw11
      go_wp2_with fail
      refine (specFinite_any w11 s _ FS.out).mono ?_
      rw [HFS.out]
      rintro e w12 ⟨rfl, n12, hw12⟩
      have C12 : Hid (Below w.heap.size w w12) := Lib.hid (by rw [hw12]; exact Go.Proofs.YtlpmkgcknopgoaaGreatDoor.Below.drewN C11.out n12)
      clear hw12
      cases fs with
      | false =>
        go_wp2_with fail
        go_ret
        exact TrueB.mk C12.out
      | true =>
        go_wp2_with fail
        refine (specFinite_any w12 i _ FI.out).mono ?_
        rw [HFI.out]
        rintro e w13 ⟨rfl, n13, hw13⟩
        have C13 : Hid (Below w.heap.size w w13) := Lib.hid (by rw [hw13]; exact Go.Proofs.YtlpmkgcknopgoaaGreatDoor.Below.drewN C12.out n13)
        clear hw13
        cases fi
        · go_wp2_with fail
          go_ret
          exact TrueB.mk C13.out
        · go_wp2_with fail
          go_ret
          exact TrueB.mk C13.out
end Go.Proofs.YtlpmkgcknopgoaaGreatDoor

/- What the listed variables, and the world's shape, give a walk; a world in which they are laid. -/
namespace Go.Proofs.YtlpmkgcknopgoaaGreatDoor
open Go Go.RowKit

def laid7 : List (String × DataW Unit) := [("math/bits.deBruijn32tab", Rows.laid_math_bits_deBruijn32tab), ("math/bits.deBruijn64tab", Rows.laid_math_bits_deBruijn64tab), ("internal/strconv.uint64pow10", Rows.laid_internal_strconv_uint64pow10), ("unicode/utf8.acceptRanges", Rows.laid_unicode_utf8_acceptRanges), ("strconv.ErrRange", Rows.laid_strconv_ErrRange), ("strconv.ErrSyntax", Rows.laid_strconv_ErrSyntax), ("unicode/utf8.first", Rows.laid_unicode_utf8_first)]
theorem plain7 (W : World) : laidMetH Tryz.prog laid7 W ↔ laidMet Tryz.prog laid7 W := by rw [MakeChecks.laidMetH_plain _ _ _ (by kernel_rfl)]
theorem lay_met (os : Os) (args : Array Value) : laidMetH Tryz.prog laid7 ((World.laidAll Tryz.prog os laid7).forCall (fun _ _ => 0) ⟨#[], args, []⟩).memory :=
  (plain7 _).2 (laidMet_laidAll _ (by kernel_rfl) (by kernel_rfl))
theorem cell_of_var {W : World} {n : String} {g : Nat} {v : Value} (hg : Tryz.prog.globalNamed n = some g) (h : W.var? Tryz.prog n = some #[v]) : W.cell? ⟨g, 0, none⟩ = some v := by
  unfold World.var? at h
  rw [hg] at h
  simp only [Option.bind_some] at h
  unfold World.cell?
  split at h
  · rename_i cs t fz he
    rw [he]
    cases h
    rfl
  · cases h
theorem star9 : "*" ++ "errors.errorString" = "*errors.errorString" := by decide
theorem errRow (u : TypeId) (h : Tryz.prog.typeName? 3 u = some "*errors.errorString") : u = 162 :=
  typeName_ptr_named (nm := "errors.errorString") (by rw [star9]; kernel_rfl) (by kernel_rfl) (by decide) u (by rw [star9]; exact h)
theorem of_laid {W : World} (hs : W.ShapedOpen Tryz.prog) (h : laidMetH Tryz.prog laid7 W) : Dr W := by
  rw [plain7] at h
  have h2 := laidMet.tail h
  have h3 : Lib.TabIs Tryz.prog W "math/bits.deBruijn64tab" .u8 [0, 1, 56, 2, 57, 49, 28, 3, 61, 58, 42, 50, 38, 29, 17, 4, 62, 47, 59, 36, 45, 43, 51, 22, 53, 39, 33, 30, 24, 18, 12, 5, 63, 55, 48, 27, 60, 41, 37, 16, 46, 35, 44, 21, 52, 32, 23, 11, 54, 26, 40, 15, 34, 20, 31, 10, 25, 14, 19, 9, 13, 8, 7, 6] :=
    Lib.tabIs_of_head (g := 8) (t := 171) (e := 5) (n := 64) (by kernel_rfl) (by kernel_rfl) (by kernel_rfl) (by kernel_rfl) (by kernel_rfl) (by kernel_rfl) h2
  have h5 := laidMet.tail (laidMet.tail (laidMet.tail h2))
  have h6 := laidMet.tail h5
  refine ⟨h3.cell (by kernel_rfl) 15 (by decide), ?_, ?_, ?_⟩
  · obtain ⟨a, s, hv, -⟩ := laid_sentinel (g := 2) (ti := 108) (tp := 162) (te := 164) (ts := 9) h6 (by kernel_rfl) (by kernel_rfl) Tryz.underlying108 errRow Tryz.underlying162 Tryz.underlying164 rfl rfl Tryz.underlying9 (by kernel_rfl) (by kernel_rfl)
    exact ⟨_, _, cell_of_var (by kernel_rfl) hv⟩
  · obtain ⟨a, s, hv, -⟩ := laid_sentinel (g := 3) (ti := 108) (tp := 162) (te := 164) (ts := 9) h5 (by kernel_rfl) (by kernel_rfl) Tryz.underlying108 errRow Tryz.underlying162 Tryz.underlying164 rfl rfl Tryz.underlying9 (by kernel_rfl) (by kernel_rfl)
    exact ⟨_, _, cell_of_var (by kernel_rfl) hv⟩
  · exact cell_of_shapedOpen_int (P := Tryz.prog) (g := 4) (t := 3) (zero := #[.int .i64 0]) hs (of_decide_eq_true (by kernel_rfl)) (by kernel_rfl) rfl (by kernel_rfl) (by kernel_rfl) Tryz.underlying3
end Go.Proofs.YtlpmkgcknopgoaaGreatDoor

/- The wrap of a row that lists variables, the world's shape kept. -/
namespace Go.Proofs.YtlpmkgcknopgoaaGreatDoor
open Go
variable {H : Type} {enc : TypeId × Value → H}

theorem returnsInHanded_laid_shaped {a : Assume} {C : Checked} {os : Os} {f : FuncId} {fn : Func} {s : ChangeSpec} {conds : List PathCond} {apart fresh handsOn again : Bool} {X : World → Array Value → Prop}
    (hX : ∀ (w w' : World) (args : Array Value), w.heap = w'.heap → X w args → X w' args)
    (own : ownKnob C.prog.godebug = none) (started : os.Started) (noInit : C.prog.inits.idxOf? f = none) (hfn : C.prog.funcs[f]? = some fn)
    (witness : ∃ (w : World) (tape : Tape) (i : Input), w.os = os ∧ (w.forCall tape i).Shaped C.prog ∧ i.vars = [] ∧ Input.okWide C.prog (w.forCall tape i) .any w.heap.size f i ∧
      ((s.pre enc C.prog fn conds apart (w.forCall tape i).memory i.args ∧ X (w.forCall tape i).memory i.args) ∧ sizedMet enc C.prog fn (OpenSpec.ofChange s) apart (w.forCall tape i).memory i.args) ∧ a.holds C.prog (lone (Frame.enter C.prog f i.args .normal) [] (w.forCall tape i)))
    (contract : ∀ (W : World) (base : Nat) (args : Array Value) (ds gs : List (DataW H)) (before : List MemPlace),
      (∀ (j : Nat) t v, fn.params[j]? = some t → args[j]? = some v → Value.okWide C.prog W .any base t v) →
      DataW.Whole enc C.prog fn.params.toList s.vars apart W args.toList ds gs before →
      W.ShapedOpen C.prog → X W args →
      Calls C.prog f args W fun e W' => ∃ v, e = .returned v ∧ s.post enc C.prog fn apart fresh handsOn again W args v W') :
    ReturnsInHanded a C os f .any (fun w args => (s.pre enc C.prog fn conds apart w args ∧ X w args) ∧ sizedMet enc C.prog fn (OpenSpec.ofChange s) apart w args) (s.post enc C.prog fn apart fresh handsOn again) := by
  refine returnsInHanded_of_calls own started noInit witness ?_
  intro w tape i _ hsh _ hok hpre hholds
  obtain ⟨_, _, _, fn', hfn', _, _, _, _, hval⟩ := hok
  have e : fn' = fn := Option.some.inj (hfn'.symm.trans hfn)
  subst e
  obtain ⟨⟨⟨ds, gs, before, hw, hc⟩, hx⟩, hz⟩ := hpre
  have hw' := DataW.Whole.of_heap (w' := w.forCall tape i) (by rfl) hw
  refine (contract (w.forCall tape i) w.heap.size i.args ds gs before hval hw' hsh (hX _ _ _ (by rfl) hx)).mono fun e W' ⟨v, he, hp⟩ => ?_
  subst he
  exact ChangeSpec.post_blind hp
end Go.Proofs.YtlpmkgcknopgoaaGreatDoor

/- FnProducts returns true for every input; the package variables that it names begin as the program lays them. -/
namespace Go.Proofs.YtlpmkgcknopgoaaGreatDoor.lawProducts
open Go.ChangeShapes Go.WideShapes Go.ChangeAt Go.RowKit

theorem own : ownKnob Tryz.prog.godebug = none := by kernel_rfl
theorem laidOut : laidOutB Tryz.prog = true := by kernel_rfl

set_option maxRecDepth 100000 in
theorem lifted (os : Os) (started : os.Started) (H : Type) (enc : TypeId × Value → H) :
    ReturnsInHanded {} Tryz.checked os 3 .any (fun w args => (Rows.fnProductsSpec.pre enc Tryz.prog Tryz.f3 [] false w args ∧ laidMetH Tryz.prog laid7 w) ∧ sizedMet enc Tryz.prog Tryz.f3 (OpenSpec.ofChange Rows.fnProductsSpec) false w args)
      (Rows.fnProductsSpec.post enc Tryz.prog Tryz.f3 false true false false) := by
  refine returnsInHanded_laid_shaped (C := Tryz.checked) (X := fun w _ => laidMetH Tryz.prog laid7 w) (fun _ _ _ hh h => h.of_heap hh) own started (by kernel_rfl) Tryz.func3
    (ChangeSpec.witness_shaped (enc := enc) (C := Tryz.checked) (os := os) (X := fun w _ => laidMetH Tryz.prog laid7 w) false (World.laidAll Tryz.prog os laid7) #[.slice none 0 0, .slice none 0 0] 8 (World.laidAll_os _ _ _) (World.shaped_of_ZipB (by kernel_rfl) (by kernel_rfl)) (by kernel_rfl) (by kernel_rfl) (by kernel_rfl) (lay_met os _)) ?_
  intro W base args ds gs before hval0 hW hsh hL
  have hval : ∀ (j : Nat) t v, Tryz.f3.params[j]? = some t → args[j]? = some v → Value.okWide Tryz.prog W .any base t v := hval0
  have hW' := hW
  obtain ⟨p, q, hA0, hV, rfl, hfz, hnd⟩ := hW
  have hA : DataW.TrodAll enc Tryz.prog W 0 (fun _ => true) true Tryz.f3.params.toList args.toList ds p := hA0
  rw [Tryz.params3] at hA hval
  obtain ⟨v0, vs0, d0, ds0, p0, q0, hargs, rfl, rfl, h0, r0⟩ := trodAll_cons hA
  obtain ⟨v1, vs1, d1, ds1, p1, q1, rfl, rfl, rfl, h1, r1⟩ := trodAll_cons r0
  obtain ⟨rfl, rfl, rfl⟩ := trodAll_nil r1
  obtain rfl : args = #[v0, v1] := by cases args; simp_all
  obtain ⟨rfl, rfl⟩ := trodVars_none hV
  have k0 := h0
  have lt0 : ∀ x ∈ p0, x.block < W.heap.size := by obtain ⟨m, hm⟩ := k0; exact DataW.trod_lt m _ _ _ hm
  have k1 := h1
  have lt1 : ∀ x ∈ p1, x.block < W.heap.size := by obtain ⟨m, hm⟩ := k1; exact DataW.trod_lt m _ _ _ hm
  obtain ⟨a0, len0, cap0, rfl⟩ := okWide_slice Tryz.underlying22 (hval 0 22 v0 rfl rfl)
  obtain ⟨m0, R0⟩ := open_bytes Tryz.underlying22 Tryz.underlying5 (by kernel_rfl) h0
  obtain ⟨a1, len1, cap1, rfl⟩ := okWide_slice Tryz.underlying22 (hval 1 22 v1 rfl rfl)
  obtain ⟨m1, R1⟩ := open_bytes Tryz.underlying22 Tryz.underlying5 (by kernel_rfl) h1
  clear hA0 hval0
  refine (lawProducts_any W _ _ _ _ R0 R1 m0 m1 (of_laid hsh hL)).mono fun e W' ⟨he, bel⟩ => ?_
  subst he
  exact ⟨_, rfl, _, _, _, [], _, [], hW', trodAll_mk1 (shut_bool Tryz.underlying4 _), (trodAll_cons_mk (Below.trod laidOut (by kernel_rfl) (of_decide_eq_true (by kernel_rfl)) k0 bel lt0) (trodAll_cons_mk (Below.trod laidOut (by kernel_rfl) (of_decide_eq_true (by kernel_rfl)) k1 bel lt1) trodAll_mk0)), rfl, bel.frame _, fun h => by cases h⟩

theorem over : Rows.fnProductsRow.holds Tryz.pinned (OpenSpec.ofChange Rows.fnProductsSpec) :=
  OpenClaim.holds_of_wide 3 Tryz.f3 rfl rfl rfl rfl rfl rfl rfl ⟨rfl, rfl, rfl, rfl, rfl⟩ rfl rfl rfl rfl rfl (by kernel_rfl) Tryz.func3 (by kernel_rfl)
    (of_decide_eq_true (by kernel_rfl)) (by unfold Func.isWrapper; first | (rw [if_pos (by decide +kernel)]; kernel_rfl) | (rw [if_neg (by decide +kernel)]; exact ⟨rfl, rfl⟩))
    (fun os started H enc _ => lifted os started H enc)

/-- THE STATEMENT. -/
theorem proved : Rows.FnProductsSaid := over
end Go.Proofs.YtlpmkgcknopgoaaGreatDoor.lawProducts

/- The tied card of FnProducts. -/
namespace Go.Proofs.YtlpmkgcknopgoaaGreatDoor.lawProducts
open Go

theorem card : Rows.FnProductsCardSaid :=
  Claim7.holds_tied_plain_at .later [] [.data, .data, .data, .data, .sentinel, .sentinel, .pinned] true (true, "ded60722041a26fdb6866281c3fa5bd126e16f72c48e063ab9476be98a50528f") true
    proved (fun _ h => by cases h) (by kernel_rfl) (fun _ h => by cases h) fnProducts_row_tie rfl ⟨rfl, rfl⟩ (by kernel_rfl) rfl
    (fun f fn hf hfn => by
      obtain rfl : f = 3 := Option.some.inj ((show Tryz.prog.funcNamed "loop.example/g01231/laws.FnProducts" = some 3 by kernel_rfl).symm.trans hf) |>.symm
      obtain rfl : fn = Tryz.f3 := (Option.some.inj (Tryz.func3.symm.trans hfn)).symm
      exact ⟨by kernel_rfl, fun j t ht => by
        rw [Tryz.params3] at ht
        have hm : t ∈ [22, 22] := by simpa using Array.mem_of_getElem? ht
        have hall : ([22, 22].all fun u => !Tryz.prog.wantsStandIn u) = true := by kernel_rfl
        exact (show Tryz.prog.wantsStandIn t = false by simpa using List.all_eq_true.1 hall t hm)⟩)
    (by kernel_rfl)
end Go.Proofs.YtlpmkgcknopgoaaGreatDoor.lawProducts

