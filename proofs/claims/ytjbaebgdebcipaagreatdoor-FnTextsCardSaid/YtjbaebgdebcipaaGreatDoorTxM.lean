/- Several texts in one: Opn, OpnB, Drw, MkF, R8s, R8t, TxQ, TxN, TxP, Hb, TxS, TxE, TxL, R8a, Tru, FinTx, Laid9, LaidT, Hsh, PrTx, CdTx. -/
import Derived.Test.YtjbaebgdebcipaaGreatDoorMem
import Derived.Deep.Slices
import Derived.ProofKit
import Derived.OpenShut
import Derived.ShutString
import Derived.ChangeOld
import Derived.Below
import Derived.Test.YtjbaebgdebcipaaGreatDoorChg
import Derived.Laws.Bits64b
import Derived.Test.YtjbaebgdebcipaaGreatDoorRelK
import Derived.Deep.Quiet
import Derived.Deep.RegionWith
import Derived.Deep.CutRange
import Derived.Test.YtjbaebgdebcipaaGreatDoorRp
import Derived.Test.YtjbaebgdebcipaaGreatDoorRsP
import Derived.Test.YtjbaebgdebcipaaGreatDoorBtx
import Derived.Lib.Join
import Derived.Test.YtjbaebgdebcipaaGreatDoorCutW
import Derived.Test.YtjbaebgdebcipaaGreatDoorPlc
import Derived.Test.YtjbaebgdebcipaaGreatDoorL6
import Derived.Test.YtjbaebgdebcipaaGreatDoorDcW
import Derived.Test.YtjbaebgdebcipaaGreatDoorBits
import Derived.Test.YtjbaebgdebcipaaGreatDoorRs
import Derived.Test.YtjbaebgdebcipaaGreatDoorOwn
import Derived.Test.YtjbaebgdebcipaaGreatDoorRb
import Derived.Test.YtjbaebgdebcipaaGreatDoorRows
import Derived.LaidMore
import Derived.LaidLaws
import Derived.LaidHandle
import Derived.Stop.Joined
import Derived.Lib.LaidTab
import Derived.MakeChecks
import Derived.Stop.LaidErr
import Derived.Lay
import Derived.Shelf.Vars
import Derived.HandedShaped
import Derived.Laws.Cover2
import Derived.Test.YtjbaebgdebcipaaGreatDoorTie
import Derived.Test.YtjbaebgdebcipaaGreatDoorCards
import Derived.SevenTiedAt
/- Arguments that came in, read as lists. -/
namespace Go.Proofs.YtjbaebgdebcipaaGreatDoor
open Go.ChangeShapes Go.WideShapes Go.ChangeAt Go.RowKit Go.Deep
section
variable {H : Type} {enc : TypeId × Value → H} {P : Program} {w : World} {base : Nat} {spare : Nat → Bool} {held : Bool}
theorem trod_float {e : TypeId} {k : FloatKind} {n : Nat} {v : Value} {y : DataW H × List MemPlace} (he : P.underlying e = some (.float k)) (h : DataW.trod enc P w base spare held n e [v] = some y) :
    ∃ b, v = .float k b ∧ (Lit.float k b).wf = true := by
  cases n with
  | zero => simp [DataW.trod] at h
  | succ n =>
    simp only [DataW.trod, he] at h
    cases v <;> simp at h
    obtain ⟨⟨rfl, hw⟩, _⟩ := h
    exact ⟨_, rfl, hw⟩
theorem wf_float {k : FloatKind} {b : Nat} (h : (Lit.float k b).wf = true) : b < 2 ^ k.format.width := by
  cases k
  · rw [width32]; simpa [Lit.wf] using h
  · rw [width64]; simpa [Lit.wf] using h
/-- A slice of floats that came in. -/
theorem open_floats {t e : TypeId} {a : Option Addr} {len cap : Nat} {d : DataW H} {ps : List MemPlace} (ht : P.underlying t = some (.slice e)) (he : P.underlying e = some (.float .f32)) (hc : P.cellsOf e = 1)
    (h : DataW.Trod enc P w base spare held t (.slice a len cap) d ps) : ∃ L, L.length = len ∧ len ≤ maxLen ∧ RdF w (.slice a len cap) L := by
  obtain ⟨fuel, hf⟩ := h
  rcases open_slice1 ht hc hf with ⟨hcs, _⟩ | ⟨x, len', cap', m, n, V, D, Pl, hcs, _, hl, hm, hmm, _, hx⟩
  · simp [Value.cells] at hcs
    obtain ⟨rfl, rfl, rfl⟩ := hcs
    exact ⟨[], rfl, Nat.zero_le _, none, 0, rfl, Nat.le_refl _, fun _ => rfl, fun j hj => by cases hj⟩
  · simp [Value.cells] at hcs
    obtain ⟨rfl, rfl, rfl⟩ := hcs
    have hlm : len ≤ m := by rw [hmm]; split <;> omega
    have hall : ∀ j, j < len → ∃ b, w.cell? (x.add j) = some (.float .f32 b) ∧ b < 2 ^ FloatKind.f32.format.width := fun j hj => by
      obtain ⟨h1, h2⟩ := hx j (by omega)
      obtain ⟨b, hb, hw⟩ := trod_float he h2
      exact ⟨b, by rw [← hb]; exact h1, wf_float hw⟩
    obtain ⟨bits, hlb, hb⟩ := pick_list len hall
    refine ⟨bits.map (can .f32), by simp [hlb], by omega, some x, cap, by simp [hlb], by simp [hlb]; omega, fun h => (by cases h), fun j hj => ?_⟩
    simp only [List.length_map, hlb] at hj
    obtain ⟨h1, h2⟩ := hb j hj
    obtain ⟨b, o, s⟩ := x
    have hs : s = none := by
      have h3 := World.cell?_spot (hb 0 (by omega)).1
      simpa [Addr.add] using h3
    subst hs
    refine ⟨b, o, _, rfl, by rw [← Addr.add_lit]; exact h1, _, rfl, ?_⟩
    have e1 : (bits.map (can .f32)).getD j 0 = can .f32 (bits.getD j 0) := by
      simp [List.getD_eq_getElem?_getD, List.getElem?_eq_getElem (show j < bits.length by omega)]
    rw [e1]
    exact FV.can h2
end
end Go.Proofs.YtjbaebgdebcipaaGreatDoor

/- Byte slices that came in. -/
namespace Go.Proofs.YtjbaebgdebcipaaGreatDoor
open Go.ChangeShapes Go.WideShapes Go.ChangeAt Go.RowKit Go.Deep
/-- The slice v has n bytes. -/
def RdY (w : World) (v : Value) (n : Nat) : Prop := RdP w v n fun _ u => ∃ b : Int, (0 ≤ b ∧ b < 256) ∧ u = .int .u8 b
theorem RdY.mono {w w' : World} {v : Value} {n : Nat} (h : RdY w v n) (hb : Below w.heap.size w w') : RdY w' v n := RdP.mono h hb
theorem RdY.opened {w : World} {v : Value} {n : Nat} (h : RdY w v n) :
    ∃ a c, v = .slice a n c ∧ n ≤ c ∧ ∀ j, j < n → ∃ b o, a = some ⟨b, o, none⟩ ∧ b < w.heap.size ∧ ∃ y : Int, (0 ≤ y ∧ y < 256) ∧ w.cell? ⟨b, o + j, none⟩ = some (.int .u8 y) := by
  obtain ⟨a, c, hv, hc, -, hr⟩ := h
  refine ⟨a, c, hv, hc, fun j hj => ?_⟩
  obtain ⟨b, o, u, ha, hu, y, hy, rfl⟩ := hr j hj
  exact ⟨b, o, ha, block_lt hu, y, hy, hu⟩
section
variable {H : Type} {enc : TypeId × Value → H} {P : Program} {w : World} {base : Nat} {spare : Nat → Bool} {held : Bool}
theorem trod_byte {e : TypeId} {n : Nat} {v : Value} {y : DataW H × List MemPlace} (he : P.underlying e = some (.int .u8)) (h : DataW.trod enc P w base spare held n e [v] = some y) :
    ∃ b : Int, v = .int .u8 b ∧ (Lit.int .u8 b).wf = true := by
  cases n with
  | zero => simp [DataW.trod] at h
  | succ n =>
    simp only [DataW.trod, he] at h
    cases v <;> simp at h
    obtain ⟨⟨rfl, hw⟩, _⟩ := h
    exact ⟨_, rfl, hw⟩
theorem wf_byte {b : Int} (h : (Lit.int .u8 b).wf = true) : 0 ≤ b ∧ b < 256 := by
  simp [Lit.wf] at h
  have e1 : IntKind.u8.min = 0 := by decide
  have e2 : IntKind.u8.max = 255 := by decide
  rw [e1, e2] at h
  constructor <;> omega
theorem open_bytes {t e : TypeId} {a : Option Addr} {len cap : Nat} {d : DataW H} {ps : List MemPlace} (ht : P.underlying t = some (.slice e)) (he : P.underlying e = some (.int .u8)) (hc : P.cellsOf e = 1)
    (h : DataW.Trod enc P w base spare held t (.slice a len cap) d ps) : len ≤ maxLen ∧ RdY w (.slice a len cap) len := by
  obtain ⟨fuel, hf⟩ := h
  rcases open_slice1 ht hc hf with ⟨hcs, _⟩ | ⟨x, len', cap', m, n, V, D, Pl, hcs, _, hl, hm, hmm, _, hx⟩
  · simp [Value.cells] at hcs
    obtain ⟨rfl, rfl, rfl⟩ := hcs
    exact ⟨Nat.zero_le _, none, 0, rfl, Nat.le_refl _, fun _ => rfl, fun j hj => by cases hj⟩
  · simp [Value.cells] at hcs
    obtain ⟨rfl, rfl, rfl⟩ := hcs
    have hlm : len ≤ m := by rw [hmm]; split <;> omega
    refine ⟨by omega, some x, cap, rfl, by omega, fun h => (by cases h), fun j hj => ?_⟩
    obtain ⟨h1, h2⟩ := hx j (by omega)
    obtain ⟨b', hb', hw'⟩ := trod_byte he h2
    obtain ⟨b, o, s⟩ := x
    have hs : s = none := by
      have h3 := World.cell?_spot (hx 0 (by omega)).1
      simpa [Addr.add] using h3
    subst hs
    exact ⟨b, o, _, rfl, by rw [← Addr.add_lit]; exact h1, b', wf_byte hw', hb'⟩
end
end Go.Proofs.YtjbaebgdebcipaaGreatDoor

/- Walks: the draws. -/
namespace Go.Proofs.YtjbaebgdebcipaaGreatDoor
open Go Go.RowKit

/-- The source of the draws: the bytes, the place, the sequence. -/
def Src (w : World) (g : Nat) (a : Option Addr) (n c : Nat) (t : Int) : Prop :=
  ∃ sd : Int, w.heap[g]? = some (.cells #[.slice a n c, .int .i64 t, .int .u64 sd] 94 (0, 0)) ∧ 0 ≤ sd ∧ sd < 18446744073709551616
theorem low_byte (x : Int) (h : 0 ≤ x) (h2 : x < 18446744073709551616) : 0 ≤ bits BinOp.and IntKind.u64 x 255 ∧ bits BinOp.and IntKind.u64 x 255 < 256 := by
  obtain ⟨m, rfl⟩ : ∃ m : Nat, x = m := ⟨x.toNat, by omega⟩
  have e : bits BinOp.and IntKind.u64 (m : Int) 255 = ((m &&& 255 : Nat) : Int) := bits_and_u64_nat m 255 (by omega) (by decide)
  have h3 : m &&& 255 ≤ 255 := Nat.and_le_right
  rw [e]
  omega
theorem u64_wrap (x : Int) : 0 ≤ IntKind.u64.wrap x ∧ IntKind.u64.wrap x < 18446744073709551616 := by
  have e : IntKind.u64.wrap x = x % 18446744073709551616 := by simp [IntKind.wrap, IntKind.signed, IntKind.bits]
  rw [e]; omega

set_option maxRecDepth 100000 in
set_option maxHeartbeats 3200000 in
theorem next_any (w : World) (g : Nat) (a : Option Addr) (n c : Nat) (t : Int) (hs : Src w g a n c t) (hy : RdY w (.slice a n c) n) (hn : n ≤ 1048576) (ht : 0 ≤ t) (ht2 : t ≤ 1000000) :
    Calls Tryz.prog 62 #[.pointer (some ⟨g, 0, none⟩)] w fun e w' => ∃ v : Int, e = .returned (.int .i64 v) ∧ 0 ≤ v ∧ v < 256 ∧ Src w' g a n c (t + 1) ∧ Chg w w' (fun k => k = g) := by
  obtain ⟨sd, hb, hsd0, hsd1⟩ := hs
  obtain ⟨a2, c2, hv, hc, hcell⟩ := hy.opened
  obtain ⟨rfl, rfl⟩ : a = a2 ∧ c = c2 := by cases hv; exact ⟨rfl, rfl⟩
  have HB := Lib.hid hb
  clear hv hy
  by_cases hlt : t < (n : Int)
  · obtain ⟨i, rfl⟩ : ∃ i : Nat, t = i := ⟨t.toNat, by omega⟩
    obtain ⟨b, o, rfl, hlb, y, ⟨hy0, hy1⟩, hy⟩ := hcell i (by omega)
    obtain ⟨k0, k1, k2, f0, f1, f2⟩ := blk3 hb
    clear hcell hb
    go_enter Tryz.func62, Tryz.ntmps62
    go_wp2
    refine region_rel_all (by kernel_rfl) (by kernel_rfl) (Drawn w) (fun _ _ _ => False) ⟨1, rfl⟩ ?_
    repeat (refine wpRel_draw rfl rfl (fun nq K hK => ?_); go_wp2)
    refine wpRel_nil ?_
    rintro wd ⟨nd, hwd⟩
    replace k0 : wd.cell? ⟨g, 0, none⟩ = some (.slice (some ⟨b, o, none⟩) n c) := by rw [hwd]; exact k0
    replace k1 : wd.cell? ⟨g, 1, none⟩ = some (.int .i64 (i : Int)) := by rw [hwd]; exact k1
    replace k2 : wd.cell? ⟨g, 2, none⟩ = some (.int .u64 sd) := by rw [hwd]; exact k2
    replace hy : wd.cell? ⟨b, o + i, none⟩ = some (.int .u8 y) := by rw [hwd]; exact hy
    have HB1 : Hid (wd.heap[g]? = some (.cells #[.slice (some ⟨b, o, none⟩) n c, .int .i64 (i : Int), .int .u64 sd] 94 (0, 0))) := Lib.hid (by rw [hwd]; exact HB.out)
    have HC1 : Hid (Chg w wd (fun k => k = g)) := Lib.hid (by rw [hwd]; exact (Chg.refl _ _).drewN _)
    clear hwd HB f0 f1 f2
    go_wp2
    refine region_rel_tail 11 (by kernel_rfl) (by kernel_rfl) (Drawn wd) (fun _ _ _ => False) ⟨1, rfl⟩ ?_
    simp only [List.take_succ_cons, List.take_zero, List.drop_succ_cons, List.drop_zero]
    repeat (refine wpRel_draw rfl rfl (fun nq K hK => ?_); go_wp2)
    refine wpRel_nil ?_
    rintro we ⟨ne, hwe⟩
    have HB2 : we.heap[g]? = some (.cells #[.slice (some ⟨b, o, none⟩) n c, .int .i64 (i : Int), .int .u64 sd] 94 (0, 0)) := by rw [hwe]; exact HB1.out
    have HC2 : Hid (Chg w we (fun k => k = g)) := Lib.hid (by rw [hwe]; exact HC1.out.drewN _)
    obtain ⟨k0, k1, k2, f0, f1, f2⟩ := blk3 HB2
    clear hwe HB1 HC1 hy
    go_wp2
    have P := (Put.one HB2 1 (.int .i64 ((i : Int) + 1))).next 2 (.int .u64 (IntKind.u64.wrap (IntKind.u64.wrap (IntKind.u64.wrap (sd * 6364136223846793005) + y) + 1442695040888963407)))
    obtain ⟨hw0, hw1⟩ := u64_wrap (IntKind.u64.wrap (IntKind.u64.wrap (sd * 6364136223846793005) + y) + 1442695040888963407)
    generalize IntKind.u64.wrap (IntKind.u64.wrap (IntKind.u64.wrap (sd * 6364136223846793005) + y) + 1442695040888963407) = sd2 at *
    generalize (we.setCell ⟨g, 1, none⟩ (.int .i64 ((i : Int) + 1))).setCell ⟨g, 2, none⟩ (.int .u64 sd2) = wf at *
    have HS : Hid (Src wf g (some ⟨b, o, none⟩) n c ((i : Int) + 1)) := Lib.hid ⟨sd2, (P.cs (cs' := #[.slice (some ⟨b, o, none⟩) n c, .int .i64 ((i : Int) + 1), .int .u64 sd2]) (by simp)).heap, hw0, hw1⟩
    have HC3 : Hid (Chg w wf (fun k => k = g)) := Lib.hid (HC2.out.trans P.chg)
    obtain ⟨k0, k1, k2, f0, f1, f2⟩ := blk3 (P.cs (cs' := #[.slice (some ⟨b, o, none⟩) n c, .int .i64 ((i : Int) + 1), .int .u64 sd2]) (by simp)).heap
    clear P HB2 HC2
    refine region_rel_all (by kernel_rfl) (by kernel_rfl) (Drawn wf) (fun _ _ _ => False) ⟨1, rfl⟩ ?_
    repeat (refine wpRel_draw rfl rfl (fun nq K hK => ?_); go_wp2)
    refine wpRel_nil ?_
    rintro wh ⟨nh, hwh⟩
    have Hwh := Lib.hid hwh
    clear hwh
    go_wp2
    go_ret
    exact ⟨_, rfl, hy0, hy1, by rw [Hwh.out]; exact HS.out, by rw [Hwh.out]; exact HC3.out.drewN _⟩

  · obtain ⟨k0, k1, k2, f0, f1, f2⟩ := blk3 hb
    clear hcell hb
    go_enter Tryz.func62, Tryz.ntmps62
    go_wp2
    refine region_rel_all (by kernel_rfl) (by kernel_rfl) (Drawn w) (fun _ _ _ => False) ⟨1, rfl⟩ ?_
    repeat (refine wpRel_draw rfl rfl (fun nq K hK => ?_); go_wp2)
    refine wpRel_nil ?_
    rintro we ⟨ne, hwe⟩
    have HB2 : we.heap[g]? = some (.cells #[.slice a n c, .int .i64 t, .int .u64 sd] 94 (0, 0)) := by rw [hwe]; exact HB.out
    have HC2 : Hid (Chg w we (fun k => k = g)) := Lib.hid (by rw [hwe]; exact (Chg.refl _ _).drewN _)
    obtain ⟨k0, k1, k2, f0, f1, f2⟩ := blk3 HB2
    clear hwe HB
    go_wp2
    have P := (Put.one HB2 1 (.int .i64 (t + 1))).next 2 (.int .u64 (IntKind.u64.wrap (IntKind.u64.wrap (IntKind.u64.wrap (sd * 6364136223846793005)) + 1442695040888963407)))
    obtain ⟨hw0, hw1⟩ := u64_wrap (IntKind.u64.wrap (IntKind.u64.wrap (sd * 6364136223846793005)) + 1442695040888963407)
    generalize IntKind.u64.wrap (IntKind.u64.wrap (IntKind.u64.wrap (sd * 6364136223846793005)) + 1442695040888963407) = sd2 at *
    generalize (we.setCell ⟨g, 1, none⟩ (.int .i64 (t + 1))).setCell ⟨g, 2, none⟩ (.int .u64 sd2) = wf at *
    have hb2 := (P.cs (cs' := #[.slice a n c, .int .i64 (t + 1), .int .u64 sd2]) (by simp)).heap
    have HS : Hid (Src wf g a n c (t + 1)) := Lib.hid ⟨sd2, hb2, hw0, hw1⟩
    have HC3 : Hid (Chg w wf (fun k => k = g)) := Lib.hid (HC2.out.trans P.chg)
    have HB3 := Lib.hid hb2
    obtain ⟨k0, k1, k2, f0, f1, f2⟩ := blk3 hb2
    clear P HB2 HC2 hb2
    refine region_rel_all (by kernel_rfl) (by kernel_rfl) (Drawn wf) (fun _ _ _ => False) ⟨1, rfl⟩ ?_
    repeat (refine wpRel_draw rfl rfl (fun nq K hK => ?_); go_wp2)
    refine wpRel_nil ?_
    rintro wh ⟨nh, hwh⟩
    have Hwh := Lib.hid hwh
    obtain ⟨k0, k1, k2, f0, f1, f2⟩ := blk3 (w := wh) (by rw [hwh]; exact HB3.out)
    clear hwh HB3
    go_wp2
    go_ret
    obtain ⟨hv0, hv1⟩ := low_byte (sd2 / 1099511627776) (Int.ediv_nonneg hw0 (by decide)) (by omega)
    have hv2 : wrap64 (bits BinOp.and IntKind.u64 (sd2 / 1099511627776) 255) = bits BinOp.and IntKind.u64 (sd2 / 1099511627776) 255 := by unfold wrap64; omega
    exact ⟨bits BinOp.and IntKind.u64 (sd2 / 1099511627776) 255, congrArg (fun v => Ending.returned (Value.int .i64 v)) hv2, hv0, hv1, by rw [Hwh.out]; exact HS.out, by rw [Hwh.out]; exact HC3.out.drewN _⟩

set_option maxRecDepth 100000 in
set_option maxHeartbeats 1600000 in
theorem pick_any (w : World) (g : Nat) (a : Option Addr) (n c : Nat) (t m : Int) (hs : Src w g a n c t) (hy : RdY w (.slice a n c) n) (hn : n ≤ 1048576) (ht : 0 ≤ t) (ht2 : t ≤ 1000000) (hm : 2 ≤ m) (hm2 : m ≤ 200) :
    Calls Tryz.prog 31 #[.pointer (some ⟨g, 0, none⟩), .int .i64 m] w fun e w' => ∃ v : Int, e = .returned (.int .i64 v) ∧ 0 ≤ v ∧ v < m ∧ Src w' g a n c (t + 1) ∧ Chg w w' (fun k => k = g) := by
  have HN := Lib.hid (next_any w g a n c t hs hy hn ht ht2)
  clear hs hy
  go_enter Tryz.func31, Tryz.ntmps31
  go_wp2_with fail
  refine HN.out.mono ?_
  rintro e w1 ⟨v, rfl, hv0, hv1, hs1, hc1⟩
  have HS := Lib.hid hs1
  have HC := Lib.hid hc1
  clear hs1 hc1 HN
  have hm0 : ¬ m = 0 := by omega
  have hr0 : 0 ≤ v % m := Int.emod_nonneg _ hm0
  have hr1 : v % m < m := Int.emod_lt_of_pos _ (by omega)
  go_wp2
  go_ret
  exact ⟨v % m, rfl, hr0, hr1, HS.out, HC.out⟩

set_option maxRecDepth 100000 in
set_option maxHeartbeats 400000 in
theorem l00From_any (w : World) (a : Option Addr) (n c : Nat) :
    Calls Tryz.prog 30 #[.slice a n c] w fun e w' => e = .returned (.pointer (some ⟨w.heap.size, 0, none⟩)) ∧ w' = w.alloc (.cells #[.slice a n c, .int .i64 0, .int .u64 0] 94) := by
  go_enter Tryz.func30, Tryz.ntmps30
  go_wp2
  go_ret
  exact ⟨rfl, rfl⟩
theorem fv_four : FV .f32 1082130432 1082130432 := ⟨by decide, by decide +kernel⟩
end Go.Proofs.YtjbaebgdebcipaaGreatDoor

/- 'make' of floats, as an operation. -/
namespace Go.Proofs.YtjbaebgdebcipaaGreatDoor
open Go Go.RowKit

theorem op_make {P : Program} {o : Oper} {a : Act} {w : World} {K : Act → World → Prop} {Q : Exit → Act → World → Prop} (l c : Operand) (t : TypeId) (hop : o.op = Op.makeSlice t l c)
    (e : TypeId) (z : Value) (bytes : Nat) (h1 : P.underlying t = some (.slice e)) (hinfo : (P.info? e).map (fun i => (i.zero, i.size, i.bytes)) = some (some z, 1, bytes)) (hz : z.cells = #[z])
    (kl kc : IntKind) (L C : Int) (n : Nat) (hl : a.eval l = .int kl L) (hc : a.eval c = .int kc C) (hL : L = (n : Int)) (hC : C = (n : Int)) (hn : n ≤ 1048576) (hby : bytes ≤ 1000)
    (h : ∀ w', w'.ownsRow w.heap.size e 1 (.slice (some ⟨w.heap.size, 0, none⟩) n n) n (List.replicate n z) → Ext w w' → K (a.put o.dst (.slice (some ⟨w.heap.size, 0, none⟩) n n)) w') : o.wp P a w K Q := by
  obtain ⟨i, hi, hz0, hz1, hz2⟩ := info_parts hinfo
  obtain ⟨w', hrun, r1, r2⟩ := run_make_full (P := P) w w.heap.size t e i z 1 h1 hi hz0 hz1 kl kc n (by rw [hz2]; exact Nat.le_trans (Nat.mul_le_mul hby hn) (by decide)) (by unfold maxLen; omega) (Nat.le_refl _)
  subst hL
  subst hC
  unfold Oper.wp
  simp [execOp, hop, hl, hc, hrun, Result.andThen]
  refine h _ ?_ ((Below.refl _ _).grown r2 (Nat.le_refl _) fun k hk => by cases hk)
  have e : (madeCells z.cells (n * 1)).toList = List.replicate n z := by
    rw [Nat.mul_one, hz, toList_madeCells_one]
  rw [e] at r1
  exact r1
theorem wpList_makeF {P : Program} {ops : Array Oper} {rest : List Oper} {o : Oper} {a : Act} {w : World} {Q : Exit → Act → World → Prop} (hg : o.guard = none) (l c : Operand) (t : TypeId) (hop : o.op = Op.makeSlice t l c)
    (e : TypeId) (z : Value) (bytes : Nat) (h1 : P.underlying t = some (.slice e)) (hinfo : (P.info? e).map (fun i => (i.zero, i.size, i.bytes)) = some (some z, 1, bytes)) (hz : z.cells = #[z])
    (kl kc : IntKind) (L C : Int) (n : Nat) (hl : a.eval l = .int kl L) (hc : a.eval c = .int kc C) (hL : L = (n : Int)) (hC : C = (n : Int)) (hn : n ≤ 1048576) (hby : bytes ≤ 1000)
    (h : ∀ w', w'.ownsRow w.heap.size e 1 (.slice (some ⟨w.heap.size, 0, none⟩) n n) n (List.replicate n z) → Ext w w' → wpList P ops Q rest (a.put o.dst (.slice (some ⟨w.heap.size, 0, none⟩) n n)) w') : wpList P ops Q (o :: rest) a w :=
  wpList_plain hg fun K hK => op_make l c t hop e z bytes h1 hinfo hz kl kc L C n hl hc hL hC hn hby fun w' a1 a2 => hK _ _ (h w' a1 a2)
theorem OwnF.madeT {w : World} {B : Nat} {v : Value} {n : Nat} (h : w.ownsRow B 25 1 v n (List.replicate n (.float .f32 0))) : OwnF w B v (List.replicate n 0) := by
  refine ⟨List.replicate n 0, rfl, fun j hj => ?_, by simpa using h⟩
  simp only [List.length_replicate] at hj
  rw [List.getD_eq_getElem?_getD, List.getElem?_replicate, if_pos hj]
  exact fv0 _
end Go.Proofs.YtjbaebgdebcipaaGreatDoor

/- Walks: the sections that the laws draw. -/
namespace Go.Proofs.YtjbaebgdebcipaaGreatDoor
open Go Go.RowKit

/-- A quarter of an integer. -/
def qT (z : Int) : Nat := fop .quo .f32 (floatOfInt .f32 z) 1082130432
theorem Src.kept {w w' : World} {g : Nat} {a : Option Addr} {n c : Nat} {t : Int} (h : Src w g a n c t) (hg : w'.heap[g]? = w.heap[g]?) : Src w' g a n c t := by
  obtain ⟨sd, h1, h2⟩ := h
  exact ⟨sd, hg.trans h1, h2⟩
theorem Src.lt {w : World} {g : Nat} {a : Option Addr} {n c : Nat} {t : Int} (h : Src w g a n c t) : g < w.heap.size := by
  obtain ⟨sd, h1, h2⟩ := h
  exact (Array.getElem?_eq_some_iff.1 h1).1
theorem RdY.same {w w' : World} {v : Value} {n : Nat} (h : RdY w v n) (he : w'.heap = w.heap) : RdY w' v n := by
  obtain ⟨a, c, hv, hc, hz, hr⟩ := h
  refine ⟨a, c, hv, hc, hz, fun j hj => ?_⟩
  obtain ⟨b, o, u, ha, hu, hR⟩ := hr j hj
  exact ⟨b, o, u, ha, by unfold World.cell? at *; rw [he]; exact hu, hR⟩
set_option maxRecDepth 100000 in
set_option maxHeartbeats 1600000 in
theorem l06Flat_any (w : World) (a b : Nat) (ha : a ≤ 5) (hb : b ≤ 5) :
    Calls Tryz.prog 32 #[.int .i64 a, .int .i64 b] w fun e w' => ∃ v, e = .returned (.agg #[.int .i64 a, .int .i64 b, v]) ∧ OwnF w' (w.heap.size + 1) v (List.replicate (a * b) 0) ∧ Below w.heap.size w w' := by
  have hab : a * b ≤ 25 := Nat.mul_le_mul ha hb
  have hmul : (a : Int) * (b : Int) = ((a * b : Nat) : Int) := by rw [Int.natCast_mul]
  have hwr : wrap64 ((a : Int) * (b : Int)) = ((a * b : Nat) : Int) := by rw [hmul]; unfold wrap64; omega
  generalize a * b = ab at *
  obtain ⟨W, hW⟩ : ∃ W, w.alloc (.cells #[.int .i64 0, .int .i64 0, .slice none 0 0] 31) = W := ⟨_, rfl⟩
  have HW : Hid (Below w.heap.size w W ∧ W.heap[w.heap.size]? = some (.cells #[.int .i64 0, .int .i64 0, .slice none 0 0] 31 (0, 0)) ∧ W.heap.size = w.heap.size + 1) := Lib.hid (by rw [← hW]; exact ⟨(Below.refl _ _).alloc (Nat.le_refl _) _, alloc_new _ _, World.size_alloc _ _⟩)
  go_enter Tryz.func32, Tryz.ntmps32
  go_wp2_with (refine wpList_makeF rfl _ _ 29 rfl 25 (.float .f32 0) 4 Tryz.underlying29 Tryz.infoF rfl _ _ _ _ ab rfl rfl (by first | exact hwr | exact hmul | rfl) (by first | exact hwr | exact hmul | rfl) (by omega) (by decide) ?_; intro w2 o2 x2; clear hW; have O2 := Lib.hid (OwnF.madeT o2); have B2 := Lib.hid (HW.out.1.trans (x2.mono (by have := HW.out.2.2; omega))); have h2 := (x2.block w.heap.size (by have := HW.out.2.2; omega)).trans HW.out.2.1; obtain ⟨m0, m1, m2, f0, f1, f2⟩ := blk3 h2; have HP := Lib.hid (put3 h2 (.int .i64 a) (.int .i64 b) (.slice (some ⟨W.heap.size, 0, none⟩) ab ab)); clear o2 x2 h2)
  have P := HP.out
  clear HP
  generalize (((w2.setCell ⟨w.heap.size, 0, none⟩ (.int .i64 a)).setCell ⟨w.heap.size, 1, none⟩ (.int .i64 b)).setCell ⟨w.heap.size, 2, none⟩ (.slice (some ⟨W.heap.size, 0, none⟩) ab ab)) = wy at *
  obtain ⟨q0, q1, q2, -, -, -⟩ := blk3 P.heap
  refine bodyPost_ret (v := .agg #[.int .i64 a, .int .i64 b, .slice (some ⟨W.heap.size, 0, none⟩) ab ab]) (by simp [results, Tryz.results32, go_sem, q0, q1, q2]) rfl ?_
  exact ⟨_, rfl, (O2.out.chg P.chg fun k hk e => by have := (O2.out.lt hk).1; have := HW.out.2.2; omega).mono (by have := HW.out.2.2; omega), Below.chg B2.out P.chg (fun k hk => by omega) B2.out.size⟩

/-- Where R8Section stands in its loop. -/
structure SecAtR (w wq : World) (g8 q cap : Nat) (ad : Option Addr) (n c a b N j : Nat) (zs : List Int) : Prop where
  bel : Below w.heap.size w wq
  z : wq.heap[w.heap.size]? = some (.cells #[.int .i64 0, .int .i64 0, .slice none 0 0] 31 (0, 0))
  s : Src wq (w.heap.size + 1) ad n c j
  p : wq.heap[g8]? = some (.cells #[.int .i64 a, .int .i64 b, .slice (some ⟨q, 0, none⟩) N cap] 31 (0, 0))
  o : OwnF wq (w.heap.size + 2) (.slice (some ⟨q, 0, none⟩) N cap) (zs.map qT ++ List.replicate (N - j) 0)
  g : w.heap.size + 1 < g8
  d : q ≠ g8
theorem SecAtR.chg {w wq wr : World} {g8 q cap : Nat} {ad : Option Addr} {n c a b N j : Nat} {zs : List Int} (h : SecAtR w wq g8 q cap ad n c a b N j zs) {t : Int} (hs : Src wr (w.heap.size + 1) ad n c t) (hc : Chg wq wr (fun k => k = w.heap.size + 1)) :
    Below w.heap.size w wr ∧ wr.heap[w.heap.size]? = some (.cells #[.int .i64 0, .int .i64 0, .slice none 0 0] 31 (0, 0)) ∧ wr.heap[g8]? = some (.cells #[.int .i64 a, .int .i64 b, .slice (some ⟨q, 0, none⟩) N cap] 31 (0, 0)) ∧ OwnF wr (w.heap.size + 2) (.slice (some ⟨q, 0, none⟩) N cap) (zs.map qT ++ List.replicate (N - j) 0) := by
  have h1 := (Array.getElem?_eq_some_iff.1 h.z).1
  have h2 := (Array.getElem?_eq_some_iff.1 h.p).1
  have h3 := h.g
  exact ⟨Below.chg h.bel hc (fun k hk => by omega) h.bel.size, (hc.block _ h1 (by omega)).trans h.z, (hc.block _ h2 (by omega)).trans h.p, h.o.chg hc fun k hk e => by have := (h.o.lt hk).1; omega⟩
theorem i64_wrapR (x : Int) (h : -1000000 ≤ x) (h2 : x ≤ 1000000) : IntKind.i64.wrap x = x := by
  simp [IntKind.wrap, IntKind.signed, IntKind.bits]
  omega
theorem cellR_same {w w' : World} {b o : Nat} (h : w'.heap[b]? = w.heap[b]?) : w'.cell? ⟨b, o, none⟩ = w.cell? ⟨b, o, none⟩ := by unfold World.cell?; rw [h]
theorem frozenR_same {w w' : World} {b o : Nat} (h : w'.heap[b]? = w.heap[b]?) : w'.frozen? ⟨b, o, none⟩ = w.frozen? ⟨b, o, none⟩ := by unfold World.frozen?; rw [h]
theorem SecAtR.step {w wq : World} {g8 q cap : Nat} {ad : Option Addr} {n c a b N j : Nat} {zs : List Int} {t : Int} (r : Nat) (z : Int) (hr : FV .f32 r (qT z)) (ht : t = ((j + 1 : Nat) : Int)) (hzl : zs.length = j) (hj : j < N)
    (hb : Below w.heap.size w wq) (hz : wq.heap[w.heap.size]? = some (.cells #[.int .i64 0, .int .i64 0, .slice none 0 0] 31 (0, 0))) (hs : Src wq (w.heap.size + 1) ad n c t) (hp : wq.heap[g8]? = some (.cells #[.int .i64 a, .int .i64 b, .slice (some ⟨q, 0, none⟩) N cap] 31 (0, 0)))
    (ho : OwnF wq (w.heap.size + 2) (.slice (some ⟨q, 0, none⟩) N cap) (zs.map qT ++ List.replicate (N - j) 0)) (hg : w.heap.size + 1 < g8) (hd : q ≠ g8) : SecAtR w (wq.setCell ⟨q, j, none⟩ (.float .f32 r)) g8 q cap ad n c a b N (j + 1) (zs ++ [z]) := by
  have hq := ho.lt (k := q) rfl
  have C : Chg wq (wq.setCell ⟨q, j, none⟩ (.float .f32 r)) (fun k => k = q) := Chg.setCell (S := fun k => k = q) (Chg.refl _ _) rfl j _
  have h1 := (Array.getElem?_eq_some_iff.1 hz).1
  have h2 := (Array.getElem?_eq_some_iff.1 hp).1
  refine ⟨Below.chg hb C (fun k hk => by omega) hb.size, (C.block _ h1 (by omega)).trans hz, ?_, (C.block _ h2 (fun e => hd e.symm)).trans hp, ?_, hg, hd⟩
  · subst ht
    exact hs.kept (C.block _ hs.lt (by omega))
  · have hl : (zs.map qT ++ List.replicate (N - j) 0).length = N := by rw [List.length_append, List.length_map, List.length_replicate]; omega
    have := ho.storedN (j := j) hl hr
    have e : (zs.map qT ++ List.replicate (N - j) 0).set j (qT z) = (zs ++ [z]).map qT ++ List.replicate (N - (j + 1)) 0 := by
      obtain ⟨m, hm⟩ : ∃ m, N - j = m + 1 := ⟨N - j - 1, by omega⟩
      rw [List.set_append_right _ _ (by rw [List.length_map]; omega), List.length_map, hzl, Nat.sub_self, hm, List.replicate_succ, List.set_cons_zero, List.map_append, show N - (j + 1) = m by omega, List.append_assoc]
      rfl
    rwa [e] at this

set_option maxRecDepth 100000 in
set_option maxHeartbeats 3200000 in
theorem r8Section_any (w : World) (v : Value) (n a b : Nat) (hy : RdY w v n) (hn : n ≤ 1048576) (ha : 1 ≤ a) (ha2 : a ≤ 5) (hb : 1 ≤ b) (hb2 : b ≤ 5) :
    Calls Tryz.prog 10 #[v, .int .i64 a, .int .i64 b] w fun e w' => ∃ (v' : Value) (zs : List Int), e = .returned (.agg #[.int .i64 a, .int .i64 b, v']) ∧ zs.length = a * b ∧ (∀ z ∈ zs, -8 ≤ z ∧ z ≤ 8) ∧ OwnF w' w.heap.size v' (zs.map qT) ∧ Below w.heap.size w w' := by
  have hst := run_store_float (P := Tryz.prog)
  have hquo := run_fquo (P := Tryz.prog)
  obtain ⟨ad, cc, rfl, -, -⟩ := hy.opened
  have HY := Lib.hid hy
  clear hy
  have hab : a * b ≤ 25 := Nat.mul_le_mul ha2 hb2
  have hab1 : 1 ≤ a * b := Nat.mul_le_mul ha hb
  have HFl := Lib.hid (fun wq => l06Flat_any wq a b ha2 hb2)
  generalize a * b = N at *
  obtain ⟨W, hW⟩ : ∃ W, w.alloc (.cells #[.int .i64 0, .int .i64 0, .slice none 0 0] 31) = W := ⟨_, rfl⟩
  have HW : Hid (Below w.heap.size w W ∧ W.heap[w.heap.size]? = some (.cells #[.int .i64 0, .int .i64 0, .slice none 0 0] 31 (0, 0))) := Lib.hid (by rw [← hW]; exact ⟨(Below.refl _ _).alloc (Nat.le_refl _) _, alloc_new _ _⟩)
  have hgW : W.heap.size = w.heap.size + 1 := by rw [← hW]; exact World.size_alloc _ _
  go_enter Tryz.func10, Tryz.ntmps10
  go_wp2_with fail
  clear hW
  refine (l00From_any W ad n cc).mono ?_
  rintro e w1 ⟨rfl, hw1⟩
  rw [hgW]
  have b1 : Below W.heap.size W w1 := by rw [hw1]; exact (Below.refl _ _).alloc (Nat.le_refl _) _
  have hs1 : Src w1 (w.heap.size + 1) ad n cc 0 := ⟨0, by rw [hw1, ← hgW]; exact alloc_new _ _, by decide, by decide⟩
  have z1 : w.heap.size + 2 ≤ w1.heap.size := by rw [hw1, World.size_alloc]; omega
  have HS1 := Lib.hid hs1
  have HB1 := Lib.hid (HW.out.1.trans (b1.mono (by omega)))
  have HZ1 := Lib.hid ((b1.block _ (by omega)).trans HW.out.2)
  clear hw1 b1 hs1 HW hgW
  go_wp2_with fail
  refine (HFl.out w1).mono ?_
  clear HFl
  rintro e w2 ⟨vq, rfl, o2, b2⟩
  obtain ⟨q, cap, rfl, hq1, hq2, -, -⟩ := o2.at_block (n := N) (by simp) hab1
  have HO2 := Lib.hid o2
  have HB2 := Lib.hid (HB1.out.trans (b2.mono (by omega)))
  have HZ2 := Lib.hid ((b2.block _ (by omega)).trans HZ1.out)
  have HS2 := Lib.hid (HS1.out.kept (b2.block _ (by omega)))
  have z2 := b2.size
  clear o2 b2 HB1 HZ1 HS1
  obtain ⟨wa, hwa⟩ : ∃ wa, w2.alloc (.cells #[.int .i64 0, .int .i64 0, .slice none 0 0] 31) = wa := ⟨_, rfl⟩
  have xa : Below w2.heap.size w2 wa := by rw [← hwa]; exact (Below.refl _ _).alloc (Nat.le_refl _) _
  have h9 : wa.heap[w2.heap.size]? = some (.cells #[.int .i64 0, .int .i64 0, .slice none 0 0] 31 (0, 0)) := by rw [← hwa]; exact alloc_new _ _
  have za := xa.size
  obtain ⟨g8, hg8⟩ : ∃ g8, w2.heap.size = g8 := ⟨_, rfl⟩
  have P := put3 (hg8 ▸ h9) (.int .i64 a) (.int .i64 b) (.slice (some ⟨q, 0, none⟩) N cap)
  obtain ⟨m0, m1, m2, f0, f1, f2⟩ := blk3 (hg8 ▸ h9)
  obtain ⟨wz, hwz⟩ : ∃ wz, ((wa.setCell ⟨g8, 0, none⟩ (.int .i64 a)).setCell ⟨g8, 1, none⟩ (.int .i64 b)).setCell ⟨g8, 2, none⟩ (.slice (some ⟨q, 0, none⟩) N cap) = wz := ⟨_, rfl⟩
  rw [hwz] at P
  have SZ : Hid (SecAtR w wz g8 q cap ad n cc a b N 0 []) := Lib.hid
    ⟨Below.chg (HB2.out.trans (xa.mono (by omega))) P.chg (fun k hk => by omega) (by omega), (P.chg.block _ (by omega) (by omega)).trans ((xa.block _ (by omega)).trans HZ2.out),
      (HS2.out.kept (xa.block _ (by omega))).kept (P.chg.block _ (by omega) (by omega)), P.heap, by
        have := (HO2.out.kept xa).chg P.chg (fun k hk e => by have hq9 : q = k := Option.some.inj hk; have e2 : k = g8 := e; omega)
        exact this.mono (by omega), by omega, by omega⟩
  clear P xa h9 HB2 HZ2 HS2 HO2
  go_wp2_with fail
  clear hwz hwa m0 m1 m2 f0 f1 f2
  go_loopw [9] (fun i wr => ∃ (j : Nat) (zs : List Int), j ≤ N ∧ i = .int .i64 j ∧ zs.length = j ∧ (∀ z ∈ zs, -8 ≤ z ∧ z ≤ 8) ∧ SecAtR w wr g8 q cap ad n cc a b N j zs) (fun i _ => N - (intOf i).toNat)
  case atStart => exact ⟨0, [], Nat.zero_le _, rfl, rfl, (fun z hz => by cases hz), SZ.out⟩
  case round =>
    clear SZ
    obtain ⟨wi, rfl⟩ : ∃ wi : World, wi = wr := ⟨_, rfl⟩
    obtain ⟨j, zs, hj, rfl, hzl, hz, hS⟩ := hrel
    have HS := Lib.hid hS
    have HZ := Lib.hid hz
    have HZL := Lib.hid hzl
    obtain ⟨k0, k1, k2, -, -, -⟩ := blk3 hS.p
    clear hS hz hzl
    by_cases hlt : j < N
    · have HP := Lib.hid (fun (wq : World) (hq : wq.heap = wi.heap) => pick_any wq (w.heap.size + 1) ad n cc j 17 (HS.out.s.kept (by rw [hq])) ((HY.out.mono HS.out.bel).same hq) hn (by omega) (by omega) (by decide) (by decide))
      obtain ⟨u0, hu0, hfr⟩ : ∃ u0, wi.cell? ⟨q, j, none⟩ = some u0 ∧ wi.frozen? ⟨q, j, none⟩ = false := by
        obtain ⟨q', cap', hv, -, -, -, hcl, hf⟩ := HS.out.o.at_block (n := N) (by rw [List.length_append, List.length_map, List.length_replicate, HZL.out]; omega) (by omega)
        cases hv
        obtain ⟨r, hr, -⟩ := hcl j (by rw [List.length_append, List.length_map, List.length_replicate, HZL.out]; omega)
        exact ⟨_, hr, hf j⟩
      go_wp2_with fail
      have hqlt : q < wi.heap.size := (HS.out.o.lt (k := q) rfl).2
      have hqge : w.heap.size + 2 ≤ q := (HS.out.o.lt (k := q) rfl).1
      have hg8l : g8 < wi.heap.size := (Array.getElem?_eq_some_iff.1 HS.out.p).1
      have hg8 := HS.out.g
      go_region_with (go_at_call 31; go_must (refine (HP.out wi.drew rfl).mono ?_; rintro e w3 ⟨p, rfl, hp0, hp1, s3, c3⟩; have e8 : w3.heap[g8]? = wi.heap[g8]? := c3.block g8 hg8l (by omega); have eq : w3.heap[q]? = wi.heap[q]? := c3.block q hqlt (by omega); replace k2 := (cellR_same (o := 2) e8).trans k2; replace hu0 := (cellR_same (o := j) eq).trans hu0; replace hfr := (frozenR_same (o := j) eq).trans hfr; have HS3 := Lib.hid s3; have HC3 := Lib.hid c3; clear s3 c3 e8 eq))
      all_goals
        have hwp : IntKind.i64.wrap (p - 8) = p - 8 := i64_wrapR _ (by omega) (by omega)
        rw [hwp]
        have F : FV .f32 (fres .quo .f32 (floatOfInt .f32 (p - 8)) 1082130432 w3) (qT (p - 8)) := FV.op (op := .quo) (floatOfInt_fv .f32 (p - 8)) fv_four w3
        generalize fres .quo .f32 (floatOfInt .f32 (p - 8)) 1082130432 w3 = r at *
        generalize fcnt .quo .f32 (floatOfInt .f32 (p - 8)) 1082130432 = kq at *
        have CH : Chg wi w3 (fun k => k = w.heap.size + 1) := ⟨HC3.out.os, HC3.out.tape, HC3.out.output, HC3.out.size, HC3.out.block⟩
        obtain ⟨e1, e2, e3, e4⟩ := HS.out.chg HS3.out CH
        have ST := Lib.hid (SecAtR.step (wq := w3.drewN kq) (t := (j : Int) + 1) r (p - 8) F (by omega) HZL.out hlt (Below.drewN e1 _) e2 HS3.out e3 e4 HS.out.g HS.out.d)
        clear F CH e1 e2 e3 e4 hwp
        go_wp2
        refine ⟨⟨j + 1, zs ++ [p - 8], by omega, by go_num, by rw [List.length_append, HZL.out]; rfl, fun z hz => ?_, ST.out⟩, by simp [intOf]; omega⟩
        rcases List.mem_append.1 hz with h | h
        · exact HZ.out z h
        · obtain rfl := List.mem_singleton.1 h
          omega
    · obtain rfl : j = N := by omega
      have PZ := put3 HS.out.z (.int .i64 a) (.int .i64 b) (.slice (some ⟨q, 0, none⟩) j cap)
      have HPZ := Lib.hid PZ
      obtain ⟨m0, m1, m2, f0, f1, f2⟩ := blk3 HS.out.z
      clear PZ
      go_wp2_with fail
      have PZ := HPZ.out
      clear HPZ
      generalize (((wi.setCell ⟨w.heap.size, 0, none⟩ (.int .i64 a)).setCell ⟨w.heap.size, 1, none⟩ (.int .i64 b)).setCell ⟨w.heap.size, 2, none⟩ (.slice (some ⟨q, 0, none⟩) j cap)) = wy at *
      obtain ⟨q0, q1, q2, -, -, -⟩ := blk3 PZ.heap
      refine bodyPost_ret (v := .agg #[.int .i64 a, .int .i64 b, .slice (some ⟨q, 0, none⟩) j cap]) (by simp [results, Tryz.results10, go_sem, q0, q1, q2]) rfl ?_
      refine ⟨_, zs, rfl, HZL.out, HZ.out, ?_, Below.chg HS.out.bel PZ.chg (fun k hk => by omega) HS.out.bel.size⟩
      have := (HS.out.o.chg PZ.chg fun k hk e => by have := (HS.out.o.lt hk).1; omega).mono (B' := w.heap.size) (by omega)
      rwa [Nat.sub_self, List.replicate_zero, List.append_nil] at this

end Go.Proofs.YtjbaebgdebcipaaGreatDoor

/- Walks: the paths that the laws draw. -/
namespace Go.Proofs.YtjbaebgdebcipaaGreatDoor
open Go Go.RowKit

/-- Where R8Path stands between two draws. -/
structure PathAt (w wq : World) (g8 : Nat) (a : Option Addr) (n c : Nat) (t : Int) (x0 x1 x2 x3 : Nat) : Prop where
  b : Below w.heap.size w wq
  z : wq.heap[w.heap.size]? = some (.cells #[.float .f32 0, .float .f32 0, .float .f32 0, .float .f32 0] 27 (0, 0))
  s : Src wq (w.heap.size + 1) a n c t
  p : wq.heap[g8]? = some (.cells #[.float .f32 x0, .float .f32 x1, .float .f32 x2, .float .f32 x3] 27 (0, 0))
  g : w.heap.size + 1 < g8
theorem PathAt.drawn {w wq wr : World} {g8 : Nat} {a : Option Addr} {n c : Nat} {t : Int} {x0 x1 x2 x3 : Nat} (h : PathAt w wq g8 a n c t x0 x1 x2 x3) (hs : Src wr (w.heap.size + 1) a n c (t + 1)) (hc : Chg wq wr (fun k => k = w.heap.size + 1)) (k : Nat) : PathAt w (wr.drewN k) g8 a n c (t + 1) x0 x1 x2 x3 := by
  have h1 := (Array.getElem?_eq_some_iff.1 h.z).1
  have h2 := (Array.getElem?_eq_some_iff.1 h.p).1
  have h3 := h.g
  exact ⟨Below.drewN (Below.chg h.b hc (fun k hk => by omega) h.b.size) _, (hc.block _ h1 (by omega)).trans h.z, hs, (hc.block _ h2 (by omega)).trans h.p, h.g⟩
theorem PathAt.put {w wq : World} {g8 : Nat} {a : Option Addr} {n c : Nat} {t : Int} {x0 x1 x2 x3 y0 y1 y2 y3 : Nat} (h : PathAt w wq g8 a n c t x0 x1 x2 x3) (i r : Nat) (he : (#[Value.float .f32 x0, .float .f32 x1, .float .f32 x2, .float .f32 x3] : Array Value).setIfInBounds i (.float .f32 r) = #[.float .f32 y0, .float .f32 y1, .float .f32 y2, .float .f32 y3]) : PathAt w (wq.setCell ⟨g8, i, none⟩ (.float .f32 r)) g8 a n c t y0 y1 y2 y3 := by
  have P := (Put.one h.p i (.float .f32 r)).cs he
  have h1 := (Array.getElem?_eq_some_iff.1 h.z).1
  have h3 := h.g
  exact ⟨Below.chg h.b P.chg (fun k hk => by omega) h.b.size, (P.chg.block _ h1 (by omega)).trans h.z, h.s.kept (P.chg.block _ h.s.lt (by omega)), P.heap, h.g⟩

set_option maxRecDepth 100000 in
set_option maxHeartbeats 3200000 in
theorem r8Path_any (w : World) (v : Value) (n a b : Nat) (hy : RdY w v n) (hn : n ≤ 1048576) (ha : 1 ≤ a) (ha2 : a ≤ 5) (hb : 1 ≤ b) (hb2 : b ≤ 5) :
    Calls Tryz.prog 9 #[v, .int .i64 a, .int .i64 b] w fun e w' => ∃ (u : Value) (p0 p1 p2 p3 : Nat), e = .returned u ∧ p0 < 20 ∧ p1 < 20 ∧ p2 < 20 ∧ p3 < 20 ∧ RdPath u (qT p0) (qT p1) (qT p2) (qT p3) ∧ Below w.heap.size w w' := by
  have hst := run_store_float (P := Tryz.prog)
  have hquo := run_fquo (P := Tryz.prog)
  obtain ⟨ad, cc, rfl, -, -⟩ := hy.opened
  have HY := Lib.hid hy
  clear hy
  obtain ⟨W, hW⟩ : ∃ W, w.alloc (.cells #[.float .f32 0, .float .f32 0, .float .f32 0, .float .f32 0] 27) = W := ⟨_, rfl⟩
  have HW : Hid (Below w.heap.size w W ∧ W.heap[w.heap.size]? = some (.cells #[.float .f32 0, .float .f32 0, .float .f32 0, .float .f32 0] 27 (0, 0))) := Lib.hid (by rw [← hW]; exact ⟨(Below.refl _ _).alloc (Nat.le_refl _) _, alloc_new _ _⟩)
  have hgW : W.heap.size = w.heap.size + 1 := by rw [← hW]; exact World.size_alloc _ _
  have HPK : Hid (∀ wq (t : Int) (k : Nat), 1 ≤ k → k ≤ 5 → 0 ≤ t → t ≤ 10 → Src wq (w.heap.size + 1) ad n cc t → Below w.heap.size w wq → Calls Tryz.prog 31 #[.pointer (some ⟨w.heap.size + 1, 0, none⟩), .int .i64 (4 * (k : Int))] wq fun e w' => ∃ p : Nat, e = .returned (.int .i64 p) ∧ p < 20 ∧ Src w' (w.heap.size + 1) ad n cc (t + 1) ∧ Chg wq w' (fun k => k = w.heap.size + 1)) := Lib.hid fun wq t k h1 h2 h3 h4 hs hb => (pick_any wq _ ad n cc t (4 * (k : Int)) hs (HY.out.mono hb) hn h3 (by omega) (by omega) (by omega)).mono fun e w' ⟨v, he, hv0, hv1, hs', hc'⟩ => ⟨v.toNat, by rw [he, Int.toNat_of_nonneg hv0], by omega, hs', hc'⟩
  clear HY
  go_enter Tryz.func9, Tryz.ntmps9
  go_wp2_with fail
  clear hW
  refine (l00From_any W ad n cc).mono ?_
  rintro e w1 ⟨rfl, hw1⟩
  rw [hgW]
  have b1 : Below W.heap.size W w1 := by rw [hw1]; exact (Below.refl _ _).alloc (Nat.le_refl _) _
  have hs1 : Src w1 (w.heap.size + 1) ad n cc 0 := ⟨0, by rw [hw1, ← hgW]; exact alloc_new _ _, by decide, by decide⟩
  have HS1 := Lib.hid hs1
  have HB1 := Lib.hid (HW.out.1.trans (b1.mono (by omega)))
  have HZ1 := Lib.hid ((b1.block _ (by omega)).trans HW.out.2)
  have z1 : w.heap.size + 2 ≤ w1.heap.size := by rw [hw1, World.size_alloc]; omega
  clear hw1 b1 hs1 HW
  go_wp2_with fail
  refine (HPK.out w1 0 a ha ha2 (by decide) (by decide) HS1.out HB1.out).mono ?_
  rintro e w2 ⟨p0, rfl, hp0, s2, c2⟩
  have F0 : FV .f32 (fres .quo .f32 (floatOfInt .f32 (p0 : Int)) 1082130432 w2) (qT p0) := FV.op (op := .quo) (floatOfInt_fv .f32 (p0 : Int)) fv_four w2
  obtain ⟨r0, hr0⟩ : ∃ r0, fres .quo .f32 (floatOfInt .f32 (p0 : Int)) 1082130432 w2 = r0 := ⟨_, rfl⟩
  rw [hr0] at F0
  have HF0 := Lib.hid F0
  have z2 := c2.size
  obtain ⟨wa, hwa⟩ : ∃ wa, (w2.drewN (fcnt .quo .f32 (floatOfInt .f32 (p0 : Int)) 1082130432)).alloc (.cells #[.float .f32 0, .float .f32 0, .float .f32 0, .float .f32 0] 27) = wa := ⟨_, rfl⟩
  have b3 : Below w2.heap.size (w2.drewN (fcnt .quo .f32 (floatOfInt .f32 (p0 : Int)) 1082130432)) wa := by rw [← hwa]; exact (show Below (w2.drewN _).heap.size (w2.drewN _) _ from (Below.refl _ _).alloc (Nat.le_refl _) _)
  have h9 : wa.heap[w2.heap.size]? = some (.cells #[.float .f32 0, .float .f32 0, .float .f32 0, .float .f32 0] 27 (0, 0)) := by rw [← hwa]; exact alloc_new (w2.drewN _) _
  have PA : PathAt w wa w2.heap.size ad n cc 1 0 0 0 0 := ⟨(Below.drewN (Below.chg HB1.out c2 (fun k hk => by omega) HB1.out.size) _).trans (b3.mono (by have := HB1.out.size; omega)),
    (b3.block w.heap.size (by show w.heap.size < w2.heap.size; omega)).trans ((c2.block w.heap.size (by omega) (by omega)).trans HZ1.out), s2.kept (b3.block _ s2.lt), h9, by omega⟩
  have PB : PathAt w (wa.setCell ⟨w2.heap.size, 0, none⟩ (.float .f32 r0)) w2.heap.size ad n cc 1 r0 0 0 0 := PA.put 0 r0 (by simp)
  obtain ⟨g8, hg8⟩ : ∃ g8, w2.heap.size = g8 := ⟨_, rfl⟩
  rw [hg8] at PB h9
  obtain ⟨⟨m0, m1, m2, m3⟩, f0, f1, f2, f3⟩ := blk4 h9
  have P4 := put4 h9 (.float .f32 r0) (.float .f32 0) (.float .f32 0) (.float .f32 0)
  obtain ⟨wz, hwz⟩ : ∃ wz, (((wa.setCell ⟨g8, 0, none⟩ (.float .f32 r0)).setCell ⟨g8, 1, none⟩ (.float .f32 0)).setCell ⟨g8, 2, none⟩ (.float .f32 0)).setCell ⟨g8, 3, none⟩ (.float .f32 0) = wz := ⟨_, rfl⟩
  rw [hwz] at P4
  have PZ : Hid (PathAt w wz g8 ad n cc 1 r0 0 0 0) := Lib.hid (by
    have h1 := (Array.getElem?_eq_some_iff.1 PA.z).1
    have hgg := PB.g
    exact ⟨Below.chg PA.b P4.chg (fun k hk => by omega) PA.b.size, (P4.chg.block _ h1 (by omega)).trans PA.z, PA.s.kept (P4.chg.block _ PA.s.lt (by omega)), P4.heap, PB.g⟩)
  clear PA PB P4 b3 h9 F0 s2 c2 HS1 HB1 HZ1
  go_wp2_with fail
  clear hwz hwa hr0 m0 m1 m2 m3 f0 f1 f2 f3
  refine (HPK.out wz 1 b hb hb2 (by decide) (by decide) PZ.out.s PZ.out.b).mono ?_
  rintro e v1 ⟨p1, rfl, hp1, s2, c2⟩
  have F1 : FV .f32 (fres .quo .f32 (floatOfInt .f32 (p1 : Int)) 1082130432 v1) (qT p1) := FV.op (op := .quo) (floatOfInt_fv .f32 (p1 : Int)) fv_four v1
  obtain ⟨r1, hr1⟩ : ∃ r1, fres .quo .f32 (floatOfInt .f32 (p1 : Int)) 1082130432 v1 = r1 := ⟨_, rfl⟩
  rw [hr1] at F1
  have HF1 := Lib.hid F1
  obtain ⟨u1, hu1⟩ : ∃ u1, v1.drewN (fcnt .quo .f32 (floatOfInt .f32 (p1 : Int)) 1082130432) = u1 := ⟨_, rfl⟩
  have PA : PathAt w u1 g8 ad n cc 2 r0 0 0 0 := by rw [← hu1]; exact PZ.out.drawn s2 c2 _
  obtain ⟨⟨m0, m1, m2, m3⟩, f0, f1, f2, f3⟩ := blk4 PA.p
  obtain ⟨y1, hy1⟩ : ∃ y1, u1.setCell ⟨g8, 1, none⟩ (.float .f32 r1) = y1 := ⟨_, rfl⟩
  have PZ2 : Hid (PathAt w y1 g8 ad n cc 2 r0 r1 0 0) := Lib.hid (by rw [← hy1]; exact PA.put 1 r1 (by simp))
  clear PZ
  have PZ := PZ2
  clear PZ2 PA F1 s2 c2
  go_wp2_with fail
  clear hy1 hu1 hr1 m0 m1 m2 m3 f0 f1 f2 f3
  refine (HPK.out y1 2 a ha ha2 (by decide) (by decide) PZ.out.s PZ.out.b).mono ?_
  rintro e v2 ⟨p2, rfl, hp2, s2, c2⟩
  have F2 : FV .f32 (fres .quo .f32 (floatOfInt .f32 (p2 : Int)) 1082130432 v2) (qT p2) := FV.op (op := .quo) (floatOfInt_fv .f32 (p2 : Int)) fv_four v2
  obtain ⟨r2, hr2⟩ : ∃ r2, fres .quo .f32 (floatOfInt .f32 (p2 : Int)) 1082130432 v2 = r2 := ⟨_, rfl⟩
  rw [hr2] at F2
  have HF2 := Lib.hid F2
  obtain ⟨u2, hu2⟩ : ∃ u2, v2.drewN (fcnt .quo .f32 (floatOfInt .f32 (p2 : Int)) 1082130432) = u2 := ⟨_, rfl⟩
  have PA : PathAt w u2 g8 ad n cc 3 r0 r1 0 0 := by rw [← hu2]; exact PZ.out.drawn s2 c2 _
  obtain ⟨⟨m0, m1, m2, m3⟩, f0, f1, f2, f3⟩ := blk4 PA.p
  obtain ⟨y2, hy2⟩ : ∃ y2, u2.setCell ⟨g8, 2, none⟩ (.float .f32 r2) = y2 := ⟨_, rfl⟩
  have PZ2 : Hid (PathAt w y2 g8 ad n cc 3 r0 r1 r2 0) := Lib.hid (by rw [← hy2]; exact PA.put 2 r2 (by simp))
  clear PZ
  have PZ := PZ2
  clear PZ2 PA F2 s2 c2
  go_wp2_with fail
  clear hy2 hu2 hr2 m0 m1 m2 m3 f0 f1 f2 f3
  refine (HPK.out y2 3 b hb hb2 (by decide) (by decide) PZ.out.s PZ.out.b).mono ?_
  rintro e v3 ⟨p3, rfl, hp3, s2, c2⟩
  have F3 : FV .f32 (fres .quo .f32 (floatOfInt .f32 (p3 : Int)) 1082130432 v3) (qT p3) := FV.op (op := .quo) (floatOfInt_fv .f32 (p3 : Int)) fv_four v3
  obtain ⟨r3, hr3⟩ : ∃ r3, fres .quo .f32 (floatOfInt .f32 (p3 : Int)) 1082130432 v3 = r3 := ⟨_, rfl⟩
  rw [hr3] at F3
  have HF3 := Lib.hid F3
  obtain ⟨u3, hu3⟩ : ∃ u3, v3.drewN (fcnt .quo .f32 (floatOfInt .f32 (p3 : Int)) 1082130432) = u3 := ⟨_, rfl⟩
  have PA : PathAt w u3 g8 ad n cc 4 r0 r1 r2 0 := by rw [← hu3]; exact PZ.out.drawn s2 c2 _
  obtain ⟨⟨m0, m1, m2, m3⟩, f0, f1, f2, f3⟩ := blk4 PA.p
  obtain ⟨y3, hy3⟩ : ∃ y3, u3.setCell ⟨g8, 3, none⟩ (.float .f32 r3) = y3 := ⟨_, rfl⟩
  have PZ2 : Hid (PathAt w y3 g8 ad n cc 4 r0 r1 r2 r3) := Lib.hid (by rw [← hy3]; exact PA.put 3 r3 (by simp))
  clear PZ
  have PZ := PZ2
  clear PZ2 PA F3 s2 c2
  obtain ⟨⟨k0, k1, k2, k3⟩, -, -, -, -⟩ := blk4 PZ.out.p
  obtain ⟨⟨n0, n1, n2, n3⟩, e0, e1, e2, e3⟩ := blk4 PZ.out.z
  have P5 := put4 PZ.out.z (.float .f32 r0) (.float .f32 r1) (.float .f32 r2) (.float .f32 r3)
  have HP5 := Lib.hid P5
  clear P5
  go_wp2_with fail
  clear k0 k1 k2 k3
  have P5 := HP5.out
  clear HP5
  generalize (((y3.setCell ⟨w.heap.size, 0, none⟩ (.float .f32 r0)).setCell ⟨w.heap.size, 1, none⟩ (.float .f32 r1)).setCell ⟨w.heap.size, 2, none⟩ (.float .f32 r2)).setCell ⟨w.heap.size, 3, none⟩ (.float .f32 r3) = wy at *
  obtain ⟨⟨q0, q1, q2, q3⟩, -, -, -, -⟩ := blk4 P5.heap
  refine bodyPost_ret (v := .agg #[.float .f32 r0, .float .f32 r1, .float .f32 r2, .float .f32 r3]) (by simp [results, Tryz.results9, go_sem, q0, q1, q2, q3]) rfl ?_
  exact ⟨_, p0, p1, p2, p3, rfl, hp0, hp1, hp2, hp3, ⟨r0, r1, r2, r3, rfl, HF0.out, HF1.out, HF2.out, HF3.out⟩, Below.chg PZ.out.b P5.chg (fun k hk => by omega) PZ.out.b.size⟩

end Go.Proofs.YtjbaebgdebcipaaGreatDoor

/- Plain: texts of numbers and of sections are read back; longer ones are none. -/
namespace Go.Proofs.YtjbaebgdebcipaaGreatDoor
open Go Go.RowKit

def txt (L : List Nat) (j : Nat) : List UInt8 := Lib.join ((L.take j).map (digs 8)) [44]
theorem txt_one (L : List Nat) (h : 0 < L.length) : txt L 1 = digs 8 (L.getD 0 0) := by
  cases L with
  | nil => cases h
  | cons x r => exact Lib.join_one _ _
theorem txt_succ (L : List Nat) (j : Nat) (h1 : 1 ≤ j) (h : j < L.length) : txt L (j + 1) = txt L j ++ ([44] ++ digs 8 (L.getD j 0)) := by
  cases L with
  | nil => cases h
  | cons x r =>
    obtain ⟨j, rfl⟩ : ∃ i, j = i + 1 := ⟨j - 1, by omega⟩
    have hj : j < r.length := by simpa using h
    unfold txt
    rw [List.take_succ_cons, List.take_succ_cons, List.map_cons, List.map_cons, Lib.join_cons, Lib.join_cons, List.map_take, List.map_take,
      Lib.joinTail_take_succ [44] (r.map (digs 8)) j (digs 8 (r.getD j 0)) (by simp [List.getElem?_map, List.getD_eq_getElem?_getD, List.getElem?_eq_getElem hj])]
    simp [List.append_assoc]
theorem txt_length (L : List Nat) (j : Nat) (h1 : 1 ≤ j) (h : j ≤ L.length) : (txt L j).length + 1 = 9 * j := by
  induction j with
  | zero => omega
  | succ j ih =>
    rcases Nat.eq_zero_or_pos j with rfl | hj
    · rw [txt_one L (by omega), digs_length]
    · rw [txt_succ L j hj (by omega), List.length_append, List.length_append, digs_length]
      have := ih hj (by omega)
      simp only [List.length_singleton]
      omega
theorem getD_in {L : List Nat} {j : Nat} (h : j < L.length) : L.getD j 0 = L[j] := by simp [List.getD_eq_getElem?_getD, List.getElem?_eq_getElem h]
def numT (L : List Nat) : ByteArray := if L = [] then ⟨#[110, 111, 110, 101]⟩ else ⟨(txt L L.length).toArray⟩
theorem numT_nil : numT [] = ⟨#[110, 111, 110, 101]⟩ := rfl
theorem numT_cons {L : List Nat} (h : 0 < L.length) : numT L = ⟨(txt L L.length).toArray⟩ := by
  unfold numT
  rw [if_neg (by intro e; rw [e] at h; cases h)]

theorem cutL_join (m : UInt8) : ∀ (x : List UInt8) (r : List (List UInt8)), m ∉ x → (∀ p ∈ r, m ∉ p) → cutL m (Lib.join (x :: r) [m]) = x :: r
  | x, [], hx, _ => by rw [Lib.join_one, cutL_miss hx]
  | x, y :: r, hx, hr => by
    have ih := cutL_join m y r (hr y (by simp)) (fun p hp => hr p (by simp [hp]))
    rw [Lib.join_cons] at ih ⊢
    have e : x ++ Lib.joinTail [m] (y :: r) = x ++ m :: (y ++ Lib.joinTail [m] r) := by simp [Lib.joinTail]
    rw [e, cutL_hit _ hx, ih]
/-- Canonical words. -/
def Wrd (L : List Nat) : Prop := ∀ x ∈ L, x < 4294967296 ∧ can .f32 x = x
theorem digs_no (k x : Nat) (m : UInt8) (h : ∀ d, d < 16 → digH d ≠ m) : m ∉ digs k x := fun hm => by
  obtain ⟨d, hd, e⟩ := digs_mem k x m hm
  exact h d hd e.symm
theorem digH_44 : ∀ d, d < 16 → digH d ≠ 44 := by
  have : ∀ d : Fin 16, digH d.1 ≠ 44 := by decide
  exact fun d h => this ⟨d, h⟩
theorem cut_numT {L : List Nat} (h : 0 < L.length) : cutB 44 (numT L) = L.map hexT := by
  rw [numT_cons h]
  unfold cutB txt
  rw [List.take_length]
  match L, h with
  | x :: r, _ =>
    show List.map mkB (cutL 44 (Lib.join (digs 8 x :: r.map (digs 8)) [44])) = _
    rw [cutL_join 44 (digs 8 x) (r.map (digs 8)) (digs_no 8 x 44 digH_44) (fun p hp => by
      obtain ⟨y, -, rfl⟩ := List.mem_map.1 hp
      exact digs_no 8 y 44 digH_44)]
    rw [List.map_cons, List.map_cons, List.map_map]
    rfl
theorem allR_hex : ∀ {L : List Nat}, Wrd L → allR (L.map hexT) = some L
  | [], _ => rfl
  | x :: r, h => by
    have h1 := h x (by simp)
    simp only [List.map_cons, allR, rb_some (show IsH (hexT x) x from ⟨h1.1, h1.2, rfl⟩), allR_hex (L := r) (fun y hy => h y (by simp [hy]))]
theorem numT_not {L : List Nat} (h : 0 < L.length) : ¬ numT L = noneT := fun e => by
  have h1 := congrArg ByteArray.size e
  rw [numT_cons h, Lib.size_eq] at h1
  have h2 := txt_length L L.length h (Nat.le_refl _)
  have h3 : (txt L L.length).toArray.toList.length = 4 := h1
  simp only [List.toList_toArray] at h3
  omega
theorem rn_numT {L : List Nat} (hw : Wrd L) (hl : L.length ≤ 256) : rn 256 (numT L) = some L := by
  by_cases h : 0 < L.length
  · unfold rn
    rw [if_neg (numT_not h), cut_numT h, List.length_map, if_neg (by omega), allR_hex hw]
  · obtain rfl : L = [] := List.eq_nil_of_length_eq_zero (by omega)
    unfold rn
    rw [if_pos (show numT [] = noneT from rfl)]
def moreT : ByteArray := ⟨#[44, 48, 48, 48, 48, 48, 48, 48, 48]⟩
theorem numT_more {L : List Nat} (h : 0 < L.length) : numT L ++ moreT = numT (L ++ [0]) := by
  have hl : (L ++ [0]).length = L.length + 1 := by simp
  have e : (L ++ [0]).getD L.length 0 = 0 := by simp [List.getD_eq_getElem?_getD]
  have e2 : txt (L ++ [0]) L.length = txt L L.length := by
    unfold txt
    rw [List.take_append_of_le_length (Nat.le_refl _)]
  have e3 : (digs 8 0) = [48, 48, 48, 48, 48, 48, 48, 48] := by decide
  rw [numT_cons h, numT_cons (by omega), hl, txt_succ _ L.length h (by omega), e, e2, e3]
  exact bytes_append _ _
theorem wrd_more {L : List Nat} (h : Wrd L) : Wrd (L ++ [0]) := fun x hx => by
  rcases List.mem_append.1 hx with h1 | h1
  · exact h x h1
  · obtain rfl := List.mem_singleton.1 h1
    exact ⟨by decide, by decide⟩

/-- The text of a section of one digit to a side. -/
def uB (n : Nat) : UInt8 := UInt8.ofNat (48 + n)
def sbef (a b : Nat) : List UInt8 := [uB a, 44, uB b]
def secT (a b : Nat) (V : List Nat) : ByteArray := ⟨(sbef a b ++ 58 :: (numT V).data.toList).toArray⟩
theorem uB_no : ∀ n, n < 10 → uB n ≠ 44 ∧ uB n ≠ 58 := by
  have : ∀ n : Fin 10, uB n.1 ≠ 44 ∧ uB n.1 ≠ 58 := by decide
  exact fun n h => this ⟨n, h⟩
theorem cut_at {m : UInt8} {p r : List UInt8} (hp : m ∉ p) : bef m ⟨(p ++ m :: r).toArray⟩ = mkB p ∧ aft m ⟨(p ++ m :: r).toArray⟩ = mkB r := by
  have hl : (⟨(p ++ m :: r).toArray⟩ : ByteArray).data.toList = p ++ m :: r := by simp
  have hge := Lib.indexByte_ge (p ++ m :: r) m
  have hat : (p ++ m :: r)[p.length]? = some m := by simp
  have hi : Lib.indexByte (p ++ m :: r) m = p.length := by
    by_cases h1 : Lib.indexByte (p ++ m :: r) m = -1
    · exact absurd hat (Lib.indexByte_none h1 p.length)
    · obtain ⟨i, hi⟩ : ∃ i : Nat, Lib.indexByte (p ++ m :: r) m = i := ⟨(Lib.indexByte (p ++ m :: r) m).toNat, by omega⟩
      obtain ⟨h2, h3⟩ := Lib.indexByte_some hi
      rw [hi]
      rcases Nat.lt_trichotomy i p.length with h | h | h
      · rw [List.getElem?_append_left h] at h2
        exact absurd (List.mem_iff_getElem?.2 ⟨i, h2⟩) hp
      · rw [h]
      · exact absurd hat (h3 p.length h)
  have hix : Lib.index (p ++ m :: r) [m] = p.length := (Lib.index_one _ m).trans hi
  unfold bef aft Lib.cut
  rw [hl, hix, if_pos (by omega)]
  refine ⟨?_, ?_⟩
  · simp [mkB]
  · simp [mkB]
theorem dec_small {n : Nat} (h : n < 10) : decT (n : Int) = mkB [uB n] := by
  have e : Lib.itoa (n : Int) = [uB n] := by
    unfold Lib.itoa
    rw [if_neg (by omega), Int.toNat_natCast, Lib.decDigits, dif_pos h]
    rfl
  unfold decT
  rw [e]
  rfl
theorem rl_two {a b : Nat} (ha : a < 10) (hb : b < 10) : rl (mkB (sbef a b)) = some [(a : Int), (b : Int)] := by
  have h1 : ¬ mkB (sbef a b) = noneT := fun e => by
    have := congrArg ByteArray.size e
    rw [mkB_size] at this
    cases this
  have h2 : cutB 44 (mkB (sbef a b)) = [mkB [uB a], mkB [uB b]] := by
    unfold cutB
    rw [mkB_list]
    unfold sbef
    rw [show [uB a, 44, uB b] = [uB a] ++ 44 :: [uB b] from rfl, cutL_hit _ (by simp; exact fun e => (uB_no a ha).1 e.symm), cutL_miss (by simp; exact fun e => (uB_no b hb).1 e.symm)]
    rfl
  have h3 : rdD (mkB [uB a]) = some (a : Int) := rdD_some ⟨by omega, by omega, (dec_small ha).symm⟩
  have h4 : rdD (mkB [uB b]) = some (b : Int) := rdD_some ⟨by omega, by omega, (dec_small hb).symm⟩
  unfold rl
  rw [if_neg h1, h2, if_neg (by simp)]
  simp only [allD, h3, h4]
theorem rs_sec {a b : Nat} {V : List Nat} (ha : a < 10) (hb : b < 10) (hw : Wrd V) (hl : V.length ≤ 256) : rs (secT a b V) = if validS ⟨a, b, V⟩ = true then some ⟨a, b, V⟩ else none := by
  have hp : (58 : UInt8) ∉ sbef a b := fun h => by
    simp only [sbef, List.mem_cons, List.not_mem_nil, or_false] at h
    rcases h with h | h | h
    · exact (uB_no a ha).2 h.symm
    · exact absurd h (by decide)
    · exact (uB_no b hb).2 h.symm
  obtain ⟨e1, e2⟩ := cut_at (r := (numT V).data.toList) hp
  unfold rs
  unfold secT
  rw [e1, e2, rl_two ha hb, mkB_data, rn_numT hw hl]
  simp
theorem valid_sec {a b : Nat} {V : List Nat} (ha : 1 ≤ a) (ha2 : a ≤ 16) (hb : 1 ≤ b) (hb2 : b ≤ 16) : validS ⟨a, b, V⟩ = (V.length == a * b) := by
  have e : ((V.length : Int) == (a : Int) * (b : Int)) = (V.length == a * b) := by
    rw [Bool.eq_iff_iff]
    simp only [beq_iff_eq]
    rw [← Int.natCast_mul]
    omega
  have h1 : inB (a : Int) = true := by simp [inB]; omega
  have h2 : inB (b : Int) = true := by simp [inB]; omega
  simp only [validS, sizeB, h1, h2, e, Bool.and_self, Bool.true_and]
theorem secT_more {a b : Nat} {V : List Nat} (h : 0 < V.length) : secT a b V ++ moreT = secT a b (V ++ [0]) := by
  have e := congrArg (fun x : ByteArray => x.data.toList) (numT_more h)
  unfold secT
  show (⟨_⟩ : ByteArray) ++ (⟨([44, 48, 48, 48, 48, 48, 48, 48, 48] : List UInt8).toArray⟩ : ByteArray) = _
  rw [bytes_append]
  have e2 : (numT (V ++ [0])).data.toList = (numT V).data.toList ++ [44, 48, 48, 48, 48, 48, 48, 48, 48] := by
    rw [← e]
    simp [moreT, ByteArray.data_append]
  rw [e2]
  simp [sbef]
/-- The text as the program puts it together. -/
theorem secT_parts {a b : Nat} (V : List Nat) (ha : a < 10) (hb : b < 10) : (((decT (a : Int) ++ (⟨#[44]⟩ : ByteArray)) ++ decT (b : Int)) ++ (⟨#[58]⟩ : ByteArray)) ++ numT V = secT a b V := by
  rw [dec_small ha, dec_small hb]
  have e : numT V = ⟨((numT V).data.toList).toArray⟩ := by simp
  conv => lhs; rw [e]
  show (((⟨[uB a].toArray⟩ : ByteArray) ++ (⟨([44] : List UInt8).toArray⟩ : ByteArray)) ++ (⟨[uB b].toArray⟩ : ByteArray)) ++ (⟨([58] : List UInt8).toArray⟩ : ByteArray) ++ _ = _
  rw [bytes_append, bytes_append, bytes_append, bytes_append]
  rfl
end Go.Proofs.YtjbaebgdebcipaaGreatDoor

/- Walks: texts of lists of numbers: the program's. -/
namespace Go.Proofs.YtjbaebgdebcipaaGreatDoor
open Go Go.RowKit

theorem Tryz.infoStrT : (Tryz.prog.info? 9).map (fun i => (i.zero, i.size, i.bytes)) = some (some (.string ⟨#[]⟩), 1, 16) := by kernel_rfl
def Tab16 (w : World) : Prop := w.cell? ⟨8, 15, none⟩ = some (.int .u8 4)
theorem Tab16.mono {w w' : World} (h : Tab16 w) (hb : Below w.heap.size w w') : Tab16 w' := ((bcell hb).1 _ _ (block_lt h)).trans h
theorem OwnStr.kept {w w' : World} {B : Nat} {v : Value} {Ls : List ByteArray} (h : OwnStr w B v Ls) (hb : Below w.heap.size w w') : OwnStr w' B v Ls :=
  World.ownsRow.kept h (grownBy_of_below hb none) (by cases v.ownBlock with | none => exact .inl rfl | some k => exact .inr (by simp))
theorem OwnStr.form {w : World} {B : Nat} {v : Value} {Ls : List ByteArray} (h : OwnStr w B v Ls) (hl : 0 < Ls.length) :
    ∃ g cap, v = .slice (some ⟨g, 0, none⟩) Ls.length cap ∧ B ≤ g ∧ g < w.heap.size ∧ Ls.length ≤ cap ∧ ∀ j x, Ls[j]? = some x → w.cell? ⟨g, 0 + j, none⟩ = some (.string x) := by
  have h0 := h
  rcases h with ⟨-, ⟨-, hn⟩ | ⟨g, cap, cur, rfl, hB, hh, hcap, -⟩⟩
  · omega
  · refine ⟨g, cap, rfl, hB, (Array.getElem?_eq_some_iff.1 hh).1, hcap, fun j x hj => ?_⟩
    have hlt : j < Ls.length := (List.getElem?_eq_some_iff.1 hj).1
    rw [Nat.zero_add, World.ownsRow.cellAt h0 j (by omega)]
    simp [List.getElem?_map, hj]

set_option maxRecDepth 100000 in
set_option maxHeartbeats 1600000 in
theorem joinTexts_any (w : World) (v : Value) (L : List Nat) (h : RdF w v L) (hm : L.length ≤ 1048576) (hT : Tab16 w) :
    Calls Tryz.prog 65 #[v, .func (.func 66) #[] #[]] w fun e w' => e = .returned (.string (numT L)) ∧ Below w.heap.size w w' := by
  obtain ⟨a, c, rfl, hc, -, hcell⟩ := h.opened
  have H := Lib.hid h
  have HT := Lib.hid hT
  clear h hT
  by_cases hl : 0 < L.length
  · rw [numT_cons hl]
    have hz : ((L.length : Int) == 0) = false := beq_eq_false_iff_ne.2 (by omega)
    have hown0 : OwnStr w w.heap.size (.slice none 0 0) [] := World.ownsRow_nil _ _ _ _
    go_enter Tryz.func65, Tryz.ntmps65
    go_wp2_with fail
    go_loopw [5, 7, 13] (fun u _ i wr => ∃ j : Nat, j ≤ L.length ∧ i = .int .i64 j ∧ OwnStr wr w.heap.size u ((L.take j).map hexT) ∧ Below w.heap.size w wr) (fun _ _ i _ => L.length - (intOf i).toNat)
    case atStart => exact ⟨0, Nat.zero_le _, rfl, hown0, Below.refl _ _⟩
    case round =>
      obtain ⟨wi, rfl⟩ : ∃ wi : World, wi = wr := ⟨_, rfl⟩
      obtain ⟨j, hj, rfl, ho, hb⟩ := hrel
      by_cases hlt : j < L.length
      · obtain ⟨b, o, r, rfl, d0, f0⟩ := hcell j hlt
        have d : wi.cell? ⟨b, o + j, none⟩ = some (.float .f32 r) := by rw [(bcell hb).1 _ _ (block_lt d0)]; exact d0
        have HT2 := Lib.hid (HT.out.mono hb)
        have Ho := Lib.hid ho
        clear hcell d0 ho hown0 hz
        go_wp2_with fail
        refine (bitsText_any wi r _ f0 HT2.out).mono ?_
        rintro e w2 ⟨rfl, b2⟩
        have hb2 := hb.trans (b2.mono hb.size)
        have Ho2 := Lib.hid (OwnStr.kept Ho.out b2)
        clear d
        go_wp2_with (at_builtin; refine wpList_push1 rfl _ _ 74 9 rfl (.string ⟨#[]⟩) 16 Tryz.underlying74 Tryz.infoStrT rfl (by decide) w.heap.size _ _ _ rfl (World.ownsRow.alloc Ho2.out _) _ _ _ rfl (cell_new _ _ _) rfl (by rw [List.length_map, List.length_take]; omega) (by have := hb2.size; simp; omega) ?_; intro v2 w3 h2 g2 b3)
        refine ⟨⟨j + 1, by omega, by go_num, ?_, (hb2.alloc hb2.size _).trans b3⟩, by simp [intOf]; omega⟩
        have e : (L.take (j + 1)).map hexT = (L.take j).map hexT ++ [hexT L[j]] := by
          rw [List.take_add_one, List.getElem?_eq_getElem hlt, List.map_append]
          rfl
        unfold OwnStr
        rw [e, List.map_append, List.length_append]
        exact h2
      · obtain rfl : j = L.length := by omega
        rw [List.take_length] at ho
        obtain ⟨g, cap, rfl, hg, hg2, hcap, hcells⟩ := ho.form (by simpa using hl)
        have htxt : Lib.join ((L.map hexT).map (·.data.toList)) (⟨#[44]⟩ : ByteArray).data.toList = txt L L.length := by
          unfold txt
          rw [List.take_length, List.map_map]
          rfl
        have hj : Calls Tryz.prog 95 #[.slice (some ⟨g, 0, none⟩) (L.map hexT).length cap, .string ⟨#[44]⟩] wi fun e w' => e = .returned (.string ⟨(txt L L.length).toArray⟩) ∧ Below wi.heap.size wi w' := by
          rw [← htxt]
          exact Tryz.strings_Join g 0 cap (L.map hexT) ⟨#[44]⟩ wi hcells hg2 (by simp; omega) hcap (by rw [htxt]; have := txt_length L L.length hl (Nat.le_refl _); omega)
        rw [List.length_map] at hj ⊢
        have Hj := Lib.hid hj
        clear hj htxt hcells ho hown0 hz hcell
        go_wp2_with fail
        refine Hj.out.mono ?_
        rintro e w2 ⟨rfl, b2⟩
        go_wp2
        go_ret
        exact ⟨rfl, hb.trans (b2.mono hb.size)⟩
  · obtain rfl : L = [] := List.eq_nil_of_length_eq_zero (by omega)
    go_enter Tryz.func65, Tryz.ntmps65
    go_wp2
    go_ret
    exact ⟨rfl, Below.refl _ _⟩

set_option maxRecDepth 100000 in
set_option maxHeartbeats 800000 in
theorem numbers_any (w : World) (v : Value) (L : List Nat) (h : RdF w v L) (hm : L.length ≤ 1048576) (hT : Tab16 w) :
    Calls Tryz.prog 34 #[v] w fun e w' => e = .returned (.string (numT L)) ∧ Below w.heap.size w w' := by
  go_enter Tryz.func34, Tryz.ntmps34
  go_wp2_with fail
  refine (joinTexts_any w v L h hm hT).mono ?_
  rintro e w2 ⟨rfl, b2⟩
  go_wp2
  go_ret
  exact ⟨rfl, b2⟩
end Go.Proofs.YtjbaebgdebcipaaGreatDoor

/- Walks: texts of paths: the program's. -/
namespace Go.Proofs.YtjbaebgdebcipaaGreatDoor
open Go Go.RowKit

/-- A text, if there is one. -/
def txtIf (ok : Bool) (s : ByteArray) : Value := .tuple #[.string (if ok = true then s else ⟨#[]⟩), .bool ok]

set_option maxRecDepth 100000 in
set_option maxHeartbeats 800000 in
theorem implPathText_any (w : World) (u : Value) (x0 x1 x2 x3 : Nat) (h : RdPath u x0 x1 x2 x3) (hT : Tab16 w) :
    Calls Tryz.prog 11 #[u] w fun e w' => e = .returned (txtIf (allB placeB [x0, x1, x2, x3]) (numT [x0, x1, x2, x3])) ∧ Below w.heap.size w w' := by
  have h0 := h
  obtain ⟨r0, r1, r2, r3, rfl, f0, f1, f2, f3⟩ := h
  have hb0 : Below w.heap.size w (w.alloc (.cells #[.float .f32 r0, .float .f32 r1, .float .f32 r2, .float .f32 r3] 27)) := by (repeat (first | exact Below.refl _ _ | (refine Below.drewN ?_ _) | (refine Below.alloc ?_ (by first | exact Nat.le_refl _ | (simp; done) | (simp; omega)) _)))
  have hh := alloc_new w (.cells #[.float .f32 r0, .float .f32 r1, .float .f32 r2, .float .f32 r3] 27)
  have hsz : w.heap.size < (w.alloc (.cells #[.float .f32 r0, .float .f32 r1, .float .f32 r2, .float .f32 r3] 27)).heap.size := by rw [World.size_alloc]; omega
  go_enter Tryz.func11, Tryz.ntmps11
  go_wp2_with fail
  generalize w.alloc (.cells #[.float .f32 r0, .float .f32 r1, .float .f32 r2, .float .f32 r3] 27) = w0 at *
  refine (isPath_any w0 _ x0 x1 x2 x3 h0).mono ?_
  rintro e w1 ⟨rfl, b1⟩
  have hb1 := hb0.trans (b1.mono hb0.size)
  cases hp : allB placeB [x0, x1, x2, x3] with
  | false =>
    go_wp2
    go_ret2
    exact ⟨by rw [hp]; rfl, hb1⟩
  | true =>
    have hh1 := (b1.block _ hsz).trans hh
    have c0 : w1.cell? ⟨w.heap.size, 0, none⟩ = some (.float .f32 r0) := cell_at 0 hh1
    have c1 : w1.cell? ⟨w.heap.size, 1, none⟩ = some (.float .f32 r1) := cell_at 1 hh1
    have c2 : w1.cell? ⟨w.heap.size, 2, none⟩ = some (.float .f32 r2) := cell_at 2 hh1
    have c3 : w1.cell? ⟨w.heap.size, 3, none⟩ = some (.float .f32 r3) := cell_at 3 hh1
    have hR := rd4 (alloc_new w1 (.cells #[.float .f32 r0, .float .f32 r1, .float .f32 r2, .float .f32 r3] 25)) f0 f1 f2 f3
    have hb2 : Below w.heap.size w (w1.alloc (.cells #[.float .f32 r0, .float .f32 r1, .float .f32 r2, .float .f32 r3] 25)) := hb1.alloc hb1.size _
    go_wp2_with fail
    refine (numbers_any _ _ [x0, x1, x2, x3] hR (by simp) (hT.mono hb2)).mono ?_
    rintro e w2 ⟨rfl, b2⟩
    go_wp2
    go_ret2
    exact ⟨by rw [hp]; rfl, hb2.trans (b2.mono hb2.size)⟩

end Go.Proofs.YtjbaebgdebcipaaGreatDoor

/- A block that lies as it was laid. -/
namespace Go.Proofs.YtjbaebgdebcipaaGreatDoor
open Go Go.RowKit

def HB (w : World) (g : Nat) (o : Obj) : Prop := g < w.heap.size ∧ w.heap[g]? = some o
theorem HB.mono {w w' : World} {g : Nat} {o : Obj} (h : HB w g o) (hb : Below w.heap.size w w') : HB w' g o :=
  ⟨Nat.lt_of_lt_of_le h.1 hb.size, (hb.block g h.1).trans h.2⟩
theorem HB.new (w : World) (o : Obj) : HB (w.alloc o) w.heap.size o := ⟨by rw [World.size_alloc]; omega, alloc_new w o⟩
theorem Below.curr {B : Nat} {w w' w'' : World} (h : Below B w w') (e1 : w''.os = w'.os) (e2 : w''.tape = w'.tape) (e3 : w''.output = w'.output) (e4 : w''.heap = w'.heap) : Below B w w'' :=
  ⟨e1.trans h.os, e2.trans h.tape, e3.trans h.output, e4 ▸ h.size, fun k hk => by rw [e4]; exact h.block k hk⟩
end Go.Proofs.YtjbaebgdebcipaaGreatDoor

/- Walks: texts of sections: the program's. -/
namespace Go.Proofs.YtjbaebgdebcipaaGreatDoor
open Go Go.RowKit

def decOfT (args : Array Value) : ByteArray := match args with
  | #[.int _ n] => decT n
  | _ => ⟨#[]⟩
/-- The text of a section. -/
def secS (S : SM) : ByteArray := ((decT S.w ++ (⟨#[44]⟩ : ByteArray)) ++ decT S.d ++ (⟨#[58]⟩ : ByteArray)) ++ numT S.V
theorem secS_sec {a b : Nat} (V : List Nat) (ha : a < 10) (hb : b < 10) : secS ⟨a, b, V⟩ = secT a b V := secT_parts V ha hb
theorem validS_sidesT {S : SM} (h : validS S = true) : ∃ a b : Nat, S.w = a ∧ S.d = b ∧ a < 100 ∧ b < 100 := by
  simp only [validS, sizeB, inB, Bool.and_eq_true, decide_eq_true_eq] at h
  obtain ⟨⟨⟨h1, h2⟩, h3, h4⟩, -⟩ := h
  exact ⟨S.w.toNat, S.d.toNat, by omega, by omega, by omega, by omega⟩
theorem numT_sizeT (L : List Nat) (h : L.length ≤ 1048576) : (numT L).size ≤ 9437184 := by
  by_cases h0 : 0 < L.length
  · rw [numT_cons h0]
    have := txt_length L L.length h0 (Nat.le_refl _)
    show (txt L L.length).toArray.size ≤ 9437184
    rw [List.size_toArray]
    omega
  · obtain rfl : L = [] := List.eq_nil_of_length_eq_zero (by omega)
    exact (by decide : (4 : Nat) ≤ 9437184)
theorem decT_sizeT (a : Nat) (h : a < 100) : (decT (a : Int)).size ≤ 17 := by
  have := (IsD.spec (t := decT (a : Int)) (n := (a : Int)) ⟨by omega, by omega, rfl⟩).2.2
  exact this
set_option maxRecDepth 100000 in
set_option maxHeartbeats 1600000 in
theorem implSectionText_any (w : World) (u : Value) (S : SM) (h : RdS w u S) (hm : S.V.length ≤ 1048576) (hT : Tab16 w) (hT10 : Tab10 w) :
    Calls Tryz.prog 13 #[u] w fun e w' => e = .returned (txtIf (validS S) (secS S)) ∧ Below w.heap.size w w' := by
  have H := Lib.hid h
  obtain ⟨v, rfl, hv⟩ := h
  have hb0 : Below w.heap.size w (w.alloc (.cells #[.int .i64 S.w, .int .i64 S.d, v] 31)) := by (repeat (first | exact Below.refl _ _ | (refine Below.drewN ?_ _) | (refine Below.alloc ?_ (by first | exact Nat.le_refl _ | (simp; done) | (simp; omega)) _)))
  have B := HB.new w (.cells #[.int .i64 S.w, .int .i64 S.d, v] 31)
  go_enter Tryz.func13, Tryz.ntmps13
  go_wp2_with fail
  generalize w.alloc (.cells #[.int .i64 S.w, .int .i64 S.d, v] 31) = w0 at *
  refine (validSection_any w0 _ S (H.out.mono hb0)).mono ?_
  rintro e w1 ⟨rfl, b1⟩
  have hb1 := hb0.trans (b1.mono hb0.size)
  have B1 := Lib.hid (B.mono b1)
  clear B
  cases hp : validS S with
  | false =>
    go_wp2
    go_ret2
    exact ⟨by rw [hp]; rfl, hb1⟩
  | true =>
    obtain ⟨a, b, e1, e2, ha, hb⟩ := validS_sidesT hp
    obtain ⟨x, y, V⟩ := S
    simp only at e1 e2 hm hv
    subst e1 e2
    obtain ⟨va, vc, rfl, -⟩ := hv.opened
    have hV := numT_sizeT V hm
    have hA := decT_sizeT a ha
    have hB := decT_sizeT b hb
    have HE := Lib.hid (show (decT (a : Int) ++ (⟨#[44]⟩ : ByteArray)) ++ decT (b : Int) ++ (⟨#[58]⟩ : ByteArray) ++ numT V = secS ⟨a, b, V⟩ from rfl)
    have KA : ∀ wq : World, Below w.heap.size w wq → Calls Tryz.prog 37 #[.int .i64 a] wq fun e w' => e = .returned (.string (decT (a : Int))) ∧ Below wq.heap.size wq w' := fun wq hq => decimal_any wq a (by omega) (by omega) (hT10.mono hq)
    have KB : ∀ wq : World, Below w.heap.size w wq → Calls Tryz.prog 37 #[.int .i64 b] wq fun e w' => e = .returned (.string (decT (b : Int))) ∧ Below wq.heap.size wq w' := fun wq hq => decimal_any wq b (by omega) (by omega) (hT10.mono hq)
    have KN : ∀ (w1 : World) (v : Value), RdF w1 v V → Tab16 w1 → Calls Tryz.prog 34 #[v] w1 fun e w' => e = .returned (.string (numT V)) ∧ Below w1.heap.size w1 w' := fun w1 v h h' => numbers_any w1 v V h hm h'
    obtain ⟨DA, hDA⟩ : ∃ D : ByteArray, decT (a : Int) = D := ⟨_, rfl⟩
    obtain ⟨DB, hDB⟩ : ∃ D : ByteArray, decT (b : Int) = D := ⟨_, rfl⟩
    obtain ⟨N, hNe⟩ : ∃ N : ByteArray, numT V = N := ⟨_, rfl⟩
    rw [hDA] at hA KA HE
    rw [hDB] at hB KB HE
    rw [hNe] at hV HE KN
    have HA : Hid (Value.string DA = (if 37 = 34 then .string N else .string (decOfT #[.int .i64 a]))) := Lib.hid (by rw [if_neg (by decide), ← hDA]; rfl)
    have HB : Hid (Value.string DB = (if 37 = 34 then .string N else .string (decOfT #[.int .i64 b]))) := Lib.hid (by rw [if_neg (by decide), ← hDB]; rfl)
    clear hDA hDB hNe
    go_upto_region 3 with fail
    obtain ⟨hgl, hgh⟩ := B1.out
    obtain ⟨c0, c1, c2, -, -, -⟩ := blk3 hgh
    clear hgh B1
    have C0 := Lib.hid c0
    have C1 := Lib.hid c1
    have C2 := Lib.hid c2
    clear c0 c1 c2
    have hHV := Lib.hid hv
    clear hv H
    refine region_rel_all (by kernel_rfl) (by kernel_rfl) (Below w1.heap.size w1) (fun f args v => v = (if f = 34 then .string N else .string (decOfT args))) (Below.drewN (Below.refl _ _) 1) ?_
    repeat (refine wpRel_under rfl rfl (fun wq hq K hK => ?_); (have q0 := ((bcell hq).1 _ _ hgl).trans C0.out); (have q1 := ((bcell hq).1 _ _ hgl).trans C1.out); (have q2 := ((bcell hq).1 _ _ hgl).trans C2.out); go_wp2; clear q0 q1 q2)
    refine wpRel_callF #[.int .i64 a] Tryz.func37 (by kernel_rfl) (by kernel_rfl) (by simp [go_sem]) ⟨w1, Below.refl _ _⟩ ⟨_, rfl⟩
      (fun wq hq => (KA wq (hb1.trans (hq.mono hb1.size))).mono fun e w'' ⟨he, hw⟩ => ⟨_, he, HA.out, hq.trans (hw.mono hq.size)⟩) ?_
    intro v hv
    obtain rfl : v = .string DA := hv.trans HA.out.symm
    clear hv KA
    simp only [Act.put, List.setIfInBounds_toArray, List.set_cons_succ, List.set_cons_zero]
    repeat (refine wpRel_under rfl rfl (fun wq hq K hK => ?_); (have q0 := ((bcell hq).1 _ _ hgl).trans C0.out); (have q1 := ((bcell hq).1 _ _ hgl).trans C1.out); (have q2 := ((bcell hq).1 _ _ hgl).trans C2.out); go_wp2; clear q0 q1 q2)
    refine wpRel_callF #[.int .i64 b] Tryz.func37 (by kernel_rfl) (by kernel_rfl) (by simp [go_sem]) ⟨w1, Below.refl _ _⟩ ⟨_, rfl⟩
      (fun wq hq => (KB wq (hb1.trans (hq.mono hb1.size))).mono fun e w'' ⟨he, hw⟩ => ⟨_, he, HB.out, hq.trans (hw.mono hq.size)⟩) ?_
    intro v hv
    obtain rfl : v = .string DB := hv.trans HB.out.symm
    clear hv KB
    simp only [Act.put, List.setIfInBounds_toArray, List.set_cons_succ, List.set_cons_zero]
    repeat (refine wpRel_under rfl rfl (fun wq hq K hK => ?_); (have q0 := ((bcell hq).1 _ _ hgl).trans C0.out); (have q1 := ((bcell hq).1 _ _ hgl).trans C1.out); (have q2 := ((bcell hq).1 _ _ hgl).trans C2.out); go_wp2; clear q0 q1 q2)
    refine wpRel_callF #[.slice va V.length vc] Tryz.func34 (by kernel_rfl) (by kernel_rfl) (by simp [go_sem]) ⟨w1, Below.refl _ _⟩ ⟨_, rfl⟩
      (fun wq hq => (KN wq _ (hHV.out.mono (hb1.trans (hq.mono hb1.size))) (hT.mono (hb1.trans (hq.mono hb1.size)))).mono fun e w'' ⟨he, hw⟩ => ⟨_, he, by rw [if_pos rfl], hq.trans (hw.mono hq.size)⟩) ?_
    intro v hv
    obtain rfl : v = .string N := hv.trans (by rw [if_pos rfl])
    clear hv KN
    simp only [Act.put, List.setIfInBounds_toArray, List.set_cons_succ, List.set_cons_zero]
    repeat (refine wpRel_under rfl rfl (fun wq hq K hK => ?_); go_wp2)
    refine wpRel_nil ?_
    intro wd hbd
    have hbd' := hb1.trans (hbd.mono hb1.size)
    go_wp2
    go_ret2
    exact ⟨by rw [hp, HE.out]; rfl, hbd'⟩

end Go.Proofs.YtjbaebgdebcipaaGreatDoor

/- Walks: are sections the same. -/
namespace Go.Proofs.YtjbaebgdebcipaaGreatDoor
open Go Go.RowKit

theorem beq_cast (x y : Nat) : ((x : Int) == (y : Int)) = (x == y) := by
  rw [Bool.eq_iff_iff]; simp only [beq_iff_eq]; omega
set_option maxRecDepth 100000 in
theorem sameNumber_any (w : World) (r s x y : Nat) (hr : FV .f32 r x) (hs : FV .f32 s y) :
    Calls Tryz.prog 75 #[.float .f32 r, .float .f32 s] w fun e w' => e = .returned (.bool (x == y)) ∧ w' = w := by
  rw [← beq_cast]
  go_enter Tryz.func75, Tryz.ntmps75
  go_wp2_with fail
  refine (bitsOf_any w r x hr).mono ?_
  rintro e1 w1 ⟨rfl, rfl⟩
  go_wp2_with fail
  refine (bitsOf_any _ s y hs).mono ?_
  rintro e2 w2 ⟨rfl, rfl⟩
  go_wp2
  go_ret
  exact ⟨rfl, rfl⟩



/-- The first j numbers are the same. -/
def sameTo (A B : List Nat) (j : Nat) : Bool := (List.range j).all fun i => A.getD i 0 == B.getD i 0
def sameL (A B : List Nat) : Bool := A.length == B.length && sameTo A B A.length
theorem sameTo_succ (A B : List Nat) (j : Nat) : sameTo A B (j + 1) = (sameTo A B j && (A.getD j 0 == B.getD j 0)) := by simp [sameTo, List.range_succ]
theorem sameTo_false {A B : List Nat} {j n : Nat} (hj : j < n) (h : (A.getD j 0 == B.getD j 0) = false) : sameTo A B n = false := by
  rw [Bool.eq_false_iff]
  intro hc
  have := List.all_eq_true.1 hc j (List.mem_range.2 hj)
  rw [h] at this
  cases this
theorem sameL_len {A B : List Nat} (h : A.length ≠ B.length) : sameL A B = false := by simp [sameL, h]


set_option maxRecDepth 100000 in
set_option maxHeartbeats 800000 in
theorem equalF_any (w : World) (v1 v2 : Value) (A B : List Nat) (h1 : RdF w v1 A) (h2 : RdF w v2 B) (hm : A.length ≤ 1048576) (hm2 : B.length ≤ 1048576) :
    Calls Tryz.prog 74 #[v1, v2, .func (.func 75) #[] #[]] w fun e w' => e = .returned (.bool (sameL A B)) ∧ w' = w := by
  obtain ⟨a1, c1, rfl, hc1, -, hcell1⟩ := h1.opened
  obtain ⟨a2, c2, rfl, hc2, -, hcell2⟩ := h2.opened
  clear h1 h2
  by_cases hl : A.length = B.length
  · have hne : ((A.length : Int) != (B.length : Int)) = false := by rw [hl]; simp
    have Hl := Lib.hid hl
    clear hl
    go_enter Tryz.func74, Tryz.ntmps74
    go_wp2
    go_loop [17] (fun i => ∃ k : Nat, k ≤ A.length ∧ i = .int .i64 k ∧ sameTo A B k = true) (fun i => A.length - (intOf i).toNat)
    case atStart => exact ⟨0, Nat.zero_le _, rfl, rfl⟩
    case round =>
      obtain ⟨k, hk, rfl, hsk⟩ := hrel
      have Hsk := Lib.hid hsk
      by_cases hlt : k < A.length
      · have hlt2 : k < B.length := by have := Hl.out; omega
        obtain ⟨b, o, r, rfl, d0, f0⟩ := hcell1 k hlt
        obtain ⟨b', o', s, rfl, g0, e0⟩ := hcell2 k hlt2
        clear hcell1 hcell2 hsk
        go_wp2_with fail
        refine (sameNumber_any w r s _ _ f0 e0).mono ?_
        rintro e1 w1 ⟨rfl, hw1⟩
        subst hw1
        cases hxy : (A.getD k 0 == B.getD k 0) with
        | true =>
          have Hxy := Lib.hid hxy
          clear hxy
          go_wp2
          exact ⟨⟨k + 1, by omega, by go_num, by rw [sameTo_succ, Hsk.out, Hxy.out]; rfl⟩, by simp [intOf]; omega⟩
        | false =>
          have Hxy := Lib.hid hxy
          clear hxy
          go_wp2
          go_ret
          exact ⟨by unfold sameL; rw [sameTo_false hlt Hxy.out, Bool.and_false]; rfl, rfl⟩
      · clear hsk
        go_wp2
        go_ret
        obtain rfl : k = A.length := by omega
        exact ⟨by unfold sameL; rw [Hsk.out, Hl.out]; simp, rfl⟩
  · have hne : ((A.length : Int) != (B.length : Int)) = true := by simp; omega
    have hs := sameL_len hl
    rw [hs]
    clear hs
    go_enter Tryz.func74, Tryz.ntmps74
    go_wp2
    go_ret
    exact ⟨rfl, rfl⟩

set_option maxRecDepth 100000 in
set_option maxHeartbeats 800000 in
theorem sameList_any (w : World) (v1 v2 : Value) (A B : List Nat) (h1 : RdF w v1 A) (h2 : RdF w v2 B) (hm : A.length ≤ 1048576) (hm2 : B.length ≤ 1048576) :
    Calls Tryz.prog 41 #[v1, v2] w fun e w' => e = .returned (.bool (sameL A B)) ∧ w' = w := by
  go_enter Tryz.func41, Tryz.ntmps41
  go_wp2_with fail
  refine (equalF_any w v1 v2 A B h1 h2 hm hm2).mono ?_
  rintro e1 w1 ⟨rfl, hw1⟩
  subst hw1
  go_wp2
  go_ret
  exact ⟨rfl, rfl⟩
set_option maxRecDepth 100000 in
set_option maxHeartbeats 800000 in
theorem sameSection_any (w : World) (x y : Int) (u v : Value) (A B : List Nat) (h1 : RdF w u A) (h2 : RdF w v B) (hm : A.length ≤ 1048576) (hm2 : B.length ≤ 1048576) :
    Calls Tryz.prog 15 #[.agg #[.int .i64 x, .int .i64 y, u], .agg #[.int .i64 x, .int .i64 y, v]] w fun e w' => e = .returned (.bool (sameL A B)) ∧ Below w.heap.size w w' := by
  obtain ⟨W, hW⟩ : ∃ W, ((w.alloc (.cells #[.int .i64 x, .int .i64 y, u] 31)).alloc (.cells #[.int .i64 x, .int .i64 y, v] 31)) = W := ⟨_, rfl⟩
  have X0 : Hid (Below w.heap.size w W) := Lib.hid (by rw [← hW]; exact ((Below.refl _ _).alloc (Nat.le_refl _) _).alloc (by rw [World.size_alloc]; omega) _)
  have HE := Lib.hid (sameList_any W u v A B (h1.mono X0.out) (h2.mono X0.out) hm hm2)
  obtain ⟨a1, c1, rfl, -⟩ := h1.opened
  obtain ⟨a2, c2, rfl, -⟩ := h2.opened
  clear h1 h2
  obtain ⟨g0, g1⟩ := heap2 w (.cells #[.int .i64 x, .int .i64 y, .slice a1 A.length c1] 31) (.cells #[.int .i64 x, .int .i64 y, .slice a2 B.length c2] 31)
  rw [hW] at g0 g1
  obtain ⟨k0, k1, k2, -, -, -⟩ := blk3 g0
  obtain ⟨j0, j1, j2, -, -, -⟩ := blk3 g1
  clear g0 g1
  go_enter Tryz.func15, Tryz.ntmps15
  go_wp2_with fail
  clear hW
  refine HE.out.mono ?_
  rintro e w1 ⟨rfl, hw1⟩
  subst hw1
  go_wp2
  go_ret
  exact ⟨rfl, X0.out⟩
end Go.Proofs.YtjbaebgdebcipaaGreatDoor

/- Plain: what FnTexts asks of texts. -/
namespace Go.Proofs.YtjbaebgdebcipaaGreatDoor
open Go Go.RowKit

theorem qT_fine (p : Nat) (h : p < 20) : placeB (qT p) = true ∧ isN .f32 (qT p) = false ∧ FloatKind.f32.format.order (qT p) (qT p) = some .eq := by
  have key : ∀ p : Fin 20, placeB (qT (p.1 : Int)) = true ∧ isN .f32 (qT (p.1 : Int)) = false ∧ FloatKind.f32.format.order (qT (p.1 : Int)) (qT (p.1 : Int)) = some .eq := by decide +kernel
  exact key ⟨p, h⟩
theorem fv_word {r x : Nat} (h : FV .f32 r x) (hx : isN .f32 x = false) : r = x := by
  have h1 := h.2
  have h2 : isN .f32 r = false := by rw [← isN_can, h1]; exact hx
  rw [can_of_not h2] at h1
  exact h1
theorem wrd_qT (w : World) (z : Int) : qT z < 4294967296 ∧ can .f32 (qT z) = qT z := (FV.op (op := .quo) (floatOfInt_fv .f32 z) fv_four w).cls
theorem wrd_map (w : World) (zs : List Int) : Wrd (zs.map qT) := fun x hx => by
  obtain ⟨z, -, rfl⟩ := List.mem_map.1 hx
  exact wrd_qT w z
theorem wrd_four (w : World) (p0 p1 p2 p3 : Nat) : Wrd [qT p0, qT p1, qT p2, qT p3] := wrd_map w [(p0 : Int), p1, p2, p3]
theorem rp_four (w : World) {p0 p1 p2 p3 : Nat} (h0 : p0 < 20) (h1 : p1 < 20) (h2 : p2 < 20) (h3 : p3 < 20) : allB placeB [qT p0, qT p1, qT p2, qT p3] = true ∧ rp (numT [qT p0, qT p1, qT p2, qT p3]) = some [qT p0, qT p1, qT p2, qT p3] ∧ rp (numT [qT p0, qT p1, qT p2, qT p3] ++ moreT) = none := by
  have hw := wrd_four w p0 p1 p2 p3
  have hp : allB placeB [qT p0, qT p1, qT p2, qT p3] = true := by rw [allB4, (qT_fine p0 h0).1, (qT_fine p1 h1).1, (qT_fine p2 h2).1, (qT_fine p3 h3).1]; rfl
  refine ⟨hp, ?_, ?_⟩
  · unfold rp
    rw [rx_rn (rn_numT hw (by simp)), if_pos (show [qT p0, qT p1, qT p2, qT p3].length = 4 from rfl)]
    simp only [hp, if_true]
  · unfold rp
    rw [numT_more (by simp), rx_rn (rn_numT (wrd_more hw) (by simp)), if_neg (by simp)]
theorem rs_both (w : World) {a b : Nat} {zs : List Int} (ha : 1 ≤ a) (ha2 : a ≤ 5) (hb : 1 ≤ b) (hb2 : b ≤ 5) (hl : zs.length = a * b) :
    validS ⟨a, b, zs.map qT⟩ = true ∧ secS ⟨a, b, zs.map qT⟩ = secT a b (zs.map qT) ∧ rs (secT a b (zs.map qT)) = some ⟨a, b, zs.map qT⟩ ∧ rs (secT a b (zs.map qT) ++ moreT) = none := by
  have hw := wrd_map w zs
  have hab : a * b ≤ 25 := Nat.mul_le_mul ha2 hb2
  have hab1 : 1 ≤ a * b := Nat.mul_le_mul ha hb
  have hv : validS ⟨a, b, zs.map qT⟩ = true := by rw [valid_sec ha (by omega) hb (by omega), List.length_map, hl, beq_iff_eq]
  refine ⟨hv, secS_sec _ (by omega) (by omega), ?_, ?_⟩
  · rw [rs_sec (by omega) (by omega) hw (by rw [List.length_map]; omega), if_pos hv]
  · rw [secT_more (by rw [List.length_map]; omega), rs_sec (by omega) (by omega) (wrd_more hw) (by rw [List.length_append, List.length_map]; simp; omega), if_neg]
    rw [valid_sec ha (by omega) hb (by omega), List.length_append, List.length_map, hl]
    simp
theorem run_equalIn_floatT {P : Program} (w : World) (d : Nat) (t : TypeId) (k k' : FloatKind) (a b : Nat) (h : P.underlying t = some (.float k')) : (Op.equalIn (d + 1) t (.float k a) (.float k b)).run P w = .ok (Op.floatEq k a b) w := by
  simp [Op.equalIn, run_underlying h]
theorem floatEq_self {x : Nat} (h : FloatKind.f32.format.order x x = some .eq) : Op.floatEq .f32 x x = true := by
  unfold Op.floatEq
  simp [h]
theorem text_small {L : List Nat} (h : L.length ≤ 1000) : (numT L).size ≤ 1000000 := by
  by_cases h0 : 0 < L.length
  · rw [numT_cons h0]
    have := txt_length L L.length h0 (Nat.le_refl _)
    show (txt L L.length).toArray.size ≤ 1000000
    rw [List.size_toArray]
    omega
  · obtain rfl : L = [] := List.eq_nil_of_length_eq_zero (by omega)
    exact (by decide : (4 : Nat) ≤ 1000000)
theorem sec_small {a b : Nat} {V : List Nat} (h : V.length ≤ 1000) : (secT a b V).size ≤ 1000010 := by
  have h1 := text_small h
  rw [Lib.size_eq] at h1 ⊢
  unfold secT sbef
  show ([uB a, 44, uB b] ++ 58 :: (numT V).data.toList).toArray.toList.length ≤ 1000010
  simp only [List.toList_toArray, List.length_append, List.length_cons, List.length_nil]
  omega
theorem more_size (t : ByteArray) : (t ++ moreT).size = t.size + 9 := by
  rw [ByteArray.size_append]
  rfl
theorem sameL_refl (A : List Nat) : sameL A A = true := by
  unfold sameL sameTo
  simp
end Go.Proofs.YtjbaebgdebcipaaGreatDoor

/- Walks: bytes that the laws read. -/
namespace Go.Proofs.YtjbaebgdebcipaaGreatDoor
open Go Go.RowKit

set_option maxRecDepth 100000 in
set_option maxHeartbeats 800000 in
theorem r8At_any (w : World) (v : Value) (n : Nat) (i m : Int) (hy : RdY w v n) (hn : n ≤ 1048576) (hi : 0 ≤ i) (hi2 : i ≤ 1000) (hm : 2 ≤ m) (hm2 : m ≤ 1000) :
    Calls Tryz.prog 8 #[v, .int .i64 i, .int .i64 m] w fun e w' => ∃ r : Int, e = .returned (.int .i64 r) ∧ 0 ≤ r ∧ r < m ∧ w' = w := by
  obtain ⟨a, c, rfl, hc, hcell⟩ := hy.opened
  clear hy
  have hm0 : ¬ m = 0 := by omega
  have hd1 : decide (m ≤ 1) = false := by simp; omega
  by_cases hlt : i < (n : Int)
  · obtain ⟨k, rfl⟩ : ∃ k : Nat, i = k := ⟨i.toNat, by omega⟩
    obtain ⟨b, o, rfl, hlb, y, ⟨hy0, hy1⟩, hy⟩ := hcell k (by omega)
    have hr0 : 0 ≤ y % m := Int.emod_nonneg _ hm0
    have hr1 : y % m < m := Int.emod_lt_of_pos _ (by omega)
    have hd2 : decide ((k : Int) ≥ n) = false := by simp; omega
    clear hcell
    go_enter Tryz.func8, Tryz.ntmps8
    go_wp2
    go_ret
    exact ⟨y % m, rfl, hr0, hr1, rfl⟩
  · have hd2 : decide (i ≥ (n : Int)) = true := by simp; omega
    clear hcell
    go_enter Tryz.func8, Tryz.ntmps8
    go_wp2
    go_ret
    exact ⟨0, rfl, by decide, by omega, rfl⟩
set_option maxRecDepth 100000 in
set_option maxHeartbeats 400000 in
theorem r8Long_any (w : World) (a1 a2 : Option Addr) (n1 n2 c1 c2 : Nat) (h1 : n1 ≤ maxLen) (h2 : n2 ≤ maxLen) :
    Calls Tryz.prog 7 #[.slice a1 n1 c1, .slice a2 n2 c2] w fun e w' => e = .returned (.bool (decide (48 < n1) || decide (48 < n2))) ∧ w' = w := by
  by_cases h : 48 < n1
  · have hd : decide ((n1 : Int) > 48) = true := by simp; omega
    go_enter Tryz.func7, Tryz.ntmps7
    go_wp2
    go_ret
    exact ⟨by simp [h], rfl⟩
  · have hd : decide ((n1 : Int) > 48) = false := by simp; omega
    by_cases h3 : 48 < n2
    · have hd2 : decide ((n2 : Int) > 48) = true := by simp; omega
      go_enter Tryz.func7, Tryz.ntmps7
      go_wp2
      go_ret
      exact ⟨by simp [h3], rfl⟩
    · have hd2 : decide ((n2 : Int) > 48) = false := by simp; omega
      go_enter Tryz.func7, Tryz.ntmps7
      go_wp2
      go_ret
      exact ⟨by simp [h, h3], rfl⟩
end Go.Proofs.YtjbaebgdebcipaaGreatDoor

/- What a law hands back. -/
namespace Go.Proofs.YtjbaebgdebcipaaGreatDoor
open Go Go.RowKit
def TrueB (w : World) (e : Ending) (w' : World) : Prop := e = .returned (.bool true) ∧ Below w.heap.size w w'
theorem TrueB.mk {w w' : World} (h : Below w.heap.size w w') : TrueB w (.returned (.bool true)) w' := ⟨rfl, h⟩
end Go.Proofs.YtjbaebgdebcipaaGreatDoor

/- FnTexts: the walk of the law. -/
namespace Go.Proofs.YtjbaebgdebcipaaGreatDoor
open Go Go.RowKit

set_option maxRecDepth 100000 in
set_option maxHeartbeats 6400000 in
theorem lawTexts_any (w : World) (v1 v2 : Value) (n1 n2 : Nat) (h1 : RdY w v1 n1) (h2 : RdY w v2 n2) (m1 : n1 ≤ maxLen) (m2 : n2 ≤ maxLen) (hD : Dr w ∧ Tab10 w) :
    Calls Tryz.prog 3 #[v1, v2] w (TrueB w) := by
  have H1 := Lib.hid h1
  have H2 := Lib.hid h2
  have HD := Lib.hid hD
  obtain ⟨a1, c1, rfl, -, -⟩ := h1.opened
  obtain ⟨a2, c2, rfl, -, -⟩ := h2.opened
  have HL := Lib.hid (r8Long_any w a1 a2 n1 n2 c1 c2 m1 m2)
  clear h1 h2 m1 m2 hD
  have hst := run_store_float (P := Tryz.prog)
  cases hq : (decide (48 < n1) || decide (48 < n2)) with
  | true =>
    rw [hq] at HL
    clear hq
    go_enter Tryz.func3, Tryz.ntmps3
    go_wp2_with fail
    refine HL.out.mono ?_
    rintro e w1 ⟨rfl, hw1⟩
    obtain rfl : w = w1 := hw1.symm
    go_wp2
    go_ret
    exact TrueB.mk (Below.refl _ _)
  | false =>
    rw [hq] at HL
    have l1 : n1 ≤ 48 := by simp at hq; omega
    have l2 : n2 ≤ 48 := by simp at hq; omega
    clear hq
    have HA0 := Lib.hid (r8At_any w _ n2 0 5 H2.out (by omega) (by decide) (by decide) (by decide) (by decide))
    have HA1 := Lib.hid (r8At_any w _ n2 1 5 H2.out (by omega) (by decide) (by decide) (by decide) (by decide))
    have HRP := Lib.hid (fun wq hq t ht => implReadPath_any wq t ht (HD.out.1.mono hq))
    have HRS := Lib.hid (fun wq hq t ht => implReadSection_any wq t ht (HD.out.1.mono hq) (HD.out.2.mono hq))
    have HT16 : Hid (∀ wq, Below w.heap.size w wq → Tab16 wq) := Lib.hid fun wq hq => Tab16.mono HD.out.1.tab hq
    have HT10 : Hid (∀ wq, Below w.heap.size w wq → Tab10 wq) := Lib.hid fun wq hq => HD.out.2.mono hq
    clear HD
    go_enter Tryz.func3, Tryz.ntmps3
    go_wp2_with fail
    refine HL.out.mono ?_
    rintro e w0 ⟨rfl, hw0⟩
    obtain rfl : w = w0 := hw0.symm
    clear HL hw0
    go_wp2_with fail
    refine HA0.out.mono ?_
    rintro e w0 ⟨ra, rfl, hra0, hra1, hw0⟩
    obtain rfl : w = w0 := hw0.symm
    clear HA0 hw0
    obtain ⟨a, ha, ha1, ha2⟩ : ∃ a : Nat, 1 + ra = a ∧ 1 ≤ a ∧ a ≤ 5 := ⟨(1 + ra).toNat, by omega, by omega, by omega⟩
    go_wp2_with fail
    refine HA1.out.mono ?_
    rintro e w0 ⟨rb', rfl, hrb0, hrb1, hw0⟩
    obtain rfl : w = w0 := hw0.symm
    clear HA1 hw0
    obtain ⟨b, hb, hb1, hb2⟩ : ∃ b : Nat, 1 + rb' = b ∧ 1 ≤ b ∧ b ≤ 5 := ⟨(1 + rb').toNat, by omega, by omega, by omega⟩
    go_wp2_with fail
    clear ha hb
    refine (r8Path_any w _ n1 a b H1.out (by omega) ha1 ha2 hb1 hb2).mono ?_
    rintro e w2 ⟨u, p0, p1, p2, p3, rfl, hp0, hp1, hp2, hp3, ⟨r0, r1, r2, r3, rfl, F0, F1, F2, F3⟩, b2⟩
    obtain rfl := fv_word F0 (qT_fine p0 hp0).2.1
    obtain rfl := fv_word F1 (qT_fine p1 hp1).2.1
    obtain rfl := fv_word F2 (qT_fine p2 hp2).2.1
    obtain rfl := fv_word F3 (qT_fine p3 hp3).2.1
    have o0 := (qT_fine p0 hp0).2.2
    have o1 := (qT_fine p1 hp1).2.2
    have o2 := (qT_fine p2 hp2).2.2
    have o3 := (qT_fine p3 hp3).2.2
    have HO := Lib.hid (show _ ∧ _ ∧ _ ∧ _ from ⟨o0, o1, o2, o3⟩)
    obtain ⟨hpl, hrp, hrp2⟩ := rp_four w hp0 hp1 hp2 hp3
    have HRd : Hid (RdPath (.agg #[.float .f32 (qT p0), .float .f32 (qT p1), .float .f32 (qT p2), .float .f32 (qT p3)]) (qT p0) (qT p1) (qT p2) (qT p3)) := Lib.hid ⟨_, _, _, _, rfl, F0, F1, F2, F3⟩
    have HPL := Lib.hid hpl
    have HRP1 := Lib.hid hrp
    have HRP2 := Lib.hid hrp2
    have HTS := Lib.hid (text_small (L := [qT p0, qT p1, qT p2, qT p3]) (by simp))
    clear hpl hrp hrp2 F0 F1 F2 F3 o0 o1 o2 o3
    have HNN : Hid (isN .f32 (qT p0) = false ∧ isN .f32 (qT p1) = false ∧ isN .f32 (qT p2) = false ∧ isN .f32 (qT p3) = false) := Lib.hid ⟨(qT_fine p0 hp0).2.1, (qT_fine p1 hp1).2.1, (qT_fine p2 hp2).2.1, (qT_fine p3 hp3).2.1⟩
    obtain ⟨T1, hT1⟩ : ∃ T, numT [qT p0, qT p1, qT p2, qT p3] = T := ⟨_, rfl⟩
    rw [hT1] at HRP1 HRP2 HTS
    have HTT := Lib.hid hT1
    have hts := HTS.out
    clear hT1 hp0 hp1 hp2 hp3
    generalize qT p0 = x0 at *
    generalize qT p1 = x1 at *
    generalize qT p2 = x2 at *
    generalize qT p3 = x3 at *
    have HB := Lib.hid b2
    clear b2
    obtain ⟨wa1, hwa1⟩ : ∃ wa, w2.alloc (.cells #[.float .f32 0, .float .f32 0, .float .f32 0, .float .f32 0] 27) = wa := ⟨_, rfl⟩
    have h9 : wa1.heap[w2.heap.size]? = some (.cells #[.float .f32 0, .float .f32 0, .float .f32 0, .float .f32 0] 27 (0, 0)) := by rw [← hwa1]; exact alloc_new _ _
    have xa : Below w2.heap.size w2 wa1 := by rw [← hwa1]; exact (Below.refl _ _).alloc (Nat.le_refl _) _
    obtain ⟨g7, hg7⟩ : ∃ g, w2.heap.size = g := ⟨_, rfl⟩
    have zg := (Array.getElem?_eq_some_iff.1 h9).1
    rw [hg7] at h9
    have P1 := put4 h9 (.float .f32 x0) (.float .f32 x1) (.float .f32 x2) (.float .f32 x3)
    obtain ⟨⟨m0, m1, m2, m3⟩, f0, f1, f2, f3⟩ := blk4 h9
    obtain ⟨wz1, hwz1⟩ : ∃ wz, ((((wa1.setCell ⟨g7, 0, none⟩ (.float .f32 x0)).setCell ⟨g7, 1, none⟩ (.float .f32 x1)).setCell ⟨g7, 2, none⟩ (.float .f32 x2)).setCell ⟨g7, 3, none⟩ (.float .f32 x3)) = wz := ⟨_, rfl⟩
    rw [hwz1] at P1
    have BZ := Lib.hid (Below.chg (HB.out.trans (xa.mono HB.out.size)) P1.chg (fun k hk => by have := HB.out.size; omega) (by have := HB.out.size; omega))
    have Hg7 := Lib.hid P1.heap
    clear HB
    have HB := BZ
    clear BZ xa h9 zg P1
    go_wp2_with fail
    clear hwa1 hwz1 hg7 m0 m1 m2 f0 f1 f2 m3 f3
    refine (r8Section_any wz1 _ n1 a b (H1.out.mono HB.out) (by omega) ha1 ha2 hb1 hb2).mono ?_
    rintro e w3 ⟨vq, zs, rfl, hzl, hzr, oq, b3⟩
    obtain ⟨hvs, hse, hrs1, hrs2⟩ := rs_both w ha1 ha2 hb1 hb2 hzl
    have hss := sec_small (a := a) (b := b) (V := zs.map qT) (by rw [List.length_map, hzl]; exact Nat.le_trans (Nat.mul_le_mul ha2 hb2) (by decide))
    have hVl : (zs.map qT).length ≤ 1000000 := by rw [List.length_map, hzl]; exact Nat.le_trans (Nat.mul_le_mul ha2 hb2) (by decide)
    have HVS := Lib.hid hvs
    have HSE := Lib.hid hse
    have HRS1 := Lib.hid hrs1
    have HRS2 := Lib.hid hrs2
    clear hvs hse hrs1 hrs2 hzl hzr
    generalize zs.map qT = V at *
    generalize secT a b V = T2 at *
    obtain ⟨aq, cq, rfl, -⟩ := oq.rd.opened
    have OQ := Lib.hid oq
    clear oq
    have NB := Lib.hid (HB.out.trans (b3.mono HB.out.size))
    have Ng7 := Lib.hid ((b3.block _ (Array.getElem?_eq_some_iff.1 Hg7.out).1).trans Hg7.out)
    clear Hg7
    have Hg7 := Ng7
    clear Ng7
    clear HB b3
    have HB := NB
    clear NB
    obtain ⟨wa2, hwa2⟩ : ∃ wa, w3.alloc (.cells #[.int .i64 0, .int .i64 0, .slice none 0 0] 31) = wa := ⟨_, rfl⟩
    have h9 : wa2.heap[w3.heap.size]? = some (.cells #[.int .i64 0, .int .i64 0, .slice none 0 0] 31 (0, 0)) := by rw [← hwa2]; exact alloc_new _ _
    have xa : Below w3.heap.size w3 wa2 := by rw [← hwa2]; exact (Below.refl _ _).alloc (Nat.le_refl _) _
    obtain ⟨g8, hg8⟩ : ∃ g, w3.heap.size = g := ⟨_, rfl⟩
    have zg := (Array.getElem?_eq_some_iff.1 h9).1
    rw [hg8] at h9
    have P2 := put3 h9 (.int .i64 a) (.int .i64 b) (.slice aq V.length cq)
    obtain ⟨m0, m1, m2, f0, f1, f2⟩ := blk3 h9
    obtain ⟨wz2, hwz2⟩ : ∃ wz, (((wa2.setCell ⟨g8, 0, none⟩ (.int .i64 a)).setCell ⟨g8, 1, none⟩ (.int .i64 b)).setCell ⟨g8, 2, none⟩ (.slice aq V.length cq)) = wz := ⟨_, rfl⟩
    rw [hwz2] at P2
    have BZ := Lib.hid (Below.chg (HB.out.trans (xa.mono HB.out.size)) P2.chg (fun k hk => by have := HB.out.size; omega) (by have := HB.out.size; omega))
    have Ng7 := Lib.hid ((P2.chg.block g7 (by have := (Array.getElem?_eq_some_iff.1 Hg7.out).1; omega) (by have := (Array.getElem?_eq_some_iff.1 Hg7.out).1; omega)).trans ((xa.block g7 (Array.getElem?_eq_some_iff.1 Hg7.out).1).trans Hg7.out))
    have NOQ := Lib.hid ((OQ.out.kept xa).chg P2.chg fun k hk e => by have := (OQ.out.lt hk).2; omega)
    have Hg8 := Lib.hid P2.heap
    clear Hg7
    have Hg7 := Ng7
    clear Ng7
    clear OQ
    have OQ := NOQ
    clear NOQ
    clear HB
    have HB := BZ
    clear BZ xa h9 zg P2
    obtain ⟨⟨k0, k1, k2, k3⟩, -, -, -, -⟩ := blk4 Hg7.out
    go_wp2_with fail
    clear hwa2 hwz2 hg8 m0 m1 m2 f0 f1 f2 k0 k1 k2 k3
    refine (implPathText_any wz2 _ x0 x1 x2 x3 HRd.out (HT16.out _ HB.out)).mono ?_
    rintro e w4 ⟨rfl, b4⟩
    rw [HPL.out, HTT.out]
    unfold txtIf
    have NB := Lib.hid (HB.out.trans (b4.mono HB.out.size))
    have Ng7 := Lib.hid ((b4.block _ (Array.getElem?_eq_some_iff.1 Hg7.out).1).trans Hg7.out)
    have Ng8 := Lib.hid ((b4.block _ (Array.getElem?_eq_some_iff.1 Hg8.out).1).trans Hg8.out)
    have NOQ := Lib.hid (OQ.out.kept b4)
    clear Hg7 Hg8
    have Hg7 := Ng7
    clear Ng7
    have Hg8 := Ng8
    clear Ng8
    clear OQ
    have OQ := NOQ
    clear NOQ
    clear HB b4
    have HB := NB
    clear NB
    go_wp2_with fail
    refine (HRP.out w4 HB.out T1 (by omega)).mono ?_
    rintro e w5 ⟨u5, rfl, hu5, b5⟩
    obtain rfl : u5 = .tuple #[.agg #[.float .f32 x0, .float .f32 x1, .float .f32 x2, .float .f32 x3], .bool true] := by
      rcases hu5 with ⟨y0, y1, y2, y3, p, hr, ⟨s0, s1, s2, s3, rfl, F0, F1, F2, F3⟩, rfl⟩ | ⟨hr, rfl⟩
      · rw [HRP1.out] at hr
        cases hr
        rw [fv_word F0 HNN.out.1, fv_word F1 HNN.out.2.1, fv_word F2 HNN.out.2.2.1, fv_word F3 HNN.out.2.2.2]
      · rw [HRP1.out] at hr; cases hr
    clear hu5
    have NB := Lib.hid (HB.out.trans (b5.mono HB.out.size))
    have Ng7 := Lib.hid ((b5.block _ (Array.getElem?_eq_some_iff.1 Hg7.out).1).trans Hg7.out)
    have Ng8 := Lib.hid ((b5.block _ (Array.getElem?_eq_some_iff.1 Hg8.out).1).trans Hg8.out)
    have NOQ := Lib.hid (OQ.out.kept b5)
    clear Hg7 Hg8
    have Hg7 := Ng7
    clear Ng7
    have Hg8 := Ng8
    clear Ng8
    clear OQ
    have OQ := NOQ
    clear NOQ
    clear HB b5
    have HB := NB
    clear NB
    obtain ⟨wa3, hwa3⟩ : ∃ wa, w5.alloc (.cells #[.float .f32 0, .float .f32 0, .float .f32 0, .float .f32 0] 27) = wa := ⟨_, rfl⟩
    have h9 : wa3.heap[w5.heap.size]? = some (.cells #[.float .f32 0, .float .f32 0, .float .f32 0, .float .f32 0] 27 (0, 0)) := by rw [← hwa3]; exact alloc_new _ _
    have xa : Below w5.heap.size w5 wa3 := by rw [← hwa3]; exact (Below.refl _ _).alloc (Nat.le_refl _) _
    obtain ⟨g11, hg11⟩ : ∃ g, w5.heap.size = g := ⟨_, rfl⟩
    have zg := (Array.getElem?_eq_some_iff.1 h9).1
    rw [hg11] at h9
    have P3 := put4 h9 (.float .f32 x0) (.float .f32 x1) (.float .f32 x2) (.float .f32 x3)
    obtain ⟨⟨m0, m1, m2, m3⟩, f0, f1, f2, f3⟩ := blk4 h9
    obtain ⟨wz3, hwz3⟩ : ∃ wz, ((((wa3.setCell ⟨g11, 0, none⟩ (.float .f32 x0)).setCell ⟨g11, 1, none⟩ (.float .f32 x1)).setCell ⟨g11, 2, none⟩ (.float .f32 x2)).setCell ⟨g11, 3, none⟩ (.float .f32 x3)) = wz := ⟨_, rfl⟩
    rw [hwz3] at P3
    have BZ := Lib.hid (Below.chg (HB.out.trans (xa.mono HB.out.size)) P3.chg (fun k hk => by have := HB.out.size; omega) (by have := HB.out.size; omega))
    have Ng7 := Lib.hid ((P3.chg.block g7 (by have := (Array.getElem?_eq_some_iff.1 Hg7.out).1; omega) (by have := (Array.getElem?_eq_some_iff.1 Hg7.out).1; omega)).trans ((xa.block g7 (Array.getElem?_eq_some_iff.1 Hg7.out).1).trans Hg7.out))
    have Ng8 := Lib.hid ((P3.chg.block g8 (by have := (Array.getElem?_eq_some_iff.1 Hg8.out).1; omega) (by have := (Array.getElem?_eq_some_iff.1 Hg8.out).1; omega)).trans ((xa.block g8 (Array.getElem?_eq_some_iff.1 Hg8.out).1).trans Hg8.out))
    have NOQ := Lib.hid ((OQ.out.kept xa).chg P3.chg fun k hk e => by have := (OQ.out.lt hk).2; omega)
    have Hg11 := Lib.hid P3.heap
    clear Hg7 Hg8
    have Hg7 := Ng7
    clear Ng7
    have Hg8 := Ng8
    clear Ng8
    clear OQ
    have OQ := NOQ
    clear NOQ
    clear HB
    have HB := BZ
    clear BZ xa h9 zg P3
    obtain ⟨k0, k1, k2, -, -, -⟩ := blk3 Hg8.out
    go_wp2_with fail
    clear hwa3 hwz3 hg11 m0 m1 m2 f0 f1 f2 m3 f3 k0 k1 k2
    refine (implSectionText_any wz3 _ ⟨a, b, V⟩ ⟨_, rfl, OQ.out.rd⟩ (by show V.length ≤ 1048576; omega) (HT16.out _ HB.out) (HT10.out _ HB.out)).mono ?_
    rintro e w6 ⟨rfl, b6⟩
    rw [HVS.out, HSE.out]
    unfold txtIf
    have NB := Lib.hid (HB.out.trans (b6.mono HB.out.size))
    have Ng7 := Lib.hid ((b6.block _ (Array.getElem?_eq_some_iff.1 Hg7.out).1).trans Hg7.out)
    have Ng8 := Lib.hid ((b6.block _ (Array.getElem?_eq_some_iff.1 Hg8.out).1).trans Hg8.out)
    have Ng11 := Lib.hid ((b6.block _ (Array.getElem?_eq_some_iff.1 Hg11.out).1).trans Hg11.out)
    have NOQ := Lib.hid (OQ.out.kept b6)
    clear Hg7 Hg8 Hg11
    have Hg7 := Ng7
    clear Ng7
    have Hg8 := Ng8
    clear Ng8
    have Hg11 := Ng11
    clear Ng11
    clear OQ
    have OQ := NOQ
    clear NOQ
    clear HB b6
    have HB := NB
    clear NB
    go_wp2_with fail
    refine (HRS.out w6 HB.out T2 (by omega)).mono ?_
    rintro e w7 ⟨u7, rfl, hu7, b7⟩
    obtain ⟨ar, cr, rfl, hor⟩ : ∃ ar cr, u7 = .tuple #[.agg #[.int .i64 a, .int .i64 b, .slice ar V.length cr], .bool true] ∧ OwnF w7 w6.heap.size (.slice ar V.length cr) V := by
      rcases hu7 with ⟨S, v, hr, rfl, ho⟩ | ⟨hr, rfl⟩
      · rw [HRS1.out] at hr
        cases hr
        obtain ⟨ar, cr, rfl, -⟩ := ho.rd.opened
        exact ⟨ar, cr, rfl, ho⟩
      · rw [HRS1.out] at hr; cases hr
    have OR := Lib.hid hor
    clear hu7 hor
    have NB := Lib.hid (HB.out.trans (b7.mono HB.out.size))
    have Ng7 := Lib.hid ((b7.block _ (Array.getElem?_eq_some_iff.1 Hg7.out).1).trans Hg7.out)
    have Ng8 := Lib.hid ((b7.block _ (Array.getElem?_eq_some_iff.1 Hg8.out).1).trans Hg8.out)
    have Ng11 := Lib.hid ((b7.block _ (Array.getElem?_eq_some_iff.1 Hg11.out).1).trans Hg11.out)
    have NOQ := Lib.hid (OQ.out.kept b7)
    clear Hg7 Hg8 Hg11
    have Hg7 := Ng7
    clear Ng7
    have Hg8 := Ng8
    clear Ng8
    have Hg11 := Ng11
    clear Ng11
    clear OQ
    have OQ := NOQ
    clear NOQ
    clear HB b7
    have HB := NB
    clear NB
    obtain ⟨wa4, hwa4⟩ : ∃ wa, w7.alloc (.cells #[.int .i64 0, .int .i64 0, .slice none 0 0] 31) = wa := ⟨_, rfl⟩
    have h9 : wa4.heap[w7.heap.size]? = some (.cells #[.int .i64 0, .int .i64 0, .slice none 0 0] 31 (0, 0)) := by rw [← hwa4]; exact alloc_new _ _
    have xa : Below w7.heap.size w7 wa4 := by rw [← hwa4]; exact (Below.refl _ _).alloc (Nat.le_refl _) _
    obtain ⟨g15, hg15⟩ : ∃ g, w7.heap.size = g := ⟨_, rfl⟩
    have zg := (Array.getElem?_eq_some_iff.1 h9).1
    rw [hg15] at h9
    have P4 := put3 h9 (.int .i64 a) (.int .i64 b) (.slice ar V.length cr)
    obtain ⟨m0, m1, m2, f0, f1, f2⟩ := blk3 h9
    obtain ⟨wz4, hwz4⟩ : ∃ wz, (((wa4.setCell ⟨g15, 0, none⟩ (.int .i64 a)).setCell ⟨g15, 1, none⟩ (.int .i64 b)).setCell ⟨g15, 2, none⟩ (.slice ar V.length cr)) = wz := ⟨_, rfl⟩
    rw [hwz4] at P4
    have BZ := Lib.hid (Below.chg (HB.out.trans (xa.mono HB.out.size)) P4.chg (fun k hk => by have := HB.out.size; omega) (by have := HB.out.size; omega))
    have Ng7 := Lib.hid ((P4.chg.block g7 (by have := (Array.getElem?_eq_some_iff.1 Hg7.out).1; omega) (by have := (Array.getElem?_eq_some_iff.1 Hg7.out).1; omega)).trans ((xa.block g7 (Array.getElem?_eq_some_iff.1 Hg7.out).1).trans Hg7.out))
    have Ng8 := Lib.hid ((P4.chg.block g8 (by have := (Array.getElem?_eq_some_iff.1 Hg8.out).1; omega) (by have := (Array.getElem?_eq_some_iff.1 Hg8.out).1; omega)).trans ((xa.block g8 (Array.getElem?_eq_some_iff.1 Hg8.out).1).trans Hg8.out))
    have Ng11 := Lib.hid ((P4.chg.block g11 (by have := (Array.getElem?_eq_some_iff.1 Hg11.out).1; omega) (by have := (Array.getElem?_eq_some_iff.1 Hg11.out).1; omega)).trans ((xa.block g11 (Array.getElem?_eq_some_iff.1 Hg11.out).1).trans Hg11.out))
    have NOQ := Lib.hid ((OQ.out.kept xa).chg P4.chg fun k hk e => by have := (OQ.out.lt hk).2; omega)
    have NOR := Lib.hid ((OR.out.kept xa).chg P4.chg fun k hk e => by have := (OR.out.lt hk).2; omega)
    have Hg15 := Lib.hid P4.heap
    clear Hg7 Hg8 Hg11
    have Hg7 := Ng7
    clear Ng7
    have Hg8 := Ng8
    clear Ng8
    have Hg11 := Ng11
    clear Ng11
    clear OQ OR
    have OQ := NOQ
    clear NOQ
    have OR := NOR
    clear NOR
    clear HB
    have HB := BZ
    clear BZ xa h9 zg P4
    go_wp2_with fail
    clear hwa4 hwz4 hg15 m0 m1 m2 f0 f1 f2
    refine (HRP.out wz4 HB.out (T1 ++ moreT) (by rw [more_size]; omega)).mono ?_
    rintro e w8 ⟨u8, rfl, hu8, b8⟩
    obtain rfl : u8 = .tuple #[.agg #[.float .f32 0, .float .f32 0, .float .f32 0, .float .f32 0], .bool false] := by
      rcases hu8 with ⟨y0, y1, y2, y3, p, hr, -, rfl⟩ | ⟨hr, rfl⟩
      · rw [HRP2.out] at hr; cases hr
      · rfl
    clear hu8
    have NB := Lib.hid (HB.out.trans (b8.mono HB.out.size))
    have Ng7 := Lib.hid ((b8.block _ (Array.getElem?_eq_some_iff.1 Hg7.out).1).trans Hg7.out)
    have Ng8 := Lib.hid ((b8.block _ (Array.getElem?_eq_some_iff.1 Hg8.out).1).trans Hg8.out)
    have Ng11 := Lib.hid ((b8.block _ (Array.getElem?_eq_some_iff.1 Hg11.out).1).trans Hg11.out)
    have Ng15 := Lib.hid ((b8.block _ (Array.getElem?_eq_some_iff.1 Hg15.out).1).trans Hg15.out)
    have NOQ := Lib.hid (OQ.out.kept b8)
    have NOR := Lib.hid (OR.out.kept b8)
    clear Hg7 Hg8 Hg11 Hg15
    have Hg7 := Ng7
    clear Ng7
    have Hg8 := Ng8
    clear Ng8
    have Hg11 := Ng11
    clear Ng11
    have Hg15 := Ng15
    clear Ng15
    clear OQ OR
    have OQ := NOQ
    clear NOQ
    have OR := NOR
    clear NOR
    clear HB b8
    have HB := NB
    clear NB
    obtain ⟨wa5, hwa5⟩ : ∃ wa, w8.alloc (.cells #[.float .f32 0, .float .f32 0, .float .f32 0, .float .f32 0] 27) = wa := ⟨_, rfl⟩
    have h9 : wa5.heap[w8.heap.size]? = some (.cells #[.float .f32 0, .float .f32 0, .float .f32 0, .float .f32 0] 27 (0, 0)) := by rw [← hwa5]; exact alloc_new _ _
    have xa : Below w8.heap.size w8 wa5 := by rw [← hwa5]; exact (Below.refl _ _).alloc (Nat.le_refl _) _
    obtain ⟨g17, hg17⟩ : ∃ g, w8.heap.size = g := ⟨_, rfl⟩
    have zg := (Array.getElem?_eq_some_iff.1 h9).1
    rw [hg17] at h9
    have P5 := put4 h9 (.float .f32 0) (.float .f32 0) (.float .f32 0) (.float .f32 0)
    obtain ⟨⟨m0, m1, m2, m3⟩, f0, f1, f2, f3⟩ := blk4 h9
    obtain ⟨wz5, hwz5⟩ : ∃ wz, ((((wa5.setCell ⟨g17, 0, none⟩ (.float .f32 0)).setCell ⟨g17, 1, none⟩ (.float .f32 0)).setCell ⟨g17, 2, none⟩ (.float .f32 0)).setCell ⟨g17, 3, none⟩ (.float .f32 0)) = wz := ⟨_, rfl⟩
    rw [hwz5] at P5
    have BZ := Lib.hid (Below.chg (HB.out.trans (xa.mono HB.out.size)) P5.chg (fun k hk => by have := HB.out.size; omega) (by have := HB.out.size; omega))
    have Ng7 := Lib.hid ((P5.chg.block g7 (by have := (Array.getElem?_eq_some_iff.1 Hg7.out).1; omega) (by have := (Array.getElem?_eq_some_iff.1 Hg7.out).1; omega)).trans ((xa.block g7 (Array.getElem?_eq_some_iff.1 Hg7.out).1).trans Hg7.out))
    have Ng8 := Lib.hid ((P5.chg.block g8 (by have := (Array.getElem?_eq_some_iff.1 Hg8.out).1; omega) (by have := (Array.getElem?_eq_some_iff.1 Hg8.out).1; omega)).trans ((xa.block g8 (Array.getElem?_eq_some_iff.1 Hg8.out).1).trans Hg8.out))
    have Ng11 := Lib.hid ((P5.chg.block g11 (by have := (Array.getElem?_eq_some_iff.1 Hg11.out).1; omega) (by have := (Array.getElem?_eq_some_iff.1 Hg11.out).1; omega)).trans ((xa.block g11 (Array.getElem?_eq_some_iff.1 Hg11.out).1).trans Hg11.out))
    have Ng15 := Lib.hid ((P5.chg.block g15 (by have := (Array.getElem?_eq_some_iff.1 Hg15.out).1; omega) (by have := (Array.getElem?_eq_some_iff.1 Hg15.out).1; omega)).trans ((xa.block g15 (Array.getElem?_eq_some_iff.1 Hg15.out).1).trans Hg15.out))
    have NOQ := Lib.hid ((OQ.out.kept xa).chg P5.chg fun k hk e => by have := (OQ.out.lt hk).2; omega)
    have NOR := Lib.hid ((OR.out.kept xa).chg P5.chg fun k hk e => by have := (OR.out.lt hk).2; omega)
    have Hg17 := Lib.hid P5.heap
    clear Hg7 Hg8 Hg11 Hg15
    have Hg7 := Ng7
    clear Ng7
    have Hg8 := Ng8
    clear Ng8
    have Hg11 := Ng11
    clear Ng11
    have Hg15 := Ng15
    clear Ng15
    clear OQ OR
    have OQ := NOQ
    clear NOQ
    have OR := NOR
    clear NOR
    clear HB
    have HB := BZ
    clear BZ xa h9 zg P5
    go_wp2_with fail
    clear hwa5 hwz5 hg17 m0 m1 m2 f0 f1 f2 m3 f3
    refine (HRS.out wz5 HB.out (T2 ++ moreT) (by rw [more_size]; omega)).mono ?_
    rintro e w9 ⟨u9, rfl, hu9, b9⟩
    obtain rfl : u9 = .tuple #[.agg #[.int .i64 0, .int .i64 0, .slice none 0 0], .bool false] := by
      rcases hu9 with ⟨S, v, hr, rfl, ho⟩ | ⟨hr, rfl⟩
      · rw [HRS2.out] at hr; cases hr
      · rfl
    clear hu9
    have NB := Lib.hid (HB.out.trans (b9.mono HB.out.size))
    have Ng7 := Lib.hid ((b9.block _ (Array.getElem?_eq_some_iff.1 Hg7.out).1).trans Hg7.out)
    have Ng8 := Lib.hid ((b9.block _ (Array.getElem?_eq_some_iff.1 Hg8.out).1).trans Hg8.out)
    have Ng11 := Lib.hid ((b9.block _ (Array.getElem?_eq_some_iff.1 Hg11.out).1).trans Hg11.out)
    have Ng15 := Lib.hid ((b9.block _ (Array.getElem?_eq_some_iff.1 Hg15.out).1).trans Hg15.out)
    have Ng17 := Lib.hid ((b9.block _ (Array.getElem?_eq_some_iff.1 Hg17.out).1).trans Hg17.out)
    have NOQ := Lib.hid (OQ.out.kept b9)
    have NOR := Lib.hid (OR.out.kept b9)
    clear Hg7 Hg8 Hg11 Hg15 Hg17
    have Hg7 := Ng7
    clear Ng7
    have Hg8 := Ng8
    clear Ng8
    have Hg11 := Ng11
    clear Ng11
    have Hg15 := Ng15
    clear Ng15
    have Hg17 := Ng17
    clear Ng17
    clear OQ OR
    have OQ := NOQ
    clear NOQ
    have OR := NOR
    clear NOR
    clear HB b9
    have HB := NB
    clear NB
    obtain ⟨wa6, hwa6⟩ : ∃ wa, w9.alloc (.cells #[.int .i64 0, .int .i64 0, .slice none 0 0] 31) = wa := ⟨_, rfl⟩
    have h9 : wa6.heap[w9.heap.size]? = some (.cells #[.int .i64 0, .int .i64 0, .slice none 0 0] 31 (0, 0)) := by rw [← hwa6]; exact alloc_new _ _
    have xa : Below w9.heap.size w9 wa6 := by rw [← hwa6]; exact (Below.refl _ _).alloc (Nat.le_refl _) _
    obtain ⟨g19, hg19⟩ : ∃ g, w9.heap.size = g := ⟨_, rfl⟩
    have zg := (Array.getElem?_eq_some_iff.1 h9).1
    rw [hg19] at h9
    have P6 := put3 h9 (.int .i64 0) (.int .i64 0) (.slice none 0 0)
    obtain ⟨m0, m1, m2, f0, f1, f2⟩ := blk3 h9
    obtain ⟨wz6, hwz6⟩ : ∃ wz, (((wa6.setCell ⟨g19, 0, none⟩ (.int .i64 0)).setCell ⟨g19, 1, none⟩ (.int .i64 0)).setCell ⟨g19, 2, none⟩ (.slice none 0 0)) = wz := ⟨_, rfl⟩
    rw [hwz6] at P6
    have BZ := Lib.hid (Below.chg (HB.out.trans (xa.mono HB.out.size)) P6.chg (fun k hk => by have := HB.out.size; omega) (by have := HB.out.size; omega))
    have Ng7 := Lib.hid ((P6.chg.block g7 (by have := (Array.getElem?_eq_some_iff.1 Hg7.out).1; omega) (by have := (Array.getElem?_eq_some_iff.1 Hg7.out).1; omega)).trans ((xa.block g7 (Array.getElem?_eq_some_iff.1 Hg7.out).1).trans Hg7.out))
    have Ng8 := Lib.hid ((P6.chg.block g8 (by have := (Array.getElem?_eq_some_iff.1 Hg8.out).1; omega) (by have := (Array.getElem?_eq_some_iff.1 Hg8.out).1; omega)).trans ((xa.block g8 (Array.getElem?_eq_some_iff.1 Hg8.out).1).trans Hg8.out))
    have Ng11 := Lib.hid ((P6.chg.block g11 (by have := (Array.getElem?_eq_some_iff.1 Hg11.out).1; omega) (by have := (Array.getElem?_eq_some_iff.1 Hg11.out).1; omega)).trans ((xa.block g11 (Array.getElem?_eq_some_iff.1 Hg11.out).1).trans Hg11.out))
    have Ng15 := Lib.hid ((P6.chg.block g15 (by have := (Array.getElem?_eq_some_iff.1 Hg15.out).1; omega) (by have := (Array.getElem?_eq_some_iff.1 Hg15.out).1; omega)).trans ((xa.block g15 (Array.getElem?_eq_some_iff.1 Hg15.out).1).trans Hg15.out))
    have Ng17 := Lib.hid ((P6.chg.block g17 (by have := (Array.getElem?_eq_some_iff.1 Hg17.out).1; omega) (by have := (Array.getElem?_eq_some_iff.1 Hg17.out).1; omega)).trans ((xa.block g17 (Array.getElem?_eq_some_iff.1 Hg17.out).1).trans Hg17.out))
    have NOQ := Lib.hid ((OQ.out.kept xa).chg P6.chg fun k hk e => by have := (OQ.out.lt hk).2; omega)
    have NOR := Lib.hid ((OR.out.kept xa).chg P6.chg fun k hk e => by have := (OR.out.lt hk).2; omega)
    have Hg19 := Lib.hid P6.heap
    clear Hg7 Hg8 Hg11 Hg15 Hg17
    have Hg7 := Ng7
    clear Ng7
    have Hg8 := Ng8
    clear Ng8
    have Hg11 := Ng11
    clear Ng11
    have Hg15 := Ng15
    clear Ng15
    have Hg17 := Ng17
    clear Ng17
    clear OQ OR
    have OQ := NOQ
    clear NOQ
    have OR := NOR
    clear NOR
    clear HB
    have HB := BZ
    clear BZ xa h9 zg P6
    obtain ⟨⟨k0, k1, k2, k3⟩, -, -, -, -⟩ := blk4 Hg7.out
    obtain ⟨⟨l0, l1, l2, l3⟩, -, -, -, -⟩ := blk4 Hg11.out
    obtain ⟨i0, i1, i2, -, -, -⟩ := blk3 Hg8.out
    obtain ⟨j0, j1, j2, -, -, -⟩ := blk3 Hg15.out
    obtain ⟨o0, o1, o2, o3⟩ := HO.out
    have q0 : ∀ wq : World, (Op.equalIn 9999 25 (.float .f32 x0) (.float .f32 x0)).run Tryz.prog wq = .ok true wq := fun wq => by rw [run_equalIn_floatT wq 9998 25 .f32 .f32 x0 x0 (by kernel_rfl), floatEq_self o0]
    have q1 : ∀ wq : World, (Op.equalIn 9999 25 (.float .f32 x1) (.float .f32 x1)).run Tryz.prog wq = .ok true wq := fun wq => by rw [run_equalIn_floatT wq 9998 25 .f32 .f32 x1 x1 (by kernel_rfl), floatEq_self o1]
    have q2 : ∀ wq : World, (Op.equalIn 9999 25 (.float .f32 x2) (.float .f32 x2)).run Tryz.prog wq = .ok true wq := fun wq => by rw [run_equalIn_floatT wq 9998 25 .f32 .f32 x2 x2 (by kernel_rfl), floatEq_self o2]
    have q3 : ∀ wq : World, (Op.equalIn 9999 25 (.float .f32 x3) (.float .f32 x3)).run Tryz.prog wq = .ok true wq := fun wq => by rw [run_equalIn_floatT wq 9998 25 .f32 .f32 x3 x3 (by kernel_rfl), floatEq_self o3]
    go_wp2_with fail
    clear hwa6 hwz6 hg19 m0 m1 m2 f0 f1 f2 k0 k1 k2 k3 l0 l1 l2 l3 i0 i1 i2 j0 j1 j2
    refine (sameSection_any wz6 a b _ _ V V OR.out.rd OQ.out.rd (by omega) (by omega)).mono ?_
    rintro e w10 ⟨rfl, b10⟩
    rw [sameL_refl]
    have HB10 := Lib.hid (HB.out.trans (b10.mono HB.out.size))
    clear b10
    go_wp2
    go_ret
    exact TrueB.mk HB10.out
end Go.Proofs.YtjbaebgdebcipaaGreatDoor

/- What the listed variables, and the world's shape, give a walk; a world in which they are laid. -/
namespace Go.Proofs.YtjbaebgdebcipaaGreatDoor
open Go Go.RowKit

def laid7 : List (String × DataW Unit) := [("math/bits.deBruijn32tab", Rows.laid_math_bits_deBruijn32tab), ("math/bits.deBruijn64tab", Rows.laid_math_bits_deBruijn64tab), ("internal/strconv.uint64pow10", Rows.laid_internal_strconv_uint64pow10), ("unicode/utf8.acceptRanges", Rows.laid_unicode_utf8_acceptRanges), ("strconv.ErrRange", Rows.laid_strconv_ErrRange), ("strconv.ErrSyntax", Rows.laid_strconv_ErrSyntax), ("unicode/utf8.first", Rows.laid_unicode_utf8_first)]
theorem plain7 (W : World) : laidMetH Tryz.prog laid7 W ↔ laidMet Tryz.prog laid7 W := by rw [MakeChecks.laidMetH_plain _ _ _ (by kernel_rfl)]
theorem lay_met (os : Os) (args : Array Value) : laidMetH Tryz.prog laid7 ((World.laidAll Tryz.prog os laid7).forCall (fun _ _ => 0) ⟨#[], args, []⟩).memory :=
  (plain7 _).2 (laidMet_laidAll _ (by kernel_rfl) (by kernel_rfl))
theorem cell_of_var {W : World} {n : String} {g : Nat} {v : Value} (hg : Tryz.prog.globalNamed n = some g) (h : W.var? Tryz.prog n = some #[v]) : W.cell? ⟨g, 0, none⟩ = some v := by
  unfold World.var? at h
  rw [hg] at h
  simp only [Option.bind_some] at h
  unfold World.cell?
  split at h
  · rename_i cs t fz he
    rw [he]
    cases h
    rfl
  · cases h
theorem star9 : "*" ++ "errors.errorString" = "*errors.errorString" := by decide
theorem errRow (u : TypeId) (h : Tryz.prog.typeName? 3 u = some "*errors.errorString") : u = 195 :=
  typeName_ptr_named (nm := "errors.errorString") (by rw [star9]; kernel_rfl) (by kernel_rfl) (by decide) u (by rw [star9]; exact h)
theorem of_laid {W : World} (hs : W.ShapedOpen Tryz.prog) (h : laidMetH Tryz.prog laid7 W) : Dr W := by
  rw [plain7] at h
  have h2 := laidMet.tail h
  have h3 : Lib.TabIs Tryz.prog W "math/bits.deBruijn64tab" .u8 [0, 1, 56, 2, 57, 49, 28, 3, 61, 58, 42, 50, 38, 29, 17, 4, 62, 47, 59, 36, 45, 43, 51, 22, 53, 39, 33, 30, 24, 18, 12, 5, 63, 55, 48, 27, 60, 41, 37, 16, 46, 35, 44, 21, 52, 32, 23, 11, 54, 26, 40, 15, 34, 20, 31, 10, 25, 14, 19, 9, 13, 8, 7, 6] :=
    Lib.tabIs_of_head (g := 8) (t := 199) (e := 5) (n := 64) (by kernel_rfl) (by kernel_rfl) (by kernel_rfl) (by kernel_rfl) (by kernel_rfl) (by kernel_rfl) h2
  have h5 := laidMet.tail (laidMet.tail (laidMet.tail h2))
  have h6 := laidMet.tail h5
  refine ⟨h3.cell (by kernel_rfl) 15 (by decide), ?_, ?_, ?_⟩
  · obtain ⟨a, s, hv, -⟩ := laid_sentinel (g := 3) (ti := 122) (tp := 195) (te := 197) (ts := 9) h6 (by kernel_rfl) (by kernel_rfl) Tryz.underlying122 errRow Tryz.underlying195 Tryz.underlying197 rfl rfl Tryz.underlying9 (by kernel_rfl) (by kernel_rfl)
    exact ⟨_, _, cell_of_var (by kernel_rfl) hv⟩
  · obtain ⟨a, s, hv, -⟩ := laid_sentinel (g := 4) (ti := 122) (tp := 195) (te := 197) (ts := 9) h5 (by kernel_rfl) (by kernel_rfl) Tryz.underlying122 errRow Tryz.underlying195 Tryz.underlying197 rfl rfl Tryz.underlying9 (by kernel_rfl) (by kernel_rfl)
    exact ⟨_, _, cell_of_var (by kernel_rfl) hv⟩
  · exact cell_of_shapedOpen_int (P := Tryz.prog) (g := 0) (t := 3) (zero := #[.int .i64 0]) hs (of_decide_eq_true (by kernel_rfl)) (by kernel_rfl) rfl (by kernel_rfl) (by kernel_rfl) Tryz.underlying3
end Go.Proofs.YtjbaebgdebcipaaGreatDoor

/- What the listed variables give a walk that tells decimal numerals too. -/
namespace Go.Proofs.YtjbaebgdebcipaaGreatDoor
open Go Go.RowKit

theorem of_laidT {W : World} (hs : W.ShapedOpen Tryz.prog) (h : laidMetH Tryz.prog laid7 W) : Dr W ∧ Tab10 W := by
  refine ⟨of_laid hs h, ?_⟩
  rw [plain7] at h
  have h2 := laidMet.tail (laidMet.tail h)
  have e : (Rows.laid_internal_strconv_uint64pow10 : DataW Unit) = Lib.tabData .u64 Lib.pow10Tab := by kernel_rfl
  rw [e] at h2
  exact Lib.tabIs_of_head (g := 2) (t := 177) (e := 92) (n := 20) (by kernel_rfl) (by kernel_rfl) (by kernel_rfl) (by kernel_rfl) (by kernel_rfl) (by kernel_rfl) h2
end Go.Proofs.YtjbaebgdebcipaaGreatDoor

/- The wrap of a row that lists variables, the world's shape kept. -/
namespace Go.Proofs.YtjbaebgdebcipaaGreatDoor
open Go
variable {H : Type} {enc : TypeId × Value → H}

theorem returnsInHanded_laid_shaped {a : Assume} {C : Checked} {os : Os} {f : FuncId} {fn : Func} {s : ChangeSpec} {conds : List PathCond} {apart fresh handsOn again : Bool} {X : World → Array Value → Prop}
    (hX : ∀ (w w' : World) (args : Array Value), w.heap = w'.heap → X w args → X w' args)
    (own : ownKnob C.prog.godebug = none) (started : os.Started) (noInit : C.prog.inits.idxOf? f = none) (hfn : C.prog.funcs[f]? = some fn)
    (witness : ∃ (w : World) (tape : Tape) (i : Input), w.os = os ∧ (w.forCall tape i).Shaped C.prog ∧ i.vars = [] ∧ Input.okWide C.prog (w.forCall tape i) .any w.heap.size f i ∧
      ((s.pre enc C.prog fn conds apart (w.forCall tape i).memory i.args ∧ X (w.forCall tape i).memory i.args) ∧ sizedMet enc C.prog fn (OpenSpec.ofChange s) apart (w.forCall tape i).memory i.args) ∧ a.holds C.prog (lone (Frame.enter C.prog f i.args .normal) [] (w.forCall tape i)))
    (contract : ∀ (W : World) (base : Nat) (args : Array Value) (ds gs : List (DataW H)) (before : List MemPlace),
      (∀ (j : Nat) t v, fn.params[j]? = some t → args[j]? = some v → Value.okWide C.prog W .any base t v) →
      DataW.Whole enc C.prog fn.params.toList s.vars apart W args.toList ds gs before →
      W.ShapedOpen C.prog → X W args →
      Calls C.prog f args W fun e W' => ∃ v, e = .returned v ∧ s.post enc C.prog fn apart fresh handsOn again W args v W') :
    ReturnsInHanded a C os f .any (fun w args => (s.pre enc C.prog fn conds apart w args ∧ X w args) ∧ sizedMet enc C.prog fn (OpenSpec.ofChange s) apart w args) (s.post enc C.prog fn apart fresh handsOn again) := by
  refine returnsInHanded_of_calls own started noInit witness ?_
  intro w tape i _ hsh _ hok hpre hholds
  obtain ⟨_, _, _, fn', hfn', _, _, _, _, hval⟩ := hok
  have e : fn' = fn := Option.some.inj (hfn'.symm.trans hfn)
  subst e
  obtain ⟨⟨⟨ds, gs, before, hw, hc⟩, hx⟩, hz⟩ := hpre
  have hw' := DataW.Whole.of_heap (w' := w.forCall tape i) (by rfl) hw
  refine (contract (w.forCall tape i) w.heap.size i.args ds gs before hval hw' hsh (hX _ _ _ (by rfl) hx)).mono fun e W' ⟨v, he, hp⟩ => ?_
  subst he
  exact ChangeSpec.post_blind hp
end Go.Proofs.YtjbaebgdebcipaaGreatDoor

/- FnTexts returns true for every input; the package variables that it names begin as the program lays them. -/
namespace Go.Proofs.YtjbaebgdebcipaaGreatDoor.lawTexts
open Go.ChangeShapes Go.WideShapes Go.ChangeAt Go.RowKit

theorem own : ownKnob Tryz.prog.godebug = none := by kernel_rfl
theorem laidOut : laidOutB Tryz.prog = true := by kernel_rfl

set_option maxRecDepth 100000 in
theorem lifted (os : Os) (started : os.Started) (H : Type) (enc : TypeId × Value → H) :
    ReturnsInHanded {} Tryz.checked os 3 .any (fun w args => (Rows.fnTextsSpec.pre enc Tryz.prog Tryz.f3 [] false w args ∧ laidMetH Tryz.prog laid7 w) ∧ sizedMet enc Tryz.prog Tryz.f3 (OpenSpec.ofChange Rows.fnTextsSpec) false w args)
      (Rows.fnTextsSpec.post enc Tryz.prog Tryz.f3 false true false false) := by
  refine returnsInHanded_laid_shaped (C := Tryz.checked) (X := fun w _ => laidMetH Tryz.prog laid7 w) (fun _ _ _ hh h => h.of_heap hh) own started (by kernel_rfl) Tryz.func3
    (ChangeSpec.witness_shaped (enc := enc) (C := Tryz.checked) (os := os) (X := fun w _ => laidMetH Tryz.prog laid7 w) false (World.laidAll Tryz.prog os laid7) #[.slice none 0 0, .slice none 0 0] 8 (World.laidAll_os _ _ _) (World.shaped_of_ZipB (by kernel_rfl) (by kernel_rfl)) (by kernel_rfl) (by kernel_rfl) (by kernel_rfl) (lay_met os _)) ?_
  intro W base args ds gs before hval0 hW hsh hL
  have hval : ∀ (j : Nat) t v, Tryz.f3.params[j]? = some t → args[j]? = some v → Value.okWide Tryz.prog W .any base t v := hval0
  have hW' := hW
  obtain ⟨p, q, hA0, hV, rfl, hfz, hnd⟩ := hW
  have hA : DataW.TrodAll enc Tryz.prog W 0 (fun _ => true) true Tryz.f3.params.toList args.toList ds p := hA0
  rw [Tryz.params3] at hA hval
  obtain ⟨v0, vs0, d0, ds0, p0, q0, hargs, rfl, rfl, h0, r0⟩ := trodAll_cons hA
  obtain ⟨v1, vs1, d1, ds1, p1, q1, rfl, rfl, rfl, h1, r1⟩ := trodAll_cons r0
  obtain ⟨rfl, rfl, rfl⟩ := trodAll_nil r1
  obtain rfl : args = #[v0, v1] := by cases args; simp_all
  obtain ⟨rfl, rfl⟩ := trodVars_none hV
  have k0 := h0
  have lt0 : ∀ x ∈ p0, x.block < W.heap.size := by obtain ⟨m, hm⟩ := k0; exact DataW.trod_lt m _ _ _ hm
  have k1 := h1
  have lt1 : ∀ x ∈ p1, x.block < W.heap.size := by obtain ⟨m, hm⟩ := k1; exact DataW.trod_lt m _ _ _ hm
  obtain ⟨a0, len0, cap0, rfl⟩ := okWide_slice Tryz.underlying22 (hval 0 22 v0 rfl rfl)
  obtain ⟨m0, R0⟩ := open_bytes Tryz.underlying22 Tryz.underlying5 (by kernel_rfl) h0
  obtain ⟨a1, len1, cap1, rfl⟩ := okWide_slice Tryz.underlying22 (hval 1 22 v1 rfl rfl)
  obtain ⟨m1, R1⟩ := open_bytes Tryz.underlying22 Tryz.underlying5 (by kernel_rfl) h1
  clear hA0 hval0
  refine (lawTexts_any W _ _ _ _ R0 R1 m0 m1 (of_laidT hsh hL)).mono fun e W' ⟨he, bel⟩ => ?_
  subst he
  exact ⟨_, rfl, _, _, _, [], _, [], hW', trodAll_mk1 (shut_bool Tryz.underlying4 _), (trodAll_cons_mk (Below.trod laidOut (by kernel_rfl) (of_decide_eq_true (by kernel_rfl)) k0 bel lt0) (trodAll_cons_mk (Below.trod laidOut (by kernel_rfl) (of_decide_eq_true (by kernel_rfl)) k1 bel lt1) trodAll_mk0)), rfl, bel.frame _, fun h => by cases h⟩

theorem over : Rows.fnTextsRow.holds Tryz.pinned (OpenSpec.ofChange Rows.fnTextsSpec) :=
  OpenClaim.holds_of_wide 3 Tryz.f3 rfl rfl rfl rfl rfl rfl rfl ⟨rfl, rfl, rfl, rfl, rfl⟩ rfl rfl rfl rfl rfl (by kernel_rfl) Tryz.func3 (by kernel_rfl)
    (of_decide_eq_true (by kernel_rfl)) (by unfold Func.isWrapper; first | (rw [if_pos (by decide +kernel)]; kernel_rfl) | (rw [if_neg (by decide +kernel)]; exact ⟨rfl, rfl⟩))
    (fun os started H enc _ => lifted os started H enc)

/-- THE STATEMENT. -/
theorem proved : Rows.FnTextsSaid := over
end Go.Proofs.YtjbaebgdebcipaaGreatDoor.lawTexts

/- The tied card of FnTexts. -/
namespace Go.Proofs.YtjbaebgdebcipaaGreatDoor.lawTexts
open Go

theorem card : Rows.FnTextsCardSaid :=
  Claim7.holds_tied_plain_at .later [] [.data, .data, .data, .data, .sentinel, .sentinel, .pinned] true (true, "7d3e64b44cb7fd55683c551a4d0ee4d848a7a9faf8eb6d073ec546c05034f0f5") true
    proved (fun _ h => by cases h) (by kernel_rfl) (fun _ h => by cases h) fnTexts_row_tie rfl ⟨rfl, rfl⟩ (by kernel_rfl) rfl
    (fun f fn hf hfn => by
      obtain rfl : f = 3 := Option.some.inj ((show Tryz.prog.funcNamed "loop.example/g01231/laws.FnTexts" = some 3 by kernel_rfl).symm.trans hf) |>.symm
      obtain rfl : fn = Tryz.f3 := (Option.some.inj (Tryz.func3.symm.trans hfn)).symm
      exact ⟨by kernel_rfl, fun j t ht => by
        rw [Tryz.params3] at ht
        have hm : t ∈ [22, 22] := by simpa using Array.mem_of_getElem? ht
        have hall : ([22, 22].all fun u => !Tryz.prog.wantsStandIn u) = true := by kernel_rfl
        exact (show Tryz.prog.wantsStandIn t = false by simpa using List.all_eq_true.1 hall t hm)⟩)
    (by kernel_rfl)
end Go.Proofs.YtjbaebgdebcipaaGreatDoor.lawTexts

