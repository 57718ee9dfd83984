/- Walks: the digits of a number: the reference's. -/
import Derived.Test.YtmicghcgljldpaaDoorStr
import Derived.Test.YtmicghcgljldpaaDoorW16
namespace Go.Proofs.YtmicghcgljldpaaDoor
open Go Go.RowKit

theorem Tryd.infoU8 : (Tryd.prog.info? 5).map (fun i => (i.zero, i.size, i.bytes)) = some (some (.int .u8 0), 1, 1) := by kernel_rfl

set_option maxRecDepth 100000 in
set_option maxHeartbeats 800000 in
theorem l01Hex_any (w : World) (r x : Nat) (hr : FV .f32 r x) :
    Calls Tryd.prog 80 #[.float .f32 r] w fun e w' => e = .returned (.string (hexT x)) ∧ Below w.heap.size w w' := by
  have hx : x < 4294967296 := hr.lt
  go_enter Tryd.func80, Tryd.ntmps80
  go_wp2_with fail
  refine (l01Bits_any w r x hr).mono ?_
  rintro e w1 ⟨rfl, rfl⟩
  have hown0 : OwnB (w1.alloc (.cells #[] 5)) w1.heap.size (.slice (some ⟨w1.heap.size, 0, none⟩) 0 0) [] := World.ownsRow_lit w1 #[] 0 (Nat.le_refl _) (by decide) rfl
  have hb0 : Below w1.heap.size w1 (w1.alloc (.cells #[] 5)) := (Below.refl _ _).alloc (Nat.le_refl _) _
  go_wp2_with fail
  go_loopw [4, 5] (fun v k wr => ∃ j : Nat, j ≤ 8 ∧ k = .int .i64 (28 - 4 * (j : Int)) ∧ OwnB wr w1.heap.size v (digs j (x / 16 ^ (8 - j))) ∧ Below w1.heap.size w1 wr) (fun _ k _ => (intOf k + 4).toNat)
  case atStart => exact ⟨0, by omega, rfl, hown0, hb0⟩
  case round =>
    obtain ⟨wi, rfl⟩ : ∃ wi : World, wi = wr := ⟨_, rfl⟩
    obtain ⟨j, hj, rfl, ho, hb⟩ := hrel
    clear hown0 hb0
    by_cases hlt : j < 8
    · have hcase : j = 0 ∨ j = 1 ∨ j = 2 ∨ j = 3 ∨ j = 4 ∨ j = 5 ∨ j = 6 ∨ j = 7 := by omega
      rcases hcase with rfl | rfl | rfl | rfl | rfl | rfl | rfl | rfl
      · change OwnB wi _ _ (digs 0 (x / 4294967296)) at ho
        obtain ⟨d, hd⟩ : ∃ d : Nat, x / 268435456 % 16 = d := ⟨_, rfl⟩
        have hd16 : d < 16 := by omega
        have hbits : bits .and .i64 ((x : Int) / 268435456) 15 = (d : Int) := by
          have h1 := and15 (x / 268435456) (by omega)
          rw [hd] at h1
          rw [← h1]
          congr 1
        have hdig := digAt d hd16
        have hs := hb.size
        have Ho := Lib.hid ho
        have Hd := Lib.hid hd
        clear ho hd
        go_wp2_with (at_builtin; refine wpList_push1 rfl _ _ 123 5 rfl (.int .u8 0) 1 Tryd.underlying123 Tryd.infoU8 rfl (by decide) w1.heap.size _ _ _ rfl (World.ownsRow.alloc Ho.out _) _ _ _ rfl (cell_new _ _ _) rfl (by rw [digs_length]; decide) (by simp; omega) ?_; intro v2 w2 h2 g2 b2)
        have e : digs 1 (x / 268435456) = digs 0 (x / 4294967296) ++ [digH d] := by rw [← Hd.out]; rfl
        refine ⟨⟨1, by omega, rfl, ?_, (hb.alloc hb.size _).trans b2⟩, by simp [intOf]⟩
        change OwnB _ _ _ (digs 1 (x / 268435456))
        unfold OwnB
        rw [e, List.map_append, List.length_append]
        exact h2
      · change OwnB wi _ _ (digs 1 (x / 268435456)) at ho
        obtain ⟨d, hd⟩ : ∃ d : Nat, x / 16777216 % 16 = d := ⟨_, rfl⟩
        have hd16 : d < 16 := by omega
        have hbits : bits .and .i64 ((x : Int) / 16777216) 15 = (d : Int) := by
          have h1 := and15 (x / 16777216) (by omega)
          rw [hd] at h1
          rw [← h1]
          congr 1
        have hdig := digAt d hd16
        have hs := hb.size
        have Ho := Lib.hid ho
        have Hd := Lib.hid hd
        clear ho hd
        go_wp2_with (at_builtin; refine wpList_push1 rfl _ _ 123 5 rfl (.int .u8 0) 1 Tryd.underlying123 Tryd.infoU8 rfl (by decide) w1.heap.size _ _ _ rfl (World.ownsRow.alloc Ho.out _) _ _ _ rfl (cell_new _ _ _) rfl (by rw [digs_length]; decide) (by simp; omega) ?_; intro v2 w2 h2 g2 b2)
        have e : digs 2 (x / 16777216) = digs 1 (x / 268435456) ++ [digH d] := by rw [digs, Hd.out, Nat.div_div_eq_div_mul]
        refine ⟨⟨2, by omega, rfl, ?_, (hb.alloc hb.size _).trans b2⟩, by simp [intOf]⟩
        change OwnB _ _ _ (digs 2 (x / 16777216))
        unfold OwnB
        rw [e, List.map_append, List.length_append]
        exact h2
      · change OwnB wi _ _ (digs 2 (x / 16777216)) at ho
        obtain ⟨d, hd⟩ : ∃ d : Nat, x / 1048576 % 16 = d := ⟨_, rfl⟩
        have hd16 : d < 16 := by omega
        have hbits : bits .and .i64 ((x : Int) / 1048576) 15 = (d : Int) := by
          have h1 := and15 (x / 1048576) (by omega)
          rw [hd] at h1
          rw [← h1]
          congr 1
        have hdig := digAt d hd16
        have hs := hb.size
        have Ho := Lib.hid ho
        have Hd := Lib.hid hd
        clear ho hd
        go_wp2_with (at_builtin; refine wpList_push1 rfl _ _ 123 5 rfl (.int .u8 0) 1 Tryd.underlying123 Tryd.infoU8 rfl (by decide) w1.heap.size _ _ _ rfl (World.ownsRow.alloc Ho.out _) _ _ _ rfl (cell_new _ _ _) rfl (by rw [digs_length]; decide) (by simp; omega) ?_; intro v2 w2 h2 g2 b2)
        have e : digs 3 (x / 1048576) = digs 2 (x / 16777216) ++ [digH d] := by rw [digs, Hd.out, Nat.div_div_eq_div_mul]
        refine ⟨⟨3, by omega, rfl, ?_, (hb.alloc hb.size _).trans b2⟩, by simp [intOf]⟩
        change OwnB _ _ _ (digs 3 (x / 1048576))
        unfold OwnB
        rw [e, List.map_append, List.length_append]
        exact h2
      · change OwnB wi _ _ (digs 3 (x / 1048576)) at ho
        obtain ⟨d, hd⟩ : ∃ d : Nat, x / 65536 % 16 = d := ⟨_, rfl⟩
        have hd16 : d < 16 := by omega
        have hbits : bits .and .i64 ((x : Int) / 65536) 15 = (d : Int) := by
          have h1 := and15 (x / 65536) (by omega)
          rw [hd] at h1
          rw [← h1]
          congr 1
        have hdig := digAt d hd16
        have hs := hb.size
        have Ho := Lib.hid ho
        have Hd := Lib.hid hd
        clear ho hd
        go_wp2_with (at_builtin; refine wpList_push1 rfl _ _ 123 5 rfl (.int .u8 0) 1 Tryd.underlying123 Tryd.infoU8 rfl (by decide) w1.heap.size _ _ _ rfl (World.ownsRow.alloc Ho.out _) _ _ _ rfl (cell_new _ _ _) rfl (by rw [digs_length]; decide) (by simp; omega) ?_; intro v2 w2 h2 g2 b2)
        have e : digs 4 (x / 65536) = digs 3 (x / 1048576) ++ [digH d] := by rw [digs, Hd.out, Nat.div_div_eq_div_mul]
        refine ⟨⟨4, by omega, rfl, ?_, (hb.alloc hb.size _).trans b2⟩, by simp [intOf]⟩
        change OwnB _ _ _ (digs 4 (x / 65536))
        unfold OwnB
        rw [e, List.map_append, List.length_append]
        exact h2
      · change OwnB wi _ _ (digs 4 (x / 65536)) at ho
        obtain ⟨d, hd⟩ : ∃ d : Nat, x / 4096 % 16 = d := ⟨_, rfl⟩
        have hd16 : d < 16 := by omega
        have hbits : bits .and .i64 ((x : Int) / 4096) 15 = (d : Int) := by
          have h1 := and15 (x / 4096) (by omega)
          rw [hd] at h1
          rw [← h1]
          congr 1
        have hdig := digAt d hd16
        have hs := hb.size
        have Ho := Lib.hid ho
        have Hd := Lib.hid hd
        clear ho hd
        go_wp2_with (at_builtin; refine wpList_push1 rfl _ _ 123 5 rfl (.int .u8 0) 1 Tryd.underlying123 Tryd.infoU8 rfl (by decide) w1.heap.size _ _ _ rfl (World.ownsRow.alloc Ho.out _) _ _ _ rfl (cell_new _ _ _) rfl (by rw [digs_length]; decide) (by simp; omega) ?_; intro v2 w2 h2 g2 b2)
        have e : digs 5 (x / 4096) = digs 4 (x / 65536) ++ [digH d] := by rw [digs, Hd.out, Nat.div_div_eq_div_mul]
        refine ⟨⟨5, by omega, rfl, ?_, (hb.alloc hb.size _).trans b2⟩, by simp [intOf]⟩
        change OwnB _ _ _ (digs 5 (x / 4096))
        unfold OwnB
        rw [e, List.map_append, List.length_append]
        exact h2
      · change OwnB wi _ _ (digs 5 (x / 4096)) at ho
        obtain ⟨d, hd⟩ : ∃ d : Nat, x / 256 % 16 = d := ⟨_, rfl⟩
        have hd16 : d < 16 := by omega
        have hbits : bits .and .i64 ((x : Int) / 256) 15 = (d : Int) := by
          have h1 := and15 (x / 256) (by omega)
          rw [hd] at h1
          rw [← h1]
          congr 1
        have hdig := digAt d hd16
        have hs := hb.size
        have Ho := Lib.hid ho
        have Hd := Lib.hid hd
        clear ho hd
        go_wp2_with (at_builtin; refine wpList_push1 rfl _ _ 123 5 rfl (.int .u8 0) 1 Tryd.underlying123 Tryd.infoU8 rfl (by decide) w1.heap.size _ _ _ rfl (World.ownsRow.alloc Ho.out _) _ _ _ rfl (cell_new _ _ _) rfl (by rw [digs_length]; decide) (by simp; omega) ?_; intro v2 w2 h2 g2 b2)
        have e : digs 6 (x / 256) = digs 5 (x / 4096) ++ [digH d] := by rw [digs, Hd.out, Nat.div_div_eq_div_mul]
        refine ⟨⟨6, by omega, rfl, ?_, (hb.alloc hb.size _).trans b2⟩, by simp [intOf]⟩
        change OwnB _ _ _ (digs 6 (x / 256))
        unfold OwnB
        rw [e, List.map_append, List.length_append]
        exact h2
      · change OwnB wi _ _ (digs 6 (x / 256)) at ho
        obtain ⟨d, hd⟩ : ∃ d : Nat, x / 16 % 16 = d := ⟨_, rfl⟩
        have hd16 : d < 16 := by omega
        have hbits : bits .and .i64 ((x : Int) / 16) 15 = (d : Int) := by
          have h1 := and15 (x / 16) (by omega)
          rw [hd] at h1
          rw [← h1]
          congr 1
        have hdig := digAt d hd16
        have hs := hb.size
        have Ho := Lib.hid ho
        have Hd := Lib.hid hd
        clear ho hd
        go_wp2_with (at_builtin; refine wpList_push1 rfl _ _ 123 5 rfl (.int .u8 0) 1 Tryd.underlying123 Tryd.infoU8 rfl (by decide) w1.heap.size _ _ _ rfl (World.ownsRow.alloc Ho.out _) _ _ _ rfl (cell_new _ _ _) rfl (by rw [digs_length]; decide) (by simp; omega) ?_; intro v2 w2 h2 g2 b2)
        have e : digs 7 (x / 16) = digs 6 (x / 256) ++ [digH d] := by rw [digs, Hd.out, Nat.div_div_eq_div_mul]
        refine ⟨⟨7, by omega, rfl, ?_, (hb.alloc hb.size _).trans b2⟩, by simp [intOf]⟩
        change OwnB _ _ _ (digs 7 (x / 16))
        unfold OwnB
        rw [e, List.map_append, List.length_append]
        exact h2
      · change OwnB wi _ _ (digs 7 (x / 16)) at ho
        obtain ⟨d, hd⟩ : ∃ d : Nat, x % 16 = d := ⟨_, rfl⟩
        have hd16 : d < 16 := by omega
        have hbits : bits .and .i64 ((x : Int)) 15 = (d : Int) := by
          have h1 := and15 (x) (by omega)
          rw [hd] at h1
          rw [← h1]
        have hdig := digAt d hd16
        have hs := hb.size
        have Ho := Lib.hid ho
        have Hd := Lib.hid hd
        clear ho hd
        go_wp2_with (at_builtin; refine wpList_push1 rfl _ _ 123 5 rfl (.int .u8 0) 1 Tryd.underlying123 Tryd.infoU8 rfl (by decide) w1.heap.size _ _ _ rfl (World.ownsRow.alloc Ho.out _) _ _ _ rfl (cell_new _ _ _) rfl (by rw [digs_length]; decide) (by simp; omega) ?_; intro v2 w2 h2 g2 b2)
        have e : digs 8 (x) = digs 7 (x / 16) ++ [digH d] := by rw [digs, Hd.out]
        refine ⟨⟨8, by omega, rfl, ?_, (hb.alloc hb.size _).trans b2⟩, by simp [intOf]⟩
        change OwnB _ _ _ (digs 8 (x / 1))
        rw [Nat.div_one]
        unfold OwnB
        rw [e, List.map_append, List.length_append]
        exact h2
    · obtain rfl : j = 8 := by omega
      change OwnB wi _ _ (digs 8 (x / 1)) at ho
      rw [Nat.div_one] at ho
      obtain ⟨g, cap, rfl, -, hc⟩ := ho.form (by intro h; have := congrArg List.length h; rw [digs_length] at this; cases this)
      have hcv := run_convert_bytes_back (P := Tryd.prog) wi 123 9 5 ⟨g, 0, none⟩ cap (digs 8 x) Tryd.underlying123 Tryd.underlying5 Tryd.underlying9 hc
      clear hc
      go_wp2
      go_ret
      exact ⟨rfl, hb⟩
end Go.Proofs.YtmicghcgljldpaaDoor
