/- Walks: the text of a ground: the program's. -/
import Derived.Test.YtmicghcgljldpaaDoorW39
namespace Go.Proofs.YtmicghcgljldpaaDoor
open Go Go.RowKit

set_option maxRecDepth 100000 in
set_option maxHeartbeats 800000 in
theorem layText_any (w : World) (r0 r1 r2 r3 x0 x1 x2 x3 : Nat) (f0 : FV .f32 r0 x0) (f1 : FV .f32 r1 x1) (f2 : FV .f32 r2 x2) (f3 : FV .f32 r3 x3) (hT : Tab16 w) :
    Calls Tryd.prog 70 #[.agg #[.float .f32 r0, .float .f32 r1, .float .f32 r2, .float .f32 r3]] w fun e w' => e = .returned (.string (numT [x0, x1, x2, x3])) ∧ Below w.heap.size w w' := by
  have hb0 : Below w.heap.size w ((w.alloc (.cells #[.float .f32 r0, .float .f32 r1, .float .f32 r2, .float .f32 r3] 102)).alloc (.cells #[.float .f32 r0, .float .f32 r1, .float .f32 r2, .float .f32 r3] 22)) := by (repeat (first | exact Below.refl _ _ | (refine Below.drewN ?_ _) | (refine Below.alloc ?_ (by first | exact Nat.le_refl _ | (simp; done) | (simp; omega)) _)))
  have hh := heap2 w (.cells #[.float .f32 r0, .float .f32 r1, .float .f32 r2, .float .f32 r3] 102) (.cells #[.float .f32 r0, .float .f32 r1, .float .f32 r2, .float .f32 r3] 22)
  have hR := rd4 hh.2 f0 f1 f2 f3
  go_enter Tryd.func70, Tryd.ntmps70
  go_wp2_with fail
  refine (numbers_any _ _ [x0, x1, x2, x3] hR (by simp) (hT.mono hb0)).mono ?_
  rintro e w1 ⟨rfl, b1⟩
  go_wp2
  go_ret
  exact ⟨rfl, hb0.trans (b1.mono hb0.size)⟩

set_option maxRecDepth 100000 in
set_option maxHeartbeats 1600000 in
theorem joinedLay_any (w : World) (v : Value) (n : Nat) (L : List Nat) (h : RdLay w v n L) (hl : 0 < n) (hm : n ≤ 1048576) (hT : Tab16 w) :
    Calls Tryd.prog 69 #[v, .string ⟨#[47]⟩, .func (.func 70) #[] #[]] w fun e w' => e = .returned (.string ⟨(rowsT (layB L) 47 n).toArray⟩) ∧ Below w.heap.size w w' := by
  have hst := run_store_float (P := Tryd.prog)
  obtain ⟨a, c, rfl, hc, -, hcell⟩ := h.opened
  have HT := Lib.hid hT
  clear h hT
  have hown0 : OwnStr w w.heap.size (.slice none 0 0) [] := World.ownsRow_nil _ _ _ _
  go_enter Tryd.func69, Tryd.ntmps69
  go_wp2_with fail
  go_loopw [7, 9, 12] (fun u _ i wr => ∃ j : Nat, j ≤ n ∧ i = .int .i64 j ∧ OwnStr wr w.heap.size u ((List.range j).map fun i => numT (lay4L L i)) ∧ Below w.heap.size w wr) (fun _ _ i _ => n - (intOf i).toNat)
  case atStart => exact ⟨0, Nat.zero_le _, rfl, hown0, Below.refl _ _⟩
  case round =>
    obtain ⟨wi, rfl⟩ : ∃ wi : World, wi = wr := ⟨_, rfl⟩
    obtain ⟨j, hj, rfl, ho, hb⟩ := hrel
    by_cases hlt : j < n
    · obtain ⟨b, o, r0, r1, r2, r3, rfl, hlb, d0, d1, d2, d3, p0, p1, p2, p3⟩ := hcell j hlt
      have q0 : wi.cell? ⟨b, o + j * 4, none⟩ = some (.float .f32 r0) := by rw [(bcell hb).1 _ _ hlb]; exact d0
      have q1 : wi.cell? ⟨b, o + j * 4 + 1, none⟩ = some (.float .f32 r1) := by rw [(bcell hb).1 _ _ hlb]; exact d1
      have q2 : wi.cell? ⟨b, o + j * 4 + 2, none⟩ = some (.float .f32 r2) := by rw [(bcell hb).1 _ _ hlb]; exact d2
      have q3 : wi.cell? ⟨b, o + j * 4 + 3, none⟩ = some (.float .f32 r3) := by rw [(bcell hb).1 _ _ hlb]; exact d3
      have hb1 : Below w.heap.size w (wi.alloc (.cells #[.float .f32 r0, .float .f32 r1, .float .f32 r2, .float .f32 r3] 102)) := hb.alloc hb.size _
      have Ho := Lib.hid (OwnStr.kept ho ((Below.refl wi.heap.size wi).alloc (Nat.le_refl _) (.cells #[.float .f32 r0, .float .f32 r1, .float .f32 r2, .float .f32 r3] 102)))
      have HT2 := Lib.hid (HT.out.mono hb1)
      clear hcell d0 d1 d2 d3 ho hown0
      go_wp2_with fail
      refine (layText_any _ r0 r1 r2 r3 _ _ _ _ p0 p1 p2 p3 HT2.out).mono ?_
      rintro e w2 ⟨rfl, b2⟩
      have hb2 := hb1.trans (b2.mono hb1.size)
      have Ho2 := Lib.hid (OwnStr.kept Ho.out b2)
      clear q0 q1 q2 q3
      go_wp2_with (at_builtin; refine wpList_push1 rfl _ _ 118 9 rfl (.string ⟨#[]⟩) 16 Tryd.underlying118 Tryd.infoStr rfl (by decide) w.heap.size _ _ _ rfl (World.ownsRow.alloc Ho2.out _) _ _ _ rfl (cell_new _ _ _) rfl (by rw [List.length_map, List.length_range]; omega) (by have := hb2.size; simp; omega) ?_; intro v2 w3 h2 g2 b3)
      refine ⟨⟨j + 1, by omega, by go_num, ?_, (hb2.alloc hb2.size _).trans b3⟩, by simp [intOf]; omega⟩
      unfold OwnStr
      rw [List.range_succ, List.map_append, List.map_append, List.length_append]
      exact h2
    · obtain rfl : j = n := by omega
      obtain ⟨g, cap, rfl, hg, hg2, hcap, hcells⟩ := ho.form (by simpa using hl)
      have htxt : Lib.join (((List.range j).map fun i => numT (lay4L L i)).map (·.data.toList)) (⟨#[47]⟩ : ByteArray).data.toList = rowsT (layB L) 47 j := by
        unfold rowsT
        rw [List.map_map]
        rfl
      have hlen := rowsT_length (layB L) 47 j 35 fun i _ => Nat.le_of_eq (layB_length L i)
      have hmul : j * 36 ≤ 1048576 * 36 := Nat.mul_le_mul_right _ (by omega)
      have hj : Calls Tryd.prog 82 #[.slice (some ⟨g, 0, none⟩) ((List.range j).map fun i => numT (lay4L L i)).length cap, .string ⟨#[47]⟩] wi fun e w' => e = .returned (.string ⟨(rowsT (layB L) 47 j).toArray⟩) ∧ Below wi.heap.size wi w' := by
        rw [← htxt]
        exact Tryd.strings_Join g 0 cap ((List.range j).map fun i => numT (lay4L L i)) ⟨#[47]⟩ wi hcells hg2 (by simp; omega) hcap (by rw [htxt]; omega)
      rw [List.length_map, List.length_range] at hj ⊢
      have Hj := Lib.hid hj
      clear hj htxt hcells ho hown0 hcell hlen hmul
      go_wp2_with fail
      refine Hj.out.mono ?_
      rintro e w2 ⟨rfl, b2⟩
      go_wp2
      go_ret
      exact ⟨rfl, hb.trans (b2.mono hb.size)⟩
end Go.Proofs.YtmicghcgljldpaaDoor
