/- Walks: texts of sections. -/
import Derived.Test.YtmicghcgljldpaaDoorW45
namespace Go.Proofs.YtmicghcgljldpaaDoor
open Go Go.RowKit

def twoB (a b : Nat) : List UInt8 := Lib.decDigits a ++ ([44] ++ Lib.decDigits b)
def sectionB (S : SM) : ByteArray := ⟨(twoB S.w.toNat S.d.toNat ++ [58] ++ numB S.V).toArray⟩

set_option maxRecDepth 100000 in
set_option maxHeartbeats 800000 in
theorem l01Text2_any (w : World) (g a b : Nat) (ca : w.cell? ⟨g, 0, none⟩ = some (.int .i64 a)) (cb : w.cell? ⟨g, 1, none⟩ = some (.int .i64 b)) (ha : a < 100) (hb : b < 100) :
    Calls Tryd.prog 58 #[.slice (some ⟨g, 0, none⟩) 2 2] w fun e w' => e = .returned (.string ⟨(twoB a b).toArray⟩) ∧ Below w.heap.size w w' := by
  have hg := block_lt ca
  have hA := decDigits_small a ha
  have hB := decDigits_small b hb
  have HE := Lib.hid (show (⟨(Lib.decDigits a).toArray⟩ : ByteArray) ++ ((⟨#[44]⟩ : ByteArray) ++ (⟨(Lib.decDigits b).toArray⟩ : ByteArray)) = ⟨(twoB a b).toArray⟩ by
    unfold twoB
    rw [← bytes_append, ← bytes_append])
  go_enter Tryd.func58, Tryd.ntmps58
  go_wp2_with fail
  refine (l01Dec_any w a (by omega)).mono ?_
  rintro e w1 ⟨rfl, b1⟩
  have d1 : w1.cell? ⟨g, 1, none⟩ = some (.int .i64 b) := by rw [(bcell b1).1 _ _ hg]; exact cb
  clear ca cb
  obtain ⟨A, hAA⟩ : ∃ S : ByteArray, (⟨(Lib.decDigits a).toArray⟩ : ByteArray) = S := ⟨_, rfl⟩
  obtain ⟨B, hBB⟩ : ∃ S : ByteArray, (⟨(Lib.decDigits b).toArray⟩ : ByteArray) = S := ⟨_, rfl⟩
  rw [hAA] at hA HE ⊢
  rw [hBB] at hB HE
  have HB := Lib.hid hBB
  clear hAA hBB
  go_wp2_with fail
  refine wp_loop_rounds 2 ?_
  rw [rounds_succ]
  go_wp2_with fail
  refine (l01Dec_any w1 b (by omega)).mono ?_
  rintro e w2 ⟨rfl, b2⟩
  rw [HB.out]
  clear d1
  go_wp2_with fail
  rw [rounds_succ]
  go_wp2
  go_ret
  refine ⟨?_, b1.trans (b2.mono b1.size)⟩
  rw [← HE.out]
  rfl

set_option maxRecDepth 100000 in
set_option maxHeartbeats 4000000 in
theorem l08Section_any (w : World) (g a b : Nat) (v : Value) (V : List Nat) (c0 : w.cell? ⟨g, 0, none⟩ = some (.int .i64 a)) (c1 : w.cell? ⟨g, 1, none⟩ = some (.int .i64 b)) (c2 : w.cell? ⟨g, 2, none⟩ = some v) (h : RdF w v V) (ha : a < 100) (hb : b < 100) (hm : V.length ≤ 1048576) :
    Calls Tryd.prog 31 #[.pointer (some ⟨g, 0, none⟩)] w fun e w' => e = .returned (.string (sectionB ⟨a, b, V⟩)) ∧ Below w.heap.size w w' := by
  have hg := block_lt c0
  have hV := numT_size V hm
  have hT : (⟨(twoB a b).toArray⟩ : ByteArray).size ≤ 5 := by
    have h1 := decDigits_small a ha
    have h2 := decDigits_small b hb
    have e : (⟨(twoB a b).toArray⟩ : ByteArray) = (⟨(Lib.decDigits a).toArray⟩ : ByteArray) ++ ((⟨#[44]⟩ : ByteArray) ++ (⟨(Lib.decDigits b).toArray⟩ : ByteArray)) := by
      unfold twoB
      rw [← bytes_append, ← bytes_append]
    rw [e, ByteArray.size_append, ByteArray.size_append]
    have h3 : (⟨#[44]⟩ : ByteArray).size = 1 := rfl
    omega
  have HE := Lib.hid (show (⟨(twoB a b).toArray⟩ : ByteArray) ++ (⟨#[58]⟩ : ByteArray) ++ numT V = sectionB ⟨a, b, V⟩ by
    unfold sectionB
    rw [numT_eq, bytes_append, bytes_append]
    rfl)
  have hal0 : ∀ W : World, (W.alloc (.cells #[.int .i64 a, .int .i64 b] 2)).cell? ⟨W.heap.size, 0, none⟩ = some (.int .i64 a) := fun W => cell_at 0 (alloc_new W _)
  have hal1 : ∀ W : World, (W.alloc (.cells #[.int .i64 a, .int .i64 b] 2)).cell? ⟨W.heap.size, 1, none⟩ = some (.int .i64 b) := fun W => cell_at 1 (alloc_new W _)
  have hbAl : Below w.heap.size w (w.alloc (.cells #[.int .i64 a, .int .i64 b] 2)) := (Below.refl _ _).alloc (Nat.le_refl _) _
  have Hal0 := Lib.hid hal0
  have Hal1 := Lib.hid hal1
  obtain ⟨a', c', rfl, -⟩ := h.opened
  clear hal0 hal1
  have KT : ∀ (w1 : World) (g1 : Nat), w1.cell? ⟨g1, 0, none⟩ = some (.int .i64 a) → w1.cell? ⟨g1, 1, none⟩ = some (.int .i64 b) → Calls Tryd.prog 58 #[.slice (some ⟨g1, 0, none⟩) 2 2] w1 fun e w' => e = .returned (.string ⟨(twoB a b).toArray⟩) ∧ Below w1.heap.size w1 w' := fun w1 g1 h h' => l01Text2_any w1 g1 a b h h' ha hb
  obtain ⟨D, hDe⟩ : ∃ D : ByteArray, (⟨(twoB a b).toArray⟩ : ByteArray) = D := ⟨_, rfl⟩
  obtain ⟨N, hNe⟩ : ∃ N : ByteArray, numT V = N := ⟨_, rfl⟩
  have KN : ∀ (w1 : World) (v : Value), RdF w1 v V → Calls Tryd.prog 52 #[v] w1 fun e w' => e = .returned (.string (numT V)) ∧ Below w1.heap.size w1 w' := fun w1 v h => l01NText_any w1 v V h hm
  rw [hDe] at hT KT HE
  rw [hNe] at hV HE KN
  go_enter Tryd.func31, Tryd.ntmps31
  go_upto_region 1 with fail
  go_cut [2] (fun s2 wx => s2 = .string (sectionB ⟨a, b, V⟩) ∧ Below w.heap.size w wx)
  case first =>
    go_region_with (first
      | (go_at_call 58; refine (KT _ _ (by exact Hal0.out w) (by exact Hal1.out w)).mono ?_; rintro e w1 ⟨rfl, b1⟩
         have e1 : Below w.heap.size w w1 := hbAl.trans (Below.mono (B := (w.alloc (.cells #[.int .i64 a, .int .i64 b] 2)).heap.size) ⟨b1.os, b1.tape, b1.output, b1.size, b1.block⟩ hbAl.size)
         replace c2 := ((bcell e1).1 _ _ hg).trans c2)
      | (go_at_call 52; refine (KN _ _ (by exact RdF.mono h (Below.curr e1 rfl rfl rfl rfl))).mono ?_; rintro e w2 ⟨rfl, b2⟩
         have e2 : Below w.heap.size w w2 := e1.trans (Below.mono (B := w1.heap.size) ⟨b2.os, b2.tape, b2.output, b2.size, b2.block⟩ e1.size)))
    all_goals (go_wp2_with fail; go_meet; exact ⟨by rw [← HE.out], e2⟩)
  case rest =>
  obtain ⟨rfl, b9⟩ := hcut
  go_wp2
  go_ret
  exact ⟨rfl, b9⟩

theorem validS_sides {S : SM} (h : validS S = true) : ∃ a b : Nat, S.w = a ∧ S.d = b ∧ a < 100 ∧ b < 100 := by
  unfold validS at h
  simp only [Bool.and_eq_true] at h
  obtain ⟨h1, h2, h3, h4⟩ := sizeB_bounds h.1
  exact ⟨S.w.toNat, S.d.toNat, by omega, by omega, by omega, by omega⟩

end Go.Proofs.YtmicghcgljldpaaDoor
