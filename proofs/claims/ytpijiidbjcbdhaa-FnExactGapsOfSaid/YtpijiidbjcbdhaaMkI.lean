/- Walks: marks that the laws set in lists of integers, and look for. -/
import Derived.Test.YtpijiidbjcbdhaaFrM
namespace Go.Proofs.Ytpijiidbjcbdhaa
open Go Go.RowKit

def marksI (k n : Nat) : List Int := (List.range n).map fun i => ((k + i : Nat) : Int)
theorem marksI_length (k n : Nat) : (marksI k n).length = n := by simp [marksI]
theorem marksI_at (k n i : Nat) (h : i < n) : inL (marksI k n) i = ((k + i : Nat) : Int) := by
  simp [inL, marksI, List.getD_eq_getElem?_getD, List.getElem?_map, List.getElem?_range h]
theorem cut_set (A L : List Int) (j : Nat) (hj : j < L.length) (hA : A.length = L.length) : (A.take j ++ L.drop j).set j (inL A j) = A.take (j + 1) ++ L.drop (j + 1) := by
  have h1 : (A.take j).length = j := by rw [List.length_take]; omega
  rw [List.set_append_right _ _ (by rw [h1]; exact Nat.le_refl _), h1, Nat.sub_self, drop_cons_inL hj, List.set_cons_zero]
  have h2 : A.take (j + 1) = A.take j ++ [inL A j] := by
    rw [List.take_add_one]
    congr 1
    unfold inL
    rw [List.getD_eq_getElem?_getD, List.getElem?_eq_getElem (by omega)]
    rfl
  rw [h2, List.append_assoc]
  rfl
theorem OwnI.form {w : World} {B : Nat} {v : Value} {L : List Int} (h : OwnI w B v L) :
    (v = .slice none 0 0 ∧ L = []) ∨ ∃ g cap, v = .slice (some ⟨g, 0, none⟩) L.length cap ∧ B ≤ g ∧ g < w.heap.size ∧ L.length ≤ cap ∧
      (∀ j, j < L.length → w.cell? ⟨g, j, none⟩ = some (.int .i64 (inL L j))) ∧ ∀ j, w.frozen? ⟨g, j, none⟩ = false := by
  have hown0 : w.ownsRow B 2 1 v L.length (L.map (Value.int .i64)) := h
  rcases hown0.2 with ⟨rfl, hn⟩ | ⟨g, cap, cur, rfl, hb, hg, hn, _⟩
  · exact .inl ⟨rfl, List.eq_nil_of_length_eq_zero hn⟩
  · refine .inr ⟨g, cap, rfl, hb, (hown0.lt g rfl).2, hn, fun j hj => ?_, fun j => hown0.frozenAt j⟩
    rw [hown0.cellAt j (by omega)]
    simp [inL, List.getD_eq_getElem?_getD, List.getElem?_map, List.getElem?_eq_getElem hj]
theorem OwnI.stored {w : World} {B g cap n : Nat} {L : List Int} (h : OwnI w B (.slice (some ⟨g, 0, none⟩) n cap) L) (hn : L.length = n) (j : Nat) (x : Int) :
    OwnI (w.setCell ⟨g, j, none⟩ (.int .i64 x)) B (.slice (some ⟨g, 0, none⟩) n cap) (L.set j x) := by
  subst hn
  have := (World.ownsRow.stored h j (.int .i64 x)).1
  unfold OwnI
  rw [List.length_set, List.map_set]
  exact this

set_option maxRecDepth 100000 in
set_option maxHeartbeats 800000 in
theorem markInt64S_any (w : World) (B : Nat) (v : Value) (L : List Int) (k : Nat) (hL : OwnI w B v L) (hmax : L.length ≤ 1048576) (hk : k ≤ 4503599627370496) :
    Calls Try.prog 27 #[v, .int .i64 k] w fun e w' => e = .returned (.int .i64 ((k + L.length : Nat) : Int)) ∧ OwnI w' B v (marksI k L.length) ∧ w.grownBy w' v.ownBlock := by
  rcases hL.form with ⟨rfl, rfl⟩ | ⟨g, cap, rfl, hg1, hg2, hcap, -, -⟩
  · go_enter Try.func27, Try.ntmps27
    go_wp2
    refine wp_loop_rounds 1 ?_
    rw [rounds_succ]
    go_wp2
    go_ret
    exact ⟨by simp, hL, World.grownBy.refl _ _⟩
  · go_enter Try.func27, Try.ntmps27
    go_wp2
    go_loopw [1, 5] (fun q i wr => ∃ j : Nat, j ≤ L.length ∧ i = .int .i64 j ∧ q = .int .i64 ((k + j : Nat) : Int) ∧ OwnI wr B (.slice (some ⟨g, 0, none⟩) L.length cap) ((marksI k L.length).take j ++ L.drop j) ∧ w.grownBy wr (some g)) (fun _ i _ => L.length - (intOf i).toNat)
    case atStart => exact ⟨0, Nat.zero_le _, rfl, rfl, by simpa using hL, World.grownBy.refl _ _⟩
    case round =>
      obtain ⟨j, hj, rfl, rfl, ho, hgw⟩ := hrel
      have hlm : ((marksI k L.length).take j ++ L.drop j).length = L.length := by rw [List.length_append, List.length_take, List.length_drop, marksI_length]; omega
      by_cases hlt : j < L.length
      · rcases ho.form with ⟨hv, -⟩ | ⟨g', cap', hv, -, -, -, hcl, hfr⟩
        · cases hv
        · rw [hlm] at hv hcl
          obtain rfl : g = g' := by cases hv; rfl
          have c3 := hcl j hlt
          have hfj := hfr j
          have ho' := Lib.hid ho
          have Hlm := Lib.hid hlm
          have ec : inL (List.take j (marksI k L.length) ++ List.drop j L) j = inL L j := by
            unfold inL
            rw [List.getD_eq_getElem?_getD, List.getElem?_append_right (by rw [List.length_take]; omega), List.length_take, marksI_length, Nat.min_eq_left (by omega), Nat.sub_self, List.getElem?_drop]
            rfl
          rw [ec] at c3
          clear ho hcl hfr hL hv hlm ec
          go_wp2
          refine ⟨⟨j + 1, by omega, by go_num, by go_num, ?_, grownBy_trans hgw (grownBy_setCell _ _ _ _)⟩, by simp [intOf]; omega⟩
          rw [← cut_set _ _ _ hlt (marksI_length _ _), marksI_at _ _ _ hlt]
          exact ho'.out.stored Hlm.out _ _
      · obtain rfl : j = L.length := by omega
        go_wp2
        go_ret
        rw [List.drop_length, List.append_nil, List.take_of_length_le (by rw [marksI_length]; exact Nat.le_refl _)] at ho
        refine ⟨rfl, ?_, hgw⟩
        exact ho

set_option maxRecDepth 100000 in
set_option maxHeartbeats 800000 in
theorem heldInt64S_any (w : World) (v : Value) (k n : Nat) (hL : RdI w v (marksI k n)) (hmax : n ≤ 1048576) (hk : k ≤ 4503599627370496) :
    Calls Try.prog 28 #[v, .int .i64 k] w fun e w' => e = .returned (.int .i64 ((k + n : Nat) : Int)) ∧ w' = w := by
  obtain ⟨a, c, hv, hc, hz, hcell⟩ := hL.opened
  rw [marksI_length] at hv hc hcell
  subst hv
  clear hz hL
  go_enter Try.func28, Try.ntmps28
  go_wp2
  go_loop [1, 5] (fun q i => ∃ j : Nat, j ≤ n ∧ i = .int .i64 j ∧ q = .int .i64 ((k + j : Nat) : Int)) (fun _ i => n - (intOf i).toNat)
  case atStart => exact ⟨0, Nat.zero_le _, rfl, rfl⟩
  case round =>
    obtain ⟨j, hj, rfl, rfl⟩ := hrel
    by_cases hlt : j < n
    · obtain ⟨b, o, rfl, hlb, c1⟩ := hcell j hlt
      rw [marksI_at _ _ _ hlt] at c1
      clear hcell
      have ec : ((k + j : Nat) : Int) = (k : Int) + (j : Int) := by omega
      rw [ec] at c1
      clear ec
      go_wp2
      exact ⟨⟨j + 1, by omega, by go_num, by go_num⟩, by simp [intOf]; omega⟩
    · obtain rfl : j = n := by omega
      go_wp2
      go_ret
      exact ⟨rfl, rfl⟩
end Go.Proofs.Ytpijiidbjcbdhaa
