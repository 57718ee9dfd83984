/- Walks: l01Cut (a text cut at a mark). -/
import Derived.Test.YtjbaebgdebcipaaGreatDoorStrB
import Derived.Test.YtjbaebgdebcipaaGreatDoorCut
import Derived.Lib.Hide
namespace Go.Proofs.YtjbaebgdebcipaaGreatDoor
open Go Go.RowKit

theorem Tryz.infoSt : (Tryz.prog.info? 9).map (fun i => (i.zero, i.size, i.bytes)) = some (some (.string ⟨#[]⟩), 1, 16) := by kernel_rfl
theorem cutB_pos (m : UInt8) (s : ByteArray) : 0 < (cutB m s).length := by
  unfold cutB
  rw [List.length_map]
  exact List.length_pos_iff.2 (cutL_ne m _)
theorem byte_at {s : ByteArray} {j : Nat} (h : j < s.size) (m : UInt8) : (s.data.toList[j]? = some m) ↔ (s[j]'h).toNat = m.toNat := by
  have hj : j < s.data.toList.length := by rw [← Lib.size_eq]; exact h
  rw [List.getElem?_eq_getElem hj, Option.some.injEq, ← UInt8.toNat_inj]
  exact Iff.rfl
/-- The parts that have come at place j. -/
def CutAt (m : UInt8) (s : ByteArray) (a j : Nat) (pre : List ByteArray) : Prop :=
  (j ≤ s.size ∧ a ≤ j ∧ NoM m s a j ∧ pre ++ cutB m (s.extract a s.size) = cutB m s) ∨ (j = s.size + 1 ∧ pre = cutB m s)

set_option maxRecDepth 100000 in
set_option maxHeartbeats 1600000 in
theorem l01Cut_any (w : World) (s : ByteArray) (m : UInt8) (hs : s.size ≤ 1048576) :
    Calls Tryz.prog 49 #[.string s, .int .u8 m.toNat] w fun e w' => ∃ v, e = .returned v ∧ OwnStr w' w.heap.size v (cutB m s) ∧ Below w.heap.size w w' := by
  have hm := m.toNat_lt
  go_enter Tryz.func49, Tryz.ntmps49
  go_wp2_with fail
  go_loopw [5, 6, 7] (fun o f i wr => ∃ (j a : Nat) (pre : List ByteArray), i = .int .i64 j ∧ f = .int .i64 a ∧ CutAt m s a j pre ∧ OwnStr wr w.heap.size o pre ∧ Below w.heap.size w wr) (fun _ _ i _ => s.size + 1 - (intOf i).toNat)
  case atStart => exact ⟨0, 0, [], rfl, rfl, .inl ⟨Nat.zero_le _, Nat.le_refl _, NoM.nil _ _ _, by rw [extract_all]; rfl⟩, ⟨rfl, .inr ⟨w.heap.size, 0, #[], rfl, Nat.le_refl _, alloc_new _ _, Nat.le_refl _, by decide, rfl, rfl⟩⟩, (Below.refl _ _).alloc (Nat.le_refl _) _⟩
  case round =>
    obtain ⟨wi, rfl⟩ : ∃ wi : World, wi = wr := ⟨_, rfl⟩
    obtain ⟨j, a, pre, rfl, rfl, hst, ho, hb⟩ := hrel
    have Ho := Lib.hid ho
    clear ho
    have hsz := hb.size
    rcases hst with ⟨hj, ha, hn, hcut⟩ | ⟨rfl, hpre⟩
    · have hpl : pre.length ≤ 1048576 := by
        have h1 := congrArg List.length hcut
        rw [List.length_append] at h1
        have h2 := cutB_len m s
        have h3 := cutB_pos m (s.extract a s.size)
        omega
      by_cases hlt : j < s.size
      · by_cases hbm : (s[j]'hlt).toNat = m.toNat
        · have HB := (byte_at hlt m).2 hbm
          have HH : Hid (pre ++ [s.extract a j] ++ cutB m (s.extract (j + 1) s.size) = cutB m s) := Lib.hid (by rw [← hcut, cutB_hit hn ha HB, List.append_assoc]; rfl)
          clear HB hn hcut
          go_wp2_with (at_builtin; refine wpList_push1 rfl _ _ 74 9 rfl (.string ⟨#[]⟩) 16 Tryz.underlying74 Tryz.infoSt rfl (by decide) w.heap.size _ _ _ rfl (World.ownsRow.alloc Ho.out _) _ _ _ rfl (cell_new _ _ _) rfl hpl (by simp; omega) ?_; intro v2 w2 h2 g2 b2)
          refine ⟨⟨j + 1, j + 1, pre ++ [s.extract a j], by go_num, by go_num, .inl ⟨hlt, Nat.le_refl _, NoM.nil _ _ _, HH.out⟩, ?_, ?_⟩, by simp [intOf]; omega⟩
          · have := h2
            unfold OwnStr
            rw [List.map_append, List.length_append]
            exact this
          · exact hb.trans (((Below.refl _ _).alloc (by omega) _).trans b2)
        · have hbm' : ¬ ((s[j]'hlt).toNat : Int) = (m.toNat : Int) := by omega
          have HN : Hid (NoM m s a (j + 1)) := Lib.hid (hn.succ fun h => hbm ((byte_at hlt m).1 h))
          have HC := Lib.hid hcut
          have hjs : ((j : Int) == (s.size : Int)) = false := by rw [beq_eq_false_iff_ne]; omega
          have hbs : (((s[j]'hlt).toNat : Int) == (m.toNat : Int)) = false := by rw [beq_eq_false_iff_ne]; omega
          clear hn hcut hbm hbm'
          go_wp2
          exact ⟨⟨j + 1, a, pre, by go_num, rfl, .inl ⟨hlt, by omega, HN.out, HC.out⟩, Ho.out, hb⟩, by simp [intOf]; omega⟩
      · obtain rfl : j = s.size := by omega
        have HH : Hid (pre ++ [s.extract a s.size] = cutB m s) := Lib.hid (by rw [← hcut, cutB_end hn])
        clear hn hcut
        go_wp2_with (at_builtin; refine wpList_push1 rfl _ _ 74 9 rfl (.string ⟨#[]⟩) 16 Tryz.underlying74 Tryz.infoSt rfl (by decide) w.heap.size _ _ _ rfl (World.ownsRow.alloc Ho.out _) _ _ _ rfl (cell_new _ _ _) rfl hpl (by simp; omega) ?_; intro v2 w2 h2 g2 b2)
        refine ⟨⟨s.size + 1, s.size + 1, pre ++ [s.extract a s.size], by go_num, by go_num, .inr ⟨rfl, HH.out⟩, ?_, ?_⟩, by simp [intOf]⟩
        · have := h2
          unfold OwnStr
          rw [List.map_append, List.length_append]
          exact this
        · exact hb.trans (((Below.refl _ _).alloc (by omega) _).trans b2)
    · have HP := Lib.hid hpre
      clear hpre
      go_wp2
      go_ret
      exact ⟨_, rfl, by rw [← HP.out]; exact Ho.out, hb⟩
end Go.Proofs.YtjbaebgdebcipaaGreatDoor
