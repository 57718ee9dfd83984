/- Walks: the text of a number's bits: the program's. -/
import Derived.Test.YtlpmkgcknopgoaaGreatDoorHexF
import Derived.Test.YtlpmkgcknopgoaaGreatDoorShelf9
namespace Go.Proofs.YtlpmkgcknopgoaaGreatDoor
open Go Go.RowKit

theorem bytes_append (a b : List UInt8) : (⟨a.toArray⟩ : ByteArray) ++ (⟨b.toArray⟩ : ByteArray) = ⟨(a ++ b).toArray⟩ := by
  apply ByteArray.ext
  simp [ByteArray.data_append]

set_option maxRecDepth 100000 in
set_option maxHeartbeats 800000 in
theorem bitsText_any (w : World) (r x : Nat) (hr : FV .f32 r x) (hT : w.cell? ⟨8, 15, none⟩ = some (.int .u8 4)) :
    Calls Tryz.prog 68 #[.float .f32 r] w fun e w' => e = .returned (.string (hexT x)) ∧ Below w.heap.size w w' := by
  have hx : x < 4294967296 := hr.lt
  go_enter Tryz.func68, Tryz.ntmps68
  go_wp2_with fail
  refine (bitsOf_any w r x hr).mono ?_
  rintro e w1 ⟨rfl, rfl⟩
  go_wp2_with fail
  refine (formatInt16_any w1 x hx hT).mono ?_
  rintro e w2 ⟨k, hk, hk2, rfl, b2⟩
  have hsz : (⟨(digs (k + 1) x).toArray⟩ : ByteArray).size = k + 1 := by
    show (digs (k + 1) x).toArray.size = k + 1
    rw [List.size_toArray, digs_length]
  obtain ⟨c, hc⟩ : ∃ c, c + (k + 1) = 8 := ⟨7 - k, by omega⟩
  have hc2 : (8 : Int) - ((k : Int) + 1) = (c : Int) := by omega
  have hz : x / 16 ^ (k + 1) = 0 := by
    rw [Nat.pow_succ, ← Nat.div_div_eq_div_mul]
    exact Nat.div_eq_of_lt hk2
  have ht : (⟨(Lib.repeatL [48] c).toArray⟩ : ByteArray) ++ (⟨(digs (k + 1) x).toArray⟩ : ByteArray) = hexT x := by
    have hr : ∀ n, Lib.repeatL [48] n = List.replicate n 48 := fun n => by
      induction n with
      | zero => rfl
      | succ n ih => rw [Lib.repeatL, ih, List.replicate_succ]; rfl
    rw [bytes_append, hr, ← digs_zero, ← hz, ← digs_split, hc]
    rfl
  have hc8 : c ≤ 8 := by omega
  have hrep : ∀ w2, Calls Tryz.prog 89 #[.string ⟨#[48]⟩, .int .i64 c] w2 fun e w' => e = .returned (.string ⟨(Lib.repeatL [48] c).toArray⟩) ∧ Below w2.heap.size w2 w' := fun w2 => Tryz.strings_Repeat ⟨#[48]⟩ c w2 (by omega) (by show 1 * c ≤ 140737488355328; omega)
  have hs1 : (⟨(Lib.repeatL [48] c).toArray⟩ : ByteArray).size = c := by
    show (Lib.repeatL [48] c).toArray.size = c
    rw [List.size_toArray, Lib.repeatL_length, List.length_singleton, Nat.mul_one]
  obtain ⟨S1, hS1⟩ : ∃ S : ByteArray, (⟨(Lib.repeatL [48] c).toArray⟩ : ByteArray) = S := ⟨_, rfl⟩
  obtain ⟨S2, hS2⟩ : ∃ S : ByteArray, (⟨(digs (k + 1) x).toArray⟩ : ByteArray) = S := ⟨_, rfl⟩
  rw [hS1] at hrep hs1 ht
  rw [hS2] at hsz ht ⊢
  have Hrep := Lib.hid hrep
  have HT := Lib.hid ht
  clear hk hk2 hc hz ht hrep hS1 hS2
  go_wp2_with fail
  refine (Hrep.out w2).mono ?_
  rintro e w3 ⟨rfl, b3⟩
  go_wp2
  go_ret
  exact ⟨by rw [← HT.out]; rfl, b2.trans (b3.mono b2.size)⟩
end Go.Proofs.YtlpmkgcknopgoaaGreatDoor
