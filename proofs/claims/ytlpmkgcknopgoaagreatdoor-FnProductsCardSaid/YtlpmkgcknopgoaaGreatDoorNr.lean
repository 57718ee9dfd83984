/- Walks: impl.ReadNumbers, impl.exactly; spec.l01NRead. -/
import Derived.Test.YtlpmkgcknopgoaaGreatDoorRn
import Derived.Test.YtlpmkgcknopgoaaGreatDoorCutW
namespace Go.Proofs.YtlpmkgcknopgoaaGreatDoor
open Go Go.RowKit

set_option maxRecDepth 100000 in
set_option maxHeartbeats 800000 in
theorem readNumbers_any (w : World) (t : ByteArray) (hmax : t.size ≤ 1048576) (hD : Dr w) :
    Calls Tryz.prog 32 #[.string t] w fun e w' => ∃ u, e = .returned u ∧ RnRes 256 w.heap.size t w' u ∧ Below w.heap.size w w' := by
  have HR := Lib.hid (readTextsF_any w t hmax hD)
  clear hD
  go_enter Tryz.func32, Tryz.ntmps32
  go_wp2_with fail
  refine HR.out.mono ?_
  clear HR
  rintro e w1 ⟨u, rfl, hu, b1⟩
  have B1 := Lib.hid b1
  clear b1
  rcases hu with ⟨L, v, hL, rfl, ho⟩ | ⟨hL, rfl⟩
  · have HL := Lib.hid hL
    have HO := Lib.hid ho
    clear hL ho
    go_wp2
    go_ret2
    exact ⟨_, rfl, .inl ⟨L, v, HL.out, rfl, HO.out⟩, B1.out⟩
  · have HL := Lib.hid hL
    clear hL
    go_wp2
    go_ret2
    exact ⟨_, rfl, .inr ⟨HL.out, rfl⟩, B1.out⟩
/-- A list of so many numbers, or none. -/
noncomputable def rx (n : Nat) (t : ByteArray) : Option (List Nat) := match rn 256 t with
  | none => none
  | some L => if L.length = n then some L else none
def RxRes (n B : Nat) (t : ByteArray) (w' : World) (u : Value) : Prop :=
  (∃ L v, rx n t = some L ∧ L.length = n ∧ u = .tuple #[v, .bool true] ∧ OwnF w' B v L) ∨ (rx n t = none ∧ ∃ a m c, u = .tuple #[.slice a m c, .bool false])
set_option maxRecDepth 100000 in
set_option maxHeartbeats 400000 in
theorem l01From_any (w : World) (n : Nat) (h : n < 4294967296) :
    Calls Tryz.prog 52 #[.int .i64 n] w fun e w' => e = .returned (.float .f32 n) ∧ w' = w := by
  have hfb := run_frombits w n h
  go_enter Tryz.func52, Tryz.ntmps52
  go_wp2
  go_ret
  exact ⟨rfl, rfl⟩
theorem OwnStr.cellAt {w : World} {B : Nat} {v : Value} {P : List ByteArray} (h : OwnStr w B v P) : ∃ a c, v = .slice a P.length c ∧ ∀ j, j < P.length → ∃ b o, a = some ⟨b, o, none⟩ ∧ b < w.heap.size ∧ w.cell? ⟨b, o + j, none⟩ = some (.string (prt P j)) := by
  have h0 := h
  rcases h.2 with ⟨rfl, hn⟩ | ⟨g, cap, cur, rfl, hb, hg, hn, _⟩
  · exact ⟨none, 0, by rw [hn], fun j hj => by omega⟩
  · refine ⟨some ⟨g, 0, none⟩, cap, rfl, fun j hj => ⟨g, 0, rfl, (Array.getElem?_eq_some_iff.1 hg).1, ?_⟩⟩
    rw [Nat.zero_add, World.ownsRow.cellAt h0 j (by omega), List.getElem?_map, List.getElem?_eq_getElem hj]
    simp [prt, List.getD_eq_getElem?_getD, List.getElem?_eq_getElem hj]
theorem rb_size {p : ByteArray} (h : ¬ p.size = 8) : rb p = none := rb_none fun n hn => h (by rw [hn.2.2]; exact hexT_size n)
/-- The first k bytes are the digits of n. -/
def DigTo (p : ByteArray) (k n : Nat) : Prop := n < 16 ^ k ∧ p.data.toList.take k = digs k n
theorem DigTo.step {p : ByteArray} {k n d : Nat} (h : DigTo p k n) (hk : k < p.size) (hd : d < 16) (hc : (p[k]'hk) = digH d) : DigTo p (k + 1) (16 * n + d) := by
  refine ⟨by have := h.1; rw [Nat.pow_succ]; omega, ?_⟩
  have hl : k < p.data.toList.length := by rw [← Lib.size_eq]; exact hk
  rw [digs_step k n d hd, List.take_add_one, h.2, List.getElem?_eq_getElem hl]
  have : p.data.toList[k] = digH d := hc
  rw [this]; rfl
theorem DigTo.bad {p : ByteArray} {k : Nat} (hk : k < p.size) (hc : ∀ d, d < 16 → (p[k]'hk) ≠ digH d) : rb p = none := rb_none fun n hn => by
  obtain ⟨-, -, rfl⟩ := hn
  exact hc _ (Nat.mod_lt _ (by decide)) (hexT_at n k hk)
theorem DigTo.all {p : ByteArray} {n : Nat} (h : DigTo p 8 n) (hp : p.size = 8) : n < 4294967296 ∧ p = hexT n := by
  refine ⟨h.1, ?_⟩
  have h2 := h.2
  rw [List.take_of_length_le (by rw [← Lib.size_eq, hp]; exact Nat.le_refl _)] at h2
  apply ByteArray.ext
  apply Array.toList_inj.1
  rw [h2]
  rfl
theorem digH_of {c : UInt8} {d : Nat} (hd : d < 16) (h : c.toNat = if d < 10 then 48 + d else 87 + d) : c = digH d := by
  rw [← UInt8.toNat_inj, digH_val d hd]; exact h
end Go.Proofs.YtlpmkgcknopgoaaGreatDoor
