/- Walks: a copy of a list. -/
import Derived.Test.YthacadbdncfocaaRelK
import Derived.Test.YthacadbdncfocaaChg
import Derived.ArgAppend
namespace Go.Proofs.Ythacadbdncfocaa
open Go Go.RowKit

set_option maxRecDepth 100000 in
set_option maxHeartbeats 400000 in
theorem clone_any (w : World) (v : Value) (L : List Nat) (hL : RdF w v L) (hmax : L.length ≤ 1048576) :
    Calls Try.prog 61 #[v] w fun e w' => ∃ v', e = .returned v' ∧ OwnF w' w.heap.size v' L ∧ Below w.heap.size w w' := by
  obtain ⟨a, c, rfl, hc, hz, hcell⟩ := hL.opened
  cases a with
  | none =>
    have h0 : L.length = 0 := by
      rcases Nat.eq_zero_or_pos L.length with h | h
      · exact h
      · obtain ⟨b, o, r, h1, _⟩ := hcell 0 h; cases h1
    obtain rfl : L = [] := List.eq_nil_of_length_eq_zero h0
    have hn := fun (w : World) (n c : Nat) => Lib.run_eql_slice_nil (P := Try.prog) w 25 27 none n c 0 0 Try.underlying25
    go_enter Try.func61, Try.ntmps61
    go_wp2
    go_ret
    exact ⟨_, rfl, OwnF.nil _ _, Below.refl _ _⟩
  | some ad =>
    have hn := fun (w : World) (n c : Nat) => Lib.run_eql_slice_nil (P := Try.prog) w 25 27 (some ad) n c 0 0 Try.underlying25
    go_enter Try.func61, Try.ntmps61
    have hown : OwnF (w.alloc (.cells #[] 27)) w.heap.size (.slice (some ⟨w.heap.size, 0, none⟩) 0 0) [] := ⟨[], rfl, fun j hj => (by cases hj), World.ownsRow_lit w #[] 0 (Nat.le_refl _) (by decide) rfl⟩
    have hM : RdF (w.alloc (.cells #[] 27)) (.slice (some ad) L.length c) L := hL.mono ((Below.refl _ _).alloc (Nat.le_refl _) _)
    go_wp2_with (at_builtin; refine wpList_pushAll rfl _ _ rfl w.heap.size _ [] rfl hown _ L rfl hM (by simp) hmax (by simp) ?_; intro v' w' h1 h2 h3 _)
    go_ret
    exact ⟨_, rfl, by simpa using h1, ((Below.refl _ _).alloc (Nat.le_refl _) _).trans h3⟩

end Go.Proofs.Ythacadbdncfocaa
