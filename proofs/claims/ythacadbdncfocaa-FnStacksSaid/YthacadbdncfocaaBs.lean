/- Walks: the best of a list, the best shift. -/
import Derived.Test.YthacadbdncfocaaSh
namespace Go.Proofs.Ythacadbdncfocaa
open Go Go.RowKit

def bi : Option Nat → Int
  | none => -1
  | some o => o
theorem bestF_lt (L : List Nat) (j : Nat) {o : Nat} (h : bestF L j = some o) : o < j := by
  induction j generalizing o with
  | zero => cases h
  | succ j ih =>
    rw [bestF] at h
    cases hb : bestF L j with
    | none =>
      rw [hb] at h
      simp only at h
      split at h
      · cases h; omega
      · cases h
    | some p =>
      rw [hb] at h
      simp only at h
      have := ih hb
      split at h
      · cases h; omega
      · cases h; omega
set_option maxRecDepth 100000 in
set_option maxHeartbeats 1600000 in
theorem best_any (w : World) (v : Value) (L : List Nat) (h : RdF w v L) (hl : L.length ≤ 1000) :
    Calls Try.prog 59 #[v] w fun e w' => e = .returned (.int .i64 (bi (bestF L L.length))) ∧ w' = w := by
  obtain ⟨a, c, rfl, hc, -, hcell⟩ := h.opened
  clear h
  go_enter Try.func59, Try.ntmps59
  go_wp2
  go_loop [3, 8] (fun q i => ∃ j : Nat, j ≤ L.length ∧ i = .int .i64 j ∧ q = .int .i64 (bi (bestF L j))) (fun _ i => L.length - (intOf i).toNat)
  case atStart => exact ⟨0, Nat.zero_le _, rfl, rfl⟩
  case round =>
    obtain ⟨j, hj, rfl, rfl⟩ := hrel
    by_cases hlt : j < L.length
    · obtain ⟨b, o, x, rfl, hx1, hx2⟩ := hcell j hlt
      have hord : FloatKind.f32.format.order x x = FloatKind.f32.format.order (L.getD j 0) (L.getD j 0) := FV.order hx2 hx2
      cases hb : bestF L j with
      | none =>
        have HN : Hid (bestF L (j + 1) = if FloatKind.f32.format.order (L.getD j 0) (L.getD j 0) == some Ordering.eq then some j else none) := Lib.hid (by rw [bestF, hb])
        rw [← hord] at HN
        have e1 : bi none = -1 := rfl
        clear hcell hord hb hx2
        rw [e1]
        cases ht : FloatKind.f32.format.order x x == some Ordering.eq with
        | true =>
          rw [ht, if_pos rfl] at HN
          have HN := Lib.hid HN.out
          go_wp2
          exact ⟨⟨j + 1, by omega, by go_num, by rw [HN.out]; rfl⟩, by simp [intOf]; omega⟩
        | false =>
          rw [ht, if_neg (by decide)] at HN
          have HN := Lib.hid HN.out
          go_wp2
          exact ⟨⟨j + 1, by omega, by go_num, by rw [HN.out]; rfl⟩, by simp [intOf]; omega⟩
      | some p =>
        have hp := bestF_lt L j hb
        obtain ⟨b', o', y, hbo, hy1, hy2⟩ := hcell p (by omega)
        obtain ⟨rfl, rfl⟩ : b = b' ∧ o = o' := by injection hbo with e; injection e with e1 e2; exact ⟨e1, e2⟩
        have hord2 : FloatKind.f32.format.order x y = FloatKind.f32.format.order (L.getD j 0) (L.getD p 0) := FV.order hx2 hy2
        have HN : Hid (bestF L (j + 1) = if FloatKind.f32.format.order (L.getD j 0) (L.getD p 0) == some Ordering.gt then some j else some p) := Lib.hid (by rw [bestF, hb])
        rw [← hord2] at HN
        have e1 : bi (some p) = (p : Int) := rfl
        clear hcell hord hb hx2 hy2 hord2 hbo
        rw [e1]
        have hd0 : decide ((p : Int) < 0) = false := by simp
        have hd1 : decide ((p : Int) ≥ 0) = true := by simp
        cases ht : FloatKind.f32.format.order x y == some Ordering.gt with
        | true =>
          rw [ht, if_pos rfl] at HN
          have HN := Lib.hid HN.out
          go_wp2
          exact ⟨⟨j + 1, by omega, by go_num, by rw [HN.out]; rfl⟩, by simp [intOf]; omega⟩
        | false =>
          rw [ht, if_neg (by decide)] at HN
          have HN := Lib.hid HN.out
          go_wp2
          exact ⟨⟨j + 1, by omega, by go_num, by rw [HN.out]; rfl⟩, by simp [intOf]; omega⟩
    · obtain rfl : j = L.length := by omega
      go_wp2
      go_ret
      exact ⟨rfl, rfl⟩
end Go.Proofs.Ythacadbdncfocaa
