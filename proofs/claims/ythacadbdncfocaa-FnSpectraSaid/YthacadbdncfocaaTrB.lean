/- Walks: mirrored traces, equal lists, sizes, the best number. -/
import Derived.Test.YthacadbdncfocaaTrA
import Derived.Test.YthacadbdncfocaaNumB
namespace Go.Proofs.Ythacadbdncfocaa
open Go Go.RowKit

theorem beq_cast (x y : Nat) : ((x : Int) == (y : Int)) = (x == y) := by
  rw [Bool.eq_iff_iff]; simp only [beq_iff_eq]; omega
def bi : Option Nat → Int
  | none => -1
  | some o => o
theorem bestF_lt (L : List Nat) (j : Nat) {o : Nat} (h : bestF L j = some o) : o < j := by
  induction j generalizing o with
  | zero => cases h
  | succ j ih =>
    rw [bestF] at h
    cases hb : bestF L j with
    | none =>
      rw [hb] at h
      simp only at h
      split at h
      · cases h; omega
      · cases h
    | some p =>
      rw [hb] at h
      simp only at h
      have := ih hb
      split at h
      · cases h; omega
      · cases h; omega
set_option maxRecDepth 100000 in
set_option maxHeartbeats 1600000 in
theorem best_any (w : World) (v : Value) (L : List Nat) (h : RdF w v L) (hl : L.length ≤ 1000) :
    Calls Try.prog 59 #[v] w fun e w' => e = .returned (.int .i64 (bi (bestF L L.length))) ∧ w' = w := by
  obtain ⟨a, c, rfl, hc, -, hcell⟩ := h.opened
  clear h
  go_enter Try.func59, Try.ntmps59
  go_wp2
  go_loop [3, 8] (fun q i => ∃ j : Nat, j ≤ L.length ∧ i = .int .i64 j ∧ q = .int .i64 (bi (bestF L j))) (fun _ i => L.length - (intOf i).toNat)
  case atStart => exact ⟨0, Nat.zero_le _, rfl, rfl⟩
  case round =>
    obtain ⟨j, hj, rfl, rfl⟩ := hrel
    by_cases hlt : j < L.length
    · obtain ⟨b, o, x, rfl, hx1, hx2⟩ := hcell j hlt
      have hord : FloatKind.f32.format.order x x = FloatKind.f32.format.order (L.getD j 0) (L.getD j 0) := FV.order hx2 hx2
      cases hb : bestF L j with
      | none =>
        have HN : Hid (bestF L (j + 1) = if FloatKind.f32.format.order (L.getD j 0) (L.getD j 0) == some Ordering.eq then some j else none) := Lib.hid (by rw [bestF, hb])
        rw [← hord] at HN
        have e1 : bi none = -1 := rfl
        clear hcell hord hb hx2
        rw [e1]
        cases ht : FloatKind.f32.format.order x x == some Ordering.eq with
        | true =>
          rw [ht, if_pos rfl] at HN
          have HN := Lib.hid HN.out
          go_wp2
          exact ⟨⟨j + 1, by omega, by go_num, by rw [HN.out]; rfl⟩, by simp [intOf]; omega⟩
        | false =>
          rw [ht, if_neg (by decide)] at HN
          have HN := Lib.hid HN.out
          go_wp2
          exact ⟨⟨j + 1, by omega, by go_num, by rw [HN.out]; rfl⟩, by simp [intOf]; omega⟩
      | some p =>
        have hp := bestF_lt L j hb
        obtain ⟨b', o', y, hbo, hy1, hy2⟩ := hcell p (by omega)
        obtain ⟨rfl, rfl⟩ : b = b' ∧ o = o' := by injection hbo with e; injection e with e1 e2; exact ⟨e1, e2⟩
        have hord2 : FloatKind.f32.format.order x y = FloatKind.f32.format.order (L.getD j 0) (L.getD p 0) := FV.order hx2 hy2
        have HN : Hid (bestF L (j + 1) = if FloatKind.f32.format.order (L.getD j 0) (L.getD p 0) == some Ordering.gt then some j else some p) := Lib.hid (by rw [bestF, hb])
        rw [← hord2] at HN
        have e1 : bi (some p) = (p : Int) := rfl
        clear hcell hord hb hx2 hy2 hord2 hbo
        rw [e1]
        have hd0 : decide ((p : Int) < 0) = false := by simp
        have hd1 : decide ((p : Int) ≥ 0) = true := by simp
        cases ht : FloatKind.f32.format.order x y == some Ordering.gt with
        | true =>
          rw [ht, if_pos rfl] at HN
          have HN := Lib.hid HN.out
          go_wp2
          exact ⟨⟨j + 1, by omega, by go_num, by rw [HN.out]; rfl⟩, by simp [intOf]; omega⟩
        | false =>
          rw [ht, if_neg (by decide)] at HN
          have HN := Lib.hid HN.out
          go_wp2
          exact ⟨⟨j + 1, by omega, by go_num, by rw [HN.out]; rfl⟩, by simp [intOf]; omega⟩
    · obtain rfl : j = L.length := by omega
      go_wp2
      go_ret
      exact ⟨rfl, rfl⟩

set_option maxRecDepth 100000 in
set_option maxHeartbeats 1600000 in
theorem sizes_any (w : World) (v : Value) (L : List Nat) (h : RdF w v L) (hl : L.length ≤ 1000) :
    Calls Try.prog 64 #[v] w fun e w' => ∃ v', e = .returned v' ∧ OwnF w' w.heap.size v' (L.map absC) ∧ Below w.heap.size w w' := by
  have HR := Lib.hid h
  obtain ⟨a, c, rfl, hc, -, hcell⟩ := h.opened
  clear h
  go_enter Try.func64, Try.ntmps64
  go_wp2
  go_loopw [3, 8] (fun q i wr => ∃ j : Nat, j ≤ L.length ∧ i = .int .i64 j ∧ OwnF wr w.heap.size q ((L.map absC).take j) ∧ Below w.heap.size w wr) (fun _ i _ => L.length - (intOf i).toNat)
  case atStart => exact ⟨0, Nat.zero_le _, rfl, OwnF.nil _ _, Below.refl _ _⟩
  case round =>
    obtain ⟨wi, rfl⟩ : ∃ wi : World, wi = wr := ⟨_, rfl⟩
    obtain ⟨j, hj, rfl, ho, hb⟩ := hrel
    have HO := Lib.hid ho
    have HB := Lib.hid hb
    have hzi := hb.size
    by_cases hlt : j < L.length
    · obtain ⟨b, o, x, rfl, hx1, hx2⟩ := hcell j hlt
      have hx1' := ((bcell hb).1 b (o + j) (block_lt hx1)).trans hx1
      have HK := Lib.hid (absolute_any wi x _ hx2)
      have HT : Hid ((L.map absC).take (j + 1) = (L.map absC).take j ++ [absC (L.getD j 0)]) := Lib.hid (by rw [List.take_add_one, List.getElem?_map, List.getElem?_eq_getElem hlt]; simp [List.getD_eq_getElem?_getD, List.getElem?_eq_getElem hlt])
      have htl : ((L.map absC).take j).length = j := by rw [List.length_take, List.length_map]; omega
      have HTL := Lib.hid htl
      clear hcell hx1 hx2 ho hb htl
      go_wp2_with fail
      refine HK.out.mono ?_
      rintro e w3 ⟨q, n, rfl, hq, hw3⟩
      have HQ := Lib.hid hq
      have b3 : Below wi.heap.size wi w3 := by rw [hw3]; exact Below.drewN (Below.refl _ _) _
      have z3 := b3.size
      have b4 : Below wi.heap.size wi (w3.alloc (.cells #[.float .f32 q] 27)) := b3.alloc z3 _
      clear HK hq hw3
      go_wp2_with (at_builtin; go_must (refine wpList_push rfl _ _ rfl w.heap.size _ ((L.map absC).take j) rfl (HO.out.kept b4) _ _ q (absC (L.getD j 0)) rfl (cell_new _ _ _) HQ.out (by rw [HTL.out]; omega) (by rw [World.size_alloc]; omega) ?_); intro v6 w6 o6 g6 b6 _)
      exact ⟨⟨j + 1, by omega, by go_num, by rw [HT.out]; exact o6, HB.out.trans ((b4.mono hzi).trans b6)⟩, by simp [intOf]; omega⟩
    · obtain rfl : j = L.length := by omega
      have HO2 := Lib.hid (show OwnF wi w.heap.size _ (L.map absC) from by have := HO.out; rwa [show L.length = (L.map absC).length by simp, List.take_length] at this)
      clear hcell ho hb
      go_wp2
      go_ret
      exact ⟨_, rfl, HO2.out, HB.out⟩
end Go.Proofs.Ythacadbdncfocaa
