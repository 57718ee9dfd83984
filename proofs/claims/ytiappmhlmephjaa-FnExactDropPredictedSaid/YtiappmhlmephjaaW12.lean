/- Walks: PredictionOf, of the program and of the reference. -/
import Derived.Test.YtiappmhlmephjaaRet
import Derived.Test.YtiappmhlmephjaaW6
import Derived.Test.YtiappmhlmephjaaW9
import Derived.Deep.RegionWith
namespace Go.Proofs.Ytiappmhlmephjaa
open Go Go.RowKit

/-- A part of an own list. -/
theorem OwnF.part {w : World} {B g cap n : Nat} {L : List Nat} (h : OwnF w B (.slice (some ⟨g, 0, none⟩) n cap) L) (i m c : Nat) (hm : i + m ≤ L.length) (hc : m ≤ c) : RdF w (.slice (some ⟨g, i, none⟩) m c) ((L.drop i).take m) := by
  obtain ⟨a, c', hv, -, -, hcell⟩ := h.rd.opened
  simp only [Value.slice.injEq] at hv
  obtain ⟨rfl, rfl, rfl⟩ := hv
  have hl : ((L.drop i).take m).length = m := by simp; omega
  refine ⟨some ⟨g, i, none⟩, c, by rw [hl], by omega, fun h => (by cases h), fun j hj => ?_⟩
  rw [hl] at hj
  obtain ⟨b, o, r, e, h1, h2⟩ := hcell (i + j) (by omega)
  simp only [Option.some.injEq, Addr.mk.injEq, and_true] at e
  obtain ⟨rfl, rfl⟩ := e
  refine ⟨_, _, _, rfl, by simpa using h1, r, rfl, ?_⟩
  rwa [show ((L.drop i).take m).getD j 0 = L.getD (i + j) 0 from by simp [List.getD_eq_getElem?_getD, List.getElem?_take, hj, List.getElem?_drop]]

def predM (A : List Nat) (g n : Int) (x : Nat) : Option (List Nat) :=
  if 1 ≤ A.length ∧ A.length ≤ 128 ∧ 1 ≤ g ∧ g ≤ 24 ∧ 1 ≤ n ∧ n ≤ 24 ∧ g + n ≤ 24 ∧ nonnegB x = true then
    solveM (whiteM ((crossM A A (g.toNat + n.toNat)).take n.toNat) x) (((crossM A A (g.toNat + n.toNat)).drop g.toNat).take n.toNat) else none
theorem predM_length (A : List Nat) (g n : Int) (x : Nat) : ((predM A g n x).getD []).length ≤ 25 := by
  unfold predM
  split
  · exact solveM_len' _ _ (by rw [whiteM_length, List.length_take, crossM_length]; omega)
  · simp

set_option maxRecDepth 100000 in
set_option maxHeartbeats 2000000 in
theorem implPredictionOf_any (w : World) (va : Value) (A : List Nat) (g n : Int) (r x : Nat) (hA : RdF w va A) (hr : FV .f32 r x) (hmA : A.length ≤ 1048576) :
    Calls Try.prog 11 #[va, .int .i64 g, .int .i64 n, .float .f32 r] w (RetF w (predM A g n x)) := by
  have hA' := hA
  obtain ⟨a, ca, rfl, hca, -, -⟩ := hA.opened
  clear hA
  by_cases h1 : 1 ≤ A.length
  · by_cases h2 : A.length ≤ 128
    · by_cases h3 : 1 ≤ g
      · by_cases h4 : g ≤ 24
        · by_cases h5 : 1 ≤ n
          · by_cases h6 : n ≤ 24
            · have hgn : IntKind.i64.wrap (g + n) = g + n := IntWalk.i64_in _ (by omega)
              by_cases h10 : g + n ≤ 24
              · cases h7 : nonnegB x with
                | false =>
                  have hm : predM A g n x = none := by unfold predM; rw [if_neg (fun h => by simp [h7] at h)]
                  rw [hm]
                  clear hm
                  go_enter Try.func11, Try.ntmps11
                  go_wp2_with (first | (go_at_call 33; go_must (refine (isNonNegative_any _ _ x hr).mono ?_); rintro e w1 ⟨rfl, n1, hw1⟩; rw [h7]; have hb1 : Below w.heap.size w w1 := (by rw [hw1]; exact Below.drewN (Below.refl _ _) _); have hA1 := hA'.mono hb1; clear hw1 hA') | (go_at_call 32; go_in) | (go_at_call 31; go_in) | (go_at_call 65; go_in) | (go_at_call 67; go_in) | (go_at_call 66; go_in))
                  go_ret2
                  exact RetF.none hb1
                | true =>
                  obtain ⟨m, rfl⟩ : ∃ m : Nat, n = m := ⟨n.toNat, by omega⟩
                  obtain ⟨k, rfl⟩ : ∃ k : Nat, g = k := ⟨g.toNat, by omega⟩
                  have hm : predM A k m x = solveM (whiteM ((crossM A A (k + m)).take m) x) (((crossM A A (k + m)).drop k).take m) := by unfold predM; rw [if_pos ⟨h1, h2, h3, h4, h5, h6, h10, h7⟩]; rfl
                  rw [hm]
                  clear hm
                  go_enter Try.func11, Try.ntmps11
                  go_wp2_with (first | (go_at_call 33; go_must (refine (isNonNegative_any _ _ x hr).mono ?_); rintro e w1 ⟨rfl, n1, hw1⟩; rw [h7]; have hb1 : Below w.heap.size w w1 := (by rw [hw1]; exact Below.drewN (Below.refl _ _) _); have hA1 := hA'.mono hb1; clear hw1 hA') | (go_at_call 34; fail) | (go_at_call 32; go_in) | (go_at_call 31; go_in) | (go_at_call 65; go_in) | (go_at_call 67; go_in) | (go_at_call 66; go_in))
                  refine (auto_any _ _ A (k + m) hA1 (by omega) (by omega)).mono ?_
                  rintro e2 w2 ⟨v2, rfl, o2, b2⟩
                  have hb2 := hb1.trans (b2.mono hb1.size)
                  have hs2 := hb2.size
                  clear hA1 b2 hb1
                  have o2' := o2
                  obtain ⟨gg, cap, rfl, hg1, hg2, hcap, -, -⟩ := o2'.at_block (n := k + m) (by rw [crossM_length]) (by omega)
                  have O2 := Lib.hid o2
                  have HGN := Lib.hid hgn
                  clear o2 o2' hgn
                  go_wp2_with fail
                  have hl1 : ((crossM A A (k + m)).take m).length = m := by rw [List.length_take, crossM_length]; omega
                  have hl2 : (((crossM A A (k + m)).drop k).take m).length = m := by rw [List.length_take, List.length_drop, crossM_length]; omega
                  have P1 := Lib.hid (OwnF.part O2.out 0 m cap (by rw [crossM_length]; omega) (by omega))
                  have P2 := Lib.hid (OwnF.part O2.out k m (cap - k) (by rw [crossM_length]; omega) (by omega))
                  have H1 := Lib.hid hl1
                  have H2 := Lib.hid hl2
                  clear hl1 hl2
                  go_region_with (first | (go_at_call 36; go_must (refine (whitened_any w2.drew _ ((crossM A A (k + m)).take m) _ x P1.out ?_ ?_ hr).mono ?_); (rw [H1.out]; omega); (rw [H1.out]; omega); rintro e3 w3 ⟨v3, rfl, o3, b3⟩; replace b3 : Below w2.heap.size w2 w3 := ⟨b3.os, b3.tape, b3.output, b3.size, b3.block⟩; replace o3 : OwnF w3 w2.heap.size v3 _ := o3) | (go_at_call 35; go_must (refine (solve_any w3 _ _ (whiteM ((crossM A A (k + m)).take m) x) (((crossM A A (k + m)).drop k).take m) o3.rd (P2.out.mono b3) ?_ ?_ ?_).mono ?_); (rw [whiteM_length, H1.out]; omega); (rw [whiteM_length, H1.out, H2.out]); (rw [whiteM_length, H1.out]; omega); rintro e5 w5 ⟨v, ok, rfl, h8, h9⟩))
                  all_goals (have hs3 := b3.size; go_wp2; go_ret2; exact RetF.mk (h8.lower (Nat.le_trans hs2 hs3)) ((hb2.trans (b3.mono hs2)).trans (h9.mono (Nat.le_trans hs2 hs3))))
              · have hm : predM A g n x = none := by unfold predM; rw [if_neg (fun h => h10 h.2.2.2.2.2.2.1)]
                rw [hm]
                clear hm
                go_enter Try.func11, Try.ntmps11
                go_wp2
                go_ret2
                exact RetF.none (Below.refl _ _)
            · have hm : predM A g n x = none := by unfold predM; rw [if_neg (fun h => h6 h.2.2.2.2.2.1)]
              rw [hm]
              clear hm
              go_enter Try.func11, Try.ntmps11
              go_wp2
              go_ret2
              exact RetF.none (Below.refl _ _)
          · have hm : predM A g n x = none := by unfold predM; rw [if_neg (fun h => h5 h.2.2.2.2.1)]
            rw [hm]
            clear hm
            go_enter Try.func11, Try.ntmps11
            go_wp2
            go_ret2
            exact RetF.none (Below.refl _ _)
        · have hm : predM A g n x = none := by unfold predM; rw [if_neg (fun h => h4 h.2.2.2.1)]
          rw [hm]
          clear hm
          go_enter Try.func11, Try.ntmps11
          go_wp2
          go_ret2
          exact RetF.none (Below.refl _ _)
      · have hm : predM A g n x = none := by unfold predM; rw [if_neg (fun h => h3 h.2.2.1)]
        rw [hm]
        clear hm
        go_enter Try.func11, Try.ntmps11
        go_wp2
        go_ret2
        exact RetF.none (Below.refl _ _)
    · have hm : predM A g n x = none := by unfold predM; rw [if_neg (fun h => h2 h.2.1)]
      rw [hm]
      clear hm
      go_enter Try.func11, Try.ntmps11
      go_wp2
      go_ret2
      exact RetF.none (Below.refl _ _)
  · have hm : predM A g n x = none := by unfold predM; rw [if_neg (fun h => h1 h.1)]
    rw [hm]
    clear hm
    go_enter Try.func11, Try.ntmps11
    go_wp2
    go_ret2
    exact RetF.none (Below.refl _ _)

set_option maxRecDepth 100000 in
set_option maxHeartbeats 2000000 in
theorem l05Predict_any (w : World) (va : Value) (A : List Nat) (g n : Int) (r x : Nat) (hA : RdF w va A) (hr : FV .f32 r x) (hmA : A.length ≤ 1048576) :
    Calls Try.prog 30 #[va, .int .i64 g, .int .i64 n, .float .f32 r] w (RetF w (predM A g n x)) := by
  have hA' := hA
  obtain ⟨a, ca, rfl, hca, -, -⟩ := hA.opened
  clear hA
  by_cases h1 : 1 ≤ A.length
  · by_cases h2 : A.length ≤ 128
    · by_cases h3 : 1 ≤ g
      · by_cases h4 : g ≤ 24
        · by_cases h5 : 1 ≤ n
          · by_cases h6 : n ≤ 24
            · have hgn : IntKind.i64.wrap (g + n) = g + n := IntWalk.i64_in _ (by omega)
              by_cases h10 : g + n ≤ 24
              · cases h7 : nonnegB x with
                | false =>
                  have hm : predM A g n x = none := by unfold predM; rw [if_neg (fun h => by simp [h7] at h)]
                  rw [hm]
                  clear hm
                  go_enter Try.func30, Try.ntmps30
                  go_wp2_with (first | (go_at_call 61; go_must (refine (l05Near_any _ _ x hr).mono ?_); rintro e w1 ⟨rfl, n1, hw1⟩; rw [h7]; have hb1 : Below w.heap.size w w1 := (by rw [hw1]; exact Below.drewN (Below.refl _ _) _); have hA1 := hA'.mono hb1; clear hw1 hA') | (go_at_call 59; go_in) | (go_at_call 60; go_in))
                  go_ret2
                  exact RetF.none hb1
                | true =>
                  obtain ⟨m, rfl⟩ : ∃ m : Nat, n = m := ⟨n.toNat, by omega⟩
                  obtain ⟨k, rfl⟩ : ∃ k : Nat, g = k := ⟨g.toNat, by omega⟩
                  have hm : predM A k m x = solveM (whiteM ((crossM A A (k + m)).take m) x) (((crossM A A (k + m)).drop k).take m) := by unfold predM; rw [if_pos ⟨h1, h2, h3, h4, h5, h6, h10, h7⟩]; rfl
                  rw [hm]
                  clear hm
                  go_enter Try.func30, Try.ntmps30
                  go_wp2_with (first | (go_at_call 61; go_must (refine (l05Near_any _ _ x hr).mono ?_); rintro e w1 ⟨rfl, n1, hw1⟩; rw [h7]; have hb1 : Below w.heap.size w w1 := (by rw [hw1]; exact Below.drewN (Below.refl _ _) _); have hA1 := hA'.mono hb1; clear hw1 hA') | (go_at_call 62; fail) | (go_at_call 59; go_in) | (go_at_call 60; go_in))
                  refine (l05Auto_any _ _ A (k + m) hA1 (by omega) (by omega)).mono ?_
                  rintro e2 w2 ⟨v2, rfl, o2, b2⟩
                  have hb2 := hb1.trans (b2.mono hb1.size)
                  have hs2 := hb2.size
                  clear hA1 b2 hb1
                  have o2' := o2
                  obtain ⟨gg, cap, rfl, hg1, hg2, hcap, -, -⟩ := o2'.at_block (n := k + m) (by rw [crossM_length]) (by omega)
                  have O2 := Lib.hid o2
                  have HGN := Lib.hid hgn
                  clear o2 o2' hgn
                  go_wp2_with fail
                  have hl1 : ((crossM A A (k + m)).take m).length = m := by rw [List.length_take, crossM_length]; omega
                  have hl2 : (((crossM A A (k + m)).drop k).take m).length = m := by rw [List.length_take, List.length_drop, crossM_length]; omega
                  have P1 := Lib.hid (OwnF.part O2.out 0 m cap (by rw [crossM_length]; omega) (by omega))
                  have P2 := Lib.hid (OwnF.part O2.out k m (cap - k) (by rw [crossM_length]; omega) (by omega))
                  have H1 := Lib.hid hl1
                  have H2 := Lib.hid hl2
                  clear hl1 hl2
                  go_region_with (first | (go_at_call 64; go_must (refine (l05White_any w2.drew _ ((crossM A A (k + m)).take m) _ x P1.out ?_ ?_ hr).mono ?_); (rw [H1.out]; omega); (rw [H1.out]; omega); rintro e3 w3 ⟨v3, rfl, o3, b3⟩; replace b3 : Below w2.heap.size w2 w3 := ⟨b3.os, b3.tape, b3.output, b3.size, b3.block⟩; replace o3 : OwnF w3 w2.heap.size v3 _ := o3) | (go_at_call 63; go_must (refine (l05Solve_any w3 _ _ (whiteM ((crossM A A (k + m)).take m) x) (((crossM A A (k + m)).drop k).take m) o3.rd (P2.out.mono b3) ?_ ?_ ?_).mono ?_); (rw [whiteM_length, H1.out]; omega); (rw [whiteM_length, H1.out, H2.out]); (rw [whiteM_length, H1.out]; omega); rintro e5 w5 ⟨v, v2, r2, ok, rfl, h8, h9⟩))
                  all_goals (have hs3 := b3.size; go_wp2; go_ret2; exact RetF.mk (h8.lower (Nat.le_trans hs2 hs3)) ((hb2.trans (b3.mono hs2)).trans (h9.mono (Nat.le_trans hs2 hs3))))
              · have hm : predM A g n x = none := by unfold predM; rw [if_neg (fun h => h10 h.2.2.2.2.2.2.1)]
                rw [hm]
                clear hm
                go_enter Try.func30, Try.ntmps30
                go_wp2
                go_ret2
                exact RetF.none (Below.refl _ _)
            · have hm : predM A g n x = none := by unfold predM; rw [if_neg (fun h => h6 h.2.2.2.2.2.1)]
              rw [hm]
              clear hm
              go_enter Try.func30, Try.ntmps30
              go_wp2
              go_ret2
              exact RetF.none (Below.refl _ _)
          · have hm : predM A g n x = none := by unfold predM; rw [if_neg (fun h => h5 h.2.2.2.2.1)]
            rw [hm]
            clear hm
            go_enter Try.func30, Try.ntmps30
            go_wp2
            go_ret2
            exact RetF.none (Below.refl _ _)
        · have hm : predM A g n x = none := by unfold predM; rw [if_neg (fun h => h4 h.2.2.2.1)]
          rw [hm]
          clear hm
          go_enter Try.func30, Try.ntmps30
          go_wp2
          go_ret2
          exact RetF.none (Below.refl _ _)
      · have hm : predM A g n x = none := by unfold predM; rw [if_neg (fun h => h3 h.2.2.1)]
        rw [hm]
        clear hm
        go_enter Try.func30, Try.ntmps30
        go_wp2
        go_ret2
        exact RetF.none (Below.refl _ _)
    · have hm : predM A g n x = none := by unfold predM; rw [if_neg (fun h => h2 h.2.1)]
      rw [hm]
      clear hm
      go_enter Try.func30, Try.ntmps30
      go_wp2
      go_ret2
      exact RetF.none (Below.refl _ _)
  · have hm : predM A g n x = none := by unfold predM; rw [if_neg (fun h => h1 h.1)]
    rw [hm]
    clear hm
    go_enter Try.func30, Try.ntmps30
    go_wp2
    go_ret2
    exact RetF.none (Below.refl _ _)

set_option maxRecDepth 100000 in
theorem specPredictionOf_any (w : World) (va : Value) (A : List Nat) (g n : Int) (r x : Nat) (hA : RdF w va A) (hr : FV .f32 r x) (hmA : A.length ≤ 1048576) :
    Calls Try.prog 9 #[va, .int .i64 g, .int .i64 n, .float .f32 r] w (RetF w (predM A g n x)) := by
  go_enter Try.func9, Try.ntmps9
  go_wp2_with fail
  refine (l05Predict_any w _ A g n _ x hA hr hmA).mono ?_
  rintro e w1 ⟨v, ok, rfl, h1, h2⟩
  go_wp2
  go_ret2
  exact RetF.mk h1 h2
end Go.Proofs.Ytiappmhlmephjaa
