/- Walks: marks that the laws set in results, and look for: layers. -/
import Derived.Test.YtjbaebgdebcipaaGreatDoorL7
import Derived.Test.YtjbaebgdebcipaaGreatDoorL1m
namespace Go.Proofs.YtjbaebgdebcipaaGreatDoor
open Go Go.RowKit

theorem marks_getD (k n i : Nat) (h : i < n) : (marks k n).getD i 0 = floatOfInt .f32 ((k + i : Nat) : Int) := tab_getD _ _ _ h
theorem mixTo_length' (new old : List Nat) (k : Nat) : (mixTo new old k).length = old.length := mixTo_length _ _ _

set_option maxRecDepth 100000 in
set_option maxHeartbeats 1600000 in
theorem markLayerS_any (w : World) (S : Nat → Prop) (v : Value) (n k : Nat) (L : List Nat) (h : OwnC w S 77 4 v n (L.map D1.f)) (hmax : n ≤ 1048576) (hk : k ≤ 1099511627776) :
    Calls Tryz.prog 47 #[v, .int .i64 k] w fun e w' => e = .returned (.int .i64 ((k + 4 * n : Nat) : Int)) ∧ OwnC w' S 77 4 v n ((marks k (4 * n)).map D1.f) ∧ Chg w w' (Of v) := by
  have hst := run_store_float (P := Tryz.prog)
  have hll : L.length = 4 * n := by have := h.length; rw [List.length_map] at this; omega
  rcases h.form with ⟨rfl, rfl, hds⟩ | ⟨g, cap, rfl, hg1, hg2, hcap, -, -⟩
  · go_enter Tryz.func47, Tryz.ntmps47
    go_wp2
    refine wp_loop_rounds 1 ?_
    rw [rounds_succ]
    go_wp2
    go_ret
    obtain rfl : L = [] := by simpa using hds
    exact ⟨by simp, h, Chg.refl _ _⟩
  · have Hll := Lib.hid hll
    clear hll
    go_enter Tryz.func47, Tryz.ntmps47
    go_wp2
    go_loopw [1, 5] (fun q i wr => ∃ j : Nat, j ≤ n ∧ i = .int .i64 j ∧ q = .int .i64 ((k + 4 * j : Nat) : Int) ∧ OwnC wr S 77 4 (.slice (some ⟨g, 0, none⟩) n cap) n ((mixTo (marks k (4 * n)) L (4 * j)).map D1.f) ∧ Chg w wr (fun b => b = g)) (fun _ i _ => n - (intOf i).toNat)
    case atStart => exact ⟨0, Nat.zero_le _, rfl, rfl, by rw [Nat.mul_zero, mixTo_zero]; exact h, Chg.refl _ _⟩
    case round =>
      obtain ⟨wi, rfl⟩ : ∃ wi : World, wi = wr := ⟨_, rfl⟩
      obtain ⟨j, hj, rfl, rfl, ho, hgw⟩ := hrel
      clear h
      by_cases hlt : j < n
      · rcases ho.form with ⟨hv, -⟩ | ⟨g', cap', hv, -, -, -, hcl, hfr⟩
        · cases hv
        · obtain ⟨rfl, rfl⟩ : g = g' ∧ cap = cap' := by cases hv; exact ⟨rfl, rfl⟩
          have hl4 : ((mixTo (marks k (4 * n)) L (4 * j)).map D1.f).length = 4 * n := by rw [List.length_map, mixTo_length]; exact Hll.out
          obtain ⟨u0, m0, -⟩ := hcl (4 * j) (by omega)
          obtain ⟨u1, m1, -⟩ := hcl (4 * j + 1) (by omega)
          obtain ⟨u2, m2, -⟩ := hcl (4 * j + 2) (by omega)
          obtain ⟨u3, m3, -⟩ := hcl (4 * j + 3) (by omega)
          have z0 := hfr (j * 4)
          have z1 := hfr (j * 4 + 1)
          have z2 := hfr (j * 4 + 2)
          have z3 := hfr (j * 4 + 3)
          rw [Nat.mul_comm 4 j] at m0 m1 m2 m3
          have Ho := Lib.hid ho
          clear ho hcl hfr hv hl4
          go_wp2
          have e0 : floatOfInt .f32 ((k : Int) + 4 * (j : Int)) = (marks k (4 * n)).getD (4 * j) 0 := by rw [marks_getD _ _ _ (by omega)]; congr 1
          have e1 : floatOfInt .f32 ((k : Int) + 4 * (j : Int) + 1) = (marks k (4 * n)).getD (4 * j + 1) 0 := by rw [marks_getD _ _ _ (by omega)]; congr 1
          have e2 : floatOfInt .f32 ((k : Int) + 4 * (j : Int) + 1 + 1) = (marks k (4 * n)).getD (4 * j + 2) 0 := by rw [marks_getD _ _ _ (by omega)]; congr 1 <;> omega
          have e3 : floatOfInt .f32 ((k : Int) + 4 * (j : Int) + 1 + 1 + 1) = (marks k (4 * n)).getD (4 * j + 3) 0 := by rw [marks_getD _ _ _ (by omega)]; congr 1 <;> omega
          have f0 := floatOfInt_fv .f32 ((k : Int) + 4 * (j : Int))
          have f1 := floatOfInt_fv .f32 ((k : Int) + 4 * (j : Int) + 1)
          have f2 := floatOfInt_fv .f32 ((k : Int) + 4 * (j : Int) + 1 + 1)
          have f3 := floatOfInt_fv .f32 ((k : Int) + 4 * (j : Int) + 1 + 1 + 1)
          refine ⟨⟨j + 1, by omega, by go_num, by congr 1 <;> omega, ?_, (((hgw.setCell (S := fun b => b = g) rfl _ _).setCell (S := fun b => b = g) rfl _ _).setCell (S := fun b => b = g) rfl _ _).setCell (S := fun b => b = g) rfl _ _⟩, by simp [intOf]; omega⟩
          rw [← mix4]
          rw [← e0, ← e1, ← e2, ← e3, Nat.mul_comm j 4]
          exact Ho.out.stored4 f0 f1 f2 f3
      · obtain rfl : j = n := by omega
        go_wp2
        go_ret
        rw [mixTo_all _ _ _ (by rw [Hll.out]; exact Nat.le_refl _) (by rw [marks_length]; exact Hll.out.symm)] at ho
        exact ⟨rfl, ho, hgw.wide fun b hb => by subst hb; rfl⟩

set_option maxRecDepth 100000 in
set_option maxHeartbeats 1600000 in
theorem heldLayerS_any (w : World) (v : Value) (k n : Nat) (h : RdLay w v n (marks k (4 * n))) (hmax : n ≤ 1048576) (hk : k ≤ 1099511627776) :
    Calls Tryz.prog 48 #[v, .int .i64 k] w fun e w' => e = .returned (.int .i64 ((k + 4 * n : Nat) : Int)) ∧ w' = w := by
  obtain ⟨a, c, rfl, hc, -, hcell⟩ := h.opened
  go_enter Tryz.func48, Tryz.ntmps48
  go_wp2
  go_loop [1, 5] (fun q i => ∃ j : Nat, j ≤ n ∧ i = .int .i64 j ∧ q = .int .i64 ((k + 4 * j : Nat) : Int)) (fun _ i => n - (intOf i).toNat)
  case atStart => exact ⟨0, Nat.zero_le _, rfl, rfl⟩
  case round =>
    obtain ⟨j, hj, rfl, rfl⟩ := hrel
    by_cases hlt : j < n
    · obtain ⟨b, o, r0, r1, r2, r3, rfl, hlb, d0, d1, d2, d3, f0, f1, f2, f3⟩ := hcell j hlt
      rw [marks_getD _ _ _ (by omega)] at f0 f1 f2 f3
      obtain rfl := f0.eq_of_not (floatOfInt_not_nan _ _)
      obtain rfl := f1.eq_of_not (floatOfInt_not_nan _ _)
      obtain rfl := f2.eq_of_not (floatOfInt_not_nan _ _)
      obtain rfl := f3.eq_of_not (floatOfInt_not_nan _ _)
      have ht : ∀ x : Int, (FloatKind.f32.format.order (floatOfInt .f32 x) (floatOfInt .f32 x) != some Ordering.eq) = false := fun x => by rw [order_self (floatOfInt_not_nan _ _)]; rfl
      have a0 : ((k + 4 * j : Nat) : Int) = (k : Int) + 4 * (j : Int) := by omega
      have a1 : ((k + (4 * j + 1) : Nat) : Int) = (k : Int) + 4 * (j : Int) + 1 := by omega
      have a2 : ((k + (4 * j + 2) : Nat) : Int) = (k : Int) + 4 * (j : Int) + 1 + 1 := by omega
      have a3 : ((k + (4 * j + 3) : Nat) : Int) = (k : Int) + 4 * (j : Int) + 1 + 1 + 1 := by omega
      rw [a0] at d0
      rw [a1] at d1
      rw [a2] at d2
      rw [a3] at d3
      have t0 := ht ((k : Int) + 4 * (j : Int))
      have t1 := ht ((k : Int) + 4 * (j : Int) + 1)
      have t2 := ht ((k : Int) + 4 * (j : Int) + 1 + 1)
      have t3 := ht ((k : Int) + 4 * (j : Int) + 1 + 1 + 1)
      clear f0 f1 f2 f3 hcell a0 a1 a2 a3 ht
      go_wp2
      exact ⟨⟨j + 1, by omega, by go_num, by congr 1 <;> omega⟩, by simp [intOf]; omega⟩
    · obtain rfl : j = n := by omega
      go_wp2
      go_ret
      exact ⟨rfl, rfl⟩

/-- The numbers that lists have, up to list j; the marks of lists. -/
def cntTo (Ls : List (List Nat)) : Nat → Nat
  | 0 => 0
  | j + 1 => cntTo Ls j + (rowAt Ls j).length
def marksS (k : Nat) (Ls : List (List Nat)) : List (List Nat) := (List.range Ls.length).map fun j => marks (k + cntTo Ls j) (rowAt Ls j).length
theorem marksS_length (k : Nat) (Ls : List (List Nat)) : (marksS k Ls).length = Ls.length := by simp [marksS]
theorem marksS_row (k : Nat) (Ls : List (List Nat)) (j : Nat) (h : j < Ls.length) : rowAt (marksS k Ls) j = marks (k + cntTo Ls j) (rowAt Ls j).length := by
  have : (marksS k Ls).getD j [] = marks (k + cntTo Ls j) (rowAt Ls j).length := by
    simp [marksS, List.getD_eq_getElem?_getD, List.getElem?_map, List.getElem?_range h]
  exact this
theorem cntTo_le (Ls : List (List Nat)) (m j : Nat) (hm : ∀ i, i < Ls.length → (rowAt Ls i).length ≤ m) (hj : j ≤ Ls.length) : cntTo Ls j ≤ j * m := by
  induction j with
  | zero => simp [cntTo]
  | succ j ih =>
    have h1 := ih (by omega)
    have h2 := hm j (by omega)
    rw [cntTo, Nat.succ_mul]
    omega

set_option maxRecDepth 100000 in
set_option maxHeartbeats 1600000 in
theorem markFloat32SS_any (w : World) (S : Nat → Prop) (v : Value) (k : Nat) (Ls : List (List Nat)) (h : OwnSS w S v Ls) (hmax : Ls.length ≤ 1048576) (hm : ∀ j, j < Ls.length → (rowAt Ls j).length ≤ 1048576) (hk : k + Ls.length * 1048576 ≤ 1099511627776) :
    Calls Tryz.prog 60 #[v, .int .i64 k] w fun e w' => e = .returned (.int .i64 ((k + cntTo Ls Ls.length : Nat) : Int)) ∧ OwnSS w' S v (marksS k Ls) ∧ Chg w w' S := by
  rcases h.form with ⟨rfl, hn, hds⟩ | ⟨g, cap, rfl, hg1, hg2, hcap, -, -⟩
  · obtain rfl : Ls = [] := by simpa using hn
    go_enter Tryz.func60, Tryz.ntmps60
    go_wp2
    refine wp_loop_rounds 1 ?_
    rw [rounds_succ]
    go_wp2
    go_ret
    exact ⟨by simp [cntTo], h, Chg.refl _ _⟩
  · go_enter Tryz.func60, Tryz.ntmps60
    go_wp2
    go_loopw [1, 5] (fun q i wr => ∃ j : Nat, j ≤ Ls.length ∧ i = .int .i64 j ∧ q = .int .i64 ((k + cntTo Ls j : Nat) : Int) ∧ OwnC wr S 29 1 (.slice (some ⟨g, 0, none⟩) Ls.length cap) Ls.length (mixD ((marksS k Ls).map D1.fs) (Ls.map D1.fs) j) ∧ Chg w wr S) (fun _ i _ => Ls.length - (intOf i).toNat)
    case atStart => exact ⟨0, Nat.zero_le _, rfl, rfl, by rw [mixD_zero]; exact h, Chg.refl _ _⟩
    case round =>
      obtain ⟨wi, rfl⟩ : ∃ wi : World, wi = wr := ⟨_, rfl⟩
      obtain ⟨j, hj, rfl, rfl, ho, hgw⟩ := hrel
      clear h
      by_cases hlt : j < Ls.length
      · have hl : (mixD ((marksS k Ls).map D1.fs) (Ls.map D1.fs) j).length = Ls.length := by rw [mixD_length, List.length_map]
        rcases ho.form with ⟨hv, -⟩ | ⟨g', cap', hv, -, -, -, hcl, hfr⟩
        · cases hv
        · obtain ⟨rfl, rfl⟩ : g = g' ∧ cap = cap' := by cases hv; exact ⟨rfl, rfl⟩
          obtain ⟨u, hcu, hown, -⟩ := hcl j (by omega)
          have hg : (mixD ((marksS k Ls).map D1.fs) (Ls.map D1.fs) j).getD j default = .fs (rowAt Ls j) := by
            rw [mixD_getD _ _ _ _ (by rw [List.length_map]; exact hlt), if_neg (by omega), fs_getD _ _ hlt]
          rw [hg] at hown
          obtain ⟨a', c', rfl, -, -, -⟩ := (show RdF wi u (rowAt Ls j) from hown.rd).opened
          have hsum := cntTo_le Ls 1048576 j hm (by omega)
          have hmul : j * 1048576 ≤ Ls.length * 1048576 := Nat.mul_le_mul_right _ (by omega)
          have hmj := hm j hlt
          have Ho := Lib.hid ho
          have Hown := Lib.hid hown
          have Hl := Lib.hid hl
          clear ho hcl hfr hv hl hown hg
          go_wp2_with fail
          refine (markFloat32S_any wi 0 _ (rowAt Ls j) (k + cntTo Ls j) Hown.out.1 hmj (by omega)).mono ?_
          rintro e2 w2 ⟨rfl, o2, g2⟩
          have g2' : Chg wi w2 fun b => (Value.slice a' (rowAt Ls j).length c').ownBlock = some b := Chg.of_grown g2 fun b hb => hb
          have st := Lib.hid (Ho.out.turned (j := j) (by rw [Hl.out]; exact hlt) hcu g2' (Own1.fs_ (S := S) o2 Hown.out.2))
          have ch := Lib.hid (hgw.trans (g2'.wide fun b hb => Hown.out.2 b hb))
          clear hgw g2 g2' o2 hcu
          go_wp2
          refine ⟨⟨j + 1, by omega, by go_num, by congr 1; simp only [cntTo]; omega, ?_, ch.out⟩, by simp [intOf]; omega⟩
          rw [← mixD_set, fs_getD _ _ (by rw [marksS_length]; exact hlt), marksS_row _ _ _ hlt]
          exact st.out
      · obtain rfl : j = Ls.length := by omega
        go_wp2
        go_ret
        rw [mixD_all _ _ _ (by rw [List.length_map]; exact Nat.le_refl _) (by rw [List.length_map, List.length_map, marksS_length])] at ho
        refine ⟨rfl, ?_, hgw⟩
        show OwnC _ _ _ _ _ (marksS k Ls).length _
        rw [marksS_length]
        exact ho

set_option maxRecDepth 100000 in
set_option maxHeartbeats 1600000 in
theorem heldFloat32SS_any (w : World) (v : Value) (k : Nat) (Ls : List (List Nat)) (h : RdSS w v (marksS k Ls)) (hmax : Ls.length ≤ 1048576) (hm : ∀ j, j < Ls.length → (rowAt Ls j).length ≤ 1048576) (hk : k + Ls.length * 1048576 ≤ 1099511627776) :
    Calls Tryz.prog 61 #[v, .int .i64 k] w fun e w' => e = .returned (.int .i64 ((k + cntTo Ls Ls.length : Nat) : Int)) ∧ w' = w := by
  obtain ⟨a, c, rfl, hc, -, hcell⟩ := h.opened
  rw [marksS_length] at hcell hc ⊢
  go_enter Tryz.func61, Tryz.ntmps61
  go_wp2
  go_loop [1, 5] (fun q i => ∃ j : Nat, j ≤ Ls.length ∧ i = .int .i64 j ∧ q = .int .i64 ((k + cntTo Ls j : Nat) : Int)) (fun _ i => Ls.length - (intOf i).toNat)
  case atStart => exact ⟨0, Nat.zero_le _, rfl, rfl⟩
  case round =>
    obtain ⟨j, hj, rfl, rfl⟩ := hrel
    by_cases hlt : j < Ls.length
    · obtain ⟨b, o, a', c', rfl, hlb, d0, R0⟩ := hcell j hlt
      rw [marksS_row _ _ _ hlt] at d0 R0
      have hsum := cntTo_le Ls 1048576 j hm (by omega)
      have hmul : j * 1048576 ≤ Ls.length * 1048576 := Nat.mul_le_mul_right _ (by omega)
      have hmj := hm j hlt
      have R1 := Lib.hid R0
      clear hcell R0
      go_wp2_with fail
      refine (heldFloat32S_any w _ (k + cntTo Ls j) _ R1.out hmj (by omega)).mono ?_
      rintro e2 w2 ⟨rfl, rfl⟩
      obtain ⟨N, hN⟩ : ∃ N : Nat, k + cntTo Ls j + (rowAt Ls j).length = N := ⟨_, rfl⟩
      have HN := Lib.hid hN
      rw [hN]
      have hpos : ¬ ((N : Int) < 0) := by omega
      clear hN hsum hmul hmj
      go_wp2
      have hN := HN.out
      exact ⟨⟨j + 1, by omega, by go_num, by congr 1; simp only [cntTo]; omega⟩, by simp [intOf]; omega⟩
    · obtain rfl : j = Ls.length := by omega
      go_wp2
      go_ret
      exact ⟨rfl, rfl⟩
end Go.Proofs.YtjbaebgdebcipaaGreatDoor
