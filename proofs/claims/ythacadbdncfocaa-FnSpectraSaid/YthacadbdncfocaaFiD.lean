/- Walks: a trace muted, tapered, and divided by its mean size. -/
import Derived.Test.YthacadbdncfocaaFiC
import Derived.Test.YthacadbdncfocaaSh
namespace Go.Proofs.Ythacadbdncfocaa
open Go Go.RowKit

theorem within_true (w : World) (n lo hi : Int) (h1 : lo ≤ n) (h2 : n ≤ hi) :
    Calls Try.prog 51 #[.int .i64 n, .int .i64 lo, .int .i64 hi] w fun e w' => e = .returned (.bool true) ∧ w' = w := by
  have := within_any w n lo hi
  rw [show inB n lo hi = true by unfold inB; simp; omega] at this
  exact this
def muL (A : List Nat) (f m : Nat) : List Nat := A.take f ++ (List.replicate m 0 ++ A.drop (f + m))
set_option maxRecDepth 100000 in
set_option maxHeartbeats 1600000 in
theorem muteTrace_any (w : World) (v : Value) (A : List Nat) (f m : Nat) (h1 : RdF w v A) (hn : 1 ≤ A.length) (hn2 : A.length ≤ 128) (hf : f < A.length) (hm : f + m ≤ A.length) :
    Calls Try.prog 38 #[v, .int .i64 f, .int .i64 ((f : Int) + m)] w fun e w' => ∃ v', e = .returned (.tuple #[v', .bool true]) ∧ OwnF w' w.heap.size v' (muL A f m) ∧ Below w.heap.size w w' := by
  have HC := Lib.hid (clone_any w v A h1 (by omega))
  obtain ⟨a1, c1, rfl⟩ := rd_slice h1
  obtain ⟨n, hnn⟩ : ∃ n, A.length = n := ⟨_, rfl⟩
  have HN := Lib.hid hnn
  have HE := Lib.hid (isTraceT_any w a1 A.length c1 hn hn2)
  clear h1
  rw [hnn] at hn hn2 HE HC hf hm ⊢
  clear hnn
  have HW1 := Lib.hid (within_true w ((f : Int) + m) 0 n (by omega) (by omega))
  have HW2 := Lib.hid (within_true w f 0 ((f : Int) + m) (by omega) (by omega))
  have HLn := Lib.hid (lengthF_any w a1 n c1)
  go_enter Try.func38, Try.ntmps38
  go_wp2_with fail
  refine HE.out.mono ?_
  rintro e w0 ⟨rfl, hw0⟩
  obtain rfl : w = w0 := hw0.symm
  clear HE hw0
  go_wp2_with fail
  refine HLn.out.mono ?_
  rintro e w0 ⟨rfl, hw0⟩
  obtain rfl : w = w0 := hw0.symm
  clear HLn hw0
  go_wp2_with fail
  refine HW1.out.mono ?_
  rintro e w0 ⟨rfl, hw0⟩
  obtain rfl : w = w0 := hw0.symm
  clear HW1 hw0
  go_wp2_with fail
  refine HW2.out.mono ?_
  rintro e w0 ⟨rfl, hw0⟩
  obtain rfl : w = w0 := hw0.symm
  clear HW2 hw0
  go_wp2_with fail
  refine HC.out.mono ?_
  rintro e w1 ⟨v, rfl, o1, b1⟩
  obtain ⟨g, cap, rfl, hg, -, hcap, -, -⟩ := o1.at_block HN.out hn
  have O1 := Lib.hid o1
  have B1 := Lib.hid b1
  have hz1 := b1.size
  have hfc : (f : Int) < cap := by omega
  clear o1 b1 HC
  have hsl : Value.slice (some ⟨g, f, none⟩) (f + m - f) (cap - f) = .slice (some ⟨g, f, none⟩) m (cap - f) := by rw [Nat.add_sub_cancel_left]
  have HSL := Lib.hid hsl
  clear hsl
  go_wp2_with (refine wpList_clearF (by rfl) (.tmp 30) (by rfl) w.heap.size g cap n A HN.out O1.out (some ⟨g, f, none⟩) f m (cap - f) HSL.out (fun _ => rfl) hm ?_; intro w2 o2 hc2 hz2)
  have O2 : Hid (OwnF w2 w.heap.size (.slice (some ⟨g, 0, none⟩) n cap) (muL A f m)) := Lib.hid o2
  have B2 : Hid (Below w.heap.size w w2) := Lib.hid (Below.chg B1.out hc2 (fun k hk => by omega) hz1)
  clear o2 hc2 hz2
  go_wp2
  go_ret2
  exact ⟨_, rfl, O2.out, B2.out⟩
/-- A tapered number. -/
def tpV (x k c : Nat) : Nat := fop .quo .f32 (fop .mul .f32 x (floatOfInt .f32 ((k : Int) + 1))) (floatOfInt .f32 ((c : Int) + 1))
def tpF (A : List Nat) (c k i : Nat) : Nat := if i < k then tpV (A.getD i 0) i c else if A.length - 1 - i < k then tpV (A.getD i 0) (A.length - 1 - i) c else A.getD i 0
def tpK (A : List Nat) (c k : Nat) : List Nat := tab (tpF A c k) A.length
theorem tpK_length (A : List Nat) (c k : Nat) : (tpK A c k).length = A.length := tab_length _ _
theorem list_eq_getD {X Y : List Nat} (hl : X.length = Y.length) (h : ∀ i, i < X.length → X.getD i 0 = Y.getD i 0) : X = Y := by
  apply List.ext_getElem hl
  intro i h1 h2
  have := h i h1
  simpa [List.getD_eq_getElem?_getD, List.getElem?_eq_getElem h1, List.getElem?_eq_getElem h2] using this
theorem tpK_zero (A : List Nat) (c : Nat) : tpK A c 0 = A := by
  refine list_eq_getD (tpK_length _ _ _) fun i hi => ?_
  rw [tpK_length] at hi
  rw [tpK, tab_getD _ _ _ hi]
  unfold tpF
  rw [if_neg (by omega), if_neg (by omega)]
theorem tpK_lo (A : List Nat) (c k : Nat) (h : 2 * k + 1 < A.length) : (tpK A c k).getD k 0 = A.getD k 0 := by
  rw [tpK, tab_getD _ _ _ (by omega)]
  unfold tpF
  rw [if_neg (by omega), if_neg (by omega)]
theorem tpK_hi (A : List Nat) (c k : Nat) (h : 2 * k + 1 < A.length) : (tpK A c k).getD (A.length - 1 - k) 0 = A.getD (A.length - 1 - k) 0 := by
  rw [tpK, tab_getD _ _ _ (by omega)]
  unfold tpF
  rw [if_neg (by omega), if_neg (by omega)]
theorem tpK_step (A : List Nat) (c k : Nat) (h : 2 * k + 1 < A.length) : ((tpK A c k).set k (tpV (A.getD k 0) k c)).set (A.length - 1 - k) (tpV (A.getD (A.length - 1 - k) 0) k c) = tpK A c (k + 1) := by
  refine list_eq_getD (by rw [List.length_set, List.length_set, tpK_length, tpK_length]) fun i hi => ?_
  rw [List.length_set, List.length_set, tpK_length] at hi
  rw [getD_set _ _ _ _ (by rw [List.length_set, tpK_length]; omega), getD_set _ _ _ _ (by rw [tpK_length]; omega), tpK, tpK, tab_getD _ _ _ hi, tab_getD _ _ _ hi]
  unfold tpF
  by_cases h1 : i = A.length - 1 - k
  · rw [if_pos h1, if_neg (by omega), if_pos (by omega), ← h1, show A.length - 1 - i = k by omega]
  · rw [if_neg h1]
    by_cases h2 : i = k
    · rw [if_pos h2, if_pos (by omega), h2]
    · rw [if_neg h2]
      by_cases h3 : i < k
      · rw [if_pos h3, if_pos (by omega)]
      · rw [if_neg h3, if_neg (show ¬ i < k + 1 by omega)]
        by_cases h4 : A.length - 1 - i < k
        · rw [if_pos h4, if_pos (by omega)]
        · rw [if_neg h4, if_neg (by omega)]
theorem below_store {B g : Nat} {w w' : World} (h : Below B w w') (hB : B ≤ g) (hs : B ≤ w.heap.size) (n k : Nat) (V : Value) : Below B w ((w'.drewN n).setCell ⟨g, k, none⟩ V) :=
  Below.chg (Below.drewN h n) ((Chg.refl _ (fun b => b = g)).setCell rfl k V) (fun b hb => by omega) (Nat.le_trans hs h.size)
theorem below_two {g : Nat} {w w' : World} (h : Below w.heap.size w w') (hB : w.heap.size ≤ g) (k j n m : Nat) (V U : Value) : Below w.heap.size w ((((w'.drewN n).setCell ⟨g, k, none⟩ V).drewN m).setCell ⟨g, j, none⟩ U) :=
  below_store (below_store h hB (Nat.le_refl _) n k V) hB (Nat.le_refl _) m j U
set_option maxRecDepth 100000 in
set_option maxHeartbeats 3200000 in
theorem taperTrace_any (w : World) (v : Value) (A : List Nat) (c : Nat) (h1 : RdF w v A) (hn : 1 ≤ A.length) (hn2 : A.length ≤ 128) (hc : 2 * c ≤ A.length) :
    Calls Try.prog 39 #[v, .int .i64 c] w fun e w' => ∃ v', e = .returned (.tuple #[v', .bool true]) ∧ OwnF w' w.heap.size v' (tpK A c c) ∧ Below w.heap.size w w' := by
  have hmul := run_fmul (P := Try.prog)
  have hquo := run_fquo (P := Try.prog)
  have hst := run_store_float (P := Try.prog)
  have HC := Lib.hid (clone_any w v A h1 (by omega))
  obtain ⟨a1, c1, rfl⟩ := rd_slice h1
  obtain ⟨n, hnn⟩ : ∃ n, A.length = n := ⟨_, rfl⟩
  have HN := Lib.hid hnn
  have HE := Lib.hid (isTraceT_any w a1 A.length c1 hn hn2)
  have HZ := Lib.hid (tpK_zero A c)
  clear h1
  rw [hnn] at hn hn2 HE HC hc ⊢
  clear hnn
  have hdv : (c : Int) ≤ (n : Int) / 2 := by omega
  have HW1 := Lib.hid (within_true w c 0 ((n : Int) / 2) (by omega) hdv)
  have HLn := Lib.hid (fun wq => lengthF_any wq a1 n c1)
  go_enter Try.func39, Try.ntmps39
  go_wp2_with fail
  refine HE.out.mono ?_
  rintro e w0 ⟨rfl, hw0⟩
  obtain rfl : w = w0 := hw0.symm
  clear HE hw0
  go_wp2_with fail
  refine (HLn.out w).mono ?_
  rintro e w0 ⟨rfl, hw0⟩
  obtain rfl : w = w0 := hw0.symm
  clear hw0
  go_wp2_with fail
  refine HW1.out.mono ?_
  rintro e w0 ⟨rfl, hw0⟩
  obtain rfl : w = w0 := hw0.symm
  clear HW1 hw0
  go_wp2_with fail
  refine HC.out.mono ?_
  rintro e w1 ⟨v, rfl, o1, b1⟩
  obtain ⟨g, cap, rfl, hg, -, hcap, -, -⟩ := o1.at_block HN.out hn
  have O1 : Hid (OwnF w1 w.heap.size (.slice (some ⟨g, 0, none⟩) n cap) (tpK A c 0)) := Lib.hid (by rw [HZ.out]; exact o1)
  have B1 := Lib.hid b1
  clear o1 b1 HC hdv
  go_wp2_with fail
  go_loopw [24] (fun i wr => ∃ k : Nat, k ≤ c ∧ i = .int .i64 k ∧ OwnF wr w.heap.size (.slice (some ⟨g, 0, none⟩) n cap) (tpK A c k) ∧ Below w.heap.size w wr) (fun i _ => c - (intOf i).toNat)
  case atStart => exact ⟨0, Nat.zero_le _, rfl, O1.out, B1.out⟩
  case round =>
    clear O1 B1
    obtain ⟨wi, rfl⟩ : ∃ wi : World, wi = wr := ⟨_, rfl⟩
    obtain ⟨k, hk, rfl, ho, hb⟩ := hrel
    have HO := Lib.hid ho
    have HB := Lib.hid hb
    have hzi := hb.size
    have hml : (tpK A c k).length = n := by rw [tpK_length, HN.out]
    by_cases hlt : k < c
    · have hk2 : 2 * k + 1 < n := by omega
      obtain ⟨g', cap', hv, -, hgl, -, hcl, hfr⟩ := ho.at_block (n := n) hml (by omega)
      obtain rfl : g = g' := by cases hv; rfl
      obtain ⟨j, hj⟩ : ∃ j, n - 1 - k = j := ⟨_, rfl⟩
      have hji : (n : Int) - 1 - (k : Int) = (j : Int) := by omega
      have hjn : j < n := by omega
      have hjk : k ≠ j := by omega
      obtain ⟨r1, d1, F1⟩ := hcl k (by omega)
      obtain ⟨r2, d2, F2⟩ := hcl j (by omega)
      have F2' : FV .f32 r2 (A.getD j 0) := by
        have e := tpK_hi A c k (by rw [HN.out]; exact hk2)
        rw [HN.out, hj] at e
        rw [e] at F2
        exact F2
      rw [tpK_lo A c k (by rw [HN.out]; exact hk2)] at F1
      have f1 := hfr k
      have f2 := hfr j
      have HF1 := Lib.hid F1
      have HF2 := Lib.hid F2'
      have HST : Hid (((tpK A c k).set k (tpV (A.getD k 0) k c)).set j (tpV (A.getD j 0) k c) = tpK A c (k + 1)) := Lib.hid (by
        have e := tpK_step A c k (by rw [HN.out]; exact hk2)
        rw [HN.out, hj] at e
        exact e)
      have HML := Lib.hid hml
      have HJ := Lib.hid hj
      clear hv hcl hfr ho hb F1 F2 F2' hml hj
      go_wp2_with fail
      refine (HLn.out wi).mono ?_
      rintro e w0 ⟨rfl, hw0⟩
      obtain rfl : wi = w0 := hw0.symm
      clear hw0
      have hne : wi.heap.size ≠ g := by omega
      go_wp2_with fail
      refine wp_loop_rounds 3 ?_
      rw [rounds_succ]
      have nb : ∀ o, (⟨g, k, none⟩ : Addr) ≠ ⟨wi.heap.size, o, none⟩ := fun o h => by injection h with h1; omega
      have nj : (⟨g, k, none⟩ : Addr) ≠ ⟨g, j, none⟩ := fun h => by injection h with _ h1; exact hjk h1
      have R1 : ∀ nd V, (((wi.alloc (.cells #[.int .i64 k, .int .i64 j] 2)).drewN nd).setCell ⟨g, k, none⟩ V).cell? ⟨wi.heap.size, 1, none⟩ = some (.int .i64 j) := fun nd V => by
        rw [World.cell?_setCell_other _ _ _ _ (nb 1)]
        exact cell_of_row (wi.alloc (.cells #[.int .i64 k, .int .i64 j] 2)) wi.heap.size 1 _ _ _ (alloc_new _ _)
      have xa : Below wi.heap.size wi (wi.alloc (.cells #[.int .i64 k, .int .i64 j] 2)) := (Below.refl _ _).alloc (Nat.le_refl _) _
      have R2 : ∀ nd V, (((wi.alloc (.cells #[.int .i64 k, .int .i64 j] 2)).drewN nd).setCell ⟨g, k, none⟩ V).cell? ⟨g, j, none⟩ = some (.float .f32 r2) := fun nd V => by
        rw [World.cell?_setCell_other _ _ _ _ nj]
        exact ((bcell xa).1 g j hgl).trans d2
      have XA := Lib.hid xa
      clear nb nj xa
      go_wp2_with fail
      rw [rounds_succ]
      go_wp2_with fail
      rw [rounds_succ]
      go_wp2_with fail
      refine ⟨⟨k + 1, by omega, by go_num, ?_, ?_⟩, by simp [intOf]; omega⟩
      · rw [← HST.out]
        have oa := HO.out.kept XA.out
        exact OwnF.storedN ((OwnF.storedN (oa.drewN _) HML.out (FV.op (op := .quo) (FV.op (op := .mul) HF1.out (floatOfInt_fv _ _) _) (floatOfInt_fv _ _) _)).drewN _) (by rw [List.length_set, HML.out]) (FV.op (op := .quo) (FV.op (op := .mul) HF2.out (floatOfInt_fv _ _) _) (floatOfInt_fv _ _) _)
      · have q0 := HB.out.trans (XA.out.mono hzi)
        refine below_two q0 hg k j _ _ _ _
    · obtain rfl : k = c := by omega
      clear ho hb hml
      go_wp2
      go_ret2
      exact ⟨_, rfl, HO.out, HB.out⟩
end Go.Proofs.Ythacadbdncfocaa
