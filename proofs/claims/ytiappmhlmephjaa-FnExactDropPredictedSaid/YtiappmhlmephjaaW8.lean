/- Walks: how traces are like one another, and noise that is added to the first number. -/
import Derived.Test.YtiappmhlmephjaaW2
import Derived.Test.YtiappmhlmephjaaCv
import Derived.Test.YtiappmhlmephjaaPl
namespace Go.Proofs.Ytiappmhlmephjaa
open Go Go.RowKit

def crossAt (A B : List Nat) (k i : Nat) : Nat := fop .mul .f32 (A.getD (i + k) 0) (B.getD i 0)
def crossM (A B : List Nat) (n : Nat) : List Nat := tab (fun k => sumTo .f32 (crossAt A B k) (min B.length (A.length - k))) n
theorem crossM_length (A B : List Nat) (n : Nat) : (crossM A B n).length = n := tab_length _ _
theorem crossM_at (A B : List Nat) (n k : Nat) (h : k < n) : (crossM A B n).getD k 0 = sumTo .f32 (crossAt A B k) (min B.length (A.length - k)) := tab_getD _ _ _ h
theorem set_set (l : List Nat) (k x y : Nat) : (l.set k x).set k y = l.set k y := by simp
theorem set_same (l : List Nat) (k : Nat) (h : k < l.length) : l.set k (l.getD k 0) = l := by
  apply List.ext_getElem?
  intro i
  by_cases hi : k = i
  · subst hi; simp [h]
  · simp [List.getElem?_set, hi]

set_option maxRecDepth 100000 in
set_option maxHeartbeats 1000000 in
theorem cross_any (w : World) (va vb : Value) (A B : List Nat) (n : Nat) (hA : RdF w va A) (hB : RdF w vb B) (hmA : A.length ≤ 1000) (hmB : B.length ≤ 1000) (hn : n ≤ 1000) :
    Calls Try.prog 39 #[va, vb, .int .i64 n] w fun e w' => ∃ v', e = .returned v' ∧ OwnF w' w.heap.size v' (crossM A B n) ∧ Below w.heap.size w w' := by
  have hadd := run_fadd (P := Try.prog)
  have hmul := run_fmul (P := Try.prog)
  have hst := run_store_float (P := Try.prog)
  obtain ⟨a, ca, rfl, hca, -, hcellA⟩ := hA.opened
  obtain ⟨b, cb, rfl, hcb, -, hcellB⟩ := hB.opened
  go_enter Try.func39, Try.ntmps39
  go_wp2_with (refine wpList_mk rfl _ _ rfl w.heap.size _ _ _ _ n rfl rfl rfl rfl (by omega) (Nat.le_refl _) ?_; intro w1 h1 hb1 hs1)
  go_loopw [14] (fun i wr => ∃ k : Nat, k ≤ n ∧ i = .int .i64 k ∧ OwnF wr w.heap.size (.slice (some ⟨w.heap.size, 0, none⟩) n n) (upTo (crossM A B n) k) ∧ Below w.heap.size w wr) (fun i _ => n - (intOf i).toNat)
  case atStart => exact ⟨0, Nat.zero_le _, rfl, by rw [upTo_zero, crossM_length]; exact h1, hb1⟩
  case round =>
    obtain ⟨wo, rfl⟩ : ∃ wo : World, wo = wr := ⟨_, rfl⟩
    obtain ⟨k, hk, rfl, ho, hbr⟩ := hrel
    clear h1
    by_cases hlt : k < n
    · have hlen : (upTo (crossM A B n) k).length = n := by rw [upTo_length, crossM_length]
      have hz : (upTo (crossM A B n) k).getD k 0 = 0 := by rw [upTo_getD _ _ _ (by rw [crossM_length]; exact hlt), if_neg (Nat.lt_irrefl k)]
      have ho0 : OwnF wo w.heap.size (.slice (some ⟨w.heap.size, 0, none⟩) n n) ((upTo (crossM A B n) k).set k (sumTo .f32 (crossAt A B k) 0)) := by
        have e : (upTo (crossM A B n) k).set k (sumTo .f32 (crossAt A B k) 0) = upTo (crossM A B n) k := by
          have := set_same (upTo (crossM A B n) k) k (by rw [hlen]; exact hlt)
          rw [hz] at this; exact this
        rw [e]; exact ho
      have Hlen := Lib.hid hlen
      clear hz hlen ho
      go_wp2
      go_loopw [9] (fun i wr => ∃ j : Nat, j ≤ min B.length (A.length - k) ∧ i = .int .i64 j ∧ OwnF wr w.heap.size (.slice (some ⟨w.heap.size, 0, none⟩) n n) ((upTo (crossM A B n) k).set k (sumTo .f32 (crossAt A B k) j)) ∧ Below w.heap.size w wr) (fun i _ => 1000 - (intOf i).toNat)
      case atStart => exact ⟨0, Nat.zero_le _, rfl, ho0, hbr⟩
      case round =>
        obtain ⟨wi, rfl⟩ : ∃ wi : World, wi = wr := ⟨_, rfl⟩
        obtain ⟨j, hj, rfl, hoi, hbi⟩ := hrel
        clear ho0
        by_cases hlj : j < min B.length (A.length - k)
        · have hj1 : j < B.length := by omega
          have hj2 : j + k < A.length := by omega
          obtain ⟨b1, o1, r1, rfl, c1, f1⟩ := hcellA (j + k) hj2
          obtain ⟨b2, o2, r2, rfl, c2, f2⟩ := hcellB j hj1
          have c1' : wi.cell? ⟨b1, o1 + (j + k), none⟩ = some (.float .f32 r1) := ((bcell hbi).1 _ _ (block_lt c1)).trans c1
          have c2' : wi.cell? ⟨b2, o2 + j, none⟩ = some (.float .f32 r2) := ((bcell hbi).1 _ _ (block_lt c2)).trans c2
          obtain ⟨g', c', eq, _, _, _, hcello, hfro⟩ := hoi.at_block (n := n) (by rw [List.length_set, Hlen.out]) (by omega)
          obtain rfl : w.heap.size = g' := by cases eq; rfl
          obtain ⟨r3, c3, f3⟩ := hcello k (by rw [List.length_set, Hlen.out]; exact hlt)
          have hfr := hfro k
          have f3' : FV .f32 r3 (sumTo .f32 (crossAt A B k) j) := by
            have e : ((upTo (crossM A B n) k).set k (sumTo .f32 (crossAt A B k) j)).getD k 0 = sumTo .f32 (crossAt A B k) j := by
              rw [List.getD_eq_getElem?_getD, List.getElem?_set]; simp [Hlen.out, hlt]
            rw [e] at f3; exact f3
          clear hcello hfro eq c1 c2 hcellA hcellB hA hB f3
          go_wp2
          refine region_rel_tail 17 (by kernel_rfl) (by kernel_rfl) (Drawn wi) (fun _ _ _ => False) ⟨1, rfl⟩ ?_
          simp only [List.take_succ_cons, List.take_zero, List.drop_succ_cons, List.drop_zero]
          repeat (refine wpRel_draw rfl rfl (fun nq K hK => ?_); go_wp2)
          refine wpRel_nil ?_
          rintro wd ⟨nd, hwd⟩
          have c3d : wd.cell? ⟨w.heap.size, k, none⟩ = some (.float .f32 r3) := by rw [hwd]; exact c3
          have hfrd : wd.frozen? ⟨w.heap.size, k, none⟩ = false := by rw [hwd]; exact hfr
          have hod := Lib.hid (show OwnF wd w.heap.size (.slice (some ⟨w.heap.size, 0, none⟩) n n) ((upTo (crossM A B n) k).set k (sumTo .f32 (crossAt A B k) j)) from by rw [hwd]; exact hoi)
          have hbd : Below w.heap.size w wd := by rw [hwd]; exact Below.drewN hbi nd
          clear hwd c1' c2' c3 hfr hoi
          go_wp2
          refine ⟨⟨j + 1, by omega, by go_num, ?_, hbd.setCell (Nat.le_refl _) _⟩, by simp [intOf]; omega⟩
          rw [← set_set (upTo (crossM A B n) k) k (sumTo .f32 (crossAt A B k) j) (sumTo .f32 (crossAt A B k) (j + 1))]
          exact hod.out.storedN (by rw [List.length_set, Hlen.out]) (FV.op f3' (FV.op f1 f2 _) _)
        · have hjm : j = min B.length (A.length - k) := by omega
          rw [hjm, ← crossM_at A B n k hlt, upTo_set] at hoi
          clear hjm hcellA hcellB hA hB
          by_cases hjb : j < B.length
          · have hka : A.length ≤ j + k := by omega
            go_wp2
            exact ⟨⟨k + 1, by omega, by go_num, hoi, hbi⟩, by simp [intOf]; omega⟩
          · go_wp2
            exact ⟨⟨k + 1, by omega, by go_num, hoi, hbi⟩, by simp [intOf]; omega⟩
    · go_wp2
      go_ret
      rw [upTo_all _ _ (by rw [crossM_length]; omega)] at ho
      exact ⟨_, rfl, ho, hbr⟩

set_option maxRecDepth 100000 in
set_option maxHeartbeats 400000 in
theorem auto_any (w : World) (va : Value) (A : List Nat) (n : Nat) (hA : RdF w va A) (hmA : A.length ≤ 1000) (hn : n ≤ 1000) :
    Calls Try.prog 34 #[va, .int .i64 n] w fun e w' => ∃ v', e = .returned v' ∧ OwnF w' w.heap.size v' (crossM A A n) ∧ Below w.heap.size w w' := by
  go_enter Try.func34, Try.ntmps34
  go_wp2_with fail
  refine (cross_any w va va A A n hA hA hmA hmA hn).mono ?_
  rintro e w1 ⟨v1, rfl, h1, hb1⟩
  go_wp2
  go_ret
  exact ⟨_, rfl, h1, hb1⟩

set_option maxRecDepth 100000 in
set_option maxHeartbeats 1000000 in
theorem l05Auto_any (w : World) (va : Value) (A : List Nat) (n : Nat) (hA : RdF w va A) (hmA : A.length ≤ 1000) (hn : n ≤ 1000) :
    Calls Try.prog 62 #[va, .int .i64 n] w fun e w' => ∃ v', e = .returned v' ∧ OwnF w' w.heap.size v' (crossM A A n) ∧ Below w.heap.size w w' := by
  have hadd := run_fadd (P := Try.prog)
  have hmul := run_fmul (P := Try.prog)
  obtain ⟨a, ca, rfl, hca, -, hcellA⟩ := hA.opened
  have hq0 : OwnF (w.alloc (.cells #[] 23)) w.heap.size (.slice (some ⟨w.heap.size, 0, none⟩) 0 0) [] := ⟨[], rfl, fun j hj => (by cases hj), World.ownsRow_lit w #[] 0 (Nat.le_refl _) (by decide) rfl⟩
  go_enter Try.func62, Try.ntmps62
  go_wp2
  go_loopw [5, 6] (fun q i wr => ∃ k : Nat, k ≤ n ∧ i = .int .i64 k ∧ OwnF wr w.heap.size q (crossM A A k) ∧ Below w.heap.size w wr) (fun _ i _ => n - (intOf i).toNat)
  case atStart => exact ⟨0, Nat.zero_le _, rfl, hq0, (Below.refl _ _).alloc (Nat.le_refl _) _⟩
  case round =>
    obtain ⟨wo, rfl⟩ : ∃ wo : World, wo = wr := ⟨_, rfl⟩
    obtain ⟨k, hk, rfl, ho, hbr⟩ := hrel
    clear hq0
    by_cases hlt : k < n
    · have hcell : ∀ j, j < A.length → ∃ b o r, a = some ⟨b, o, none⟩ ∧ wo.cell? ⟨b, o + j, none⟩ = some (.float .f32 r) ∧ FV .f32 r (A.getD j 0) := fun j hj => by
        obtain ⟨b, o, r, h1, h2, h3⟩ := hcellA j hj
        exact ⟨b, o, r, h1, ((bcell hbr).1 _ _ (block_lt h2)).trans h2, h3⟩
      clear hcellA hA
      go_wp2
      go_loopw [7, 8] (fun s i wr => ∃ (j r q : Nat), j ≤ A.length - k ∧ i = .int .i64 j ∧ s = .float .f32 r ∧ FV .f32 r (sumTo .f32 (crossAt A A k) j) ∧ wr = wo.drewN q) (fun _ i _ => 1000 - (intOf i).toNat)
      case atStart => exact ⟨0, 0, 0, Nat.zero_le _, rfl, rfl, fv0 _, rfl⟩
      case round =>
        obtain ⟨wi, rfl⟩ : ∃ wi : World, wi = wr := ⟨_, rfl⟩
        obtain ⟨j, r, q, hj, rfl, rfl, fr, hwq⟩ := hrel
        by_cases hlj : j + k < A.length
        · obtain ⟨b1, o1, r1, rfl, c1, f1⟩ := hcell j (by omega)
          obtain ⟨b2, o2, r2, e2, c2, f2⟩ := hcell (j + k) hlj
          simp only [Option.some.injEq, Addr.mk.injEq, and_true] at e2
          obtain ⟨rfl, rfl⟩ := e2
          have c1' : wi.cell? ⟨b1, o1 + j, none⟩ = some (.float .f32 r1) := by rw [hwq]; exact c1
          have c2' : wi.cell? ⟨b1, o1 + (j + k), none⟩ = some (.float .f32 r2) := by rw [hwq]; exact c2
          have hwq' := Lib.hid hwq
          have fr' := Lib.hid fr
          clear hwq c1 c2 hcell fr
          go_wp2
          refine region_rel_all (by kernel_rfl) (by kernel_rfl) (Drawn wi) (fun _ _ _ => False) ⟨1, rfl⟩ ?_
          repeat (refine wpRel_draw rfl rfl (fun nq K hK => ?_); go_wp2)
          refine wpRel_nil ?_
          rintro wd ⟨nd, hwd⟩
          have hwd' := Lib.hid hwd
          clear hwd
          go_wp2
          refine ⟨⟨j + 1, _, q + nd, by omega, by go_num, rfl, ?_, by rw [hwd'.out, hwq'.out, World.drewN_drewN]⟩, by simp [intOf]; omega⟩
          show FV .f32 _ (fop .add .f32 (sumTo .f32 (crossAt A A k) j) (fop .mul .f32 (A.getD (j + k) 0) (A.getD j 0)))
          rw [fop_mul_comm]
          exact FV.op fr'.out (FV.op f1 f2 _) _
        · have hjm : j = min A.length (A.length - k) := by omega
          have ho' : OwnF wi w.heap.size u5 (crossM A A k) := by rw [hwq]; exact ho
          have hb' : Below w.heap.size w wi := by rw [hwq]; exact Below.drewN hbr q
          have hs' := hb'.size
          have Hjm := Lib.hid hjm
          clear hwq hcell ho hjm
          go_wp2_with (at_builtin; go_must (refine wpList_push rfl _ _ rfl w.heap.size u5 (crossM A A k) rfl (ho'.alloc _) _ _ _ _ rfl (cell_new _ _ _) fr (by rw [crossM_length]; omega) (by rw [World.size_alloc]; omega) ?_); intro v3 w3 h3 hg3 hb3 _)
          refine ⟨⟨k + 1, by omega, by go_num, ?_, hb'.trans (((Below.refl _ _).alloc hs' _).trans hb3)⟩, by simp [intOf]; omega⟩
          rw [show crossM A A (k + 1) = crossM A A k ++ [sumTo .f32 (crossAt A A k) (min A.length (A.length - k))] from tab_succ _ _, ← Hjm.out]
          exact h3
    · go_wp2
      go_ret
      obtain rfl : k = n := by omega
      exact ⟨_, rfl, ho, hbr⟩
end Go.Proofs.Ytiappmhlmephjaa
