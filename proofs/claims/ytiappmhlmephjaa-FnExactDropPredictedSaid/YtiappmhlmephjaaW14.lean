/- Walks: a filter applied. -/
import Derived.Test.YtiappmhlmephjaaW13
namespace Go.Proofs.Ytiappmhlmephjaa
open Go Go.RowKit

def appAt (A F : List Nat) (k i : Nat) : Nat := fop .mul .f32 (F.getD i 0) (A.getD (k - i) 0)
def appM (A F : List Nat) : List Nat := tab (fun k => sumTo .f32 (appAt A F k) (min (k + 1) F.length)) A.length
theorem appM_length (A F : List Nat) : (appM A F).length = A.length := tab_length _ _
theorem appM_at (A F : List Nat) (k : Nat) (h : k < A.length) : (appM A F).getD k 0 = sumTo .f32 (appAt A F k) (min (k + 1) F.length) := tab_getD _ _ _ h
def appTo (A F : List Nat) (k : Nat) : List Nat := tab (fun k => sumTo .f32 (appAt A F k) (min (k + 1) F.length)) k

set_option maxRecDepth 100000 in
set_option maxHeartbeats 1000000 in
theorem applied_any (w : World) (va vf : Value) (A F : List Nat) (hA : RdF w va A) (hF : RdF w vf F) (hmA : A.length ≤ 1000) (hmF : F.length ≤ 1000) :
    Calls Try.prog 50 #[va, vf] w fun e w' => ∃ v', e = .returned v' ∧ OwnF w' w.heap.size v' (appM A F) ∧ Below w.heap.size w w' := by
  have hadd := run_fadd (P := Try.prog)
  have hmul := run_fmul (P := Try.prog)
  have hst := run_store_float (P := Try.prog)
  obtain ⟨a, ca, rfl, hca, -, hcellA⟩ := hA.opened
  obtain ⟨b, cb, rfl, hcb, -, hcellF⟩ := hF.opened
  go_enter Try.func50, Try.ntmps50
  go_wp2_with (refine wpList_mk rfl _ _ rfl w.heap.size _ _ _ _ A.length rfl rfl rfl rfl (by omega) (Nat.le_refl _) ?_; intro w1 h1 hb1 hs1)
  go_loopw [13] (fun i wr => ∃ k : Nat, k ≤ A.length ∧ i = .int .i64 k ∧ OwnF wr w.heap.size (.slice (some ⟨w.heap.size, 0, none⟩) A.length A.length) (upTo (appM A F) k) ∧ Below w.heap.size w wr) (fun i _ => A.length - (intOf i).toNat)
  case atStart => exact ⟨0, Nat.zero_le _, rfl, by rw [upTo_zero, appM_length]; exact h1, hb1⟩
  case round =>
    obtain ⟨wo, rfl⟩ : ∃ wo : World, wo = wr := ⟨_, rfl⟩
    obtain ⟨k, hk, rfl, ho, hbr⟩ := hrel
    clear h1
    by_cases hlt : k < A.length
    · have hlen : (upTo (appM A F) k).length = A.length := by rw [upTo_length, appM_length]
      have hz : (upTo (appM A F) k).getD k 0 = 0 := by rw [upTo_getD _ _ _ (by rw [appM_length]; exact hlt), if_neg (Nat.lt_irrefl k)]
      have ho0 : OwnF wo w.heap.size (.slice (some ⟨w.heap.size, 0, none⟩) A.length A.length) ((upTo (appM A F) k).set k (sumTo .f32 (appAt A F k) 0)) := by
        have e : (upTo (appM A F) k).set k (sumTo .f32 (appAt A F k) 0) = upTo (appM A F) k := by
          have := set_same (upTo (appM A F) k) k (by rw [hlen]; exact hlt)
          rw [hz] at this; exact this
        rw [e]; exact ho
      have Hlen := Lib.hid hlen
      clear hz hlen ho
      go_wp2
      go_loopw [7] (fun i wr => ∃ j : Nat, j ≤ min (k + 1) F.length ∧ i = .int .i64 j ∧ OwnF wr w.heap.size (.slice (some ⟨w.heap.size, 0, none⟩) A.length A.length) ((upTo (appM A F) k).set k (sumTo .f32 (appAt A F k) j)) ∧ Below w.heap.size w wr) (fun i _ => 1000 - (intOf i).toNat)
      case atStart => exact ⟨0, Nat.zero_le _, rfl, ho0, hbr⟩
      case round =>
        obtain ⟨wi, rfl⟩ : ∃ wi : World, wi = wr := ⟨_, rfl⟩
        obtain ⟨j, hj, rfl, hoi, hbi⟩ := hrel
        clear ho0
        by_cases hlj : j < min (k + 1) F.length
        · have hj1 : j ≤ k := by omega
          have hj2 : j < F.length := by omega
          obtain ⟨b1, o1, r1, rfl, c1, f1⟩ := hcellF j hj2
          obtain ⟨b2, o2, r2, rfl, c2, f2⟩ := hcellA (k - j) (by omega)
          have c1' : wi.cell? ⟨b1, o1 + j, none⟩ = some (.float .f32 r1) := ((bcell hbi).1 _ _ (block_lt c1)).trans c1
          have c2' : wi.cell? ⟨b2, o2 + (k - j), none⟩ = some (.float .f32 r2) := ((bcell hbi).1 _ _ (block_lt c2)).trans c2
          obtain ⟨g', c', eq, _, _, _, hcello, hfro⟩ := hoi.at_block (n := A.length) (by rw [List.length_set, Hlen.out]) (by omega)
          obtain rfl : w.heap.size = g' := by cases eq; rfl
          obtain ⟨r3, c3, f3⟩ := hcello k (by rw [List.length_set, Hlen.out]; exact hlt)
          have hfr := hfro k
          have f3' : FV .f32 r3 (sumTo .f32 (appAt A F k) j) := by
            have e : ((upTo (appM A F) k).set k (sumTo .f32 (appAt A F k) j)).getD k 0 = sumTo .f32 (appAt A F k) j := by
              rw [List.getD_eq_getElem?_getD, List.getElem?_set]; simp [Hlen.out, hlt]
            rw [e] at f3; exact f3
          clear hcello hfro eq c1 c2 hcellA hcellF hA hF f3
          go_wp2
          refine region_rel_tail 17 (by kernel_rfl) (by kernel_rfl) (Drawn wi) (fun _ _ _ => False) ⟨1, rfl⟩ ?_
          simp only [List.take_succ_cons, List.take_zero, List.drop_succ_cons, List.drop_zero]
          repeat (refine wpRel_draw rfl rfl (fun nq K hK => ?_); go_wp2)
          refine wpRel_nil ?_
          rintro wd ⟨nd, hwd⟩
          have c3d : wd.cell? ⟨w.heap.size, k, none⟩ = some (.float .f32 r3) := by rw [hwd]; exact c3
          have hfrd : wd.frozen? ⟨w.heap.size, k, none⟩ = false := by rw [hwd]; exact hfr
          have hod := Lib.hid (show OwnF wd w.heap.size (.slice (some ⟨w.heap.size, 0, none⟩) A.length A.length) ((upTo (appM A F) k).set k (sumTo .f32 (appAt A F k) j)) from by rw [hwd]; exact hoi)
          have hbd : Below w.heap.size w wd := by rw [hwd]; exact Below.drewN hbi nd
          clear hwd c1' c2' c3 hfr hoi
          go_wp2
          refine ⟨⟨j + 1, by omega, by go_num, ?_, hbd.setCell (Nat.le_refl _) _⟩, by simp [intOf]; omega⟩
          rw [← set_set (upTo (appM A F) k) k (sumTo .f32 (appAt A F k) j) (sumTo .f32 (appAt A F k) (j + 1))]
          exact hod.out.storedN (by rw [List.length_set, Hlen.out]) (FV.op f3' (FV.op f1 f2 _) _)
        · have hjm : j = min (k + 1) F.length := by omega
          rw [hjm, ← appM_at A F k hlt, upTo_set] at hoi
          clear hjm hcellA hcellF hA hF
          by_cases hjb : j ≤ k
          · have hka : F.length ≤ j := by omega
            go_wp2
            exact ⟨⟨k + 1, by omega, by go_num, hoi, hbi⟩, by simp [intOf]; omega⟩
          · go_wp2
            exact ⟨⟨k + 1, by omega, by go_num, hoi, hbi⟩, by simp [intOf]; omega⟩
    · go_wp2
      go_ret
      rw [upTo_all _ _ (by rw [appM_length]; omega)] at ho
      exact ⟨_, rfl, ho, hbr⟩

set_option maxRecDepth 100000 in
set_option maxHeartbeats 1000000 in
theorem l05Apply_any (w : World) (va vf : Value) (A F : List Nat) (hA : RdF w va A) (hF : RdF w vf F) (hmA : A.length ≤ 1000) (hmF : F.length ≤ 1000) :
    Calls Try.prog 47 #[va, vf] w fun e w' => ∃ v', e = .returned v' ∧ OwnF w' w.heap.size v' (appM A F) ∧ Below w.heap.size w w' := by
  have hadd := run_fadd (P := Try.prog)
  have hmul := run_fmul (P := Try.prog)
  obtain ⟨a, ca, rfl, hca, -, hcellA⟩ := hA.opened
  obtain ⟨b, cb, rfl, hcb, -, hcellF⟩ := hF.opened
  have hq0 : OwnF (w.alloc (.cells #[] 23)) w.heap.size (.slice (some ⟨w.heap.size, 0, none⟩) 0 0) [] := ⟨[], rfl, fun j hj => (by cases hj), World.ownsRow_lit w #[] 0 (Nat.le_refl _) (by decide) rfl⟩
  go_enter Try.func47, Try.ntmps47
  go_wp2
  go_loopw [5, 12] (fun q i wr => ∃ k : Nat, k ≤ A.length ∧ i = .int .i64 k ∧ OwnF wr w.heap.size q (appTo A F k) ∧ Below w.heap.size w wr) (fun _ i _ => A.length - (intOf i).toNat)
  case atStart => exact ⟨0, Nat.zero_le _, rfl, hq0, (Below.refl _ _).alloc (Nat.le_refl _) _⟩
  case round =>
    obtain ⟨wo, rfl⟩ : ∃ wo : World, wo = wr := ⟨_, rfl⟩
    obtain ⟨k, hk, rfl, ho, hbr⟩ := hrel
    clear hq0 hA hF
    by_cases hlt : k < A.length
    · have hcell : ∀ j, j < A.length → ∃ b o r, a = some ⟨b, o, none⟩ ∧ wo.cell? ⟨b, o + j, none⟩ = some (.float .f32 r) ∧ FV .f32 r (A.getD j 0) := fun j hj => by
        obtain ⟨b, o, r, h1, h2, h3⟩ := hcellA j hj
        exact ⟨b, o, r, h1, ((bcell hbr).1 _ _ (block_lt h2)).trans h2, h3⟩
      have hcell2 : ∀ j, j < F.length → ∃ b' o r, b = some ⟨b', o, none⟩ ∧ wo.cell? ⟨b', o + j, none⟩ = some (.float .f32 r) ∧ FV .f32 r (F.getD j 0) := fun j hj => by
        obtain ⟨b, o, r, h1, h2, h3⟩ := hcellF j hj
        exact ⟨b, o, r, h1, ((bcell hbr).1 _ _ (block_lt h2)).trans h2, h3⟩
      clear hcellA hcellF
      go_wp2
      go_loopw [7, 8] (fun s i wr => ∃ (j r q : Nat), j ≤ min (k + 1) F.length ∧ i = .int .i64 j ∧ s = .float .f32 r ∧ FV .f32 r (sumTo .f32 (appAt A F k) j) ∧ wr = wo.drewN q) (fun _ i _ => 1000 - (intOf i).toNat)
      case atStart => exact ⟨0, 0, 0, Nat.zero_le _, rfl, rfl, fv0 _, rfl⟩
      case round =>
        obtain ⟨wi, rfl⟩ : ∃ wi : World, wi = wr := ⟨_, rfl⟩
        obtain ⟨j, r, q, hj, rfl, rfl, fr, hwq⟩ := hrel
        by_cases hlj : j < min (k + 1) F.length
        · have hj1 : j ≤ k := by omega
          have hj2 : j < F.length := by omega
          obtain ⟨b1, o1, r1, rfl, c1, f1⟩ := hcell2 j hj2
          obtain ⟨b2, o2, r2, rfl, c2, f2⟩ := hcell (k - j) (by omega)
          have c1' : wi.cell? ⟨b1, o1 + j, none⟩ = some (.float .f32 r1) := by rw [hwq]; exact c1
          have c2' : wi.cell? ⟨b2, o2 + (k - j), none⟩ = some (.float .f32 r2) := by rw [hwq]; exact c2
          have hwq' := Lib.hid hwq
          have fr' := Lib.hid fr
          clear hwq c1 c2 hcell hcell2 fr
          go_wp2
          refine region_rel_all (by kernel_rfl) (by kernel_rfl) (Drawn wi) (fun _ _ _ => False) ⟨1, rfl⟩ ?_
          repeat (refine wpRel_draw rfl rfl (fun nq K hK => ?_); go_wp2)
          refine wpRel_nil ?_
          rintro wd ⟨nd, hwd⟩
          have hwd' := Lib.hid hwd
          clear hwd
          go_wp2
          refine ⟨⟨j + 1, _, q + nd, by omega, by go_num, rfl, FV.op fr'.out (FV.op f1 f2 _) _, by rw [hwd'.out, hwq'.out, World.drewN_drewN]⟩, by simp [intOf]; omega⟩
        · have hjm : j = min (k + 1) F.length := by omega
          have ho' : OwnF wi w.heap.size u5 (appTo A F k) := by rw [hwq]; exact ho
          have hb' : Below w.heap.size w wi := by rw [hwq]; exact Below.drewN hbr q
          have hs' := hb'.size
          have Hjm := Lib.hid hjm
          clear hwq hcell hcell2 ho hjm
          by_cases hka : j ≤ k
          · have hjb : ¬ j < F.length := by have := Hjm.out; omega
            go_wp2_with (at_builtin; go_must (refine wpList_push rfl _ _ rfl w.heap.size u5 (appTo A F k) rfl (ho'.alloc _) _ _ _ _ rfl (cell_new _ _ _) fr (by unfold appTo; rw [tab_length]; omega) (by rw [World.size_alloc]; omega) ?_); intro v3 w3 h3 hg3 hb3 _)
            refine ⟨⟨k + 1, by omega, by go_num, ?_, hb'.trans (((Below.refl _ _).alloc hs' _).trans hb3)⟩, by simp [intOf]; omega⟩
            rw [show appTo A F (k + 1) = appTo A F k ++ [sumTo .f32 (appAt A F k) (min (k + 1) F.length)] from tab_succ _ _, ← Hjm.out]
            exact h3
          · go_wp2_with (at_builtin; go_must (refine wpList_push rfl _ _ rfl w.heap.size u5 (appTo A F k) rfl (ho'.alloc _) _ _ _ _ rfl (cell_new _ _ _) fr (by unfold appTo; rw [tab_length]; omega) (by rw [World.size_alloc]; omega) ?_); intro v3 w3 h3 hg3 hb3 _)
            refine ⟨⟨k + 1, by omega, by go_num, ?_, hb'.trans (((Below.refl _ _).alloc hs' _).trans hb3)⟩, by simp [intOf]; omega⟩
            rw [show appTo A F (k + 1) = appTo A F k ++ [sumTo .f32 (appAt A F k) (min (k + 1) F.length)] from tab_succ _ _, ← Hjm.out]
            exact h3
    · go_wp2
      go_ret
      obtain rfl : k = A.length := by omega
      exact ⟨_, rfl, ho, hbr⟩
end Go.Proofs.Ytiappmhlmephjaa
