/- Walks: smooth and rough parts of a trace. -/
import Derived.Test.YthacadbdncfocaaTrA
import Derived.Test.YthacadbdncfocaaQv
namespace Go.Proofs.Ythacadbdncfocaa
open Go Go.RowKit

/-- A number of a list, or 0 if there is none. -/
def atV (L : List Nat) (t : Int) : Nat := if inB t 0 ((L.length : Int) - 1) then L.getD t.toNat 0 else 0
def atA (L : List Nat) (args : Array Value) : Nat := match args with
  | #[_, .int _ t] => atV L t
  | _ => 0
def smF (L : List Nat) (k : Nat) : Nat := fop .mul .f32 1048576000 (fop .add .f32 (fop .add .f32 (fop .add .f32 (atV L ((k : Int) - 1)) (L.getD k 0)) (L.getD k 0)) (atV L ((k : Int) + 1)))
def smL (L : List Nat) : List Nat := tab (smF L) L.length
def smR (L : List Nat) : Nat → List Nat
  | 0 => L
  | r + 1 => smL (smR L r)
theorem smL_length (L : List Nat) : (smL L).length = L.length := tab_length _ _
theorem smR_length (L : List Nat) (r : Nat) : (smR L r).length = L.length := by
  induction r with
  | zero => rfl
  | succ r ih => rw [smR, smL_length, ih]
theorem fvq : FV .f32 1048576000 1048576000 := ⟨by decide, by decide +kernel⟩
theorem getD_cls {w : World} {v : Value} {M : List Nat} (h : RdF w v M) (j : Nat) (hj : j < M.length) : FV .f32 (M.getD j 0) (M.getD j 0) := by
  obtain ⟨a, c, -, -, -, hc⟩ := h.opened
  obtain ⟨b, o, x, -, -, f⟩ := hc j hj
  exact f.cls
theorem atV_cls {w : World} {v : Value} {M : List Nat} (h : RdF w v M) (t : Int) : FV .f32 (atV M t) (atV M t) := by
  unfold atV
  split
  · rename_i hi
    unfold inB at hi
    simp at hi
    exact getD_cls h _ (by omega)
  · exact fv0 _
set_option maxRecDepth 100000 in
set_option maxHeartbeats 3200000 in
theorem smooth_any (w : World) (v : Value) (L : List Nat) (r : Nat) (h : RdF w v L) (hn : 1 ≤ L.length) (hn2 : L.length ≤ 128) (hr : r ≤ 16) :
    Calls Try.prog 67 #[v, .int .i64 r] w fun e w' => ∃ v', e = .returned v' ∧ OwnF w' w.heap.size v' (smR L r) ∧ Below w.heap.size w w' := by
  have hadd := run_fadd (P := Try.prog)
  have hmul := run_fmul (P := Try.prog)
  have hst := run_store_float (P := Try.prog)
  obtain ⟨n, hnn⟩ : ∃ n, L.length = n := ⟨_, rfl⟩
  have HN := Lib.hid hnn
  rw [hnn] at hn hn2
  obtain ⟨a0, c0, hv0, -⟩ := h.opened
  subst hv0
  have H0 := Lib.hid h
  clear h
  rw [hnn] at H0 ⊢
  clear hnn
  go_enter Try.func67, Try.ntmps67
  go_wp2_with fail
  go_loopw [0, 9] (fun a i wr => ∃ (j : Nat) (ad : Option Addr) (c : Nat), j ≤ r ∧ i = .int .i64 (j : Nat) ∧ a = .slice ad n c ∧ RdF wr (.slice ad n c) (smR L j) ∧ Below w.heap.size w wr) (fun _ i _ => r - (intOf i).toNat)
  case atStart => exact ⟨0, a0, c0, Nat.zero_le _, rfl, rfl, H0.out, Below.refl _ _⟩
  case round =>
    obtain ⟨wo, rfl⟩ : ∃ wo : World, wo = wr := ⟨_, rfl⟩
    obtain ⟨j, ad, c, hj, rfl, rfl, hrd, hb⟩ := hrel
    have HR := Lib.hid hrd
    have HB := Lib.hid hb
    have hzo := hb.size
    have hml0 : (smR L j).length = n := by rw [smR_length, HN.out]
    have HML := Lib.hid hml0
    clear hrd hb hml0 H0
    by_cases hjr : j < r
    · obtain ⟨M, hM⟩ : ∃ M, smR L j = M := ⟨_, rfl⟩
      have HJ : Hid (smR L (j + 1) = smL M) := Lib.hid (by rw [← hM]; rfl)
      rw [hM] at HR HML
      have HSL : Hid ((smL M).length = n) := Lib.hid (by rw [smL_length, HML.out])
      clear hM
      go_wp2_with (refine wpList_mk rfl _ _ rfl wo.heap.size _ _ _ _ n rfl rfl rfl rfl (by omega) (Nat.le_refl _) ?_; intro w1 o1 b1 z1)
      have B1 := Lib.hid b1
      have O1 : Hid (OwnF w1 wo.heap.size (.slice (some ⟨wo.heap.size, 0, none⟩) n n) (upTo (smL M) 0)) := Lib.hid (by rw [upTo_zero, HSL.out]; exact o1)
      clear b1 o1
      go_loopw [16] (fun i wr => ∃ k : Nat, k ≤ n ∧ i = .int .i64 k ∧ OwnF wr wo.heap.size (.slice (some ⟨wo.heap.size, 0, none⟩) n n) (upTo (smL M) k) ∧ Below wo.heap.size wo wr) (fun i _ => n - (intOf i).toNat)
      case atStart => exact ⟨0, Nat.zero_le _, rfl, O1.out, B1.out⟩
      case round =>
        clear O1 B1
        obtain ⟨wi, rfl⟩ : ∃ wi : World, wi = wr := ⟨_, rfl⟩
        obtain ⟨k, hk, rfl, ho, hb⟩ := hrel
        have HO := Lib.hid ho
        have HBi := Lib.hid hb
        have hzi := hb.size
        have hul : (upTo (smL M) k).length = n := by rw [upTo_length, HSL.out]
        by_cases hlt : k < n
        · have RM := Lib.hid (HR.out.mono hb)
          have hat : Hid ((smL M).getD k 0 = smF M k) := Lib.hid (tab_getD _ _ _ (by rw [HML.out]; exact hlt))
          obtain ⟨g', cap', hv, -, -, -, hcl, hfr⟩ := ho.at_block hul (by omega)
          have hg : wo.heap.size = g' := by injection hv with e1 e2 e3; injection e1 with e4; injection e4
          subst hg
          have hfj := hfr k
          obtain ⟨r0, hr0, -⟩ := hcl k (by omega)
          obtain ⟨a2, c2, hv2, -, -, hcM⟩ := (RM.out).opened
          rw [HML.out] at hv2
          cases hv2
          obtain ⟨bM, oM, xM, rfl, kM, fM⟩ := hcM k (by rw [HML.out]; exact hlt)
          have FM := Lib.hid fM
          have HUL := Lib.hid hul
          clear hv hfr hcl ho hb hul hcM fM
          go_wp2_with fail
          refine region_rel_tail 23 (by kernel_rfl) (by kernel_rfl) (Drawn wi) (fun _ args v => ∃ q, v = .float .f32 q ∧ FV .f32 q (atA M args)) ⟨1, rfl⟩ ?_
          simp only [List.take_succ_cons, List.take_zero, List.drop_succ_cons, List.drop_zero]
          repeat (refine wpRel_draw rfl rfl (fun nq K hK => ?_); go_wp2)
          refine wpRel_callF #[.slice (some ⟨bM, oM, none⟩) n c, .int .i64 ((k : Int) - 1)] Try.func72 (by kernel_rfl) (by kernel_rfl) (by simp [go_sem]) ⟨wi, 0, rfl⟩ ⟨_, _, rfl, atV_cls RM.out _⟩ ?_ ?_
          · rintro wd ⟨nd, rfl⟩
            refine (at_any (wi.drewN nd) _ M ((k : Int) - 1) (RM.out.drewN nd) (by rw [HML.out]; omega) (by omega) (by omega)).mono ?_
            rintro e w'' ⟨q, rfl, hq, rfl⟩
            exact ⟨_, rfl, ⟨q, rfl, hq⟩, nd, rfl⟩
          · rintro v ⟨q1, rfl, hq1⟩
            have Q1 : Hid (FV .f32 q1 (atV M ((k : Int) - 1))) := Lib.hid hq1
            clear hq1
            simp only [Act.put, List.setIfInBounds_toArray, List.set_cons_succ, List.set_cons_zero]
            repeat (refine wpRel_draw rfl rfl (fun nq K hK => ?_); go_wp2)
            refine wpRel_callF #[.slice (some ⟨bM, oM, none⟩) n c, .int .i64 ((k : Int) + 1)] Try.func72 (by kernel_rfl) (by kernel_rfl) (by simp [go_sem]) ⟨wi, 0, rfl⟩ ⟨_, _, rfl, atV_cls RM.out _⟩ ?_ ?_
            · rintro wd ⟨nd, rfl⟩
              refine (at_any (wi.drewN nd) _ M ((k : Int) + 1) (RM.out.drewN nd) (by rw [HML.out]; omega) (by omega) (by omega)).mono ?_
              rintro e w'' ⟨q, rfl, hq, rfl⟩
              exact ⟨_, rfl, ⟨q, rfl, hq⟩, nd, rfl⟩
            · rintro v ⟨q2, rfl, hq2⟩
              have Q2 : Hid (FV .f32 q2 (atV M ((k : Int) + 1))) := Lib.hid hq2
              clear hq2
              simp only [Act.put, List.setIfInBounds_toArray, List.set_cons_succ, List.set_cons_zero]
              repeat (refine wpRel_draw rfl rfl (fun nq K hK => ?_); go_wp2)
              refine wpRel_nil ?_
              rintro wd ⟨nd, hwd⟩
              have HD : Hid (wd = wi.drewN nd) := Lib.hid hwd
              have fj2 : wd.frozen? ⟨wo.heap.size, k, none⟩ = false := by rw [hwd]; exact hfj
              have r02 : wd.cell? ⟨wo.heap.size, k, none⟩ = some (.float .f32 r0) := by rw [hwd]; exact hr0
              clear hwd
              go_wp2
              refine ⟨⟨k + 1, by omega, by go_num, ?_, ?_⟩, by simp [intOf]; omega⟩
              · rw [← upTo_set, hat.out]
                exact OwnF.storedN (by rw [HD.out]; exact HO.out.drewN nd) HUL.out (FV.op (op := .mul) fvq (FV.op (op := .add) (FV.op (op := .add) (FV.op (op := .add) Q1.out FM.out _) FM.out _) Q2.out _) _)
              · exact Below.chg (by rw [HD.out]; exact Below.drewN HBi.out nd) ((Chg.refl _ (fun b => b = wo.heap.size)).setCell rfl k _) (fun b hk => by omega) (by rw [HD.out]; exact hzi)
        · obtain rfl : k = n := by omega
          have HF : Hid (OwnF wi wo.heap.size (.slice (some ⟨wo.heap.size, 0, none⟩) k k) (smL M)) := Lib.hid (by have := HO.out; rw [upTo_all _ _ (by rw [HSL.out]; exact Nat.le_refl _)] at this; exact this)
          clear ho hb hul
          go_wp2
          exact ⟨⟨j + 1, _, _, by omega, by go_num, rfl, by rw [HJ.out]; exact HF.out.rd, HB.out.trans (HBi.out.mono hzo)⟩, by simp [intOf]; omega⟩
    · obtain rfl : j = r := by omega
      have HC := Lib.hid (clone_any wo _ _ HR.out (by rw [HML.out]; omega))
      go_wp2_with fail
      refine HC.out.mono ?_
      rintro e w3 ⟨v', rfl, o3, b3⟩
      obtain ⟨g3, c3, rfl, -, -, -, -, -⟩ := o3.at_block HML.out hn
      have O3 := Lib.hid (o3.mono hzo)
      have B3 := Lib.hid (HB.out.trans (b3.mono hzo))
      clear o3 b3 HC
      go_wp2
      go_ret
      exact ⟨_, rfl, O3.out, B3.out⟩
end Go.Proofs.Ythacadbdncfocaa
