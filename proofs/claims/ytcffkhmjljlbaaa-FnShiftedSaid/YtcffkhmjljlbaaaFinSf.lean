/- FnShifted: the walk of the law. -/
import Derived.Test.YtcffkhmjljlbaaaSfT
import Derived.Test.YtcffkhmjljlbaaaTru
namespace Go.Proofs.Ytcffkhmjljlbaaa
open Go Go.RowKit

def eightT (f : FuncId) (args : Array Value) (w : World) (u : Value) (w'' : World) : Prop := ∃ s : Eight, s.ok ∧ OwnF w'' w.heap.size u (s.l.map qv)
theorem eightT_some (f : FuncId) (args : Array Value) (w : World) : ∃ u w'', eightT f args w u w'' ∧ Ext w w'' := by
  have hs : (⟨0, 0, 0, 0, 0, 0, 0, 0⟩ : Eight).ok := fun z hz => by
    simp [Eight.l] at hz
    omega
  have hz := (qv_fx 0 (by decide) (by decide)).2
  have he : ∀ f : Int → Nat, ((⟨0, 0, 0, 0, 0, 0, 0, 0⟩ : Eight).l.map f) = List.replicate 8 (f 0) := fun f => rfl
  have hl := he qv
  generalize qv 0 = z at hz hl
  refine ⟨.slice (some ⟨w.heap.size, 0, none⟩) 8 8, w.alloc (.cells ((List.replicate 8 z).map (Value.float .f32)).toArray 27), ⟨_, hs, ?_⟩, (Below.refl _ _).alloc (Nat.le_refl _) _⟩
  rw [hl]
  refine ⟨List.replicate 8 z, rfl, fun j hj => ?_, rfl, .inr ⟨w.heap.size, 8, _, rfl, Nat.le_refl _, alloc_new _ _, Nat.le_refl _, by decide, rfl, rfl⟩⟩
  rw [List.length_replicate] at hj
  rw [List.getD_eq_getElem?_getD, List.getElem?_replicate, if_pos hj]
  exact hz
theorem rd_pl3 {w : World} {g : Nat} (h : w.heap[g]? = some (.cells #[.float .f32 1077936128, .float .f32 1065353216, .float .f32 1073741824] 27 (0, 0))) : RdF w (.slice (some ⟨g, 0, none⟩) 3 3) pl3 := by
  refine ⟨some ⟨g, 0, none⟩, 3, rfl, Nat.le_refl _, (fun h => by cases h), fun j hj => ?_⟩
  have hj4 : j < 3 := hj
  have h3 : FV .f32 1077936128 1077936128 := ⟨by decide, by decide +kernel⟩
  have h1 : FV .f32 1065353216 1065353216 := ⟨by decide, by decide +kernel⟩
  have h2 : FV .f32 1073741824 1073741824 := ⟨by decide, by decide +kernel⟩
  match j, hj4 with
  | 0, _ => exact ⟨g, 0, .float .f32 1077936128, rfl, by rw [Nat.zero_add, cell_of_row w g 0 _ _ _ h]; rfl, 1077936128, rfl, h3⟩
  | 1, _ => exact ⟨g, 0, .float .f32 1065353216, rfl, by rw [Nat.zero_add, cell_of_row w g 1 _ _ _ h]; rfl, 1065353216, rfl, h1⟩
  | 2, _ => exact ⟨g, 0, .float .f32 1073741824, rfl, by rw [Nat.zero_add, cell_of_row w g 2 _ _ _ h]; rfl, 1073741824, rfl, h2⟩

set_option maxRecDepth 100000 in
set_option maxHeartbeats 4000000 in
theorem lawShifted_any (w : World) (v1 v2 : Value) (n1 n2 : Nat) (h1 : RdY w v1 n1) (h2 : RdY w v2 n2) (m1 : n1 ≤ maxLen) (m2 : n2 ≤ maxLen) :
    Calls Try.prog 4 #[v1, v2] w (TrueB w) := by
  have H1 := Lib.hid h1
  have H2 := Lib.hid h2
  obtain ⟨a1, c1, rfl, -, -⟩ := h1.opened
  obtain ⟨a2, c2, rfl, -, -⟩ := h2.opened
  have HL := Lib.hid (r8Long_any w a1 a2 n1 n2 c1 c2 m1 m2)
  clear h1 h2 m1 m2
  have hadd := run_fadd (P := Try.prog)
  have hmul := run_fmul (P := Try.prog)
  cases hq : (decide (48 < n1) || decide (48 < n2)) with
  | true =>
    rw [hq] at HL
    clear hq
    go_enter Try.func4, Try.ntmps4
    go_wp2_with fail
    refine HL.out.mono ?_
    rintro e w1 ⟨rfl, hw1⟩
    obtain rfl : w = w1 := hw1.symm
    go_wp2
    go_ret
    exact TrueB.mk (Below.refl _ _)
  | false =>
    rw [hq] at HL
    have l1 : n1 ≤ 48 := by simp at hq; omega
    have l2 : n2 ≤ 48 := by simp at hq; omega
    clear hq
    go_enter Try.func4, Try.ntmps4
    go_wp2_with fail
    refine HL.out.mono ?_
    rintro e w0 ⟨rfl, hw0⟩
    obtain rfl : w = w0 := hw0.symm
    clear HL hw0
    go_wp2_with (refine wpList_mk rfl _ _ rfl w.heap.size _ _ _ _ 16 rfl rfl rfl rfl (by decide) (Nat.le_refl _) ?_; intro w1 o1 b1 z1)
    have O1 := Lib.hid o1
    have B1 := Lib.hid b1
    have s1 := b1.size
    clear o1 b1
    refine region_grow_tail 4 (by kernel_rfl) (by kernel_rfl) eightT ?_
    simp only [List.take_succ_cons, List.take_zero, List.drop_succ_cons, List.drop_zero]
    iterate 3 (refine wpRelK_still rfl rfl (fun wq hq K hK => ?_); go_wp2)
    refine wpRelK_callF #[.slice a1 n1 c1, .int .i64 8] rfl Try.func13 (by kernel_rfl) (by kernel_rfl) (by simp [go_sem])
      (fun wq hq => (r8List_any wq _ n1 (H1.out.mono (B1.out.trans (((Ext.drew w1).trans hq.1).mono s1))) (by omega)).mono fun e w'' ⟨v', s, he, hs, ho, hb⟩ => ⟨v', he, ⟨s, hs, ho⟩, hb⟩)
      (fun wq hq => eightT_some _ _ wq) ?_
    intro wa ha u w7 hT7 x7
    obtain ⟨s, hs, hT7'⟩ : eightT _ _ wa u w7 := hT7
    have HS := Lib.hid hs
    obtain ⟨gu, cu, rfl, -, -, -⟩ := hT7'.at_block (n := 8) rfl (by decide)
    have HT7 := Lib.hid hT7'
    clear hT7' ha hs
    simp only [Act.put, List.setIfInBounds_toArray, List.set_cons_succ, List.set_cons_zero]
    refine wpRelK_nil ?_
    intro w8 hW hall
    have E7 : Ext w7 w8 := hall 3 (by decide)
    have x8 : Ext w1 w8 := (Ext.drew w1).trans hW
    have hM : (s.l.map qv).length = 8 := rfl
    refine wpList_copyF rfl _ _ rfl w.heap.size w.heap.size 16 16 (List.replicate 16 0) (s.l.map qv) rfl (O1.out.kept x8) 4 8 12 rfl _ rfl (HT7.out.rd.mono E7) hM (by rw [hM]; decide) (by decide) ?_
    intro w9 o9 c9 z9
    have O9 : Hid (OwnF w9 w.heap.size (.slice (some ⟨w.heap.size, 0, none⟩) 16 16) s.P) := Lib.hid (by
      have e : s.P = (List.replicate 16 0).take 4 ++ (s.l.map qv ++ (List.replicate 16 0).drop (4 + (s.l.map qv).length)) := by
        unfold Eight.P; rw [hM, List.append_assoc]; rfl
      rw [e]; exact o9)
    have C9 : Hid (Below w.heap.size w w9) := Lib.hid (Below.chg (B1.out.trans (x8.mono s1)) c9 (fun k hk => by omega) (by have := x8.size; omega))
    have hPl := s.P_length
    have HPL := Lib.hid hPl
    have hcell : ∀ j, j < 16 → ∃ r, w9.cell? ⟨w.heap.size, j, none⟩ = some (.float .f32 r) ∧ FV .f32 r (s.P.getD j 0) := fun j hj => by
      obtain ⟨g', c', hv, -, -, -, hh, -⟩ := O9.out.at_block hPl (by decide)
      have e : w.heap.size = g' := by injection hv with e1 e2 e3; injection e1 with e4; injection e4
      subst e
      exact hh j (by omega)
    have HC := Lib.hid hcell
    clear hcell hall hW E7 x8 o9 c9 hM HT7 O1 B1 s1 x7 hPl
    go_wp2_with fail
    go_loopw [6, 7] (fun q i wr => ∃ (j n r : Nat), j ≤ 16 ∧ i = .int .i64 j ∧ q = .float .f32 r ∧ FV .f32 r (enS s.P j) ∧ wr = w9.drewN n) (fun _ i _ => 16 - (intOf i).toNat)
    case atStart => exact ⟨0, 0, 0, Nat.zero_le _, rfl, rfl, fv0 _, rfl⟩
    case round =>
      obtain ⟨wi, rfl⟩ : ∃ wi : World, wi = wr := ⟨_, rfl⟩
      obtain ⟨j, n, r, hj, rfl, rfl, hf, hw⟩ := hrel
      have HW := Lib.hid hw
      have HF := Lib.hid hf
      by_cases hlt : j < 16
      · obtain ⟨x, hx1, hx2⟩ := HC.out j hlt
        have hx1' : wi.cell? ⟨w.heap.size, j, none⟩ = some (.float .f32 x) := by rw [hw]; exact hx1
        have HX := Lib.hid hx2
        clear hx1 hx2 hw hf
        go_wp2_with fail
        refine region_rel_all (by kernel_rfl) (by kernel_rfl) (Drawn wi) (fun _ _ _ => False) ⟨1, rfl⟩ ?_
        repeat (refine wpRel_draw rfl rfl (fun nq K hK => ?_); go_wp2)
        refine wpRel_nil ?_
        rintro wd ⟨nd, hwd⟩
        have HWd := Lib.hid hwd
        clear hwd
        go_wp2
        refine ⟨⟨j + 1, n + nd, _, by omega, by go_num, rfl, FV.op (op := .add) HF.out (FV.op (op := .mul) HX.out HX.out _) _, ?_⟩, by simp [intOf]; omega⟩
        rw [HWd.out, HW.out, World.drewN_drewN]
      · obtain rfl : j = 16 := by omega
        have HR : Hid (Fx 4 r s.en) := Lib.hid ((s.enF HS.out).fv hf)
        have O10 : Hid (OwnF wi w.heap.size (.slice (some ⟨w.heap.size, 0, none⟩) 16 16) s.P) := Lib.hid (by rw [hw]; exact O9.out)
        have C10 : Hid (Below w.heap.size w wi) := Lib.hid (by rw [hw]; exact Below.drewN C9.out _)
        have z10 := C10.out.size
        clear hw hf HF HW O9 C9 HC hadd hmul
        go_wp2_with fail
        refine (flatGather_any _ _ (rd_pl3 (alloc_new _ _))).mono ?_
        rintro e w11 ⟨vp, vt, M, rfl, op, pk, hM, ot, b11⟩
        obtain ⟨gv, cv, rfl, -, -, -⟩ := op.at_block (n := 3) rfl (by decide)
        obtain ⟨q, cap, rfl, hIq, hlq, -⟩ := (OwnC.form ot).resolve_left fun h => by have := h.2.1; exact absurd this (by decide)
        have hpk : gv < M := pk gv rfl
        have hIq1 := hIq.1
        clear hIq
        have OV := Lib.hid op
        have OT := Lib.hid ot
        have B11 := Lib.hid b11
        have z11 := b11.size
        rw [World.size_alloc] at hM z11
        clear op ot b11 pk
        go_wp2_with fail
        obtain ⟨W2, hW2⟩ : ∃ W2, (w11.alloc (.cells #[.int .i64 16, .slice (some ⟨gv, 0, none⟩) 3 cv, .slice (some ⟨q, 0, none⟩) 3 cap] 38)).alloc (.cells #[] 2) = W2 := ⟨_, rfl⟩
        have x2 : Below w11.heap.size w11 W2 := by rw [← hW2]; exact ((Below.refl _ _).alloc (Nat.le_refl _) _).alloc (by rw [World.size_alloc]; omega) _
        have zW : W2.heap.size = w11.heap.size + 2 := by rw [← hW2, World.size_alloc, World.size_alloc]
        have hb8 : W2.heap[w11.heap.size]? = some (.cells #[.int .i64 16, .slice (some ⟨gv, 0, none⟩) 3 cv, .slice (some ⟨q, 0, none⟩) 3 cap] 38 (0, 0)) := by
          rw [← hW2]
          exact (((Below.refl _ _).alloc (Nat.le_refl _) _ : Below _ (w11.alloc (.cells #[.int .i64 16, .slice (some ⟨gv, 0, none⟩) 3 cv, .slice (some ⟨q, 0, none⟩) 3 cap] 38)) _).block w11.heap.size (by rw [World.size_alloc]; omega)).trans (alloc_new _ _)
        have xa : Below w.heap.size w w11 := (C10.out.alloc z10 _).trans (B11.out.mono (by rw [World.size_alloc]; omega))
        have GO : Hid (StG w W2 w11.heap.size w.heap.size 16 M w11.heap.size (.slice (some ⟨gv, 0, none⟩) 3 cv) (.slice (some ⟨q, 0, none⟩) 3 cap) s (s.rows [])) := Lib.hid
          ⟨hb8, (O10.out.alloc _).kept B11.out |>.kept x2, (OV.out.kept x2).mono (by rw [World.size_alloc]; omega), fun k hk => by have : gv = k := Option.some.inj hk; omega, OwnC.kept OT.out x2, xa.trans (x2.mono xa.size), by omega, by omega, by omega, by omega, by omega⟩
        have OW : Hid (OwnI W2 (w11.heap.size + 1) (.slice (some ⟨w11.heap.size + 1, 0, none⟩) 0 0) (dL [])) := Lib.hid (by
          rw [← hW2]
          have h1 : (w11.alloc (.cells #[.int .i64 16, .slice (some ⟨gv, 0, none⟩) 3 cv, .slice (some ⟨q, 0, none⟩) 3 cap] 38)).heap.size = w11.heap.size + 1 := World.size_alloc _ _
          rw [← h1]
          exact World.ownsRow_lit _ #[] 0 (Nat.le_refl _) (by decide) rfl)
        rw [hW2]
        obtain ⟨g8, hg8⟩ : ∃ g, w11.heap.size = g := ⟨_, rfl⟩
        rw [hg8] at GO OW zW z11 ⊢
        clear hW2 hb8 x2 xa OV OT B11 C10 O10 z10 hg8
        go_loopw [10, 11] (fun vw i wr => ∃ ts : List Nat, ts.length ≤ 3 ∧ (∀ t ∈ ts, t < 7) ∧ i = .int .i64 ts.length ∧ OwnI wr (g8 + 1) vw (dL ts) ∧ StG w wr g8 w.heap.size 16 M g8 (.slice (some ⟨gv, 0, none⟩) 3 cv) (.slice (some ⟨q, 0, none⟩) 3 cap) s (s.rows ts)) (fun _ i _ => 3 - (intOf i).toNat)
        case atStart => exact ⟨[], by decide, (fun t ht => by cases ht), rfl, OW.out, GO.out⟩
        case round =>
          clear OW GO
          obtain ⟨wj, rfl⟩ : ∃ wj : World, wj = wr := ⟨_, rfl⟩
          obtain ⟨ts, hts, htl, rfl, ho, hg⟩ := hrel
          have HO := Lib.hid ho
          have HG := Lib.hid hg
          have HTL := Lib.hid htl
          have zj := hg.bel.size
          have ltg := hg.lt
          clear ho hg htl
          by_cases hlt : ts.length < 3
          · go_wp2_with fail
            refine (r8At_any wj _ n2 ts.length 7 (H2.out.mono HG.out.bel) (by omega) (by omega) (by omega) (by decide) (by decide)).mono ?_
            rintro e w3 ⟨t', rfl, ht0, ht1, hw3⟩
            obtain rfl : wj = w3 := hw3.symm
            obtain ⟨t, rfl⟩ : ∃ t : Nat, t' = t := ⟨t'.toNat, by omega⟩
            clear hw3
            have hdl : (dL ts).length = ts.length := by simp [dL]
            have HDL := Lib.hid hdl
            clear hdl
            go_wp2_with (at_builtin; go_must (refine wpList_push1 rfl _ _ 41 2 rfl (.int .i64 0) 8 Try.underlying41 Try.infoI rfl (by decide) (g8 + 1) _ _ _ rfl (OwnI.kept HO.out ((Below.refl _ _).alloc (Nat.le_refl _) _)) _ _ _ rfl (cell_new _ _ _) rfl (by rw [HDL.out]; omega) (by rw [World.size_alloc]; omega) ?_); intro v4 w4 o4 g4 b4)
            have hx4 : Chg wj w4 (fun k => g8 + 1 ≤ k) := (Chg.of_below ((Below.refl _ _).alloc (Nat.le_refl _) _) _).trans ⟨b4.os, b4.tape, b4.output, b4.size, fun k hk hn => b4.block k (by omega)⟩
            have hG4 : StG w w4 g8 w.heap.size 16 M g8 (.slice (some ⟨gv, 0, none⟩) 3 cv) (.slice (some ⟨q, 0, none⟩) 3 cap) s ((s.rows ts).set ts.length (s.prt t 0)) := by
              rw [s.rows_zero ts t hlt]
              exact HG.out.chg hx4 fun k hk => by omega
            have GO : Hid _ := Lib.hid hG4
            have OW : Hid (OwnI w4 (g8 + 1) v4 (dL (ts ++ [t]))) := Lib.hid (by
              have e : dL (ts ++ [t]) = dL ts ++ [(t : Int) - 3] := by simp [dL]
              rw [e]
              unfold OwnI
              rw [List.map_append, List.length_append]
              exact o4)
            clear o4 g4 b4 hx4 hG4 HO HG HDL
            go_wp2_with fail
            go_loopw [13] (fun k wr => ∃ m : Nat, m ≤ 8 ∧ k = .int .i64 ((m + 4 : Nat) : Int) ∧ OwnI wr (g8 + 1) v4 (dL (ts ++ [t])) ∧ StG w wr g8 w.heap.size 16 M g8 (.slice (some ⟨gv, 0, none⟩) 3 cv) (.slice (some ⟨q, 0, none⟩) 3 cap) s ((s.rows ts).set ts.length (s.prt t m))) (fun k _ => 12 - (intOf k).toNat)
            case atStart => exact ⟨0, by decide, rfl, OW.out, GO.out⟩
            case round =>
              clear OW GO
              obtain ⟨wk, rfl⟩ : ∃ wk : World, wk = wr := ⟨_, rfl⟩
              obtain ⟨m, hm8, rfl, ho, hg⟩ := hrel
              have HO := Lib.hid ho
              have HG := Lib.hid hg
              clear ho
              by_cases hmt : m < 8
              · have hrl := s.rows_length ts (by omega)
                have hra := rowAt_set (s.rows ts) ts.length (s.prt t m) (by omega)
                obtain ⟨q', cap', r2, cr, hv, k0, hcr, hr2, hcl, hset⟩ := hg.at (by rw [List.length_set]; exact hrl) hlt (by rw [hra]; exact s.prt_length t m)
                obtain ⟨rfl, rfl⟩ : q = q' ∧ cap = cap' := by cases hv; exact ⟨rfl, rfl⟩
                obtain ⟨-, -, k2, -, -, -⟩ := blk3 hg.blk
                have hPl := s.P_length
                obtain ⟨g', c', hv2, -, -, -, hh, -⟩ := hg.pil.at_block hPl (by decide)
                have e : w.heap.size = g' := by injection hv2 with e1 e2 e3; injection e1 with e4; injection e4
                subst e
                obtain ⟨x, hx1, hx2⟩ := hh (m + 4) (by omega)
                obtain ⟨⟨y, hy⟩, hyf⟩ := hcl (t + 1 + m) (by omega)
                have HST := Lib.hid (hset (t + 1 + m) x _ hx2)
                rw [hra] at HST
                have HX : Hid _ := Lib.hid hx2
                have hadr : ((m : Int) + 4 + ((t : Int) - 3)).toNat = t + 1 + m := by omega
                clear hra hg hv hv2 hcl hset hh hx2 hPl hrl
                go_wp2_with fail
                refine region_rel_tail 13 (by kernel_rfl) (by kernel_rfl) (Drawn wk) (fun _ _ _ => False) ⟨1, rfl⟩ ?_
                simp only [List.take_succ_cons, List.take_zero, List.drop_succ_cons, List.drop_zero]
                repeat (refine wpRel_draw rfl rfl (fun nq K hK => ?_); go_wp2)
                refine wpRel_nil ?_
                rintro wd ⟨nd, rfl⟩
                have hst := run_store_float (P := Try.prog)
                go_wp2
                have e1 : ((s.rows ts).set ts.length (s.prt t m)).set ts.length ((s.prt t m).set (t + 1 + m) (s.P.getD (m + 4) 0)) = (s.rows ts).set ts.length (s.prt t (m + 1)) := by
                  rw [List.set_set, s.prt_succ t m (by omega) hmt]
                have hfin := HST.out
                rw [e1] at hfin
                have hG5 := hfin.kept (Below.drewN (Below.refl _ _) nd)
                refine ⟨⟨m + 1, by omega, by go_num, ?_, hG5⟩, by simp [intOf]; omega⟩
                have hcs : Chg wk ((wk.drewN nd).setCell ⟨r2, t + 1 + m, none⟩ (.float .f32 x)) (fun k => k = r2) := Chg.setCell (S := fun k => k = r2) ((Chg.refl wk _).drewN nd) rfl _ _
                exact ownsRow_same HO.out fun k hk => hcs.block k (World.ownsRow.lt HO.out k hk).2 (by have := (World.ownsRow.lt HO.out k hk).1; omega)
              · obtain rfl : m = 8 := by omega
                have hG6 := HG.out
                rw [s.rows_next ts t hlt (by omega)] at hG6
                have HG6 := Lib.hid hG6
                clear hg hG6 HG
                go_wp2
                refine ⟨⟨ts ++ [t], by simp; omega, ?_, by simp, HO.out, HG6.out⟩, by simp [intOf]; omega⟩
                intro t2 ht2
                rcases List.mem_append.1 ht2 with h | h
                · exact HTL.out t2 h
                · have := List.mem_singleton.1 h; omega
          · have h3 : ts.length = 3 := by omega
            have hb3 := HG.out.blk
            have H3 := Lib.hid h3
            obtain ⟨oF, hoF⟩ := s.best HS.out ts h3 HTL.out
            have HOF := Lib.hid hoF
            have hrl := s.rows_length ts (by omega)
            have HRL := Lib.hid hrl
            obtain ⟨k0, k1, k2, -, -, -⟩ := blk3 hb3
            have HSO := Lib.hid (shiftsOf_any wj (.slice (some ⟨gv, 0, none⟩) 3 cv) (.slice (some ⟨q, 0, none⟩) 3 cap) (.slice (some ⟨w.heap.size, 0, none⟩) 16 16) ⟨16, pl3, s.rows ts⟩ s.P oF HG.out.pla.rd (OwnC.rd HG.out.row) HG.out.pil.rd
              ⟨show (3 : Nat) ≤ 1048576 by decide, by simp only [hrl]; decide, fun j hj => by simp only [hrl] at hj; rw [s.rows_full ts h3 hj, s.T_length]; decide⟩ (s.valid ts h3) (by rw [s.P_length]; rfl) (by rw [s.P_length]; decide) (by simp only [hrl]; decide)
              (fun j hj => by simp only [hrl] at hj; rw [s.rows_full ts h3 hj, s.T_length]; decide) (fun j hj => (hoF j (by simp only [hrl] at hj; exact hj)).1))
            simp only [hrl] at HSO
            clear h3 hoF hrl hb3
            go_wp2_with fail
            refine HSO.out.mono ?_
            clear HSO
            rintro e w21 ⟨v21, rfl, o21, b21⟩
            have OS := Lib.hid o21
            replace HG := Lib.hid (HG.out.kept b21)
            replace HO := Lib.hid (OwnI.kept HO.out b21)
            clear o21 b21 k0 k1 k2
            obtain ⟨k0, k1, k2, -, -, -⟩ := blk3 HG.out.blk
            obtain ⟨a10, c10, hv10, -⟩ := (OwnI.rd HO.out).opened
            subst hv10
            have hd3 : (dL ts).length = 3 := by simp [dL, H3.out]
            have HD3 := Lib.hid hd3
            have HSG := Lib.hid (shiftGather_any w21 (.slice (some ⟨gv, 0, none⟩) 3 cv) (.slice (some ⟨q, 0, none⟩) 3 cap) (.slice a10 (dL ts).length c10) ⟨16, pl3, s.rows ts⟩ (dL ts) HG.out.pla.rd (OwnC.rd HG.out.row) (OwnI.rd HO.out)
              ⟨show (3 : Nat) ≤ 1048576 by decide, by simp only [HRL.out]; decide, fun j hj => by simp only [HRL.out] at hj; rw [s.rows_full ts H3.out hj, s.T_length]; decide⟩ (s.valid ts H3.out) (by rw [hd3]; exact HRL.out.symm) (by simp only [HRL.out]; decide) (show (3 : Nat) ≤ 16 by decide)
              (fun j hj => by rw [dL_at ts (by have := H3.out; omega)]; have := HTL.out _ (getD_mem (ts := ts) (j := j) (by have := H3.out; omega)); omega)
              (fun j hj => by simp only [HRL.out] at hj; rw [s.rows_full ts H3.out hj, s.T_length]; decide))
            simp only [HRL.out] at HSG
            rw [s.shl ts H3.out HTL.out] at HSG
            clear hd3
            go_wp2_with fail
            refine HSG.out.mono ?_
            clear HSG
            rintro e w22 ⟨ap, np, cp, vt2, rfl, o22, b22⟩
            obtain ⟨q2, cap2, rfl, -⟩ := (OwnC.form o22).resolve_left fun h => by have := h.2.1; rw [List.length_replicate] at this; omega
            have z22 := b22.size
            have hG22 := HG.out.kept b22
            have hO22 := OwnI.kept HO.out b22
            have hS22 : OwnI w22 wj.heap.size v21 (shI oF 3) := OwnI.kept OS.out b22
            obtain ⟨W3, hW3⟩ : ∃ W3, w22.alloc (.cells #[.int .i64 16, .slice ap np cp, .slice (some ⟨q2, 0, none⟩) 3 cap2] 38) = W3 := ⟨_, rfl⟩
            have x3 : Below w22.heap.size w22 W3 := by rw [← hW3]; exact (Below.refl _ _).alloc (Nat.le_refl _) _
            have hb16 : W3.heap[w22.heap.size]? = some (.cells #[.int .i64 16, .slice ap np cp, .slice (some ⟨q2, 0, none⟩) 3 cap2] 38 (0, 0)) := by rw [← hW3]; exact alloc_new _ _
            have RP : Hid (RdF W3 (.slice (some ⟨w.heap.size, 0, none⟩) 16 16) s.P) := Lib.hid (hG22.kept x3).pil.rd
            have RB : Hid (RdSS W3 (.slice (some ⟨q2, 0, none⟩) 3 cap2) (List.replicate 3 s.P)) := Lib.hid (OwnC.rd (OwnC.kept o22 x3))
            have RS : Hid (RdI W3 v21 (shI oF 3)) := Lib.hid (OwnI.rd (OwnI.kept hS22 x3))
            have RW : Hid (RdI W3 (.slice a10 (dL ts).length c10) (dL ts)) := Lib.hid (OwnI.rd (OwnI.kept hO22 x3))
            have C3 : Hid (Below w.heap.size w W3) := Lib.hid (hG22.kept x3).bel
            obtain ⟨a21, c21, hv21, -⟩ := hS22.rd.opened
            rw [shI_length] at hv21
            subst hv21
            obtain ⟨j0, j1, j2, -, -, -⟩ := blk3 hb16
            clear o22 b22 hG22 hO22 hS22 x3 hb16 HG HO OS k0 k1 k2
            go_wp2_with fail
            have hS : ∀ j, j < 3 → ∃ b o, a21 = some ⟨b, o, none⟩ ∧ W3.cell? ⟨b, o + j, none⟩ = some (.int .i64 ((oF j : Int) - 4)) := fun j hj => by
              obtain ⟨a, c, hv, -, -, hh⟩ := RS.out.opened
              rw [shI_length] at hv hh
              obtain rfl : a21 = a := by cases hv; rfl
              obtain ⟨b, o, ha, -, hc⟩ := hh j hj
              rw [shI_at oF 3 hj] at hc
              exact ⟨b, o, ha, hc⟩
            have hW : ∀ j, j < 3 → ∃ b o, a10 = some ⟨b, o, none⟩ ∧ W3.cell? ⟨b, o + j, none⟩ = some (.int .i64 ((ts.getD j 0 : Int) - 3)) := fun j hj => by
              obtain ⟨a, c, hv, -, -, hh⟩ := RW.out.opened
              obtain rfl : a10 = a := by cases hv; rfl
              have hjl : j < (dL ts).length := by rw [HD3.out]; exact hj
              obtain ⟨b, o, ha, -, hc⟩ := hh j hjl
              rw [dL_at ts (by rw [H3.out]; exact hj)] at hc
              exact ⟨b, o, ha, hc⟩
            have hR : ∀ j, j < 3 → ∃ a' c', W3.cell? ⟨q2, j, none⟩ = some (.slice a' 16 c') ∧ RdF W3 (.slice a' 16 c') s.P := fun j hj => by
              obtain ⟨a, c, hv, -, -, hh⟩ := RB.out.opened
              obtain rfl : some ⟨q2, 0, none⟩ = a := by cases hv; rfl
              obtain ⟨b, o, a', c', ha, -, hc, hr⟩ := hh j (by rw [List.length_replicate]; exact hj)
              cases ha
              have e : rowAt (List.replicate 3 s.P) j = s.P := by
                unfold rowAt
                rw [List.getD_eq_getElem?_getD, List.getElem?_replicate, if_pos hj]; rfl
              rw [e, HPL.out] at hc hr
              rw [Nat.zero_add] at hc
              exact ⟨a', c', hc, hr⟩
            have HSc := Lib.hid hS
            have HWc := Lib.hid hW
            have HRc := Lib.hid hR
            have hd3 := HD3.out
            have hord : FloatKind.f32.format.order r 0 = some (compare s.en 0) := Fx.order HR.out (Fx.zero 4)
            have HORD := Lib.hid hord
            clear hS hW hR RS RW RB hord
            rw [hd3]
            clear hd3
            go_loopw [18] (fun i wr => ∃ j n : Nat, j ≤ 3 ∧ i = .int .i64 j ∧ wr = W3.drewN n) (fun i _ => 3 - (intOf i).toNat)
            case atStart => exact ⟨0, 0, by decide, rfl, rfl⟩
            case round =>
              obtain ⟨wl, rfl⟩ : ∃ wl : World, wl = wr := ⟨_, rfl⟩
              obtain ⟨j, n, hj, rfl, hw⟩ := hrel
              by_cases hj3 : j < 3
              · obtain ⟨b, o, rfl, f0⟩ := HSc.out j hj3
                obtain ⟨b', o', rfl, f1⟩ := HWc.out j hj3
                obtain ⟨a', c', f2, f3⟩ := HRc.out j hj3
                have F3 := Lib.hid f3
                have f4 : W3.cell? ⟨w22.heap.size, 2, none⟩ = some (.slice (some ⟨q2, 0, none⟩) 3 cap2) := j2
                have f0' : wl.cell? ⟨b, o + j, none⟩ = some (.int .i64 ((oF j : Int) - 4)) := by rw [hw]; exact f0
                have f1' : wl.cell? ⟨b', o' + j, none⟩ = some (.int .i64 ((ts.getD j 0 : Int) - 3)) := by rw [hw]; exact f1
                have f2' : wl.cell? ⟨q2, j, none⟩ = some (.slice a' 16 c') := by rw [hw]; exact f2
                have f4' : wl.cell? ⟨w22.heap.size, 2, none⟩ = some (.slice (some ⟨q2, 0, none⟩) 3 cap2) := by rw [hw]; exact j2
                have HEQ : Hid (∀ nq, Calls Try.prog 18 #[.slice a' 16 c', .slice (some ⟨w.heap.size, 0, none⟩) 16 16] (wl.drewN nq) fun e w' => e = .returned (.bool true) ∧ ∃ n, w' = (wl.drewN nq).drewN n) := Lib.hid fun nq => by
                  rw [hw]
                  exact r8Equal_any _ _ _ s.P (RdF.drewN (RdF.drewN F3.out _) _) (RdF.drewN (RdF.drewN RP.out _) _) (by rw [HPL.out]; decide) (fun j _ => s.notNaN HS.out j)
                have HW := Lib.hid hw
                clear f0 f1 f2 f3 f4 hw j0 j1 j2
                rcases Int.lt_or_eq_of_le s.en_nn with hen | hen
                · have ho := (HOF.out j hj3).2.1 hen
                  have t1 : (FloatKind.f32.format.order r 0 == some Ordering.gt) = true := by rw [HORD.out, Int.compare_eq_gt.2 hen]; rfl
                  have t2 : (FloatKind.f32.format.order r 0 == some Ordering.eq) = false := by rw [HORD.out, Int.compare_eq_gt.2 hen]; rfl
                  rw [ho] at f0'
                  have e1 : ((ts.getD j 0 + 1 : Nat) : Int) - 4 = (ts.getD j 0 : Int) - 3 := by omega
                  rw [e1] at f0'
                  generalize (ts.getD j 0 : Int) - 3 = z at *
                  clear ho e1 hen
                  go_wp2_with fail
                  refine region_rel_all (by kernel_rfl) (by kernel_rfl) (Drawn wl) (fun _ _ v => v = .bool true) ⟨1, rfl⟩ ?_
                  repeat (first | (refine wpRel_draw rfl rfl (fun nq K hK => ?_); go_wp2) | (refine wpRel_skip rfl ?_; simp only [Act.put, List.setIfInBounds_toArray, List.set_cons_succ, List.set_cons_zero]))
                  refine wpRel_callG #[.slice a' 16 c', .slice (some ⟨w.heap.size, 0, none⟩) 16 16] rfl Try.func18 (by kernel_rfl) (by kernel_rfl) (by simp [go_sem]) ⟨wl, 0, rfl⟩ ⟨_, rfl⟩
                    (fun wq hq => by
                      obtain ⟨nq, rfl⟩ := hq
                      exact (HEQ.out nq).mono fun e w'' ⟨he, n2, hw2⟩ => ⟨_, he, rfl, nq + n2, by rw [hw2, World.drewN_drewN]⟩) ?_
                  rintro v rfl
                  simp only [Act.put, List.setIfInBounds_toArray, List.set_cons_succ, List.set_cons_zero]
                  repeat (refine wpRel_draw rfl rfl (fun nq K hK => ?_); go_wp2)
                  refine wpRel_nil ?_
                  rintro wd ⟨nd, hwd⟩
                  have HWd := Lib.hid hwd
                  clear hwd
                  go_wp2
                  exact ⟨⟨j + 1, n + nd, by omega, by go_num, by rw [HWd.out, HW.out, World.drewN_drewN]⟩, by simp [intOf]; omega⟩
                · have ho := (HOF.out j hj3).2.2 hen.symm
                  have t1 : (FloatKind.f32.format.order r 0 == some Ordering.gt) = false := by rw [HORD.out, ← hen]; rfl
                  have t2 : (FloatKind.f32.format.order r 0 == some Ordering.eq) = true := by rw [HORD.out, ← hen]; rfl
                  rw [ho] at f0'
                  have e1 : ((0 : Nat) : Int) - 4 = -4 := rfl
                  rw [e1] at f0'
                  generalize (ts.getD j 0 : Int) - 3 = z at *
                  clear ho e1 hen
                  go_wp2_with fail
                  refine region_rel_all (by kernel_rfl) (by kernel_rfl) (Drawn wl) (fun _ _ v => v = .bool true) ⟨1, rfl⟩ ?_
                  repeat (first | (refine wpRel_draw rfl rfl (fun nq K hK => ?_); go_wp2) | (refine wpRel_skip rfl ?_; simp only [Act.put, List.setIfInBounds_toArray, List.set_cons_succ, List.set_cons_zero]))
                  refine wpRel_callG #[.slice a' 16 c', .slice (some ⟨w.heap.size, 0, none⟩) 16 16] rfl Try.func18 (by kernel_rfl) (by kernel_rfl) (by simp [go_sem]) ⟨wl, 0, rfl⟩ ⟨_, rfl⟩
                    (fun wq hq => by
                      obtain ⟨nq, rfl⟩ := hq
                      exact (HEQ.out nq).mono fun e w'' ⟨he, n2, hw2⟩ => ⟨_, he, rfl, nq + n2, by rw [hw2, World.drewN_drewN]⟩) ?_
                  rintro v rfl
                  simp only [Act.put, List.setIfInBounds_toArray, List.set_cons_succ, List.set_cons_zero]
                  repeat (refine wpRel_draw rfl rfl (fun nq K hK => ?_); go_wp2)
                  refine wpRel_nil ?_
                  rintro wd ⟨nd, hwd⟩
                  have HWd := Lib.hid hwd
                  clear hwd
                  go_wp2
                  exact ⟨⟨j + 1, n + nd, by omega, by go_num, by rw [HWd.out, HW.out, World.drewN_drewN]⟩, by simp [intOf]; omega⟩
              · obtain rfl : j = 3 := by omega
                have CF : Hid (Below w.heap.size w wl) := Lib.hid (by rw [hw]; exact Below.drewN C3.out _)
                clear hw
                go_wp2
                go_ret
                exact TrueB.mk CF.out
end Go.Proofs.Ytcffkhmjljlbaaa
