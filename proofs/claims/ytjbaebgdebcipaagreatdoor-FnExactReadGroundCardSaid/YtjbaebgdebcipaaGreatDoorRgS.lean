/- Walks: ReadGround: the reference's. -/
import Derived.Test.YtjbaebgdebcipaaGreatDoorRgI
namespace Go.Proofs.YtjbaebgdebcipaaGreatDoor
open Go Go.RowKit

theorem rg_two {t : ByteArray} (h : (cutB 59 t).length = 2) : cutB 59 t = [bef 59 t, aft 59 t] := by
  rcases cut_two 59 t with ⟨-, hc, -, -⟩ | ⟨-, hm⟩ | hc
  · rw [hc] at h; cases h
  · omega
  · exact hc
theorem OwnStr.cells {w : World} {B : Nat} {v : Value} {P : List ByteArray} (h : OwnStr w B v P) (h0 : 0 < P.length) : ∃ b o c, v = .slice (some ⟨b, o, none⟩) P.length c ∧ b < w.heap.size ∧ B ≤ b ∧ ∀ wq : World, wq.heap[b]? = w.heap[b]? → ∀ j, j < P.length → wq.cell? ⟨b, o + j, none⟩ = some (.string (prt P j)) := by
  have h1 := h
  obtain ⟨a, c, rfl, hc⟩ := h.cellAt
  obtain ⟨b, o, rfl, hb, -⟩ := hc 0 h0
  refine ⟨b, o, c, rfl, hb, ?_, fun wq hq j hj => ?_⟩
  · rcases h1.2 with ⟨h2, -⟩ | ⟨g, cap, cur, h2, hB, -⟩
    · cases h2
    · cases h2; exact hB
  · obtain ⟨b', o', e, -, hcell⟩ := hc j hj
    cases e
    rw [cell_same hq]; exact hcell
set_option maxRecDepth 100000 in
set_option maxHeartbeats 6400000 in
theorem l08ReadGround_any (w : World) (t : ByteArray) (hmax : t.size ≤ 1048576) :
    Calls Tryz.prog 42 #[.string t] w fun e w' => ∃ u, e = .returned u ∧ RgRes w.heap.size t w' u ∧ Below w.heap.size w w' := by
  have hst := run_store_float (P := Tryz.prog)
  obtain ⟨W, hW⟩ : ∃ W, w.alloc (.cells #[.slice none 0 0, .float .f32 0, .float .f32 0] 43) = W := ⟨_, rfl⟩
  have hx0 : Below w.heap.size w W := by rw [← hW]; exact (Below.refl _ _).alloc (Nat.le_refl _) _
  have hz0 : W.heap.size = w.heap.size + 1 := by rw [← hW]; exact World.size_alloc _ _
  have HW0 : Hid (W.heap[w.heap.size]? = some (.cells #[.slice none 0 0, .float .f32 0, .float .f32 0] 43 (0, 0))) := Lib.hid (by rw [← hW]; exact alloc_new _ _)
  have X0 := Lib.hid hx0
  have HCut := Lib.hid (l01Cut_any W t 59 hmax)
  have HR := Lib.hid (fun wq => l01NRead_any wq (aft 59 t) (aft_size 59 t hmax))
  have HC2 := Lib.hid (fun wq => l01Cut_any wq (bef 59 t) 47 (bef_size 59 t hmax))
  have HLen : Hid (¬ (cutB 59 t).length = 2 → rg t = none) := Lib.hid rg_cut
  have HPt : Hid ((cutB 59 t).length = 2 → cutB 59 t = [bef 59 t, aft 59 t]) := Lib.hid rg_two
  have hpl := cutB_small 59 t hmax
  have hpp := cutB_pos 59 t
  have HFew : Hid (∀ D, rx 2 (aft 59 t) = some D → (cutB 47 (bef 59 t)).length ≤ 1048576) := Lib.hid fun D h => rg_few h hmax
  have HPs := Lib.hid (cutB_part 47 (bef 59 t) (bef_size 59 t hmax))
  generalize cutB 59 t = P1 at *
  clear hx0 hmax
  go_enter Tryz.func42, Tryz.ntmps42
  go_wp2_with fail
  clear hW
  refine HCut.out.mono ?_
  clear HCut
  rintro e w1 ⟨v1, rfl, o1, b1⟩
  obtain ⟨b5, o5, c5, rfl, hb5, hB5, hcell⟩ := OwnStr.cells o1 hpp
  have B1 := Lib.hid (X0.out.trans (b1.mono (by omega)))
  have HW1 := Lib.hid ((b1.block _ (by omega)).trans HW0.out)
  have z1 := b1.size
  clear b1 X0 HW0 o1
  by_cases h2 : P1.length = 2
  rotate_left
  · have HN : Hid (rg t = none) := Lib.hid (HLen.out h2)
    have hd : ((P1.length : Int) != 2) = true := by rw [bne_iff_ne]; omega
    clear h2 hcell
    have PZ := put3 HW1.out (.slice none 0 0) (.float .f32 0) (.float .f32 0)
    have HPZ := Lib.hid PZ
    obtain ⟨m0, m1, m2, f0, f1, f2⟩ := blk3 HW1.out
    clear PZ
    go_wp2_with fail
    have PZ := HPZ.out
    clear HPZ
    generalize (((w1.setCell ⟨w.heap.size, 0, none⟩ (.slice none 0 0)).setCell ⟨w.heap.size, 1, none⟩ (.float .f32 0)).setCell ⟨w.heap.size, 2, none⟩ (.float .f32 0)) = wy at *
    obtain ⟨q0, q1, q2, -, -, -⟩ := blk3 PZ.heap
    refine bodyPost_ret (v := .tuple #[zeroG, .bool false]) (by simp [results, Tryz.results42, go_sem, q0, q1, q2, zeroG]) rfl ?_
    exact ⟨_, rfl, .inr ⟨HN.out, rfl⟩, Below.chg B1.out PZ.chg (fun k hk => by omega) (by have := B1.out.size; omega)⟩
  have hP := HPt.out h2
  have e0 : prt P1 0 = bef 59 t := by rw [hP]; rfl
  have e1 : prt P1 1 = aft 59 t := by rw [hP]; rfl
  have HC5 : Hid (∀ wq : World, wq.heap[b5]? = w1.heap[b5]? → wq.cell? ⟨b5, o5, none⟩ = some (.string (bef 59 t)) ∧ wq.cell? ⟨b5, o5 + 1, none⟩ = some (.string (aft 59 t))) := Lib.hid fun wq hq => ⟨by have := hcell wq hq 0 (by omega); rwa [e0] at this, by have := hcell wq hq 1 (by omega); rwa [e1] at this⟩
  obtain ⟨k0, k1⟩ := HC5.out w1 rfl
  clear hP e0 e1 hcell HPt HLen
  rw [h2]
  clear h2
  go_wp2_with fail
  clear k0 k1
  refine (HR.out _).mono ?_
  clear HR
  rintro e w2 ⟨u2, rfl, hu2, b2⟩
  have B2 := Lib.hid (B1.out.trans (b2.mono (by omega)))
  have HW2 := Lib.hid ((b2.block _ (by omega)).trans HW1.out)
  have HS2 : Hid (w2.heap[b5]? = w1.heap[b5]?) := Lib.hid (b2.block _ (by omega))
  have z2 := b2.size
  clear b2 HW1
  rcases hu2 with ⟨D, vD, hD0, rfl, oD⟩ | ⟨hD0, rfl⟩
  rotate_left
  · have HN : Hid (rg t = none) := Lib.hid (rg_D (rx_none hD0))
    clear hD0
    have PZ := put3 HW2.out (.slice none 0 0) (.float .f32 0) (.float .f32 0)
    have HPZ := Lib.hid PZ
    obtain ⟨m0, m1, m2, f0, f1, f2⟩ := blk3 HW2.out
    clear PZ
    go_wp2_with fail
    have PZ := HPZ.out
    clear HPZ
    generalize (((w2.setCell ⟨w.heap.size, 0, none⟩ (.slice none 0 0)).setCell ⟨w.heap.size, 1, none⟩ (.float .f32 0)).setCell ⟨w.heap.size, 2, none⟩ (.float .f32 0)) = wy at *
    obtain ⟨q0, q1, q2, -, -, -⟩ := blk3 PZ.heap
    refine bodyPost_ret (v := .tuple #[zeroG, .bool false]) (by simp [results, Tryz.results42, go_sem, q0, q1, q2, zeroG]) rfl ?_
    exact ⟨_, rfl, .inr ⟨HN.out, rfl⟩, Below.chg B2.out PZ.chg (fun k hk => by omega) (by have := B2.out.size; omega)⟩
  by_cases hDl : D.length = 2
  rotate_left
  · have HN : Hid (rg t = none) := Lib.hid (rg_D (by unfold rx; simp only [hD0, if_neg hDl]))
    obtain ⟨aX, cX, hvX, -⟩ := oD.rd.opened
    subst hvX
    have hd : ((D.length : Int) != 2) = true := by rw [bne_iff_ne]; omega
    clear hD0 oD hDl
    have PZ := put3 HW2.out (.slice none 0 0) (.float .f32 0) (.float .f32 0)
    have HPZ := Lib.hid PZ
    obtain ⟨m0, m1, m2, f0, f1, f2⟩ := blk3 HW2.out
    clear PZ
    go_wp2_with fail
    have PZ := HPZ.out
    clear HPZ
    generalize (((w2.setCell ⟨w.heap.size, 0, none⟩ (.slice none 0 0)).setCell ⟨w.heap.size, 1, none⟩ (.float .f32 0)).setCell ⟨w.heap.size, 2, none⟩ (.float .f32 0)) = wy at *
    obtain ⟨q0, q1, q2, -, -, -⟩ := blk3 PZ.heap
    refine bodyPost_ret (v := .tuple #[zeroG, .bool false]) (by simp [results, Tryz.results42, go_sem, q0, q1, q2, zeroG]) rfl ?_
    exact ⟨_, rfl, .inr ⟨HN.out, rfl⟩, Below.chg B2.out PZ.chg (fun k hk => by omega) (by have := B2.out.size; omega)⟩
  have hD1 : rx 2 (aft 59 t) = some D := by unfold rx; simp only [hD0, if_pos hDl]
  have HD1 := Lib.hid hD1
  have hfew := HFew.out D hD1
  obtain ⟨b7, o7, c7, hv7, -, hb7, hcl⟩ := oD.rd.at_block (by omega)
  obtain ⟨r0, j0, F0⟩ := hcl 0 (by omega)
  obtain ⟨r1, j1, F1⟩ := hcl 1 (by omega)
  subst hv7
  rw [hDl]
  have HF : Hid (FV .f32 r0 (D.getD 0 0) ∧ FV .f32 r1 (D.getD 1 0)) := Lib.hid ⟨F0, F1⟩
  have FX : Hid (∀ wq, Ext w2.drew wq → wq.cell? ⟨b7, o7, none⟩ = some (.float .f32 r0) ∧ wq.cell? ⟨b7, o7 + 1, none⟩ = some (.float .f32 r1)) := Lib.hid fun wq hq => by
    have e := (bcell ((Ext.drew w2).trans hq)).1
    exact ⟨(e _ _ hb7).trans j0, (e _ _ hb7).trans j1⟩
  clear hcl j0 j1 F0 F1 hD1 hD0 oD hDl HFew
  have HRG : Hid (∀ L, allL (cutB 47 (bef 59 t)) = some L → rg t = if validG ⟨(cutB 47 (bef 59 t)).length, L, D.getD 0 0, D.getD 1 0⟩ = true then some ⟨(cutB 47 (bef 59 t)).length, L, D.getD 0 0, D.getD 1 0⟩ else none) := Lib.hid fun L h => rg_yes HD1.out h
  have HRN : Hid (allL (cutB 47 (bef 59 t)) = none → rg t = none) := Lib.hid rg_L
  clear HD1
  generalize D.getD 0 0 = x at *
  generalize D.getD 1 0 = y at *
  go_wp2_with fail
  refine region_grow_tail 9 (by kernel_rfl) (by kernel_rfl) (fun _ _ _ _ _ => False) ?_
  simp only [List.take_succ_cons, List.take_zero, List.drop_succ_cons, List.drop_zero]
  refine wpRelK_op rfl rfl (fun wa hqa K hK => ?_)
  have sa := hqa.1.size
  go_wp2
  refine hK _ _ ((Below.refl _ _).alloc (Nat.le_refl _) _) ?_
  clear hK K
  iterate 7 (refine wpRelK_still rfl rfl (fun wq hq K hK => ?_); obtain ⟨k0, k1⟩ := FX.out wq hq.1; go_wp2; clear k0 k1)
  refine wpRelK_op rfl rfl (fun w9 hq9 K hK => ?_)
  have s9 := hq9.1.size
  go_wp2
  refine hK _ _ ((Below.refl _ _).alloc (Nat.le_refl _) _) ?_
  clear hK K
  refine wpRelK_nil ?_
  intro w8 hW8 hall
  have E0 : Ext (wa.alloc (.cells #[] 77)) w8 := hall 0 (by decide)
  have E9 : Ext (w9.alloc (.cells #[.slice none 0 0, .float .f32 0, .float .f32 0] 43)) w8 := hall 8 (by decide)
  have h0 : w8.heap[wa.heap.size]? = some (.cells #[] 77 (0, 0)) := (E0.block wa.heap.size (by rw [World.size_alloc]; omega)).trans (alloc_new _ _)
  have h8 : w8.heap[w9.heap.size]? = some (.cells #[.slice none 0 0, .float .f32 0, .float .f32 0] 43 (0, 0)) := (E9.block w9.heap.size (by rw [World.size_alloc]; omega)).trans (alloc_new _ _)
  have hg39 : wa.heap.size ≠ w9.heap.size := fun e => by rw [e, h8] at h0; simp at h0
  have x8 : Ext w2 w8 := (Ext.drew w2).trans hW8
  have X8 := Lib.hid x8
  have g8 : w9.heap.size < w8.heap.size := (Array.getElem?_eq_some_iff.1 h8).1
  have g30 : wa.heap.size < w8.heap.size := (Array.getElem?_eq_some_iff.1 h0).1
  have sa' : w2.heap.size ≤ wa.heap.size := sa
  have s9' : w2.heap.size ≤ w9.heap.size := s9
  have OE : Hid (OwnL w8 (fun k => w2.heap.size ≤ k) (.slice (some ⟨wa.heap.size, 0, none⟩) 0 0) 0 []) := Lib.hid (OwnL.kept (w := wa.alloc (.cells #[] 77))
    ⟨[], rfl, World.ownsRow_lit wa #[] 0 (Nat.zero_le _) (by decide) rfl, (fun k hk => by cases hk; exact sa'), (fun j hj => by cases hj), (fun i j k hi => by cases hi), (fun j k hj => by cases hj)⟩ E0)
  clear hall hW8 E9 E0 hq9 hqa x8 FX s9 sa h0
  generalize w9.heap.size = g9 at *
  generalize wa.heap.size = g3 at *
  have HP8 := Lib.hid (put3 h8 (.slice (some ⟨g3, 0, none⟩) 0 0) (.float .f32 r0) (.float .f32 r1))
  obtain ⟨m0, m1, m2, f0, f1, f2⟩ := blk3 h8
  clear h8
  obtain ⟨wz, hwz⟩ : ∃ wz, (((w8.setCell ⟨g9, 0, none⟩ (.slice (some ⟨g3, 0, none⟩) 0 0)).setCell ⟨g9, 1, none⟩ (.float .f32 r0)).setCell ⟨g9, 2, none⟩ (.float .f32 r1)) = wz := ⟨_, rfl⟩
  rw [hwz] at HP8
  have BZ : Hid (Below w.heap.size w wz) := Lib.hid (Below.chg (B2.out.trans (X8.out.mono (by have := B2.out.size; omega))) HP8.out.chg (fun k hk => by have := B2.out.size; omega) (by have := X8.out.size; have := B2.out.size; omega))
  have HBZ : Hid (wz.heap[w.heap.size]? = some (.cells #[.slice none 0 0, .float .f32 0, .float .f32 0] 43 (0, 0))) := Lib.hid ((HP8.out.chg.block _ (by have := X8.out.size; omega) (by omega)).trans ((X8.out.block _ (by omega)).trans HW2.out))
  have HSZ : wz.heap[b5]? = w1.heap[b5]? := ((HP8.out.chg.block _ (by have := X8.out.size; omega) (by omega)).trans ((X8.out.block _ (by omega)).trans HS2.out))
  have HGZ := Lib.hid HP8.out.heap
  have OZ := Lib.hid (OE.out.chg HP8.out.chg fun k hk e => by cases hk; exact hg39 e)
  have hgz : g9 < wz.heap.size := by rw [HP8.out.size]; exact g8
  have hg3z : g3 < wz.heap.size := by rw [HP8.out.size]; exact g30
  have hwl : w.heap.size < g9 := by omega
  obtain ⟨k0, k1⟩ := HC5.out wz HSZ
  clear HP8 X8 OE HSZ
  have hpos := cutB_pos 47 (bef 59 t)
  generalize cutB 47 (bef 59 t) = P at *
  go_wp2_with fail
  clear hwz m0 m1 m2 f0 f1 f2 k0 k1 HC5 HS2
  refine (HC2.out wz).mono ?_
  clear HC2
  rintro e w6 ⟨v6, rfl, o6, b6⟩
  obtain ⟨b8, o8, c8, rfl, hb8, hB8, hcell⟩ := OwnStr.cells o6 hpos
  have HC := Lib.hid hcell
  have z6 := b6.size
  have B6 := Lib.hid (BZ.out.trans (b6.mono BZ.out.size))
  have HW6 := Lib.hid ((b6.block _ (by omega)).trans HBZ.out)
  have HG6 := Lib.hid ((b6.block _ hgz).trans HGZ.out)
  have O6 := Lib.hid (OZ.out.kept b6)
  clear b6 BZ HBZ HGZ OZ o6 hcell
  obtain ⟨CS, hCS⟩ : ∃ CS : Nat → Prop, CS = fun k => k = g9 ∨ k = g3 := ⟨_, rfl⟩
  have HCS : Hid (∀ k, CS k ↔ k = g9 ∨ k = g3) := Lib.hid fun k => by rw [hCS]
  clear hCS
  go_wp2_with fail
  go_loopw [9] (fun i wr => ∃ (j : Nat) (L : List Nat) (vt : Value), j ≤ P.length ∧ i = .int .i64 j ∧ allL (P.take j) = some L ∧ OwnL wr (fun k => w2.heap.size ≤ k) vt j L ∧ (∀ k, vt.ownBlock = some k → k = g3 ∨ w6.heap.size ≤ k) ∧ wr.heap[g9]? = some (.cells #[vt, .float .f32 r0, .float .f32 r1] 43 (0, 0)) ∧ Chg w6 wr CS) (fun i _ => P.length - (intOf i).toNat)
  case atStart => exact ⟨0, [], _, Nat.zero_le _, rfl, rfl, O6.out, (fun k hk => by cases hk; exact .inl rfl), HG6.out, Chg.refl _ _⟩
  case round =>
    obtain ⟨wi, rfl⟩ : ∃ wi : World, wi = wr := ⟨_, rfl⟩
    obtain ⟨j, L, vt, hj, rfl, hall, ho, hng, hb, hc⟩ := hrel
    obtain ⟨av, cv, rfl⟩ := ho.shape
    have HA := Lib.hid hall
    have HO := Lib.hid ho
    have HNG := Lib.hid hng
    have HB := Lib.hid hb
    have HCg := Lib.hid hc
    have hzi := hc.size
    have BI : Hid (Below w.heap.size w wi) := Lib.hid (Below.chg B6.out hc (fun k hk => by have := (HCS.out k).1 hk; omega) (by omega))
    have HWI : Hid (wi.heap[w.heap.size]? = some (.cells #[.slice none 0 0, .float .f32 0, .float .f32 0] 43 (0, 0))) := Lib.hid ((hc.block w.heap.size (by omega) (fun hk => by have := (HCS.out _).1 hk; omega)).trans HW6.out)
    by_cases hlt : j < P.length
    · have hc0 := HC.out wi (hc.block _ (by omega) (fun hk => by have := (HCS.out _).1 hk; omega)) j hlt
      have HXp := Lib.hid (l01NRead_any wi (prt P j) (HPs.out _ (prt_mem P j hlt)))
      have HT := Lib.hid (prt_take P j hlt)
      have HSpl := Lib.hid (prt_split P j hlt)
      clear hall ho hng hb hc
      generalize prt P j = p at *
      go_wp2_with fail
      refine HXp.out.mono ?_
      clear HXp hc0
      rintro e wj ⟨u, rfl, hu, b2⟩
      have BJ := Lib.hid (BI.out.trans (b2.mono (by omega)))
      have HWJ := Lib.hid ((b2.block _ (by omega)).trans HWI.out)
      have HGJ := Lib.hid ((b2.block _ (by omega)).trans HB.out)
      have HOJ := Lib.hid (HO.out.kept b2)
      have CJ := Lib.hid (HCg.out.trans (Chg.of_below b2 _))
      have zj := b2.size
      clear b2 BI HWI HB HO HCg
      rcases hu with ⟨X, vX, hX0, rfl, oX⟩ | ⟨hX0, rfl⟩
      rotate_left
      · have HN : Hid (rg t = none) := Lib.hid (HRN.out (by rw [HSpl.out]; exact allL_bad (rx_none hX0)))
        clear hX0
        have PZ := put3 HWJ.out (.slice none 0 0) (.float .f32 0) (.float .f32 0)
        have HPZ := Lib.hid PZ
        obtain ⟨m0, m1, m2, f0, f1, f2⟩ := blk3 HWJ.out
        clear PZ
        go_wp2_with fail
        have PZ := HPZ.out
        clear HPZ
        generalize (((wj.setCell ⟨w.heap.size, 0, none⟩ (.slice none 0 0)).setCell ⟨w.heap.size, 1, none⟩ (.float .f32 0)).setCell ⟨w.heap.size, 2, none⟩ (.float .f32 0)) = wy at *
        obtain ⟨q0, q1, q2, -, -, -⟩ := blk3 PZ.heap
        refine bodyPost_ret (v := .tuple #[zeroG, .bool false]) (by simp [results, Tryz.results42, go_sem, q0, q1, q2, zeroG]) rfl ?_
        exact ⟨_, rfl, .inr ⟨HN.out, rfl⟩, Below.chg BJ.out PZ.chg (fun k hk => by omega) (by have := BJ.out.size; omega)⟩
      by_cases hXl : X.length = 4
      rotate_left
      · have HN : Hid (rg t = none) := Lib.hid (HRN.out (by rw [HSpl.out]; exact allL_bad (by unfold rx; simp only [hX0, if_neg hXl])))
        obtain ⟨aX, cX, hvX, -⟩ := oX.rd.opened
        subst hvX
        have hd : ((X.length : Int) != 4) = true := by rw [bne_iff_ne]; omega
        clear hX0 oX hXl
        have PZ := put3 HWJ.out (.slice none 0 0) (.float .f32 0) (.float .f32 0)
        have HPZ := Lib.hid PZ
        obtain ⟨m0, m1, m2, f0, f1, f2⟩ := blk3 HWJ.out
        clear PZ
        go_wp2_with fail
        have PZ := HPZ.out
        clear HPZ
        generalize (((wj.setCell ⟨w.heap.size, 0, none⟩ (.slice none 0 0)).setCell ⟨w.heap.size, 1, none⟩ (.float .f32 0)).setCell ⟨w.heap.size, 2, none⟩ (.float .f32 0)) = wy at *
        obtain ⟨q0, q1, q2, -, -, -⟩ := blk3 PZ.heap
        refine bodyPost_ret (v := .tuple #[zeroG, .bool false]) (by simp [results, Tryz.results42, go_sem, q0, q1, q2, zeroG]) rfl ?_
        exact ⟨_, rfl, .inr ⟨HN.out, rfl⟩, Below.chg BJ.out PZ.chg (fun k hk => by omega) (by have := BJ.out.size; omega)⟩
      have hX : rx 4 p = some X := by unfold rx; simp only [hX0, if_pos hXl]
      clear hX0
      obtain ⟨b7, o7, c7, hv7, -, hb7, hcl⟩ := oX.rd.at_block (by omega)
      obtain ⟨r4, j4, F4⟩ := hcl 0 (by omega)
      obtain ⟨r5, j5, F5⟩ := hcl 1 (by omega)
      obtain ⟨r6, j6, F6⟩ := hcl 2 (by omega)
      obtain ⟨r7, j7, F7⟩ := hcl 3 (by omega)
      subst hv7
      rw [hXl]
      have HF4 : Hid (FV .f32 r4 (X.getD 0 0) ∧ FV .f32 r5 (X.getD 1 0) ∧ FV .f32 r6 (X.getD 2 0) ∧ FV .f32 r7 (X.getD 3 0)) := Lib.hid ⟨F4, F5, F6, F7⟩
      have HXe := Lib.hid (four_of hXl)
      have HX := Lib.hid hX
      have FX : Hid (∀ wq, Ext wj.drew wq → wq.cell? ⟨b7, o7, none⟩ = some (.float .f32 r4) ∧ wq.cell? ⟨b7, o7 + 1, none⟩ = some (.float .f32 r5) ∧ wq.cell? ⟨b7, o7 + 2, none⟩ = some (.float .f32 r6) ∧ wq.cell? ⟨b7, o7 + 3, none⟩ = some (.float .f32 r7) ∧ wq.cell? ⟨g9, 0, none⟩ = some (.slice av j cv)) := Lib.hid fun wq hq => by
        have e := (bcell ((Ext.drew wj).trans hq)).1
        obtain ⟨k2, -, -, -, -, -⟩ := blk3 HGJ.out
        exact ⟨(e _ _ hb7).trans j4, (e _ _ hb7).trans j5, (e _ _ hb7).trans j6, (e _ _ hb7).trans j7, (e _ _ (by omega)).trans k2⟩
      clear hcl j4 j5 j6 j7 F4 F5 F6 F7 oX hX hXl
      generalize X.getD 0 0 = x4 at *
      generalize X.getD 1 0 = x5 at *
      generalize X.getD 2 0 = x6 at *
      generalize X.getD 3 0 = x7 at *
      go_wp2_with fail
      refine region_grow_tail 16 (by kernel_rfl) (by kernel_rfl) (fun _ _ _ _ _ => False) ?_
      simp only [List.take_succ_cons, List.take_zero, List.drop_succ_cons, List.drop_zero]
      iterate 15 (refine wpRelK_still rfl rfl (fun wq hq K hK => ?_); obtain ⟨k0, k1, k2, k3, k4⟩ := FX.out wq hq.1; go_wp2; clear k0 k1 k2 k3 k4)
      refine wpRelK_op rfl rfl (fun wb hb2 K hK => ?_)
      have gb : wj.heap.size ≤ wb.heap.size := hb2.1.size
      go_wp2
      refine hK _ _ ((Below.refl _ _).alloc (Nat.le_refl _) _) ?_
      clear hK K
      refine wpRelK_nil ?_
      intro w8 hW hall
      have E8 : Ext (wb.alloc (.cells #[.float .f32 r4, .float .f32 r5, .float .f32 r6, .float .f32 r7] 77)) w8 := hall 15 (by decide)
      have xW : Ext wj w8 := (Ext.drew wj).trans hW
      have h8 : w8.heap[wb.heap.size]? = some (.cells #[.float .f32 r4, .float .f32 r5, .float .f32 r6, .float .f32 r7] 77 (0, 0)) := (E8.block wb.heap.size (by rw [World.size_alloc]; omega)).trans (alloc_new _ _)
      have n0 := cell_of_row w8 _ 0 _ _ _ h8
      have n1 := cell_of_row w8 _ 1 _ _ _ h8
      have n2 := cell_of_row w8 _ 2 _ _ _ h8
      have n3 := cell_of_row w8 _ 3 _ _ _ h8
      have XW := Lib.hid xW
      have z8 := xW.size
      clear hall hW E8 hb2 xW h8 FX
      refine wpList_pushL rfl _ _ rfl w2.heap.size _ j L rfl (HOJ.out.kept XW.out) (by omega) _ _ r4 r5 r6 r7 _ _ _ _ rfl n0 n1 n2 n3 HF4.out.1 HF4.out.2.1 HF4.out.2.2.1 HF4.out.2.2.2 (by omega) ?_
      intro v9 w9 o9 gr9 l9
      have z9 := gr9.size
      obtain ⟨q9, cap9, hv9, -⟩ := (OwnC.form o9).resolve_left fun h => by have := h.2.1; omega
      subst hv9
      have hne9 : q9 = g3 ∨ w6.heap.size ≤ q9 := by
        rcases l9 with l9 | l9
        · exact HNG.out _ l9.symm
        · have hq9 : q9 = w8.heap.size := Option.some.inj l9
          exact .inr (by omega)
      have HNE9 := Lib.hid hne9
      have hb9 : w9.heap[g9]? = some (.cells #[.slice av j cv, .float .f32 r0, .float .f32 r1] 43 (0, 0)) := by
        rw [gr9.block g9 (by omega) fun e => by have := HNG.out _ e.symm; omega, XW.out.block g9 (by omega)]
        exact HGJ.out
      obtain ⟨k0, k1, k2, f0, f1, f2⟩ := blk3 hb9
      have P9 := (Put.one hb9 0 (.slice (some ⟨q9, 0, none⟩) (j + 1) cap9)).cs (cs' := #[.slice (some ⟨q9, 0, none⟩) (j + 1) cap9, .float .f32 r0, .float .f32 r1]) (by simp)
      have HP9 := Lib.hid P9
      have O9 := Lib.hid o9
      have C9 : Hid (Chg w6 w9 CS) := Lib.hid ((CJ.out.trans (Chg.of_below XW.out _)).only (Chg.of_grown (S := fun b => (Value.slice av j cv).ownBlock = some b) gr9 fun b hb => hb) fun k hk hkl => (HCS.out k).2 (by have := HNG.out k hk; omega))
      clear o9 gr9 l9 hb9 P9 n0 n1 n2 n3
      go_wp2
      refine ⟨⟨j + 1, L ++ [x4, x5, x6, x7], _, by omega, by go_num, ?_, ?_, ?_, HP9.out.heap, ?_⟩, by simp [intOf]; omega⟩
      · rw [HT.out, allL_snoc, HA.out]
        simp only [HX.out]
        rw [HXe.out]
      · exact O9.out.chg HP9.out.chg (fun k hk e => by have hq : q9 = k := Option.some.inj hk; have e2 : k = g9 := e; have := HNE9.out; omega)
      · intro k hk
        cases hk
        exact HNE9.out
      · exact C9.out.trans (HP9.out.chg.wide fun k hk => (HCS.out k).2 (.inl hk))
    · clear hall ho hng hb hc
      obtain rfl : j = P.length := by omega
      have hL : allL P = some L := by have := HA.out; rwa [List.take_length] at this
      have HRG2 := Lib.hid (HRG.out L hL)
      have hcells := blk3 HB.out
      have HV := Lib.hid (l02Is_any wi g9 0 (.slice av P.length cv) r0 r1 ⟨P.length, L, x, y⟩ hcells.1 hcells.2.1 hcells.2.2.1 (OwnC.lay HO.out) HF.out.1 HF.out.2 (by show P.length ≤ 1048576; omega))
      obtain ⟨k0, k1, k2, -, -, -⟩ := hcells
      go_wp2_with fail
      refine HV.out.mono ?_
      clear HV k0 k1 k2
      rintro e w10 ⟨rfl, b10x⟩
      have b10 : Below wi.heap.size wi w10 := by obtain ⟨n10, hn10⟩ := b10x; rw [hn10]; exact Below.drewN (Below.refl _ _) _
      clear b10x
      have B10 := Lib.hid (BI.out.trans (b10.mono (by omega)))
      have HW10 := Lib.hid ((b10.block _ (by omega)).trans HWI.out)
      have HG10 := Lib.hid ((b10.block _ (by omega)).trans HB.out)
      have HO10 := Lib.hid (HO.out.kept b10)
      have z10 := b10.size
      clear b10 hL
      cases hp : validG ⟨P.length, L, x, y⟩ with
      | false =>
        have HN : Hid (rg t = none) := Lib.hid (by rw [HRG2.out, hp]; rfl)
        clear hp HRG2
        have PZ := put3 HW10.out (.slice none 0 0) (.float .f32 0) (.float .f32 0)
        have HPZ := Lib.hid PZ
        obtain ⟨m0, m1, m2, f0, f1, f2⟩ := blk3 HW10.out
        clear PZ
        go_wp2_with fail
        have PZ := HPZ.out
        clear HPZ
        generalize (((w10.setCell ⟨w.heap.size, 0, none⟩ (.slice none 0 0)).setCell ⟨w.heap.size, 1, none⟩ (.float .f32 0)).setCell ⟨w.heap.size, 2, none⟩ (.float .f32 0)) = wy at *
        obtain ⟨q0, q1, q2, -, -, -⟩ := blk3 PZ.heap
        refine bodyPost_ret (v := .tuple #[zeroG, .bool false]) (by simp [results, Tryz.results42, go_sem, q0, q1, q2, zeroG]) rfl ?_
        exact ⟨_, rfl, .inr ⟨HN.out, rfl⟩, Below.chg B10.out PZ.chg (fun k hk => by omega) (by have := B10.out.size; omega)⟩
      | true =>
        have HN : Hid (rg t = some ⟨P.length, L, x, y⟩) := Lib.hid (by rw [HRG2.out, hp]; rfl)
        clear hp HRG2
        have PZ := put3 HW10.out (.slice av P.length cv) (.float .f32 r0) (.float .f32 r1)
        have HPZ := Lib.hid PZ
        obtain ⟨m0, m1, m2, f0, f1, f2⟩ := blk3 HW10.out
        obtain ⟨k0, k1, k2, -, -, -⟩ := blk3 HG10.out
        clear PZ
        go_wp2_with fail
        have PZ := HPZ.out
        clear HPZ
        generalize (((w10.setCell ⟨w.heap.size, 0, none⟩ (.slice av P.length cv)).setCell ⟨w.heap.size, 1, none⟩ (.float .f32 r0)).setCell ⟨w.heap.size, 2, none⟩ (.float .f32 r1)) = wy at *
        obtain ⟨q0, q1, q2, -, -, -⟩ := blk3 PZ.heap
        refine bodyPost_ret (v := .tuple #[.agg #[.slice av P.length cv, .float .f32 r0, .float .f32 r1], .bool true]) (by simp [results, Tryz.results42, go_sem, q0, q1, q2]) rfl ?_
        exact ⟨_, rfl, .inl ⟨_, _, HN.out, rfl, ⟨_, _, _, rfl, OwnC.wide (HO10.out.chg PZ.chg fun k hk e => by have := (OwnC.lt HO10.out k hk).1; omega) (fun k hk => by omega), HF.out.1, HF.out.2⟩⟩, Below.chg B10.out PZ.chg (fun k hk => by omega) (by omega)⟩
set_option maxRecDepth 100000 in
theorem specReadGround_any (w : World) (t : ByteArray) (hmax : t.size ≤ 1048576) :
    Calls Tryz.prog 16 #[.string t] w fun e w' => ∃ u, e = .returned u ∧ RgRes w.heap.size t w' u ∧ Below w.heap.size w w' := by
  have hst := run_store_float (P := Tryz.prog)
  obtain ⟨W, hW⟩ : ∃ W, w.alloc (.cells #[.slice none 0 0, .float .f32 0, .float .f32 0] 43) = W := ⟨_, rfl⟩
  have hx0 : Below w.heap.size w W := by rw [← hW]; exact (Below.refl _ _).alloc (Nat.le_refl _) _
  have hz0 : W.heap.size = w.heap.size + 1 := by rw [← hW]; exact World.size_alloc _ _
  have HW0 : Hid (W.heap[w.heap.size]? = some (.cells #[.slice none 0 0, .float .f32 0, .float .f32 0] 43 (0, 0))) := Lib.hid (by rw [← hW]; exact alloc_new _ _)
  have X0 := Lib.hid hx0
  have HL := Lib.hid (l08ReadGround_any W t hmax)
  clear hmax hx0
  go_enter Tryz.func16, Tryz.ntmps16
  go_wp2_with fail
  clear hW
  refine HL.out.mono ?_
  clear HL
  rintro e w1 ⟨u, rfl, hu, b1⟩
  have B1 := Lib.hid (X0.out.trans (b1.mono (by omega)))
  have HW1 := Lib.hid ((b1.block _ (by omega)).trans HW0.out)
  have z1 := b1.size
  clear b1 X0 HW0
  rcases hu with ⟨GG, u1, hG, rfl, v, r, s, rfl, o1, g1, g2⟩ | ⟨hN, rfl⟩
  · obtain ⟨av, cv, rfl⟩ := OwnL.shape o1
    have HN := Lib.hid hG
    have HO : Hid (∀ w' : World, Chg w1 w' (fun k => k = w.heap.size) → (∀ k, (Value.slice av GG.n cv).ownBlock = some k → ¬ k = w.heap.size) → OwnL w' (fun k => W.heap.size ≤ k) (.slice av GG.n cv) GG.n GG.L) := Lib.hid fun w' h1 h2 => OwnL.chg o1 h1 h2
    have PZ := put3 HW1.out (.slice av GG.n cv) (.float .f32 r) (.float .f32 s)
    have HPZ := Lib.hid PZ
    obtain ⟨m0, m1, m2, f0, f1, f2⟩ := blk3 HW1.out
    have HLt : Hid (∀ k, (Value.slice av GG.n cv).ownBlock = some k → W.heap.size ≤ k) := Lib.hid fun k hk => (OwnC.lt o1 k hk).1
    clear PZ hG o1
    go_wp2
    have PZ := HPZ.out
    clear HPZ
    generalize (((w1.setCell ⟨w.heap.size, 0, none⟩ (.slice av GG.n cv)).setCell ⟨w.heap.size, 1, none⟩ (.float .f32 r)).setCell ⟨w.heap.size, 2, none⟩ (.float .f32 s)) = wy at *
    obtain ⟨q0, q1, q2, -, -, -⟩ := blk3 PZ.heap
    refine bodyPost_ret (v := .tuple #[.agg #[.slice av GG.n cv, .float .f32 r, .float .f32 s], .bool true]) (by simp [results, Tryz.results16, go_sem, q0, q1, q2]) rfl ?_
    exact ⟨_, rfl, .inl ⟨_, _, HN.out, rfl, ⟨_, _, _, rfl, OwnC.wide (HO.out _ PZ.chg fun k hk e => by have := HLt.out k hk; omega) (fun k hk => by omega), g1, g2⟩⟩, Below.chg B1.out PZ.chg (fun k hk => by omega) (by omega)⟩
  · have HN := Lib.hid hN
    clear hN
    unfold zeroG
    have PZ := put3 HW1.out (.slice none 0 0) (.float .f32 0) (.float .f32 0)
    have HPZ := Lib.hid PZ
    obtain ⟨m0, m1, m2, f0, f1, f2⟩ := blk3 HW1.out
    clear PZ
    go_wp2_with fail
    have PZ := HPZ.out
    clear HPZ
    generalize (((w1.setCell ⟨w.heap.size, 0, none⟩ (.slice none 0 0)).setCell ⟨w.heap.size, 1, none⟩ (.float .f32 0)).setCell ⟨w.heap.size, 2, none⟩ (.float .f32 0)) = wy at *
    obtain ⟨q0, q1, q2, -, -, -⟩ := blk3 PZ.heap
    refine bodyPost_ret (v := .tuple #[zeroG, .bool false]) (by simp [results, Tryz.results16, go_sem, q0, q1, q2, zeroG]) rfl ?_
    exact ⟨_, rfl, .inr ⟨HN.out, rfl⟩, Below.chg B1.out PZ.chg (fun k hk => by omega) (by have := B1.out.size; omega)⟩
end Go.Proofs.YtjbaebgdebcipaaGreatDoor
