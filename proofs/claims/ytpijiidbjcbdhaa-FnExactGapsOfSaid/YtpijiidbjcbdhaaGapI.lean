/- Walks: impl.GapsOf. -/
import Derived.Test.YtpijiidbjcbdhaaGapS
namespace Go.Proofs.Ytpijiidbjcbdhaa
open Go Go.RowKit

theorem cell_new3 (w : World) (o p : Obj) (u : Value) (t : TypeId) : (((w.alloc o).alloc p).alloc (.cells #[u] t)).cell? ⟨w.heap.size + 1 + 1, 0, none⟩ = some u := by
  have e : ((w.alloc o).alloc p).heap.size = w.heap.size + 1 + 1 := by simp
  rw [← e]
  exact cell_new _ _ _
theorem maxI_eq (a b : Int) : max a b = maxI a b := by
  unfold maxI
  split <;> omega
set_option maxRecDepth 100000 in
set_option maxHeartbeats 3200000 in
theorem implGaps_any (w : World) (v : Value) (Fs : List FM) (s : Int) (h : RdFr w v Fs) (hs : Fsmall Fs) :
    Calls Try.prog 20 #[v, .int .i64 s] w fun e w' => GapV Fs s w.heap.size e w' ∧ Below w.heap.size w w' := by
  have HK := Lib.hid (isStation_any w v Fs s h hs)
  have HR := Lib.hid h
  obtain ⟨a, c, rfl, -⟩ := h.opened
  clear h
  cases hp : areF Fs && inB s 0 200 with
  | false =>
    have HN : Hid (∀ w', GapV Fs s w.heap.size (.returned (.tuple #[.slice none 0 0, .bool false])) w') := Lib.hid fun w' => by
      have hf : gapOk Fs s = false := hp
      exact ⟨_, by rw [hf], by unfold gapL'; rw [hf]; exact OwnII.nil _ _⟩
    rw [hp] at HK
    clear hp HR hs
    go_enter Try.func20, Try.ntmps20
    go_wp2_with fail
    refine HK.out.mono ?_
    rintro e w1 ⟨rfl, b1⟩
    go_wp2
    go_ret2
    exact ⟨HN.out _, b1⟩
  | true =>
    have hp2 := hp
    simp only [Bool.and_eq_true] at hp2
    have HSA := Lib.hid (ofF_sa s (areF_sa hp2.1 hs))
    have hlen := areF_len hp2.1
    have hlo := ofF_length Fs s
    have hS2 := Lib.hid hs.2
    have HG : Hid (∀ (v : Value) (w' : World), OwnII w' (Iv w.heap.size w'.heap.size) v (gapL (ofF Fs s) (ofF Fs s).length) → GapV Fs s w.heap.size (.returned (.tuple #[v, .bool true])) w') := Lib.hid fun v w' h1 => by
      have hf : gapOk Fs s = true := hp
      exact ⟨_, by rw [hf], by unfold gapL'; rw [hf]; exact h1⟩
    rw [hp] at HK
    clear hp hp2 hs
    go_enter Try.func20, Try.ntmps20
    go_wp2_with fail
    refine HK.out.mono ?_
    rintro e w1 ⟨rfl, b1⟩
    have z1 := b1.size
    have HO := Lib.hid (ofStation_any w1 _ s Fs (HR.out.mono b1) (by omega) hS2.out)
    clear HK
    go_wp2_with fail
    refine HO.out.mono ?_
    clear HO
    rintro e w2 ⟨v2, Es, rfl, o2, r2, hes, b2, e2⟩
    have O2 := Lib.hid o2
    have HES := Lib.hid hes
    have HLE : Hid (Es.length = (ofF Fs s).length) := Lib.hid (by rw [← hes, List.length_map])
    obtain ⟨a2, c2, rfl⟩ := o2.slice
    have hz2 := b2.size
    have BW := Lib.hid (b1.trans (b2.mono (by omega)))
    clear o2 r2 e2 hes b2 b1
    go_wp2_with fail
    go_loopw [6, 7, 18] (fun o q i wr => ∃ j : Nat, j ≤ Es.length ∧ i = .int .i64 j ∧ q = .int .i64 (gapE (ofF Fs s) j) ∧ OwnII wr (Iv w2.heap.size wr.heap.size) o (gapL (ofF Fs s) j) ∧ Below w2.heap.size w2 wr) (fun _ _ i _ => Es.length - (intOf i).toNat)
    case atStart => exact ⟨0, Nat.zero_le _, rfl, rfl, OwnII.nil _ _, Below.refl _ _⟩
    case round =>
      obtain ⟨wi, rfl⟩ : ∃ wi : World, wi = wr := ⟨_, rfl⟩
      obtain ⟨j, hj, rfl, rfl, p, ch⟩ := hrel
      have P := Lib.hid p
      have CH := Lib.hid ch
      have hzi := ch.size
      by_cases hlt : j < Es.length
      · have hjo : j < (ofF Fs s).length := by rw [← HLE.out]; exact hlt
        obtain ⟨hv, hE0⟩ | ⟨g, cap, hv, hgB, hgs, hcap, hc0, -⟩ := (O2.out.kept ch).form
        · rw [hE0] at hlt; cases hlt
        obtain ⟨rfl, rfl⟩ : a2 = some ⟨g, 0, none⟩ ∧ c2 = cap := by cases hv; exact ⟨rfl, rfl⟩
        obtain ⟨m0, m1, m2⟩ := hc0 j hlt
        have hfe : frAt (ofF Fs s) j = (feAt Es j).f := by rw [← HES.out, feAt_map]
        obtain ⟨s1, s2, s3⟩ := HSA.out j hjo
        obtain ⟨e1, e2⟩ := gapE_le (ofF Fs s) HSA.out j (by omega)
        have hgl := Nat.le_trans (gapL_len (ofF Fs s) j) (Nat.le_of_lt hjo)
        have HE : Hid (gapE (ofF Fs s) (j + 1) = maxI (gapE (ofF Fs s) j) ((feAt Es j).f.sa + ((feAt Es j).f.L.length : Nat))) := Lib.hid (by rw [gapE, hfe])
        have HY : Hid (0 < j → gapE (ofF Fs s) j < (feAt Es j).f.sa → gapL (ofF Fs s) (j + 1) = gapL (ofF Fs s) j ++ [[gapE (ofF Fs s) j, (feAt Es j).f.sa]]) := Lib.hid fun h1 h2 => by rw [← hfe]; exact gapL_yes h1 (by rw [hfe]; exact h2)
        have HX : Hid (¬ (0 < j ∧ gapE (ofF Fs s) j < (feAt Es j).f.sa) → gapL (ofF Fs s) (j + 1) = gapL (ofF Fs s) j) := Lib.hid fun h1 => gapL_no (by rw [hfe]; exact h1)
        rw [hfe] at s1 s2 s3
        clear hc0 hfe hv p ch
        generalize feAt Es j = y at *
        obtain ⟨⟨yst, ysa, yL⟩, ya, yc⟩ := y
        simp only [FE.tr] at *
        have HF := Lib.hid (fun wq => frameEnd_any wq yst ysa ya yL.length yc s1 s2 s3)
        generalize gapE (ofF Fs s) j = E at *
        have xf : Below wi.heap.size wi (wi.alloc (.cells #[.int .i64 yst, .int .i64 ysa, .slice ya yL.length yc] 61)) := (Below.refl _ _).alloc (Nat.le_refl _) _
        have XF := Lib.hid xf
        clear xf
        by_cases hc : 0 < j ∧ E < ysa
        · obtain ⟨hc1, hc2⟩ := hc
          have HL := Lib.hid (HY.out hc1 hc2)
          have hd1 : decide ((j : Int) > 0) = true := by simp; omega
          have hd2 : decide (ysa > E) = true := by simp; omega
          clear HY HX
          obtain ⟨wf, hwf⟩ : ∃ wf, wi.alloc (.cells #[.int .i64 yst, .int .i64 ysa, .slice ya yL.length yc] 61) = wf := ⟨_, rfl⟩
          have hzf : wf.heap.size = wi.heap.size + 1 := by rw [← hwf]; exact World.size_alloc _ _
          have xa : Below wf.heap.size wf ((wf.alloc (.cells #[.int .i64 E, .int .i64 ysa] 2)).alloc (.cells #[.slice (some ⟨wf.heap.size, 0, none⟩) 2 2] 43)) := ((Below.refl _ _).alloc (Nat.le_refl _) _).alloc (by simp) _
          have hpair := (own1_pair (w := wf) (B := wf.heap.size) E ysa (Nat.le_refl _)).kept ((Below.refl _ _).alloc (Nat.le_refl _) (.cells #[.slice (some ⟨wf.heap.size, 0, none⟩) 2 2] 43))
          rw [← hwf] at xa hpair
          have hz1' : (wi.alloc (.cells #[.int .i64 yst, .int .i64 ysa, .slice ya yL.length yc] 61)).heap.size = wi.heap.size + 1 := World.size_alloc _ _
          rw [hz1'] at xa hpair
          have HP := Lib.hid hpair
          have XA : Hid (Below wi.heap.size wi _) := Lib.hid (XF.out.trans (xa.mono (by omega)))
          have hz3 : (((wi.alloc (.cells #[.int .i64 yst, .int .i64 ysa, .slice ya yL.length yc] 61)).alloc (.cells #[.int .i64 E, .int .i64 ysa] 2)).alloc (.cells #[.slice (some ⟨wi.heap.size + 1, 0, none⟩) 2 2] 43)).heap.size = wi.heap.size + 3 := by simp
          have HFr : Hid (∀ w6, (((wi.alloc (.cells #[.int .i64 yst, .int .i64 ysa, .slice ya yL.length yc] 61)).alloc (.cells #[.int .i64 E, .int .i64 ysa] 2)).alloc (.cells #[.slice (some ⟨wi.heap.size + 1, 0, none⟩) 2 2] 43)).grownBy w6 u6.ownBlock → w6.cell? ⟨wi.heap.size, 0, none⟩ = some (.int .i64 yst) ∧ w6.cell? ⟨wi.heap.size, 1, none⟩ = some (.int .i64 ysa) ∧ w6.cell? ⟨wi.heap.size, 2, none⟩ = some (.slice ya yL.length yc)) := Lib.hid fun w6 g6 => by
            obtain ⟨k0, k1, k2, -, -, -⟩ := blk3 (w := w6) (g := wi.heap.size) ((g6.block wi.heap.size (by omega) fun e => by have := (OwnC.lt P.out _ e.symm).2; omega).trans (heap3 wi _ _ _).1)
            exact ⟨k0, k1, k2⟩
          clear hpair xa hwf hzf hz1'
          go_wp2_with (at_builtin; go_must (refine wpList_pushC rfl _ _ 37 43 rfl (.slice none 0 0) 24 Try.underlying37 Try.infoII rfl (by decide) w2.heap.size (wi.heap.size + 1) _ _ _ rfl (OwnC.wide (OwnC.kept P.out XA.out) fun k hk => ⟨hk.1, by have := hk.2; omega⟩) (by omega) (by omega) _ _ _ (.is [E, ysa]) rfl (cell_new3 _ _ _ _ _) rfl HP.out (by omega) ?_); intro v6 w6 o6 g6 l6; clear m0 m1 m2; obtain ⟨k0, k1, k2⟩ := HFr.out w6 g6; clear HFr)
          refine (HF.out _).mono ?_
          rintro e w7 ⟨rfl, b7⟩
          have OQ : Hid (OwnII w6 (Iv w2.heap.size w6.heap.size) v6 (gapL (ofF Fs s) j ++ [[E, ysa]])) := Lib.hid (by
            unfold OwnII
            rw [List.map_append, List.length_append]
            exact o6)
          have z6 := g6.size
          have B6 : Hid (Below w2.heap.size w2 w6) := Lib.hid ((CH.out.trans (XA.out.mono hzi)).grown g6 (by omega) fun k hk => (OwnC.lt P.out k hk).1.1)
          clear o6 g6 l6
          go_wp2_with fail
          refine ⟨⟨j + 1, by omega, by go_num, by rw [HE.out, maxI_eq], ?_, B6.out.trans (b7.mono B6.out.size)⟩, by simp [intOf]; omega⟩
          rw [HL.out]
          exact (OQ.out.kept b7).wide fun k hk => ⟨hk.1, by have := hk.2; have := b7.size; omega⟩
        · have HL := Lib.hid (HX.out hc)
          clear HY HX
          by_cases hj0 : j = 0
          · subst hj0
            go_wp2_with fail
            refine (HF.out _).mono ?_
            rintro e w7 ⟨rfl, b7⟩
            go_wp2_with fail
            have b8 := XF.out.trans (b7.mono XF.out.size)
            refine ⟨⟨1, by omega, by go_num, by rw [HE.out, maxI_eq], ?_, CH.out.trans (b8.mono hzi)⟩, by simp [intOf]; omega⟩
            rw [HL.out]
            exact (P.out.kept b8).wide fun k hk => ⟨hk.1, by have := hk.2; have := b8.size; omega⟩
          · have hd1 : decide ((j : Int) > 0) = true := by simp; omega
            have hd2 : decide (ysa > E) = false := by simp; omega
            go_wp2_with fail
            refine (HF.out _).mono ?_
            rintro e w7 ⟨rfl, b7⟩
            go_wp2_with fail
            have b8 := XF.out.trans (b7.mono XF.out.size)
            refine ⟨⟨j + 1, by omega, by go_num, by rw [HE.out, maxI_eq], ?_, CH.out.trans (b8.mono hzi)⟩, by simp [intOf]; omega⟩
            rw [HL.out]
            exact (P.out.kept b8).wide fun k hk => ⟨hk.1, by have := hk.2; have := b8.size; omega⟩
      · obtain rfl : j = Es.length := by omega
        go_wp2_with fail
        go_ret2
        have := P.out
        rw [HLE.out] at this
        exact ⟨HG.out _ _ (this.wide fun k hk => ⟨by have := hk.1; omega, hk.2⟩), BW.out.trans (CH.out.mono (by omega))⟩
end Go.Proofs.Ytpijiidbjcbdhaa
