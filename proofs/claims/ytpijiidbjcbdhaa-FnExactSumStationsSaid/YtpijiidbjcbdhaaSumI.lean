/- Walks: impl.SumStations. -/
import Derived.Test.YtpijiidbjcbdhaaSumS
namespace Go.Proofs.Ytpijiidbjcbdhaa
open Go Go.RowKit

theorem OwnB.cells {w : World} {B g n cap : Nat} {L : List Bool} (h : OwnB w B (.slice (some ⟨g, 0, none⟩) n cap) L) (hn : L.length = n) :
    (∀ j, j < n → w.cell? ⟨g, j, none⟩ = some (.bool (bAt L j))) ∧ ∀ j, w.frozen? ⟨g, j, none⟩ = false := by
  obtain ⟨g', cap', e, -, -, -, hc, hf⟩ := h.form.resolve_left fun h => by cases h.1
  obtain rfl : g = g' := by injection e with e1 e2 e3; injection e1 with e4; injection e4
  exact ⟨fun j hj => hc j (by omega), hf⟩
theorem OwnB.slice {w : World} {B : Nat} {v : Value} {L : List Bool} (h : OwnB w B v L) {n : Nat} (hn : L.length = n) (hl : 0 < n) : ∃ g c, v = .slice (some ⟨g, 0, none⟩) n c ∧ B ≤ g ∧ g < w.heap.size := by
  rcases h.form with ⟨-, hz⟩ | ⟨g, c, hv, h1, h2, -⟩
  · rw [hz] at hn; simp at hn; omega
  · exact ⟨g, c, by rw [hv, hn], h1, h2⟩

set_option maxRecDepth 100000 in
set_option maxHeartbeats 3200000 in
theorem implSum_any (w : World) (v : Value) (Fs : List FM) (t0 n : Int) (h : RdFr w v Fs) (hs : Fsmall Fs) :
    Calls Try.prog 30 #[v, .int .i64 t0, .int .i64 n] w fun e w' => SumV Fs t0 n w.heap.size e w' ∧ Below w.heap.size w w' := by
  have hadd := run_fadd (P := Try.prog)
  have hst := run_store_float (P := Try.prog)
  have HK := Lib.hid (areFrames_any w v Fs h hs)
  have HP := Lib.hid (fun wq => isSpan_any wq t0 n)
  have HR := Lib.hid h
  obtain ⟨a, c, rfl, -⟩ := h.opened
  clear h
  have HN : Hid (sumOk Fs t0 n = false → ∀ w', SumV Fs t0 n w.heap.size (.returned (.tuple #[.slice none 0 0, .slice none 0 0, .bool false])) w') := Lib.hid fun hf w' => by
    refine ⟨_, _, by rw [hf], ?_, ?_⟩
    · unfold sumN'; rw [hf]; exact OwnF.nil _ _
    · unfold sumC'; rw [hf]; exact OwnI.nil _ _
  cases hp : areF Fs with
  | false =>
    have HN2 := Lib.hid (HN.out (by unfold sumOk; rw [hp]; rfl))
    rw [hp] at HK
    clear hp HR hs HN HP
    go_enter Try.func30, Try.ntmps30
    go_wp2_with fail
    refine HK.out.mono ?_
    rintro e w1 ⟨rfl, b1⟩
    go_wp2
    go_ret3
    exact ⟨HN2.out _, b1⟩
  | true =>
    cases hq : inB t0 0 100000 && inB n 1 128 with
    | false =>
      have HN2 := Lib.hid (HN.out (by unfold sumOk; rw [hp, hq]; rfl))
      rw [hp] at HK
      rw [hq] at HP
      clear hp hq HR hs HN
      go_enter Try.func30, Try.ntmps30
      go_wp2_with fail
      refine HK.out.mono ?_
      rintro e w1 ⟨rfl, b1⟩
      go_wp2_with fail
      refine (HP.out _).mono ?_
      rintro e w2 ⟨rfl, rfl⟩
      go_wp2
      go_ret3
      exact ⟨HN2.out _, b1⟩
    | true =>
      have hok : sumOk Fs t0 n = true := by unfold sumOk; rw [hp, hq]; rfl
      have hq2 := hq
      simp only [Bool.and_eq_true] at hq2
      have t1 := inB_out' hq2.1
      have t2 := inB_out' hq2.2
      obtain ⟨m, rfl⟩ : ∃ m : Nat, n = m := ⟨n.toNat, by omega⟩
      have HSA := Lib.hid (areF_sa hp hs)
      have hlen := areF_len hp
      have HG : Hid (∀ (v1 v2 : Value) (w' : World), OwnF w' w.heap.size v1 (sumN Fs t0 (stTo Fs Fs.length) m (stTo Fs Fs.length).length) → OwnI w' w.heap.size v2 (sumC Fs t0 (stTo Fs Fs.length) m (stTo Fs Fs.length).length) → SumV Fs t0 m w.heap.size (.returned (.tuple #[v1, v2, .bool true])) w') := Lib.hid fun v1 v2 w' h1 h2 => by
        refine ⟨_, _, by rw [hok], ?_, ?_⟩
        · unfold sumN'; rw [hok]; exact h1
        · unfold sumC'; rw [hok]; exact h2
      have hsl : (stTo Fs Fs.length).length ≤ 12 := Nat.le_trans (stTo_len _ _) hlen
      generalize hSS : stTo Fs Fs.length = Ss at hsl HG
      have HSS := Lib.hid hSS
      rw [hp] at HK
      rw [hq] at HP
      obtain ⟨hm1, hm2⟩ := t2
      obtain ⟨h0, h1⟩ := t1
      clear hp hq hq2 hs HN hok hSS
      go_enter Try.func30, Try.ntmps30
      go_wp2_with fail
      refine HK.out.mono ?_
      rintro e wA ⟨rfl, bA⟩
      go_wp2_with fail
      refine (HP.out _).mono ?_
      rintro e wA2 ⟨rfl, hw1⟩
      obtain rfl : wA = wA2 := hw1.symm
      clear HK HP hw1
      go_wp2_with fail
      refine region_grow_all (by kernel_rfl) (by kernel_rfl) (fun _ _ _ _ _ => False) ?_
      refine wpRelK_still rfl rfl (fun wq hq K hK => ?_)
      go_wp2
      refine wpRelK_op rfl rfl (fun wa ha K hK => ?_)
      have ga : wA.heap.size ≤ wa.heap.size := ha.1.size
      refine op_make _ _ 24 rfl 58 (.float .f32 0) 4 Try.underlying24 Try.infoF rfl _ _ _ _ m rfl rfl rfl rfl (by omega) (by decide) ?_
      intro w1 o1 x1
      refine hK _ _ x1 ?_
      clear hK K
      refine wpRelK_still rfl rfl (fun wq2 hq2 K hK => ?_)
      go_wp2
      refine wpRelK_op rfl rfl (fun wb hb K hK => ?_)
      have gb : wA.heap.size ≤ wb.heap.size := hb.1.size
      refine op_make _ _ 43 rfl 2 (.int .i64 0) 8 Try.underlying43 Try.infoI rfl _ _ _ _ m rfl rfl rfl rfl (by omega) (by decide) ?_
      intro w2 o2 x2
      refine hK _ _ x2 ?_
      clear hK K
      refine wpRelK_still rfl rfl (fun wq4 hq4 K hK => ?_)
      go_wp2
      refine wpRelK_still rfl rfl (fun wq5 hq5 K hK => ?_)
      go_wp2
      refine wpRelK_nil ?_
      intro w3 hW hall
      have E1 : Ext w1 w3 := hall 1 (by decide)
      have E2 : Ext w2 w3 := hall 3 (by decide)
      have xW : Ext w w3 := Ext.trans (Ext.trans bA (Ext.drew wA)) hW
      have zA := bA.size
      have O1 := Lib.hid ((OwnF.made o1).kept E1 |>.mono (Nat.le_trans zA ga))
      have O2 := Lib.hid ((OwnI.made o2).kept E2 |>.base (Nat.le_trans zA gb))
      have XW := Lib.hid xW
      have hne := (apart_FI O1.out O2.out) wa.heap.size rfl
      have hne : wa.heap.size ≠ wb.heap.size := fun e => hne (by rw [e]; rfl)
      have hl1 := (O1.out.lt rfl).2
      have hl2 := (OwnI.lt O2.out rfl).2
      clear hall hW E1 E2 o1 o2 x1 x2 hq hq2 hq4 hq5 ha hb xW
      have HT := Lib.hid (stations_any w3 _ Fs (HR.out.mono XW.out) hlen)
      rw [HSS.out] at HT
      obtain ⟨g1, hg1⟩ : ∃ g1, wa.heap.size = g1 := ⟨_, rfl⟩
      obtain ⟨g2, hg2⟩ : ∃ g2, wb.heap.size = g2 := ⟨_, rfl⟩
      rw [hg1] at O1 hne hl1 ga ⊢
      rw [hg2] at O2 hne hl2 gb ⊢
      clear hg1 hg2
      go_wp2_with fail
      refine HT.out.mono ?_
      rintro e w4 ⟨v3, rfl, o3, b3⟩
      have O3 := Lib.hid o3
      have hf3 := o3.form
      obtain ⟨a3, c3, rfl⟩ : ∃ a3 c3, v3 = .slice a3 Ss.length c3 := by
        rcases hf3 with ⟨rfl, hz⟩ | ⟨g, cap, rfl, -⟩
        · rw [hz]; exact ⟨_, _, rfl⟩
        · exact ⟨_, _, rfl⟩
      replace O1 := Lib.hid (O1.out.kept b3)
      replace O2 := Lib.hid (O2.out.kept b3)
      replace XW := Lib.hid (Ext.trans XW.out b3)
      clear o3 hf3 b3 HT
      have P1 : Hid (OwnF w4 w.heap.size (.slice (some ⟨g1, 0, none⟩) m m) (sumN Fs t0 Ss m 0)) := Lib.hid (by rw [sumN_zero]; exact O1.out)
      have P2 : Hid (OwnI w4 w.heap.size (.slice (some ⟨g2, 0, none⟩) m m) (sumC Fs t0 Ss m 0)) := Lib.hid (by rw [sumC_zero]; exact O2.out)
      clear O1 O2
      go_wp2_with fail
      go_loopw [33] (fun i wr => ∃ j : Nat, j ≤ Ss.length ∧ i = .int .i64 j ∧ OwnF wr w.heap.size (.slice (some ⟨g1, 0, none⟩) m m) (sumN Fs t0 Ss m j) ∧ OwnI wr w.heap.size (.slice (some ⟨g2, 0, none⟩) m m) (sumC Fs t0 Ss m j) ∧ OwnI wr w3.heap.size (.slice a3 Ss.length c3) Ss ∧ Below w.heap.size w wr) (fun i _ => Ss.length - (intOf i).toNat)
      case atStart => exact ⟨0, Nat.zero_le _, rfl, P1.out, P2.out, O3.out, XW.out⟩
      case round =>
        clear P1 P2 O3 XW
        obtain ⟨wi, rfl⟩ : ∃ wi : World, wi = wr := ⟨_, rfl⟩
        obtain ⟨j, hj, rfl, p1, p2, o3, bw⟩ := hrel
        have P1 := Lib.hid p1
        have P2 := Lib.hid p2
        have O3 := Lib.hid o3
        have BW := Lib.hid bw
        have hzi := bw.size
        have hzi2 : j < Ss.length → w3.heap.size ≤ wi.heap.size := fun hlt => by
          rcases o3.form with ⟨-, hz⟩ | ⟨g, cap, -, h1, h2, -⟩
          · rw [hz] at hlt; cases hlt
          · omega
        clear p1 p2 bw
        by_cases hlt : j < Ss.length
        · obtain ⟨g, cap, hv, -, -, -, hcell, -⟩ := o3.form.resolve_left fun h => by rw [h.2] at hlt; cases hlt
          obtain ⟨rfl, rfl⟩ : a3 = some ⟨g, 0, none⟩ ∧ c3 = cap := by cases hv; exact ⟨rfl, rfl⟩
          have hc0 := hcell j hlt
          have hz2 := hzi2 hlt
          have HO := Lib.hid (fill_any wi _ Fs (inL Ss j) t0 m (HR.out.mono BW.out) hlen HSA.out h0 h1 (by omega))
          have HY : Hid (∀ k : Nat, (atF (ofF Fs (inL Ss j)) (t0 + k)).2 = true → sumJ Fs t0 Ss k (j + 1) = (fop .add .f32 (sumJ Fs t0 Ss k j).1 (atF (ofF Fs (inL Ss j)) (t0 + k)).1, (sumJ Fs t0 Ss k j).2 + 1)) := Lib.hid fun k hk => sumJ_yes hk
          have HX : Hid (∀ k : Nat, (atF (ofF Fs (inL Ss j)) (t0 + k)).2 = false → sumJ Fs t0 Ss k (j + 1) = sumJ Fs t0 Ss k j) := Lib.hid fun k hk => sumJ_no hk
          clear hv hcell hzi2 o3
          generalize inL Ss j = s at *
          go_wp2_with fail
          refine HO.out.mono ?_
          clear HO
          rintro e w5 ⟨v5, v6, rfl, o5, o6, b5⟩
          have O5 := Lib.hid o5
          have O6 := Lib.hid o6
          obtain ⟨g5, c5, hv5, hg5, -⟩ := o5.at_block (filN_length _ _ _ _) (by omega)
          obtain ⟨g6, c6, hv6, hg6, -⟩ := o6.slice (filB_length _ _ _ _) (by omega)
          subst hv5 hv6
          replace P1 := Lib.hid (P1.out.kept b5)
          replace P2 := Lib.hid (P2.out.kept b5)
          replace O3 := Lib.hid (O3.out.kept b5)
          have hz5 := b5.size
          replace BW := Lib.hid (BW.out.trans (b5.mono hzi))
          clear o5 o6 b5 hc0
          go_wp2_with fail
          go_loopw [47] (fun i wr => ∃ k : Nat, k ≤ m ∧ i = .int .i64 k ∧ OwnF wr w.heap.size (.slice (some ⟨g1, 0, none⟩) m m) (mixTo (sumN Fs t0 Ss m (j + 1)) (sumN Fs t0 Ss m j) k) ∧ OwnI wr w.heap.size (.slice (some ⟨g2, 0, none⟩) m m) (mixI (sumC Fs t0 Ss m (j + 1)) (sumC Fs t0 Ss m j) k) ∧
            OwnI wr w3.heap.size (.slice (some ⟨g, 0, none⟩) Ss.length c3) Ss ∧ OwnF wr wi.heap.size (.slice (some ⟨g5, 0, none⟩) m c5) (filN Fs s t0 m) ∧ OwnB wr wi.heap.size (.slice (some ⟨g6, 0, none⟩) m c6) (filB Fs s t0 m) ∧ Below w.heap.size w wr) (fun i _ => m - (intOf i).toNat)
          case atStart => exact ⟨0, Nat.zero_le _, rfl, by rw [mixTo_zero]; exact P1.out, by rw [mixI_zero]; exact P2.out, O3.out, O5.out, O6.out, BW.out⟩
          case round =>
            clear P1 P2 O3 O5 O6 BW
            obtain ⟨wk, rfl⟩ : ∃ wk : World, wk = wr := ⟨_, rfl⟩
            obtain ⟨k, hk, rfl, p1, p2, o3, o5, o6, bw⟩ := hrel
            have P1 := Lib.hid p1
            have P2 := Lib.hid p2
            have O3 := Lib.hid o3
            have O5 := Lib.hid o5
            have O6 := Lib.hid o6
            have BW := Lib.hid bw
            have hzk := bw.size
            by_cases hlt2 : k < m
            · have HYk := Lib.hid (HY.out k)
              have HXk := Lib.hid (HX.out k)
              obtain ⟨hc1, hf1⟩ := p1.cells (by rw [mixTo_length, sumN_length])
              obtain ⟨hc2, hf2⟩ := p2.cells (by rw [mixI_length, sumC_length])
              obtain ⟨hc5, -⟩ := o5.cells (filN_length _ _ _ _)
              obtain ⟨hc6, -⟩ := o6.cells (filB_length _ _ _ _)
              obtain ⟨r0, hr0, hr1⟩ := hc1 k hlt2
              obtain ⟨r5, hr5, hr⟩ := hc5 k hlt2
              have hb6 := hc6 k hlt2
              have hi0 := hc2 k hlt2
              rw [filN_at _ _ _ _ _ hlt2] at hr
              rw [filB_at _ _ _ _ _ hlt2] at hb6
              rw [mixTo_getD _ _ _ _ (by rw [sumN_length]; exact hlt2), if_neg (Nat.lt_irrefl k), sumN_at _ _ _ _ _ _ hlt2] at hr1
              rw [mixI_at _ _ _ _ (by rw [sumC_length]; exact hlt2), if_neg (Nat.lt_irrefl k), sumC_at _ _ _ _ _ _ hlt2] at hi0
              have hff1 := hf1 k
              have hff2 := hf2 k
              obtain ⟨hle0, hle1⟩ := sumJ_le Fs t0 Ss k j
              have HC1 := Lib.hid (sumN_at Fs t0 Ss m (j + 1) k hlt2)
              have HC2 := Lib.hid (sumC_at Fs t0 Ss m (j + 1) k hlt2)
              have HD1 := Lib.hid (sumN_at Fs t0 Ss m j k hlt2)
              have HD2 := Lib.hid (sumC_at Fs t0 Ss m j k hlt2)
              clear p1 p2 o3 o5 o6 bw hc1 hc2 hf1 hf2 hc5 hc6
              generalize hq : atF (ofF Fs s) (t0 + k) = q at *
              obtain ⟨qx, qb⟩ := q
              obtain ⟨y, hy⟩ : ∃ y, sumJ Fs t0 Ss k j = y := ⟨_, rfl⟩
              rw [hy] at *
              obtain ⟨yx, yn⟩ := y
              clear hq hy
              simp only at *
              cases qb with
              | false =>
                have hxx := Lib.hid (HXk.out rfl)
                go_wp2_with fail
                refine ⟨⟨k + 1, by omega, by go_num, ?_, ?_, O3.out, O5.out, O6.out, BW.out⟩, by simp [intOf]; omega⟩
                · rw [← mixTo_skip _ _ _ (by rw [HC1.out, HD1.out, hxx.out])]
                  exact P1.out
                · rw [← mixI_skip _ _ _ (by rw [HC2.out, HD2.out, hxx.out])]
                  exact P2.out
              | true =>
                have hxx := HYk.out rfl
                have HF := FV.op (op := .add) hr1 hr wk
                have bd : Below wk.heap.size wk (wk.drewN (fcnt .add .f32 r0 r5)) := Below.drewN (Below.refl _ _) _
                obtain ⟨q1, q2, q3⟩ := add_step hne (P1.out.kept bd) (P2.out.kept bd) (sumN_length _ _ _ _ _) (sumC_length _ _ _ _ _) HF (by rw [HC1.out, hxx]) (by rw [HC2.out, hxx])
                have HQ1 := Lib.hid q1
                have HQ2 := Lib.hid q2
                have HQ3 := Lib.hid q3
                clear q1 q2 q3 hxx HF hr1 hr HXk HYk P1 P2
                go_wp2_with fail
                refine ⟨⟨k + 1, by omega, by go_num, HQ1.out, HQ2.out, ?_, ?_, ?_, ?_⟩, by simp [intOf]; omega⟩
                · exact (O3.out.kept bd).chg HQ3.out fun q hq e => by have := (O3.out.lt hq).1; omega
                · exact (O5.out.kept bd).chg HQ3.out fun q hq e => by have := (O5.out.lt hq).1; omega
                · exact (O6.out.kept bd).chg HQ3.out fun q hq e => by have := (O6.out.lt hq).1; omega
                · exact Below.chg (BW.out.trans (bd.mono hzk)) HQ3.out (fun q hq => by omega) hzk
            · obtain rfl : k = m := by omega
              clear p1 p2 o3 o5 o6 bw
              go_wp2_with fail
              refine ⟨⟨j + 1, by omega, by go_num, ?_, ?_, O3.out, BW.out⟩, by simp [intOf]; omega⟩
              · have := P1.out
                rwa [mixTo_all _ _ _ (by rw [sumN_length]; exact Nat.le_refl _) (by rw [sumN_length, sumN_length])] at this
              · have := P2.out
                rwa [mixI_all _ _ _ (by rw [sumC_length]; exact Nat.le_refl _) (by rw [sumC_length, sumC_length])] at this
        · obtain rfl : j = Ss.length := by omega
          clear o3 hzi2
          go_wp2_with fail
          go_ret3
          exact ⟨HG.out _ _ _ P1.out P2.out, BW.out⟩
end Go.Proofs.Ytpijiidbjcbdhaa
