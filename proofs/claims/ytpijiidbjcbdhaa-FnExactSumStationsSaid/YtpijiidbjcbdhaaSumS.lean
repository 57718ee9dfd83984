/- Walks: spec.SumStations. -/
import Derived.Test.YtpijiidbjcbdhaaSumP
namespace Go.Proofs.Ytpijiidbjcbdhaa
open Go Go.RowKit

def sumOk (Fs : List FM) (t0 n : Int) : Bool := areF Fs && (inB t0 0 100000 && inB n 1 128)
def sumN' (Fs : List FM) (t0 n : Int) : List Nat := if sumOk Fs t0 n then sumN Fs t0 (stTo Fs Fs.length) n.toNat (stTo Fs Fs.length).length else []
def sumC' (Fs : List FM) (t0 n : Int) : List Int := if sumOk Fs t0 n then sumC Fs t0 (stTo Fs Fs.length) n.toNat (stTo Fs Fs.length).length else []
theorem sumN'_length (Fs : List FM) (t0 n : Int) : (sumN' Fs t0 n).length ≤ 128 := by
  unfold sumN'
  split
  · rename_i h
    rw [sumN_length]
    unfold sumOk inB at h
    simp only [Bool.and_eq_true, decide_eq_true_eq] at h
    omega
  · simp
theorem sumC'_length (Fs : List FM) (t0 n : Int) : (sumC' Fs t0 n).length = (sumN' Fs t0 n).length := by
  unfold sumC' sumN'
  split
  · rw [sumN_length, sumC_length]
  · rfl
def SumV (Fs : List FM) (t0 n : Int) (B : Nat) (e : Ending) (w' : World) : Prop :=
  ∃ v1 v2, e = .returned (.tuple #[v1, v2, .bool (sumOk Fs t0 n)]) ∧ OwnF w' B v1 (sumN' Fs t0 n) ∧ OwnI w' B v2 (sumC' Fs t0 n)
theorem OwnI.nil (w : World) (B : Nat) : OwnI w B (.slice none 0 0) [] := World.ownsRow_nil w B _ 1
theorem inB_out' {n lo hi : Int} (h : inB n lo hi = true) : lo ≤ n ∧ n ≤ hi := by
  unfold inB at h
  simpa using h

set_option maxRecDepth 100000 in
set_option maxHeartbeats 3200000 in
theorem specSum_any (w : World) (v : Value) (Fs : List FM) (t0 n : Int) (h : RdFr w v Fs) (hs : Fsmall Fs) :
    Calls Try.prog 29 #[v, .int .i64 t0, .int .i64 n] w fun e w' => SumV Fs t0 n w.heap.size e w' ∧ Below w.heap.size w w' := by
  have hadd := run_fadd (P := Try.prog)
  have hst := run_store_float (P := Try.prog)
  have HK := Lib.hid (l07Are_any w v Fs h hs)
  have HP := Lib.hid (fun wq => l00In_any wq t0 0 100000)
  have HQ := Lib.hid (fun wq => l00In_any wq n 1 128)
  have HR := Lib.hid h
  obtain ⟨a, c, rfl, -⟩ := h.opened
  clear h
  have HN : Hid (sumOk Fs t0 n = false → ∀ w', SumV Fs t0 n w.heap.size (.returned (.tuple #[.slice none 0 0, .slice none 0 0, .bool false])) w') := Lib.hid fun hf w' => by
    refine ⟨_, _, by rw [hf], ?_, ?_⟩
    · unfold sumN'; rw [hf]; exact OwnF.nil _ _
    · unfold sumC'; rw [hf]; exact OwnI.nil _ _
  cases hp : areF Fs with
  | false =>
    have HN2 := Lib.hid (HN.out (by unfold sumOk; rw [hp]; rfl))
    rw [hp] at HK
    clear hp HR hs HN HP HQ
    go_enter Try.func29, Try.ntmps29
    go_wp2_with fail
    refine HK.out.mono ?_
    rintro e w1 ⟨rfl, rfl⟩
    go_wp2
    go_ret3
    exact ⟨HN2.out _, Below.refl _ _⟩
  | true =>
    cases hq : inB t0 0 100000 with
    | false =>
      have HN2 := Lib.hid (HN.out (by unfold sumOk; rw [hp, hq]; rfl))
      rw [hp] at HK
      rw [hq] at HP
      clear hp hq HR hs HN HQ
      go_enter Try.func29, Try.ntmps29
      go_wp2_with fail
      refine HK.out.mono ?_
      rintro e w1 ⟨rfl, rfl⟩
      go_wp2_with fail
      refine (HP.out _).mono ?_
      rintro e w2 ⟨rfl, rfl⟩
      go_wp2
      go_ret3
      exact ⟨HN2.out _, Below.refl _ _⟩
    | true =>
      cases hr : inB n 1 128 with
      | false =>
        have HN2 := Lib.hid (HN.out (by unfold sumOk; rw [hp, hq, hr]; rfl))
        rw [hp] at HK
        rw [hq] at HP
        rw [hr] at HQ
        clear hp hq hr HR hs HN
        go_enter Try.func29, Try.ntmps29
        go_wp2_with fail
        refine HK.out.mono ?_
        rintro e w1 ⟨rfl, rfl⟩
        go_wp2_with fail
        refine (HP.out _).mono ?_
        rintro e w2 ⟨rfl, rfl⟩
        go_wp2_with fail
        refine (HQ.out _).mono ?_
        rintro e w3 ⟨rfl, rfl⟩
        go_wp2
        go_ret3
        exact ⟨HN2.out _, Below.refl _ _⟩
      | true =>
        have hok : sumOk Fs t0 n = true := by unfold sumOk; rw [hp, hq, hr]; rfl
        have t1 := inB_out' hq
        have t2 := inB_out' hr
        obtain ⟨m, rfl⟩ : ∃ m : Nat, n = m := ⟨n.toNat, by omega⟩
        have HSA := Lib.hid (areF_sa hp hs)
        have hlen := areF_len hp
        have hS2 := Lib.hid hs.2
        have HG : Hid (∀ (v1 v2 : Value) (w' : World), OwnF w' w.heap.size v1 (sumN Fs t0 (stTo Fs Fs.length) m (stTo Fs Fs.length).length) → OwnI w' w.heap.size v2 (sumC Fs t0 (stTo Fs Fs.length) m (stTo Fs Fs.length).length) → SumV Fs t0 m w.heap.size (.returned (.tuple #[v1, v2, .bool true])) w') := Lib.hid fun v1 v2 w' h1 h2 => by
          refine ⟨_, _, by rw [hok], ?_, ?_⟩
          · unfold sumN'; rw [hok]; exact h1
          · unfold sumC'; rw [hok]; exact h2
        have hsl : (stTo Fs Fs.length).length ≤ 12 := Nat.le_trans (stTo_len _ _) hlen
        generalize hSS : stTo Fs Fs.length = Ss at hsl HG
        have HSS := Lib.hid hSS
        rw [hp] at HK
        rw [hq] at HP
        rw [hr] at HQ
        obtain ⟨hm1, hm2⟩ := t2
        obtain ⟨h0, h1⟩ := t1
        clear hp hq hr hs HN hok hSS
        go_enter Try.func29, Try.ntmps29
        go_wp2_with fail
        refine HK.out.mono ?_
        rintro e w1 ⟨rfl, hw1⟩
        obtain rfl : w = w1 := hw1.symm
        go_wp2_with fail
        refine (HP.out _).mono ?_
        rintro e w2 ⟨rfl, hw1⟩
        obtain rfl : w = w2 := hw1.symm
        go_wp2_with fail
        refine (HQ.out _).mono ?_
        rintro e w3 ⟨rfl, hw1⟩
        obtain rfl : w = w3 := hw1.symm
        clear HK HP HQ
        go_wp2_with (first | (refine wpList_make1 rfl _ _ 24 rfl 58 (.float .f32 0) 4 Try.underlying24 Try.infoF rfl _ _ _ _ m rfl rfl rfl rfl (by omega) (by decide) ?_; intro w1 o1 x1) | (refine wpList_make1 rfl _ _ 43 rfl 2 (.int .i64 0) 8 Try.underlying43 Try.infoI rfl _ _ _ _ m rfl rfl rfl rfl (by omega) (by decide) ?_; intro w2 o2 x2))
        have xW : Ext w w2 := Ext.trans x1 x2
        have hgg : w.heap.size < w1.heap.size := ((OwnF.made (B := w.heap.size) o1).lt rfl).2
        have O1 := Lib.hid (((OwnF.made (B := w.heap.size) o1).kept x2))
        have O2 := Lib.hid ((OwnI.made (B := w1.heap.size) o2).base (C := w.heap.size) x1.size)
        have z2 : w1.heap.size < w2.heap.size := ((OwnI.made (B := w1.heap.size) o2).lt rfl).2
        have XW := Lib.hid xW
        have HT := Lib.hid (l07Stations_any w2 _ Fs (HR.out.mono xW) (by omega))
        rw [HSS.out] at HT
        clear xW o1 o2 x1 x2
        go_wp2_with fail
        refine HT.out.mono ?_
        rintro e w3 ⟨v3, rfl, o3, b3⟩
        have O3 := Lib.hid o3
        have hf3 := o3.form
        obtain ⟨a3, c3, rfl⟩ : ∃ a3 c3, v3 = .slice a3 Ss.length c3 := by
          rcases hf3 with ⟨rfl, hz⟩ | ⟨g, cap, rfl, -⟩
          · rw [hz]; exact ⟨_, _, rfl⟩
          · exact ⟨_, _, rfl⟩
        replace O1 := Lib.hid (O1.out.kept b3)
        replace O2 := Lib.hid (O2.out.kept b3)
        replace XW := Lib.hid (Ext.trans XW.out b3)
        clear o3 hf3 b3 HT
        have hz1 : w.heap.size ≤ w1.heap.size := by omega
        have hne : w.heap.size ≠ w1.heap.size := by omega
        have hl1 : w.heap.size < w2.heap.size := by omega
        have hl2 : w1.heap.size < w2.heap.size := by omega
        have P1 : Hid (OwnF w3 w.heap.size (.slice (some ⟨w.heap.size, 0, none⟩) m m) (sumN Fs t0 Ss m 0)) := Lib.hid (by rw [sumN_zero]; exact O1.out)
        have P2 : Hid (OwnI w3 w.heap.size (.slice (some ⟨w1.heap.size, 0, none⟩) m m) (sumC Fs t0 Ss m 0)) := Lib.hid (by rw [sumC_zero]; exact O2.out)
        clear O1 O2 hgg z2
        go_wp2_with fail
        go_loopw [38] (fun i wr => ∃ j : Nat, j ≤ Ss.length ∧ i = .int .i64 j ∧ OwnF wr w.heap.size (.slice (some ⟨w.heap.size, 0, none⟩) m m) (sumN Fs t0 Ss m j) ∧ OwnI wr w.heap.size (.slice (some ⟨w1.heap.size, 0, none⟩) m m) (sumC Fs t0 Ss m j) ∧ OwnI wr w2.heap.size (.slice a3 Ss.length c3) Ss ∧ Below w.heap.size w wr) (fun i _ => Ss.length - (intOf i).toNat)
        case atStart => exact ⟨0, Nat.zero_le _, rfl, P1.out, P2.out, O3.out, XW.out⟩
        case round =>
          clear P1 P2 O3 XW
          obtain ⟨wi, rfl⟩ : ∃ wi : World, wi = wr := ⟨_, rfl⟩
          obtain ⟨j, hj, rfl, p1, p2, o3, bw⟩ := hrel
          have P1 := Lib.hid p1
          have P2 := Lib.hid p2
          have O3 := Lib.hid o3
          have BW := Lib.hid bw
          have hzi := bw.size
          have hzi2 : j < Ss.length → w2.heap.size ≤ wi.heap.size := fun hlt => by
            rcases o3.form with ⟨-, hz⟩ | ⟨g, cap, -, h1, h2, -⟩
            · rw [hz] at hlt; cases hlt
            · omega
          clear p1 p2 bw
          by_cases hlt : j < Ss.length
          · obtain ⟨g, cap, hv, hg1, hg2, hcap, hcell, -⟩ := o3.form.resolve_left fun h => by rw [h.2] at hlt; cases hlt
            obtain ⟨rfl, rfl⟩ : a3 = some ⟨g, 0, none⟩ ∧ c3 = cap := by cases hv; exact ⟨rfl, rfl⟩
            have hc0 := hcell j hlt
            have hz2 := hzi2 hlt
            have HO := Lib.hid (l07Of_any wi _ (inL Ss j) Fs (HR.out.mono BW.out) (by omega) hS2.out)
            have HSO := Lib.hid (ofF_sa (inL Ss j) HSA.out)
            have hlo := ofF_length Fs (inL Ss j)
            have HY : Hid (∀ k : Nat, (atF (ofF Fs (inL Ss j)) (t0 + k)).2 = true → sumJ Fs t0 Ss k (j + 1) = (fop .add .f32 (sumJ Fs t0 Ss k j).1 (atF (ofF Fs (inL Ss j)) (t0 + k)).1, (sumJ Fs t0 Ss k j).2 + 1)) := Lib.hid fun k hk => sumJ_yes hk
            have HX : Hid (∀ k : Nat, (atF (ofF Fs (inL Ss j)) (t0 + k)).2 = false → sumJ Fs t0 Ss k (j + 1) = sumJ Fs t0 Ss k j) := Lib.hid fun k hk => sumJ_no hk
            clear hv hcell hzi2 o3 hcap
            generalize inL Ss j = s at *
            go_wp2_with fail
            refine HO.out.mono ?_
            clear HO
            rintro e w5 ⟨v5, Es, rfl, o5, r5, hes, b5, e5⟩
            have O5 := Lib.hid o5
            have R5 := Lib.hid r5
            have E5 := Lib.hid e5
            have HES := Lib.hid hes
            replace P1 := Lib.hid (P1.out.kept b5)
            replace P2 := Lib.hid (P2.out.kept b5)
            replace O3 := Lib.hid (O3.out.kept b5)
            have hz5 := b5.size
            replace BW := Lib.hid (BW.out.trans (b5.mono hzi))
            obtain ⟨a5, c5, rfl⟩ := o5.slice
            clear o5 r5 e5 hes b5 hc0
            go_wp2_with fail
            go_loopw [49] (fun i wr => ∃ k : Nat, k ≤ m ∧ i = .int .i64 k ∧ OwnF wr w.heap.size (.slice (some ⟨w.heap.size, 0, none⟩) m m) (mixTo (sumN Fs t0 Ss m (j + 1)) (sumN Fs t0 Ss m j) k) ∧ OwnI wr w.heap.size (.slice (some ⟨w1.heap.size, 0, none⟩) m m) (mixI (sumC Fs t0 Ss m (j + 1)) (sumC Fs t0 Ss m j) k) ∧
              OwnI wr w2.heap.size (.slice (some ⟨g, 0, none⟩) Ss.length c3) Ss ∧ OwnR wr wi.heap.size (.slice a5 Es.length c5) Es ∧ RdEs wr Es ∧ Below w.heap.size w wr) (fun i _ => m - (intOf i).toNat)
            case atStart => exact ⟨0, Nat.zero_le _, rfl, by rw [mixTo_zero]; exact P1.out, by rw [mixI_zero]; exact P2.out, O3.out, O5.out, R5.out, BW.out⟩
            case round =>
              clear P1 P2 O3 O5 R5 BW
              obtain ⟨wk, rfl⟩ : ∃ wk : World, wk = wr := ⟨_, rfl⟩
              obtain ⟨k, hk, rfl, p1, p2, o3, o5, r5, bw⟩ := hrel
              have P1 := Lib.hid p1
              have P2 := Lib.hid p2
              have O3 := Lib.hid o3
              have O5 := Lib.hid o5
              have R5 := Lib.hid r5
              have BW := Lib.hid bw
              have hzk := bw.size
              by_cases hlt2 : k < m
              · have hrd := o5.rd r5
                rw [HES.out] at hrd
                have HA := Lib.hid (l07At_any wk _ (ofF Fs s) (t0 + k) hrd HSO.out (by omega) (by omega) (by omega))
                have HYk := Lib.hid (HY.out k)
                have HXk := Lib.hid (HX.out k)
                obtain ⟨hc1, hf1⟩ := p1.cells (by rw [mixTo_length, sumN_length])
                obtain ⟨hc2, hf2⟩ := p2.cells (by rw [mixI_length, sumC_length])
                obtain ⟨r0, hr0, hr1⟩ := hc1 k hlt2
                have hi0 := hc2 k hlt2
                rw [mixTo_getD _ _ _ _ (by rw [sumN_length]; exact hlt2), if_neg (Nat.lt_irrefl k), sumN_at _ _ _ _ _ _ hlt2] at hr1
                rw [mixI_at _ _ _ _ (by rw [sumC_length]; exact hlt2), if_neg (Nat.lt_irrefl k), sumC_at _ _ _ _ _ _ hlt2] at hi0
                have hff1 := hf1 k
                have hff2 := hf2 k
                obtain ⟨hle0, hle1⟩ := sumJ_le Fs t0 Ss k j
                have HC1 := Lib.hid (sumN_at Fs t0 Ss m (j + 1) k hlt2)
                have HC2 := Lib.hid (sumC_at Fs t0 Ss m (j + 1) k hlt2)
                have HD1 := Lib.hid (sumN_at Fs t0 Ss m j k hlt2)
                have HD2 := Lib.hid (sumC_at Fs t0 Ss m j k hlt2)
                clear p1 p2 o3 o5 r5 bw hrd hc1 hc2 hf1 hf2
                generalize hq : atF (ofF Fs s) (t0 + k) = q at *
                obtain ⟨qx, qb⟩ := q
                obtain ⟨y, hy⟩ : ∃ y, sumJ Fs t0 Ss k j = y := ⟨_, rfl⟩
                rw [hy] at *
                obtain ⟨yx, yn⟩ := y
                clear hq hy
                simp only at *
                go_wp2_with fail
                refine HA.out.mono ?_
                clear HA
                rintro e w6 ⟨r, rfl, hr, hw6⟩
                obtain rfl : wk = w6 := hw6.symm
                cases qb with
                | false =>
                  have hxx := HXk.out rfl
                  go_wp2_with fail
                  refine ⟨⟨k + 1, by omega, by go_num, ?_, ?_, O3.out, O5.out, R5.out, BW.out⟩, by simp [intOf]; omega⟩
                  · rw [← mixTo_skip _ _ _ (by rw [HC1.out, HD1.out, hxx])]
                    exact P1.out
                  · rw [← mixI_skip _ _ _ (by rw [HC2.out, HD2.out, hxx])]
                    exact P2.out
                | true =>
                  have hxx := HYk.out rfl
                  have HF := FV.op (op := .add) hr1 hr wk
                  have bd : Below wk.heap.size wk (wk.drewN (fcnt .add .f32 r0 r)) := Below.drewN (Below.refl _ _) _
                  obtain ⟨q1, q2, q3⟩ := add_step hne (P1.out.kept bd) (P2.out.kept bd) (sumN_length _ _ _ _ _) (sumC_length _ _ _ _ _) HF (by rw [HC1.out, hxx]) (by rw [HC2.out, hxx])
                  have HQ1 := Lib.hid q1
                  have HQ2 := Lib.hid q2
                  have HQ3 := Lib.hid q3
                  clear q1 q2 q3 hxx HF hr1 hr HXk HYk P1 P2
                  go_wp2_with fail
                  refine ⟨⟨k + 1, by omega, by go_num, HQ1.out, HQ2.out, ?_, ?_, ?_, ?_⟩, by simp [intOf]; omega⟩
                  · exact (O3.out.kept bd).chg HQ3.out fun q hq e => by have := (O3.out.lt hq).1; omega
                  · exact (O5.out.kept bd).chg HQ3.out fun q hq => by omega
                  · exact (R5.out.mono bd).base E5.out HQ3.out fun q hq => by omega
                  · exact Below.chg (BW.out.trans (bd.mono hzk)) HQ3.out (fun q hq => by omega) hzk
              · obtain rfl : k = m := by omega
                clear p1 p2 o3 o5 r5 bw
                go_wp2_with fail
                refine ⟨⟨j + 1, by omega, by go_num, ?_, ?_, O3.out, BW.out⟩, by simp [intOf]; omega⟩
                · have := P1.out
                  rwa [mixTo_all _ _ _ (by rw [sumN_length]; exact Nat.le_refl _) (by rw [sumN_length, sumN_length])] at this
                · have := P2.out
                  rwa [mixI_all _ _ _ (by rw [sumC_length]; exact Nat.le_refl _) (by rw [sumC_length, sumC_length])] at this
          · obtain rfl : j = Ss.length := by omega
            clear o3 hzi2
            go_wp2_with fail
            go_ret3
            exact ⟨HG.out _ _ _ P1.out P2.out, BW.out⟩
end Go.Proofs.Ytpijiidbjcbdhaa
