/- Walks: spec.GapsOf, impl.GapsOf. -/
import Derived.Test.YtpijiidbjcbdhaaGapP
import Derived.Test.YtpijiidbjcbdhaaSumP
namespace Go.Proofs.Ytpijiidbjcbdhaa
open Go Go.RowKit

def gapOk (Fs : List FM) (s : Int) : Bool := areF Fs && inB s 0 200
def gapL' (Fs : List FM) (s : Int) : List (List Int) := if gapOk Fs s then gapL (ofF Fs s) (ofF Fs s).length else []
theorem gapL'_small (Fs : List FM) (s : Int) : (gapL' Fs s).length ≤ 12 ∧ ∀ j, j < (gapL' Fs s).length → (rowI (gapL' Fs s) j).length ≤ 2 := by
  unfold gapL'
  split
  · rename_i h
    unfold gapOk at h
    simp only [Bool.and_eq_true] at h
    have h1 := areF_len h.1
    have h2 := ofF_length Fs s
    have h3 := gapL_len (ofF Fs s) (ofF Fs s).length
    exact ⟨by omega, fun j hj => gapL_row _ _ _ hj⟩
  · exact ⟨by simp, fun j hj => by simp at hj⟩
def GapV (Fs : List FM) (s : Int) (B : Nat) (e : Ending) (w' : World) : Prop :=
  ∃ v, e = .returned (.tuple #[v, .bool (gapOk Fs s)]) ∧ OwnII w' (Iv B w'.heap.size) v (gapL' Fs s)
/-- A row of two numbers that was just laid. -/
theorem own1_pair {w : World} {B : Nat} (x y : Int) (hB : B ≤ w.heap.size) : Own1 (w.alloc (.cells #[.int .i64 x, .int .i64 y] 2)) (fun k => B ≤ k) (.is [x, y]) (.slice (some ⟨w.heap.size, 0, none⟩) 2 2) := by
  refine Own1.is_ (B := B) ?_ fun k hk => by cases hk; exact hB
  exact World.ownsRow_lit w #[.int .i64 x, .int .i64 y] 2 hB (by decide) rfl
theorem Own1.kept {w w' : World} {S : Nat → Prop} {d : D1} {u : Value} (h : Own1 w S d u) (hb : Below w.heap.size w w') : Own1 w' S d u := h.same fun k hk => hb.block k (h.lt k hk).2

set_option maxRecDepth 100000 in
set_option maxHeartbeats 3200000 in
theorem specGaps_any (w : World) (v : Value) (Fs : List FM) (s : Int) (h : RdFr w v Fs) (hs : Fsmall Fs) :
    Calls Try.prog 19 #[v, .int .i64 s] w fun e w' => GapV Fs s w.heap.size e w' ∧ Below w.heap.size w w' := by
  have HK := Lib.hid (l07Station_any w v Fs s h hs)
  have HR := Lib.hid h
  obtain ⟨a, c, rfl, -⟩ := h.opened
  clear h
  cases hp : areF Fs && inB s 0 200 with
  | false =>
    have HN : Hid (∀ w', GapV Fs s w.heap.size (.returned (.tuple #[.slice none 0 0, .bool false])) w') := Lib.hid fun w' => by
      have hf : gapOk Fs s = false := hp
      exact ⟨_, by rw [hf], by unfold gapL'; rw [hf]; exact OwnII.nil _ _⟩
    rw [hp] at HK
    clear hp HR hs
    go_enter Try.func19, Try.ntmps19
    go_wp2_with fail
    refine HK.out.mono ?_
    rintro e w1 ⟨rfl, rfl⟩
    go_wp2
    go_ret2
    exact ⟨HN.out _, Below.refl _ _⟩
  | true =>
    have hp2 := hp
    simp only [Bool.and_eq_true] at hp2
    have HSA := Lib.hid (ofF_sa s (areF_sa hp2.1 hs))
    have hlen := areF_len hp2.1
    have hlo := ofF_length Fs s
    have hS2 := Lib.hid hs.2
    have HG : Hid (∀ (v : Value) (w' : World), OwnII w' (Iv w.heap.size w'.heap.size) v (gapL (ofF Fs s) (ofF Fs s).length) → GapV Fs s w.heap.size (.returned (.tuple #[v, .bool true])) w') := Lib.hid fun v w' h1 => by
      have hf : gapOk Fs s = true := hp
      exact ⟨_, by rw [hf], by unfold gapL'; rw [hf]; exact h1⟩
    rw [hp] at HK
    clear hp hp2 hs
    go_enter Try.func19, Try.ntmps19
    go_wp2_with fail
    refine HK.out.mono ?_
    rintro e w1 ⟨rfl, hw1⟩
    obtain rfl : w = w1 := hw1.symm
    clear hw1 HK
    have bl0 : Below w.heap.size w (w.alloc (.cells #[] 43)) := (Below.refl _ _).alloc (Nat.le_refl _) _
    have O0 : Hid (OwnII (w.alloc (.cells #[] 43)) (Iv w.heap.size (w.heap.size + 1)) (.slice (some ⟨w.heap.size, 0, none⟩) 0 0) []) := Lib.hid
      ⟨[], rfl, World.ownsRow_lit w #[] 0 (Nat.zero_le _) (by decide) rfl, (fun k hk => by cases hk; exact ⟨Nat.le_refl _, Nat.lt_succ_self _⟩), (fun j hj => by cases hj), (fun i j k hi => by cases hi), (fun j k hj => by cases hj)⟩
    have HO := Lib.hid (l07Of_any (w.alloc (.cells #[] 43)) _ s Fs (HR.out.mono bl0) (by omega) hS2.out)
    have BL := Lib.hid bl0
    have hz0 : (w.alloc (.cells #[] 43)).heap.size = w.heap.size + 1 := World.size_alloc _ _
    clear bl0
    go_wp2_with fail
    refine HO.out.mono ?_
    clear HO
    rintro e w2 ⟨v2, Es, rfl, o2, r2, hes, b2, e2⟩
    rw [hz0] at o2 b2 e2
    have O2 := Lib.hid o2
    have R2 := Lib.hid r2
    have E2 := Lib.hid e2
    have HES := Lib.hid hes
    have HLE : Hid (Es.length = (ofF Fs s).length) := Lib.hid (by rw [← hes, List.length_map])
    obtain ⟨a2, c2, rfl⟩ := o2.slice
    have hz2 := b2.size
    rw [hz0] at hz2
    have P0 := Lib.hid (O0.out.kept (by rw [hz0]; exact b2))
    have BW := Lib.hid (BL.out.trans (b2.mono (by omega)))
    clear o2 r2 e2 hes b2 O0 BL hz0
    go_wp2_with fail
    have hzw : w.heap.size < w2.heap.size := by omega
    go_loopw [6, 8, 20] (fun o q i wr => ∃ j : Nat, j ≤ Es.length ∧ i = .int .i64 j ∧ q = .int .i64 (gapE (ofF Fs s) j) ∧ OwnII wr (Iv w.heap.size wr.heap.size) o (gapL (ofF Fs s) j) ∧ Chg w2 wr (fun k => k = w.heap.size) ∧ (∀ k, o.ownBlock = some k → k = w.heap.size ∨ w2.heap.size ≤ k)) (fun _ _ i _ => Es.length - (intOf i).toNat)
    case atStart => exact ⟨0, Nat.zero_le _, rfl, rfl, P0.out.wide fun k hk => ⟨hk.1, by have := hk.2; omega⟩, Chg.refl _ _, fun k hk => by cases hk; exact .inl rfl⟩
    case round =>
      obtain ⟨wi, rfl⟩ : ∃ wi : World, wi = wr := ⟨_, rfl⟩
      obtain ⟨j, hj, rfl, rfl, p, ch, ob⟩ := hrel
      have P := Lib.hid p
      have CH := Lib.hid ch
      have OB := Lib.hid ob
      have hzi := ch.size
      by_cases hlt : j < Es.length
      · have hjo : j < (ofF Fs s).length := by rw [← HLE.out]; exact hlt
        obtain ⟨hv, hE0⟩ | ⟨g, cap, hv, hgB, hgs, hcap, hc0, -⟩ := (O2.out.chg ch (fun k hk => by omega)).form
        · rw [hE0] at hlt; cases hlt
        obtain ⟨rfl, rfl⟩ : a2 = some ⟨g, 0, none⟩ ∧ c2 = cap := by cases hv; exact ⟨rfl, rfl⟩
        obtain ⟨-, m1, m2⟩ := hc0 j hlt
        have hfe : frAt (ofF Fs s) j = (feAt Es j).f := by rw [← HES.out, feAt_map]
        obtain ⟨s1, s2, s3⟩ := HSA.out j hjo
        obtain ⟨e1, e2⟩ := gapE_le (ofF Fs s) HSA.out j (by omega)
        have hgl := Nat.le_trans (gapL_len (ofF Fs s) j) (Nat.le_of_lt hjo)
        have HE : Hid (gapE (ofF Fs s) (j + 1) = maxI (gapE (ofF Fs s) j) ((feAt Es j).f.sa + ((feAt Es j).f.L.length : Nat))) := Lib.hid (by rw [gapE, hfe])
        have HY : Hid (0 < j → gapE (ofF Fs s) j < (feAt Es j).f.sa → gapL (ofF Fs s) (j + 1) = gapL (ofF Fs s) j ++ [[gapE (ofF Fs s) j, (feAt Es j).f.sa]]) := Lib.hid fun h1 h2 => by rw [← hfe]; exact gapL_yes h1 (by rw [hfe]; exact h2)
        have HX : Hid (¬ (0 < j ∧ gapE (ofF Fs s) j < (feAt Es j).f.sa) → gapL (ofF Fs s) (j + 1) = gapL (ofF Fs s) j) := Lib.hid fun h1 => gapL_no (by rw [hfe]; exact h1)
        have HC : Hid (∀ w', Chg w2 w' (fun k => k = w.heap.size) → w'.cell? ⟨g, j * 3 + 1, none⟩ = some (.int .i64 (feAt Es j).f.sa) ∧ w'.cell? ⟨g, j * 3 + 2, none⟩ = some (feAt Es j).tr) := Lib.hid fun w' hc => by
          obtain ⟨hv, hE0⟩ | ⟨g', cap', hv, -, -, -, hc0, -⟩ := (O2.out.chg hc (fun k hk => by omega)).form
          · cases hv
          obtain rfl : g = g' := by injection hv with e1 e2 e3; injection e1 with e4; injection e4
          exact ⟨(hc0 j hlt).2.1, (hc0 j hlt).2.2⟩
        rw [hfe] at s1 s2 s3
        have HM := Lib.hid (fun wq => l00Max_any wq (gapE (ofF Fs s) j) ((feAt Es j).f.sa + ((feAt Es j).f.L.length : Nat)))
        obtain ⟨mx, hmx⟩ : ∃ mx, maxI (gapE (ofF Fs s) j) ((feAt Es j).f.sa + ((feAt Es j).f.L.length : Nat)) = mx := ⟨_, rfl⟩
        rw [hmx] at HE HM
        clear hc0 hfe hv hmx p ch ob
        generalize feAt Es j = y at *
        obtain ⟨⟨yst, ysa, yL⟩, ya, yc⟩ := y
        simp only [FE.tr] at *
        generalize gapE (ofF Fs s) j = E at *
        by_cases hc : 0 < j ∧ E < ysa
        · obtain ⟨hc1, hc2⟩ := hc
          have HL := Lib.hid (HY.out hc1 hc2)
          have hd1 : decide ((j : Int) > 0) = true := by simp; omega
          have hd2 : decide (ysa > E) = true := by simp; omega
          clear HY HX
          have hm1 := m1
          have xa : Below wi.heap.size wi ((wi.alloc (.cells #[.int .i64 E, .int .i64 ysa] 2)).alloc (.cells #[.slice (some ⟨wi.heap.size, 0, none⟩) 2 2] 43)) := ((Below.refl _ _).alloc (Nat.le_refl _) _).alloc (by simp) _
          have xz : ((wi.alloc (.cells #[.int .i64 E, .int .i64 ysa] 2)).alloc (.cells #[.slice (some ⟨wi.heap.size, 0, none⟩) 2 2] 43)).heap.size = wi.heap.size + 2 := by simp
          have hpair := (own1_pair (w := wi) (B := wi.heap.size) E ysa (Nat.le_refl _)).kept ((Below.refl _ _).alloc (Nat.le_refl _) (.cells #[.slice (some ⟨wi.heap.size, 0, none⟩) 2 2] 43))
          have HP := Lib.hid hpair
          have XA := Lib.hid xa
          clear hpair xa
          go_wp2_with (at_builtin; go_must (refine wpList_pushC rfl _ _ 37 43 rfl (.slice none 0 0) 24 Try.underlying37 Try.infoII rfl (by decide) w.heap.size wi.heap.size _ _ _ rfl (OwnC.kept P.out XA.out) (by omega) (by omega) _ _ _ (.is [E, ysa]) rfl (cell_new2 _ _ _ _) rfl HP.out (by omega) ?_); intro v6 w6 o6 g6 l6; clear m1 m2)
          have CQ : Hid (Chg w2 w6 (fun k => k = w.heap.size)) := Lib.hid (((CH.out.trans (Chg.of_below XA.out _))).only (Chg.of_grown (S := fun b => u6.ownBlock = some b) g6 fun b hb => hb) fun k hk hkl => by
            rcases OB.out k hk with h | h <;> omega)
          obtain ⟨m1, m2⟩ := HC.out w6 CQ.out
          have z6 := g6.size
          have OQ : Hid (OwnII w6 (Iv w.heap.size w6.heap.size) v6 (gapL (ofF Fs s) j ++ [[E, ysa]])) := Lib.hid (by
            unfold OwnII
            rw [List.map_append, List.length_append]
            exact o6)
          have BQ : Hid (∀ k, v6.ownBlock = some k → k = w.heap.size ∨ w2.heap.size ≤ k) := Lib.hid fun k hk => by
            rcases l6 with h | h
            · rw [h] at hk; exact OB.out k hk
            · rw [h] at hk; cases hk; omega
          clear o6 g6 l6 hm1
          refine region_rel_tail 14 (by kernel_rfl) (by kernel_rfl) (Drawn w6) (fun _ _ v => v = .int .i64 mx) ⟨1, rfl⟩ ?_
          simp only [List.take_succ_cons, List.take_zero, List.drop_succ_cons, List.drop_zero]
          iterate 13 (refine wpRel_draw rfl rfl (fun nq K hK => ?_); go_wp2)
          refine wpRel_callF #[.int .i64 E, .int .i64 (ysa + (yL.length : Nat))] Try.func42 (by kernel_rfl) (by kernel_rfl) (by simp [go_sem]) ⟨w6, 0, rfl⟩ ⟨_, rfl⟩ ?_ ?_
          · rintro wd ⟨nd, rfl⟩
            refine (HM.out (World.drewN w6 nd)).mono ?_
            rintro e w'' ⟨rfl, rfl⟩
            exact ⟨_, rfl, rfl, nd, rfl⟩
          · rintro v rfl
            simp only [Act.put, List.setIfInBounds_toArray, List.set_cons_succ, List.set_cons_zero]
            refine wpRel_nil ?_
            rintro wd ⟨nd, hwd⟩
            have Hwd := Lib.hid hwd
            clear hwd
            go_wp2_with fail
            refine ⟨⟨j + 1, by omega, by go_num, by rw [HE.out], ?_, ?_, ?_⟩, by simp [intOf]; omega⟩
            · rw [HL.out, Hwd.out]
              exact OQ.out
            · rw [Hwd.out]
              exact CQ.out.drewN _
            · exact BQ.out
        · have HL := Lib.hid (HX.out hc)
          clear HY HX
          by_cases hj0 : j = 0
          · subst hj0
            go_wp2_with fail
            refine region_rel_tail 14 (by kernel_rfl) (by kernel_rfl) (Drawn wi) (fun _ _ v => v = .int .i64 mx) ⟨1, rfl⟩ ?_
            simp only [List.take_succ_cons, List.take_zero, List.drop_succ_cons, List.drop_zero]
            iterate 13 (refine wpRel_draw rfl rfl (fun nq K hK => ?_); go_wp2)
            refine wpRel_callF #[.int .i64 E, .int .i64 (ysa + (yL.length : Nat))] Try.func42 (by kernel_rfl) (by kernel_rfl) (by simp [go_sem]) ⟨wi, 0, rfl⟩ ⟨_, rfl⟩ ?_ ?_
            · rintro wd ⟨nd, rfl⟩
              refine (HM.out (World.drewN wi nd)).mono ?_
              rintro e w'' ⟨rfl, rfl⟩
              exact ⟨_, rfl, rfl, nd, rfl⟩
            · rintro v rfl
              simp only [Act.put, List.setIfInBounds_toArray, List.set_cons_succ, List.set_cons_zero]
              refine wpRel_nil ?_
              rintro wd ⟨nd, hwd⟩
              have Hwd := Lib.hid hwd
              clear hwd
              go_wp2_with fail
              refine ⟨⟨1, by omega, by go_num, by rw [HE.out], ?_, ?_, ?_⟩, by simp [intOf]; omega⟩
              · rw [HL.out, Hwd.out]
                exact P.out
              · rw [Hwd.out]
                exact CH.out.drewN _
              · exact OB.out
          · have hd1 : decide ((j : Int) > 0) = true := by simp; omega
            have hd2 : decide (ysa > E) = false := by simp; omega
            go_wp2_with fail
            refine region_rel_tail 14 (by kernel_rfl) (by kernel_rfl) (Drawn wi) (fun _ _ v => v = .int .i64 mx) ⟨1, rfl⟩ ?_
            simp only [List.take_succ_cons, List.take_zero, List.drop_succ_cons, List.drop_zero]
            iterate 13 (refine wpRel_draw rfl rfl (fun nq K hK => ?_); go_wp2)
            refine wpRel_callF #[.int .i64 E, .int .i64 (ysa + (yL.length : Nat))] Try.func42 (by kernel_rfl) (by kernel_rfl) (by simp [go_sem]) ⟨wi, 0, rfl⟩ ⟨_, rfl⟩ ?_ ?_
            · rintro wd ⟨nd, rfl⟩
              refine (HM.out (World.drewN wi nd)).mono ?_
              rintro e w'' ⟨rfl, rfl⟩
              exact ⟨_, rfl, rfl, nd, rfl⟩
            · rintro v rfl
              simp only [Act.put, List.setIfInBounds_toArray, List.set_cons_succ, List.set_cons_zero]
              refine wpRel_nil ?_
              rintro wd ⟨nd, hwd⟩
              have Hwd := Lib.hid hwd
              clear hwd
              go_wp2_with fail
              refine ⟨⟨j + 1, by omega, by go_num, by rw [HE.out], ?_, ?_, ?_⟩, by simp [intOf]; omega⟩
              · rw [HL.out, Hwd.out]
                exact P.out
              · rw [Hwd.out]
                exact CH.out.drewN _
              · exact OB.out
      · obtain rfl : j = Es.length := by omega
        go_wp2_with fail
        go_ret2
        have := P.out
        rw [HLE.out] at this
        exact ⟨HG.out _ _ this, Below.chg BW.out CH.out (fun k hk => by omega) (by omega)⟩
end Go.Proofs.Ytpijiidbjcbdhaa
