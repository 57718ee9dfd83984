/- Walks: impl.fill. -/
import Derived.Test.YtibojlpeaolfbaaBoo
import Derived.Test.YtibojlpeaolfbaaOfI
namespace Go.Proofs.Ytibojlpeaolfbaa
open Go Go.RowKit

/-- What is filled in: numbers, and whether there are any. -/
def filN (Fs : List FM) (s t0 : Int) (n : Nat) : List Nat := tab (fun k => (atF (ofF Fs s) (t0 + k)).1) n
def filB (Fs : List FM) (s t0 : Int) (n : Nat) : List Bool := (List.range n).map fun k : Nat => (atF (ofF Fs s) (t0 + (k : Int))).2
theorem filN_length (Fs : List FM) (s t0 : Int) (n : Nat) : (filN Fs s t0 n).length = n := tab_length _ _
theorem filB_length (Fs : List FM) (s t0 : Int) (n : Nat) : (filB Fs s t0 n).length = n := by simp [filB]
theorem filN_at (Fs : List FM) (s t0 : Int) (n k : Nat) (h : k < n) : (filN Fs s t0 n).getD k 0 = (atF (ofF Fs s) (t0 + k)).1 := tab_getD _ _ _ h
theorem filB_at (Fs : List FM) (s t0 : Int) (n k : Nat) (h : k < n) : bAt (filB Fs s t0 n) k = (atF (ofF Fs s) (t0 + k)).2 := by
  simp [bAt, filB, List.getD_eq_getElem?_getD, List.getElem?_map, List.getElem?_range h]
theorem rep_at (n k : Nat) : (List.replicate n 0).getD k 0 = 0 := by
  rw [List.getD_eq_getElem?_getD, List.getElem?_replicate]; split <;> rfl
theorem repB_at (n k : Nat) : bAt (List.replicate n false) k = false := by
  unfold bAt
  rw [List.getD_eq_getElem?_getD, List.getElem?_replicate]; split <;> rfl
theorem ofF_mem {Fs : List FM} {s : Int} {j : Nat} (h : j < (ofF Fs s).length) : ∃ i, i < Fs.length ∧ frAt (ofF Fs s) j = frAt Fs i := by
  have h1 : frAt (ofF Fs s) j ∈ ofF Fs s := by
    unfold frAt
    rw [List.getD_eq_getElem?_getD, List.getElem?_eq_getElem h]
    exact List.getElem_mem h
  have h2 : frAt (ofF Fs s) j ∈ sortF Fs := (List.mem_filter.1 h1).1
  have h3 : frAt (ofF Fs s) j ∈ Fs := by
    have := (insAll_mem ltF [] Fs _).1 h2
    simpa using this
  obtain ⟨i, hi, he⟩ := List.getElem_of_mem h3
  refine ⟨i, hi, ?_⟩
  rw [← he]
  simp [frAt, List.getD_eq_getElem?_getD, List.getElem?_eq_getElem hi]
theorem ofF_length (Fs : List FM) (s : Int) : (ofF Fs s).length ≤ Fs.length := by
  unfold ofF
  rw [← sortF_length Fs]
  exact List.length_filter_le _ _
theorem ofF_sa {Fs : List FM} (s : Int) (h : Fsa Fs) : Fsa (ofF Fs s) := fun j hj => by
  obtain ⟨i, hi, e⟩ := ofF_mem hj
  rw [e]; exact h i hi
theorem areF_sa {Fs : List FM} (h : areF Fs = true) (hs : Fsmall Fs) : Fsa Fs := fun j hj => by
  unfold areF at h
  simp only [Bool.and_eq_true, decide_eq_true_eq] at h
  have := List.all_eq_true.1 h.2 j (List.mem_range.2 hj)
  unfold okF at this
  simp only [Bool.and_eq_true] at this
  have h2 := this.2.1
  unfold inB at h2
  simp only [Bool.and_eq_true, decide_eq_true_eq] at h2
  exact ⟨h2.1, h2.2, hs.2 j hj⟩
theorem areF_len {Fs : List FM} (h : areF Fs = true) : Fs.length ≤ 12 := by
  unfold areF at h
  simp only [Bool.and_eq_true, decide_eq_true_eq] at h
  exact h.1

set_option maxRecDepth 100000 in
set_option maxHeartbeats 3200000 in
theorem fill_any (w : World) (v : Value) (Fs : List FM) (s t0 : Int) (n : Nat) (h : RdFr w v Fs) (hl : Fs.length ≤ 12) (hs : Fsa Fs) (h0 : 0 ≤ t0) (h1 : t0 ≤ 100000) (hn : n ≤ 128) :
    Calls Try.prog 78 #[v, .int .i64 s, .int .i64 t0, .int .i64 n] w fun e w' => ∃ v1 v2, e = .returned (.tuple #[v1, v2]) ∧ OwnF w' w.heap.size v1 (filN Fs s t0 n) ∧ OwnB w' w.heap.size v2 (filB Fs s t0 n) ∧ Below w.heap.size w w' := by
  have HR := Lib.hid h
  obtain ⟨a, c, rfl, hc, -, -⟩ := h.opened
  clear h
  have HM : Hid (∀ j, j < Fs.length → (frAt Fs j).L.length ≤ 1048576) := Lib.hid fun j hj => (hs j hj).2.2
  have HSA := Lib.hid (ofF_sa s hs)
  have hst := run_store_float (P := Try.prog)
  have hlo := ofF_length Fs s
  clear hs
  go_enter Try.func78, Try.ntmps78
  go_wp2_with fail
  refine region_grow_all (by kernel_rfl) (by kernel_rfl) (fun _ _ _ _ _ => False) ?_
  refine wpRelK_still rfl rfl (fun wq hq K hK => ?_)
  go_wp2
  refine wpRelK_op rfl rfl (fun wa ha K hK => ?_)
  have ga : w.heap.size ≤ wa.heap.size := ha.1.size
  refine op_make _ _ 27 rfl 53 (.float .f32 0) 4 Try.underlying27 Try.infoF rfl _ _ _ _ n rfl rfl rfl rfl (by omega) (by decide) ?_
  intro w1 o1 x1
  refine hK _ _ x1 ?_
  clear hK K
  refine wpRelK_still rfl rfl (fun wq2 hq2 K hK => ?_)
  go_wp2
  refine wpRelK_op rfl rfl (fun wb hb K hK => ?_)
  have gb : w.heap.size ≤ wb.heap.size := hb.1.size
  refine op_make _ _ 73 rfl 4 (.bool false) 1 Try.underlying73 Try.infoB rfl _ _ _ _ n rfl rfl rfl rfl (by omega) (by decide) ?_
  intro w2 o2 x2
  refine hK _ _ x2 ?_
  clear hK K
  refine wpRelK_still rfl rfl (fun wq4 hq4 K hK => ?_)
  go_wp2
  refine wpRelK_still rfl rfl (fun wq5 hq5 K hK => ?_)
  go_wp2
  refine wpRelK_nil ?_
  intro w3 hW hall
  have E1 : Ext w1 w3 := hall 1 (by decide)
  have E2 : Ext w2 w3 := hall 3 (by decide)
  have xW : Ext w w3 := (Ext.drew w).trans hW
  have O1 := Lib.hid ((OwnF.made o1).kept E1 |>.mono ga)
  have O2 := Lib.hid ((OwnB.made o2).kept E2 |>.base gb)
  have XW := Lib.hid xW
  clear hall hW E1 E2 o1 o2 x1 x2 hq hq2 hq4 hq5 ha hb xW
  have hz3 := XW.out.size
  have HK := Lib.hid (ofStation_any w3 _ s Fs (HR.out.mono XW.out) hl HM.out)
  clear HR HM
  go_wp2_with fail
  refine HK.out.mono ?_
  clear HK
  rintro e w4 ⟨v4, Es, rfl, o4, r4, hes, b4, e4⟩
  have hz4 := b4.size
  have hne := (apart_FB O1.out O2.out) wa.heap.size rfl
  have hne : wa.heap.size ≠ wb.heap.size := fun e => hne (by rw [e]; rfl)
  have z1 := (O1.out.lt rfl).2
  have z2 := (O2.out.lt rfl).2
  have P1 := Lib.hid (O1.out.kept b4)
  have P2 := Lib.hid (O2.out.kept b4)
  have B4 := Lib.hid (Ext.trans XW.out b4)
  have O4 := Lib.hid o4
  have R4 := Lib.hid r4
  have E4 := Lib.hid e4
  have HES := Lib.hid hes
  have hlE : Es.length = (ofF Fs s).length := by rw [← hes, List.length_map]
  obtain ⟨a4, c4, rfl⟩ := o4.slice
  clear o4 r4 e4 hes b4 O1 O2
  obtain ⟨g1, hg1⟩ : ∃ g1, wa.heap.size = g1 := ⟨_, rfl⟩
  obtain ⟨g2, hg2⟩ : ∃ g2, wb.heap.size = g2 := ⟨_, rfl⟩
  rw [hg1] at P1 hne z1 ga ⊢
  rw [hg2] at P2 hne z2 gb ⊢
  clear hg1 hg2
  go_wp2_with fail
  go_loopw [25] (fun i wr => ∃ k : Nat, k ≤ n ∧ i = .int .i64 k ∧ OwnF wr w.heap.size (.slice (some ⟨g1, 0, none⟩) n n) (mixTo (filN Fs s t0 n) (List.replicate n 0) k) ∧ OwnB wr w.heap.size (.slice (some ⟨g2, 0, none⟩) n n) (mixB (filB Fs s t0 n) (List.replicate n false) k) ∧
      OwnR wr w3.heap.size (.slice a4 Es.length c4) Es ∧ RdEs wr Es ∧ Below w.heap.size w wr) (fun i _ => n - (intOf i).toNat)
  case atStart => exact ⟨0, Nat.zero_le _, rfl, by rw [mixTo_zero]; exact P1.out, by rw [mixB_zero]; exact P2.out, O4.out, R4.out, B4.out⟩
  case round =>
    clear P1 P2 O4 R4 B4
    obtain ⟨wi, rfl⟩ : ∃ wi : World, wi = wr := ⟨_, rfl⟩
    obtain ⟨k, hk, rfl, p1, p2, o4, r4, b4⟩ := hrel
    have P1 := Lib.hid p1
    have P2 := Lib.hid p2
    have O4 := Lib.hid o4
    have R4 := Lib.hid r4
    have B4 := Lib.hid b4
    clear p1 p2 o4 r4 b4
    by_cases hlt : k < n
    · go_wp2_with fail
      go_loopw [30] (fun i wr => ∃ j : Nat, j ≤ Es.length ∧ i = .int .i64 j ∧ Hid (atF (ofF Fs s) (t0 + k) = atF ((ofF Fs s).drop j) (t0 + k)) ∧ Below wi.heap.size wi wr) (fun i _ => Es.length - (intOf i).toNat)
      case atStart => exact ⟨0, Nat.zero_le _, rfl, Lib.hid rfl, Below.refl _ _⟩
      case round =>
        obtain ⟨wj, rfl⟩ : ∃ wj : World, wj = wr := ⟨_, rfl⟩
        obtain ⟨j, hj, rfl, HA, hbj⟩ := hrel
        have hzj := hbj.size
        by_cases hlt2 : j < Es.length
        · have hjo : j < (ofF Fs s).length := by omega
          obtain ⟨hv, hE0⟩ | ⟨g, cap, hv, hgB, hgs, hcap, hc0, -⟩ := (O4.out.kept hbj).form
          · rw [hE0] at hlt2; cases hlt2
          obtain ⟨rfl, rfl⟩ : a4 = some ⟨g, 0, none⟩ ∧ c4 = cap := by cases hv; exact ⟨rfl, rfl⟩
          obtain ⟨m0, m1, m2⟩ := hc0 j hlt2
          have hfe : frAt (ofF Fs s) j = (feAt Es j).f := by rw [← HES.out, feAt_map]
          obtain ⟨s1, s2, s3⟩ := HSA.out j hjo
          have HT := Lib.hid ((R4.out.mono hbj) _ (feAt_mem hlt2))
          have HS : Hid (inB (t0 + k - (feAt Es j).f.sa) 0 (((feAt Es j).f.L.length : Int) - 1) = false → atF (ofF Fs s) (t0 + k) = atF ((ofF Fs s).drop (j + 1)) (t0 + k)) := Lib.hid fun hx => by rw [HA.out, atF_skip hjo (by rw [hfe]; exact hx)]
          have HH : Hid (inB (t0 + k - (feAt Es j).f.sa) 0 (((feAt Es j).f.L.length : Int) - 1) = true → atF (ofF Fs s) (t0 + k) = ((feAt Es j).f.L.getD (t0 + k - (feAt Es j).f.sa).toNat 0, true)) := Lib.hid fun hx => by rw [HA.out, atF_hit hjo (by rw [hfe]; exact hx), hfe]
          have HB : Hid (inB (t0 + k - (feAt Es j).f.sa) 0 (((feAt Es j).f.L.length : Int) - 1) = true → ∃ i : Nat, t0 + k - (feAt Es j).f.sa = i ∧ i < (feAt Es j).f.L.length) := Lib.hid inB_lt
          have HW := Lib.hid (fun wq => within_any wq (t0 + k - (feAt Es j).f.sa) 0 (((feAt Es j).f.L.length : Int) - 1))
          have HL := Lib.hid (fun wq => lengthF_any wq (feAt Es j).a (feAt Es j).f.L.length (feAt Es j).c)
          rw [hfe] at s1 s2 s3
          clear hc0 hfe hv HA
          generalize inB (t0 + k - (feAt Es j).f.sa) 0 (((feAt Es j).f.L.length : Int) - 1) = q at HS HH HB HW
          generalize feAt Es j = y at *
          obtain ⟨⟨yst, ysa, yL⟩, ya, yc⟩ := y
          simp only [FE.tr] at *
          go_wp2_with fail
          refine (HL.out _).mono ?_
          rintro e w5 ⟨rfl, rfl⟩
          go_wp2_with fail
          refine (HW.out _).mono ?_
          rintro e w6 ⟨rfl, rfl⟩
          clear HW HL
          have bla : Below wi.heap.size wi (wj.alloc (.cells #[.int .i64 yst, .int .i64 ysa, .slice ya yL.length yc] 31)) := hbj.trans ((Below.refl _ _).alloc hzj _)
          cases q with
          | false =>
            have HS2 := Lib.hid (HS.out rfl)
            clear HS HH HB m0 m1 m2
            go_wp2_with fail
            exact ⟨⟨j + 1, by omega, by go_num, HS2, bla⟩, by simp [intOf]; omega⟩
          | true =>
            have HH2 := Lib.hid (HH.out rfl)
            obtain ⟨i, hi, hin⟩ := HB.out rfl
            clear HS HH HB m0 m1 m2
            obtain ⟨b1, o1, c1, hv1, hcap1, hlb1, hr⟩ := HT.out.at_block (by omega)
            obtain ⟨rfl, rfl⟩ : ya = some ⟨b1, o1, none⟩ ∧ yc = c1 := by cases hv1; exact ⟨rfl, rfl⟩
            obtain ⟨r, hr1, hr2⟩ := hr i hin
            have HF : Hid (FV .f32 r (atF (ofF Fs s) (t0 + k)).1) := Lib.hid (by rw [HH2.out]; show FV .f32 r (yL.getD (t0 + k - ysa).toNat 0); rw [hi]; exact hr2)
            have HB1 : Hid ((atF (ofF Fs s) (t0 + k)).2 = true) := Lib.hid (by rw [HH2.out])
            have hwi : IntKind.i64.wrap (i : Int) = (i : Int) := IntWalk.i64_in _ (by omega)
            have lm1 : (mixTo (filN Fs s t0 n) (List.replicate n 0) k).length = n := by rw [mixTo_length]; simp
            have lm2 : (mixB (filB Fs s t0 n) (List.replicate n false) k).length = n := by rw [mixB_length]; simp
            obtain ⟨ga', ca, hva, -, hga2, -, hca, hfa⟩ := (P1.out.kept bla).form.resolve_left fun h => by cases h.1
            obtain rfl : g1 = ga' := by injection hva with e1 e2 e3; injection e1 with e4; injection e4
            obtain ⟨gb', cb, hvb, -, hgb2, -, hcb, hfb⟩ := (P2.out.kept bla).form.resolve_left fun h => by cases h.1
            obtain rfl : g2 = gb' := by injection hvb with e1 e2 e3; injection e1 with e4; injection e4
            obtain ⟨ra, hra, -⟩ := hca k (by omega)
            have hrb := hcb k (by omega)
            have hfa1 := hfa k
            have hfb1 := hfb k
            clear hca hcb hfa hfb hva hvb hr hv1
            obtain ⟨w9, hw9⟩ : ∃ w9, w9 = ((wj.alloc (.cells #[.int .i64 yst, .int .i64 ysa, .slice (some ⟨b1, o1, none⟩) yL.length yc] 31)).setCell ⟨g1, k, none⟩ (.float .f32 r)).setCell ⟨g2, k, none⟩ (.bool true) := ⟨_, rfl⟩
            have FIN : Hid (OwnF w9 w.heap.size (.slice (some ⟨g1, 0, none⟩) n n) (mixTo (filN Fs s t0 n) (List.replicate n 0) (k + 1)) ∧ OwnB w9 w.heap.size (.slice (some ⟨g2, 0, none⟩) n n) (mixB (filB Fs s t0 n) (List.replicate n false) (k + 1)) ∧
                OwnR w9 w3.heap.size (.slice (some ⟨g, 0, none⟩) Es.length c4) Es ∧ RdEs w9 Es ∧ Below w.heap.size w w9) := Lib.hid (by
              rw [hw9]
              have c1 : Chg (wj.alloc (.cells #[.int .i64 yst, .int .i64 ysa, .slice (some ⟨b1, o1, none⟩) yL.length yc] 31)) _ (fun q => q = g1 ∨ q = g2) := ((Chg.refl _ _).setCell (g := g1) (.inl rfl) k (.float .f32 r)).setCell (g := g2) (.inr rfl) k (.bool true)
              have q1 := (P1.out.kept bla).storedN lm1 (j := k) HF.out
              have q2 := ((P2.out.kept bla).chg ((Chg.refl _ (fun q => q = g1)).setCell rfl k (.float .f32 r)) (fun q hq e => by cases hq; exact hne e.symm)).stored lm2 k true
              refine ⟨?_, ?_, (O4.out.kept bla).chg c1 (fun q hq => by omega), (R4.out.mono bla).base E4.out c1 (fun q hq => by omega), ?_⟩
              · rw [← mixTo_set, filN_at _ _ _ _ _ hlt]
                exact q1.chg ((Chg.refl _ (fun q => q = g2)).setCell rfl k (.bool true)) (fun q hq e => by cases hq; exact hne e)
              · rw [← mixB_set, filB_at _ _ _ _ _ hlt, HB1.out]
                exact q2
              · exact Below.chg (B4.out.trans (bla.mono B4.out.size)) c1 (fun q hq => by omega) (by have := B4.out.size; have := bla.size; omega))
            clear HT HF HB1 HH2 P1 P2 O4 R4 B4 lm1 lm2 hr2
            rw [hi] at *
            go_wp2_with fail
            rw [← hw9]
            obtain ⟨f1, f2, f3, f4, f5⟩ := FIN.out
            exact ⟨⟨k + 1, by omega, by go_num, f1, f2, f3, f4, f5⟩, by simp [intOf]; omega⟩
        · obtain rfl : j = Es.length := by omega
          have HZ : Hid (atF (ofF Fs s) (t0 + k) = (0, false)) := Lib.hid (by rw [HA.out, hlE]; exact atF_end)
          clear HA
          go_wp2_with fail
          refine ⟨⟨k + 1, by omega, by go_num, ?_, ?_, O4.out.kept hbj, R4.out.mono hbj, B4.out.trans (hbj.mono B4.out.size)⟩, by simp [intOf]; omega⟩
          · rw [← mixTo_skip _ _ _ (by rw [filN_at _ _ _ _ _ hlt, HZ.out, rep_at])]
            exact P1.out.kept hbj
          · rw [← mixB_skip _ _ _ (by rw [filB_at _ _ _ _ _ hlt, HZ.out, repB_at])]
            exact P2.out.kept hbj
    · obtain rfl : k = n := by omega
      go_wp2_with fail
      go_ret2
      refine ⟨_, _, rfl, ?_, ?_, B4.out⟩
      · have := P1.out
        rwa [mixTo_all _ _ _ (by simp) (by rw [filN_length]; simp)] at this
      · have := P2.out
        rwa [mixB_all _ _ _ (by simp) (by rw [filB_length]; simp)] at this
end Go.Proofs.Ytibojlpeaolfbaa
