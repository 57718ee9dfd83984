/- FnStations: the walk of the law. -/
import Derived.Test.YtibojlpeaolfbaaDM
import Derived.Test.YtibojlpeaolfbaaTru
import Derived.Deep.RegionHeld
import Derived.Deep.Cut
import Derived.Deep.CutRange
namespace Go.Proofs.Ytibojlpeaolfbaa
open Go Go.RowKit

/-- What the first calls of FnStations have left, in a world and in all that grow out of it. -/
structure Got (w0 wq : World) (Fs : List FM) (vl vs vt vu vc : Value) : Prop where
  bel : Below w0.heap.size w0 wq
  l : RdFr wq vl Fs
  s : RdFr wq vs (sortF Fs)
  t : RdI wq vt (stTo Fs Fs.length)
  u : RdF wq vu (sumN Fs 0 (stTo Fs Fs.length) 40 (stTo Fs Fs.length).length)
  c : RdI wq vc (sumC Fs 0 (stTo Fs Fs.length) 40 (stTo Fs Fs.length).length)
theorem Got.mono {w0 wq wr : World} {Fs : List FM} {vl vs vt vu vc : Value} (h : Got w0 wq Fs vl vs vt vu vc) (hb : Ext wq wr) : Got w0 wr Fs vl vs vt vu vc :=
  ⟨h.bel.trans (hb.mono h.bel.size), h.l.mono hb, h.s.mono hb, h.t.mono hb, h.u.mono hb, h.c.mono hb⟩
theorem Ev_sort {Fs : List FM} (h : ∀ f ∈ Fs, Ev f) : ∀ f ∈ sortF Fs, Ev f := fun f hf => h f (by have := (insAll_mem ltF [] Fs f).1 hf; simpa using this)
theorem Ev_of {Es : List FE} (h : ∀ x ∈ Es, Ev x.f) : ∀ f ∈ Es.map FE.f, Ev f := fun f hf => by
  obtain ⟨x, hx, rfl⟩ := List.mem_map.1 hf
  exact h x hx
theorem slice_of {w : World} {v : Value} {L : List Int} (h : RdI w v L) : ∃ a c, v = .slice a L.length c := by
  obtain ⟨a, c, hv, -⟩ := h
  exact ⟨a, c, hv⟩

theorem OwnR.chg2 {w w' : World} {S : Nat → Prop} {B : Nat} {v : Value} {Es : List FE} (h : OwnR w B v Es) (hc : Chg w w' S) (hd : ∀ k, v.ownBlock = some k → ¬ S k) : OwnR w' B v Es :=
  ownsRow_same h fun k hk => hc.block k (World.ownsRow.lt h k hk).2 (hd k hk)
theorem gapL_two (Ms : List FM) (j k : Nat) (h : k < (gapL Ms j).length) : (rowI (gapL Ms j) k).length = 2 := by
  induction j with
  | zero => cases h
  | succ j ih =>
    rw [gapL] at h ⊢
    split
    · rename_i hc
      rw [if_pos hc] at h
      unfold rowI
      rw [getD_snoc]
      by_cases h1 : k < (gapL Ms j).length
      · rw [if_pos h1]; exact ih h1
      · rw [if_neg h1, if_pos (by simp at h; omega)]; rfl
    · rename_i hc
      rw [if_neg hc] at h
      exact ih h
/-- What splitting a frame leaves: both parts in boxes. -/
def CutR (wH : World) (st sa : Int) (n : Nat) (L : List Nat) (s34 s35 s36 : Value) (wx : World) : Prop :=
  ∃ (ga gb m : Nat) (va vb : Value), s34 = .pointer (some ⟨ga, 0, none⟩) ∧ s35 = .pointer (some ⟨gb, 0, none⟩) ∧ s36 = .bool true ∧ 1 ≤ m ∧ m + 1 ≤ n ∧ Ext wH wx ∧ wx.heap[ga]? = some (.cells #[.int .i64 st, .int .i64 sa, va] 31 (0, 0)) ∧
    wx.heap[gb]? = some (.cells #[.int .i64 st, .int .i64 (sa + m), vb] 31 (0, 0)) ∧ RdF wx va (L.take m) ∧ RdF wx vb (L.drop m)
theorem Ev.part {f : FM} (h : Ev f) (L' : List Nat) (sa' : Int) (hs : 0 ≤ sa' ∧ sa' ≤ 40) (hl : 1 ≤ L'.length ∧ L'.length ≤ 40) (hL : ∀ x ∈ L', x ∈ f.L) : okF ⟨f.st, sa', L'⟩ = true := by
  unfold okF
  have h1 : inB f.st 0 200 = true := by obtain ⟨a, b⟩ := h.st; unfold inB; simp; omega
  have h2 : inB sa' 0 100000 = true := by obtain ⟨a, b⟩ := hs; unfold inB; simp; omega
  have h3 : inB L'.length 1 128 = true := by obtain ⟨a, b⟩ := hl; unfold inB; simp; omega
  have h4 : allB numB L' = true := by
    unfold allB allTo
    rw [List.all_eq_true]
    intro i hi
    rw [List.mem_range] at hi
    have : L'.getD i 0 ∈ L' := by rw [List.getD_eq_getElem?_getD, List.getElem?_eq_getElem hi]; exact List.getElem_mem hi
    obtain ⟨z, e, z0, z1⟩ := h.num _ (hL _ this)
    rw [e]; exact (eV_fx z z0 z1).2
  show (inB f.st 0 200 && (inB sa' 0 100000 && (inB L'.length 1 128 && allB numB L'))) = true
  rw [h1, h2, h3, h4]; rfl
theorem snd_ok {f : FM} (h : Ev f) {m : Nat} (hm : m + 1 ≤ f.L.length) : okF (sndF f m) = true := by
  have := h.len
  have := h.sa
  exact h.part _ _ ⟨by omega, by omega⟩ ⟨by rw [List.length_drop]; omega, by rw [List.length_drop]; omega⟩ (fun x hx => List.mem_of_mem_drop hx)
set_option maxRecDepth 100000 in
theorem b10AtN_any (w : World) (v : Value) (n nf : Nat) (hy : RdY w v n) (hn : n ≤ 1048576) (h2 : 2 ≤ nf) (h3 : nf ≤ 1000) :
    Calls Try.prog 19 #[v, .int .i64 0, .int .i64 ((nf : Int) - 1)] w fun e w' => ∃ m : Nat, e = .returned (.int .i64 ((m : Int) - 1)) ∧ 1 ≤ m ∧ m + 1 ≤ nf ∧ w' = w := by
  by_cases h : nf = 2
  · subst h
    refine (b10At1_any w v n hy hn).mono ?_
    rintro e w' ⟨rfl, rfl⟩
    exact ⟨1, rfl, by omega, by omega, rfl⟩
  · refine (b10At_any w v n 0 ((nf : Int) - 1) hy hn (by omega) (by omega) (by omega) (by omega)).mono ?_
    rintro e w' ⟨r, rfl, h0, h1, rfl⟩
    exact ⟨(r + 1).toNat, by congr 2; omega, by omega, by omega, rfl⟩
/-- Where the loop over the stations stands. -/
structure Rnd (w5 w7 wr : World) (g1 g2 : Nat) (Fs : List FM) (Ss : List Int) (j : Nat) (o : Value) (Et : List FE) : Prop where
  x : Ext w5 wr
  o1 : OwnF wr w5.heap.size (.slice (some ⟨g1, 0, none⟩) 40 40) (sumN Fs 0 Ss 40 j)
  o2 : OwnI wr w5.heap.size (.slice (some ⟨g2, 0, none⟩) 40 40) (sumC Fs 0 Ss 40 j)
  ot : OwnR wr w5.heap.size o Et
  rt : RdEs wr Et
  st : SepE wr o Et
  bt : BaseE w7.heap.size Et
  et : Et.map FE.f = totF Fs Ss j
  bl : o.ownBlock = some w5.heap.size ∨ ∃ k, o.ownBlock = some k ∧ w7.heap.size ≤ k
  hz : w7.heap.size ≤ wr.heap.size

set_option maxRecDepth 100000 in
set_option maxHeartbeats 25600000 in
theorem lawStations_any (w : World) (v1 v2 : Value) (n1 n2 : Nat) (h1 : RdY w v1 n1) (h2 : RdY w v2 n2) (m1 : n1 ≤ maxLen) (m2 : n2 ≤ maxLen) :
    Calls Try.prog 7 #[v1, v2] w (TrueB w) := by
  have hadd := run_fadd (P := Try.prog)
  have hst := run_store_float (P := Try.prog)
  have H1 := Lib.hid h1
  have H2 := Lib.hid h2
  obtain ⟨a1, c1, rfl, -, -⟩ := h1.opened
  obtain ⟨a2, c2, rfl, -, -⟩ := h2.opened
  have HL := Lib.hid (b10Long_any w a1 a2 n1 n2 c1 c2 m1 m2)
  clear h1 h2 m1 m2
  cases hq : (decide (1048576 < n1) || decide (1048576 < n2)) with
  | true =>
    rw [hq] at HL
    clear hq
    go_enter Try.func7, Try.ntmps7
    go_wp2_with fail
    refine HL.out.mono ?_
    rintro e w1 ⟨rfl, hw1⟩
    obtain rfl : w = w1 := hw1.symm
    go_wp2
    go_ret
    exact TrueB.mk (Below.refl _ _)
  | false =>
    rw [hq] at HL
    have l1 : n1 ≤ 1048576 := by simp at hq; omega
    have l2 : n2 ≤ 1048576 := by simp at hq; omega
    clear hq
    go_enter Try.func7, Try.ntmps7
    go_wp2_with fail
    refine HL.out.mono ?_
    rintro e w0 ⟨rfl, hw0⟩
    obtain rfl : w = w0 := hw0.symm
    clear HL hw0
    go_wp2_with fail
    refine (b10FramesD_any w _ n1 H1.out l1).mono ?_
    rintro e w1 ⟨vl, El, rfl, o1, r1, -, ev1, hl1, b1⟩
    obtain ⟨Fs, hFs⟩ : ∃ Fs, El.map FE.f = Fs := ⟨_, rfl⟩
    have hl : RdFr w1 vl Fs := by rw [← hFs]; exact o1.rdFr r1
    have hev : ∀ f ∈ Fs, Ev f := by rw [← hFs]; exact Ev_of ev1
    have hlen : Fs.length ≤ 5 := by rw [← hFs, List.length_map]; exact hl1
    have HEV := Lib.hid hev
    have HS := Lib.hid (Fsmall_of (by omega) hev)
    have HQ := Lib.hid (areF_of (by omega) hev)
    have HRl := Lib.hid hl
    have HB1 := Lib.hid b1
    obtain ⟨al, cl, rfl, -⟩ := hl.opened
    clear o1 r1 ev1 hl1 hFs hl hev b1
    go_wp2_with fail
    refine (sortFrames_any w1 _ Fs HRl.out HS.out HQ.out).mono ?_
    rintro e w2 ⟨vs, Es, rfl, o2, r2, -, hes, b2, -⟩
    have hs2 : RdFr w2 vs (sortF Fs) := by rw [← hes]; exact o2.rdFr r2
    have HRs := Lib.hid hs2
    have HB2 := Lib.hid b2
    have hsl : (sortF Fs).length = Fs.length := sortF_length Fs
    obtain ⟨axs, cxs, rfl, -⟩ := hs2.opened
    rw [hsl]
    clear o2 r2 hes b2 hs2
    go_wp2_with fail
    refine (implStations_any w2 _ Fs (HRl.out.mono HB2.out) HS.out).mono ?_
    rintro e w3 ⟨⟨vt, rfl, o3⟩, b3⟩
    rw [if_pos HQ.out] at o3
    rw [HQ.out]
    have HRt := Lib.hid o3.rd
    have HB3 := Lib.hid b3
    obtain ⟨at_, ct, rfl⟩ := slice_of HRt.out
    clear o3 b3
    go_wp2_with fail
    refine (implSum_any w3 _ Fs 0 40 ((HRl.out.mono HB2.out).mono HB3.out) HS.out).mono ?_
    rintro e w4 ⟨⟨vu, vc, rfl, o4, o5⟩, b4⟩
    have hok : sumOk Fs 0 40 = true := by unfold sumOk; rw [HQ.out]; rfl
    have e4 : sumN' Fs 0 40 = sumN Fs 0 (stTo Fs Fs.length) 40 (stTo Fs Fs.length).length := by unfold sumN'; rw [hok]; rfl
    have e5 : sumC' Fs 0 40 = sumC Fs 0 (stTo Fs Fs.length) 40 (stTo Fs Fs.length).length := by unfold sumC'; rw [hok]; rfl
    rw [hok]
    rw [e4] at o4
    rw [e5] at o5
    have HRu := Lib.hid o4.rd
    have HRc := Lib.hid (OwnI.rd o5)
    have HB4 := Lib.hid b4
    obtain ⟨au, cu, rfl, -⟩ := o4.rd.opened
    obtain ⟨ac, cc, rfl⟩ := slice_of HRc.out
    rw [sumN_length, sumC_length]
    clear o4 o5 b4 hok e4 e5
    go_wp2_with fail
    have hs4 := (HRs.out.mono HB3.out).mono HB4.out
    have HLa := Lib.hid (lateFrames_any w4 _ (sortF Fs) hs4 (Fsmall_of (by omega) (Ev_sort HEV.out)) (areF_of (by omega) (Ev_sort HEV.out)) (fun k i hk hi => sorted_late Fs hk hi))
    rw [hsl] at HLa hs4 HRs
    refine HLa.out.mono ?_
    rintro e w5 ⟨rfl, b5⟩
    have x5 : Ext w4 w5 := b5
    obtain ⟨Ss, hSs⟩ : ∃ Ss, stTo Fs Fs.length = Ss := ⟨_, rfl⟩
    have HSs := Lib.hid hSs
    have G5 : Got w w5 Fs (.slice al Fs.length cl) (.slice axs Fs.length cxs) (.slice at_ Ss.length ct) (.slice au 40 cu) (.slice ac 40 cc) := by
      have hb2 := HB1.out.trans (HB2.out.mono HB1.out.size)
      have hb3 := hb2.trans (HB3.out.mono hb2.size)
      have hb4 := hb3.trans (HB4.out.mono hb3.size)
      refine ⟨hb4.trans (x5.mono hb4.size), (((HRl.out.mono HB2.out).mono HB3.out).mono HB4.out).mono x5, hs4.mono x5, ?_, ?_, ?_⟩
      · have := (HRt.out.mono HB4.out).mono x5
        rw [hSs] at this ⊢
        exact this
      · have := HRu.out.mono x5
        rw [sumN_length] at this
        exact this
      · have := HRc.out.mono x5
        rw [sumC_length] at this
        exact this
    have G := Lib.hid G5
    have hSl : Ss.length ≤ 5 := by
      have := stTo_len Fs Fs.length
      rw [HSs.out] at this
      omega
    rw [HSs.out]
    have HLs := Lib.hid hsl
    clear HLa b5 x5 hs4 HRs HRt HRu HRc HRl HB1 HB2 HB3 HB4 G5 hSs hsl
    obtain ⟨wT, hwT⟩ : ∃ wT, w5.alloc (.cells #[] 31) = wT := ⟨_, rfl⟩
    have xT : Ext w5 wT := by rw [← hwT]; exact (Below.refl _ _).alloc (Nat.le_refl _) _
    have hgT : wT.heap[w5.heap.size]? = some (.cells #[] 31 (0, 0)) := by rw [← hwT]; exact alloc_new _ _
    have hzT : wT.heap.size = w5.heap.size + 1 := by rw [← hwT]; exact World.size_alloc _ _
    go_wp2_with (first | (refine wpList_make1 rfl _ _ 27 rfl 53 (.float .f32 0) 4 Try.underlying27 Try.infoF rfl _ _ _ _ 40 rfl rfl rfl rfl (by omega) (by decide) ?_; intro w6 o6 x6) | (refine wpList_make1 rfl _ _ 62 rfl 2 (.int .i64 0) 8 Try.underlying62 Try.infoI rfl _ _ _ _ 40 rfl rfl rfl rfl (by omega) (by decide) ?_; intro w7 o7 x7))
    obtain ⟨g1, hg1⟩ : ∃ g1, w5.heap.size + 1 = g1 := ⟨_, rfl⟩
    rw [hzT, hg1] at o6
    obtain ⟨g2, hg2⟩ : ∃ g2, w6.heap.size = g2 := ⟨_, rfl⟩
    have z6 := x6.size
    have z7 := x7.size
    have hO1 := (OwnF.made o6)
    have hlt1 : g1 < w6.heap.size := (hO1.lt rfl).2
    have hlt2 : g2 < w7.heap.size := by rw [← hg2]; exact (OwnI.lt (OwnI.made o7) rfl).2
    have R0 : Rnd w5 w7 w7 g1 g2 Fs Ss 0 (.slice (some ⟨w5.heap.size, 0, none⟩) 0 0) [] := by
      refine ⟨(xT.trans x6).trans x7, ?_, ?_, ?_, (fun e he => by cases he), (fun e he => by cases he), BaseE.nil _, rfl, .inl rfl, Nat.le_refl _⟩
      · rw [sumN_zero]
        exact (hO1.kept x7).mono (by omega)
      · rw [sumC_zero, ← hg2]
        exact OwnI.base (OwnI.made o7) (by omega)
      · exact ⟨rfl, .inr ⟨w5.heap.size, 0, #[], rfl, Nat.le_refl _, (x7.block _ (by omega)).trans ((x6.block _ (by omega)).trans hgT), Nat.le_refl _, by decide, rfl, rfl⟩⟩
    have HR0 := Lib.hid R0
    have hg15 : w5.heap.size < g1 := by omega
    have hg12 : g1 < g2 := by omega
    have hg27 : g2 < w7.heap.size := hlt2
    rw [hg1, hg2]
    clear hg1 hzT R0 hO1 hlt1 hlt2 o6 o7 x6 x7 xT hgT hwT z6 z7 hg2
    go_loopw [15, 99] (fun o i wr => ∃ (j : Nat) (Et : List FE), j ≤ Ss.length ∧ i = .int .i64 j ∧ Rnd w5 w7 wr g1 g2 Fs Ss j o Et) (fun _ i _ => Ss.length - (intOf i).toNat)
    case atStart =>
      exact ⟨0, [], Nat.zero_le _, rfl, HR0.out⟩
    case round =>
      clear HR0
      obtain ⟨wi, rfl⟩ : ∃ wi : World, wi = wr := ⟨_, rfl⟩
      obtain ⟨j, Et, hj, rfl, hR⟩ := hrel
      have HR := Lib.hid hR
      by_cases hlt : j < Ss.length
      · as_aux_lemma =>
          obtain ⟨hp1, kf, hkf, hst⟩ := ofF_pos (Fs := Fs) (i := j) (by rw [HSs.out]; exact hlt)
          rw [HSs.out] at hp1 hst
          have hevk := (HEV.out _ (frAt_mem hkf)).st
          rw [hst] at hevk
          have ht := G.out.t
          rw [HSs.out] at ht
          obtain ⟨ax, cx, hv, hcx, -, hcell⟩ := ht.opened
          obtain ⟨bs, os, rfl, hbs, hcs⟩ := hcell j hlt
          have hat : at_ = some ⟨bs, os, none⟩ := by cases hv; rfl
          obtain ⟨s, hsj⟩ : ∃ s, inL Ss j = s := ⟨_, rfl⟩
          rw [hsj] at hp1 hevk hcs
          have HSj := Lib.hid hsj
          have HCs : Hid (∀ wq, Ext w5 wq → wq.cell? ⟨bs, os + j, none⟩ = some (.int .i64 s)) := Lib.hid fun wq hq => ((bcell hq).1 _ _ hbs).trans hcs
          obtain ⟨hs0, hs2⟩ := hevk
          have HGR := Lib.hid fun wq (hq : Ext w5 wq) => G.out.l.mono hq
          clear hv hcell hcs hkf hst ht hsj
          obtain ⟨Ms, hMs⟩ : ∃ Ms, ofF Fs s = Ms := ⟨_, rfl⟩
          have HMs := Lib.hid hMs
          rw [hMs] at hp1
          have hk0 := HCs.out wi hR.x
          subst hat
          clear hMs
          have hzi := hR.hz
          clear hR
          go_wp2_with fail
          refine (ofStationP_any wi _ s Fs (HGR.out wi HR.out.x) HS.out HQ.out hs0 (by omega)).mono ?_
          rintro e wA ⟨vE, Ei, rfl, oA, rA, hei, bA, beA⟩
          rw [HMs.out] at hei
          have xA : Ext wi wA := bA
          have zA := xA.size
          have HXA := Lib.hid (HR.out.x.trans xA)
          have HOA := Lib.hid oA
          have HRA := Lib.hid rA
          have HEi := Lib.hid hei
          have HBA := Lib.hid beA
          have hEl : Ei.length = Ms.length := by rw [← hei, List.length_map]
          obtain ⟨aE, cE, rfl⟩ := oA.slice
          have hk0 := HCs.out wA HXA.out
          clear oA rA hei bA beA
          go_wp2_with fail
          refine (spanOf_any wA _ s Fs (HGR.out wA HXA.out) HS.out HQ.out hs0 (by omega) (by rw [HMs.out]; exact hp1)).mono ?_
          rw [HMs.out]
          rintro e wB ⟨rfl, bB⟩
          have xB : Ext wA wB := bB
          have zB := xB.size
          have HXB := Lib.hid (HXA.out.trans xB)
          have hk0 := HCs.out wB HXB.out
          clear bB
          go_wp2_with fail
          refine (implGaps_any wB _ Fs s (HGR.out wB HXB.out) HS.out).mono ?_
          rintro e wC ⟨⟨vg, rfl, oC⟩, bC⟩
          have hgok : gapOk Fs s = true := by unfold gapOk; rw [HQ.out]; unfold inB; simp; omega
          rw [hgok]
          have xC : Ext wB wC := bC
          have zC := xC.size
          have HXC := Lib.hid (HXB.out.trans xC)
          have egl : gapL' Fs s = gapL Ms Ms.length := by unfold gapL'; rw [hgok, HMs.out]; rfl
          rw [egl] at oC
          have HOC := Lib.hid oC
          obtain ⟨aG, cG, hvg, -⟩ := oC.rd.opened
          subst hvg
          have hk0 := HCs.out wC HXC.out
          clear oC bC hgok egl
          go_wp2_with fail
          refine (implFill_any wC _ Fs s 0 40 (HGR.out wC HXC.out) HS.out).mono ?_
          rintro e wD ⟨⟨vf, vb, rfl, oF, oB⟩, bD⟩
          have hfok : filOk Fs s 0 40 = true := by unfold filOk; rw [HQ.out]; unfold inB; simp; omega
          rw [hfok]
          have e1 : filN' Fs s 0 40 = filN Fs s 0 40 := by unfold filN'; rw [hfok]; rfl
          have e2 : filB' Fs s 0 40 = filB Fs s 0 40 := by unfold filB'; rw [hfok]; rfl
          rw [e1] at oF
          rw [e2] at oB
          have xD : Ext wC wD := bD
          have zD := xD.size
          have HXD := Lib.hid (HXC.out.trans xD)
          obtain ⟨gF, cF, rfl, hF1, hF2, -⟩ := oF.at_block (n := 40) (filN_length _ _ _ _) (by omega)
          obtain ⟨gB, cB, rfl, hB1, hB2⟩ := oB.slice (n := 40) (filB_length _ _ _ _) (by omega)
          have HOF := Lib.hid oF
          have HOB := Lib.hid oB
          clear oF oB bD hfok e1 e2 hk0
          have hE1 : ((Ms.length : Int) == 0) = false := by rw [beq_eq_false_iff_ne]; omega
          have hEc : ∃ gE, aE = some ⟨gE, 0, none⟩ ∧ ∀ k u, (encEs Ei)[k]? = some u → wD.cell? ((⟨gE, 0, none⟩ : Addr).add k) = some u := by
            have hOD := ((HOA.out.kept xB).kept xC).kept xD
            rcases hOD.form with ⟨-, h0⟩ | ⟨gE, cap, hvE, -, -, -, hc, -⟩
            · rw [h0] at hEl; simp at hEl; omega
            · refine ⟨gE, by cases hvE; rfl, ?_⟩
              have := encEs_cells hc 0 Ei (fun k hk => ⟨by omega, by rw [Nat.zero_add]⟩)
              rw [Nat.zero_mul] at this
              exact this
          obtain ⟨gE, hgE, hEc⟩ := hEc
          subst hgE
          have HEc := Lib.hid hEc
          have hEtl : Et.length ≤ 5 := by
            have := totF_len Fs j
            rw [HSs.out, ← HR.out.et, List.length_map] at this
            omega
          have hEi5 : Ei.length ≤ 5 := by
            rw [hEl, ← HMs.out]
            have := ofF_length Fs s
            omega
          have xID : Hid (Ext wi wD) := Lib.hid (((xA.trans xB).trans xC).trans xD)
          have hOt := Lib.hid (HR.out.ot.kept xID.out)
          have hz5 : w5.heap.size ≤ wD.heap.size := by omega
          have hsum : Et.length + Ms.length ≤ 100000 := by omega
          clear hEc hEtl hEi5
          go_wp2_with (at_builtin; go_must (refine wpList_pushR rfl _ _ rfl w5.heap.size _ Et rfl hOt.out _ _ _ Ei rfl hEl HEc.out hsum hz5 ?_); intro w8v w8 o8 g8 b8 l8; have HO8 := Lib.hid o8; have HG8 := Lib.hid g8; have HL8 := Lib.hid l8; have z8 := b8.size; clear o8 g8 b8 l8)
          have hul : ∀ k, u15.ownBlock = some k → k < wi.heap.size := fun k hk => (World.ownsRow.lt HR.out.ot k hk).2
          have hbl := HR.out.bl
          have C8 : Chg wD w8 (fun k => u15.ownBlock = some k) := Chg.of_grown HG8.out fun b hb => hb
          have nG : ∀ k, (k = g1 ∨ k = g2) → k < wi.heap.size := fun k hk => by rcases hk with rfl | rfl <;> omega
          have nU : ∀ k, (k = g1 ∨ k = g2) → u15.ownBlock ≠ some k := fun k hk e => by
            rcases hbl with h | ⟨q, h, hq⟩
            · rw [h] at e; have := Option.some.inj e; omega
            · rw [h] at e; have := Option.some.inj e; omega
          have HHas : Hid (∀ wr, Chg w8 wr (fun k => k = g1 ∨ k = g2) → ∀ t : Nat, t < 40 → wr.cell? ⟨gB, t, none⟩ = some (.bool (atF Ms (0 + (t : Int))).2)) := Lib.hid fun wr hc t ht => by
            have h1 := (HOB.out.chg C8 fun k hk e => by have := (HOB.out.lt hk).1; have := hul k e; omega).chg hc fun k hk e => by have := (HOB.out.lt hk).1; have := nG k e; omega
            have h2 := (h1.cells (filB_length _ _ _ _)).1 t ht
            rw [filB_at _ _ _ _ _ ht, HMs.out] at h2
            exact h2
          have HFil : Hid (∀ wr, Chg w8 wr (fun k => k = g1 ∨ k = g2) → ∀ t : Nat, t < 40 → ∃ r, wr.cell? ⟨gF, t, none⟩ = some (.float .f32 r) ∧ FV .f32 r (atF Ms (0 + (t : Int))).1) := Lib.hid fun wr hc t ht => by
            have h1 := (HOF.out.chg C8 fun k hk e => by have := (HOF.out.lt hk).1; have := hul k e; omega).chg hc fun k hk e => by have := (HOF.out.lt hk).1; have := nG k e; omega
            obtain ⟨r, h2, h3⟩ := (h1.cells (filN_length _ _ _ _)).1 t ht
            rw [filN_at _ _ _ _ _ ht, HMs.out] at h3
            exact ⟨r, h2, h3⟩
          have HGap : Hid (∀ wr, Chg w8 wr (fun k => k = g1 ∨ k = g2) → RdII wr (.slice aG (gapL Ms Ms.length).length cG) (gapL Ms Ms.length)) := Lib.hid fun wr hc => by
            have h1 := (HOC.out.kept xD).chg C8 fun k hk e => by have := hk.1; have := hul k e; omega
            exact (h1.chg hc fun k hk e => by have := hk.1; have := nG k e; omega).rd
          have HO1 : Hid (OwnF w8 w5.heap.size (.slice (some ⟨g1, 0, none⟩) 40 40) (sumN Fs 0 Ss 40 j)) := Lib.hid ((HR.out.o1.kept xID.out).chg C8 fun k hk e => by have hk : g1 = k := Option.some.inj hk; exact nU k (.inl hk.symm) e)
          have HO2 : Hid (OwnI w8 w5.heap.size (.slice (some ⟨g2, 0, none⟩) 40 40) (sumC Fs 0 Ss 40 j)) := Lib.hid ((OwnI.kept HR.out.o2 xID.out).chg C8 fun k hk e => by have hk : g2 = k := Option.some.inj hk; exact nU k (.inr hk.symm) e)
          have HEnd : Hid (∀ wr, Chg w8 wr (fun k => k = g1 ∨ k = g2) → OwnF wr w5.heap.size (.slice (some ⟨g1, 0, none⟩) 40 40) (sumN Fs 0 Ss 40 (j + 1)) → OwnI wr w5.heap.size (.slice (some ⟨g2, 0, none⟩) 40 40) (sumC Fs 0 Ss 40 (j + 1)) → Rnd w5 w7 wr g1 g2 Fs Ss (j + 1) w8v (Et ++ Ei)) := Lib.hid fun wr hc p1 p2 => by
            have hEv : ∀ e ∈ Ei, 0 < e.f.L.length := fun e he => by
              have h1 : e.f ∈ Ms := by rw [← HEi.out]; exact List.mem_map_of_mem he
              rw [← HMs.out] at h1
              have := (HEV.out _ (ofF_st h1).2).len
              omega
            have hb8 : w8v.ownBlock = u15.ownBlock ∨ w8v.ownBlock = some wD.heap.size := HL8.out
            have hbl8 : w8v.ownBlock = some w5.heap.size ∨ ∃ k, w8v.ownBlock = some k ∧ w7.heap.size ≤ k := by
              rcases hb8 with h | h
              · rw [h]; exact hbl
              · exact .inr ⟨_, h, by omega⟩
            have n8 : ∀ k, w8v.ownBlock = some k → ¬ (k = g1 ∨ k = g2) := fun k hk e => by
              rcases hbl8 with h | ⟨q, h, hq⟩
              · rw [h] at hk; have := Option.some.inj hk; omega
              · rw [h] at hk; have := Option.some.inj hk; omega
            have rE : RdEs wD Ei := ((HRA.out.mono xB).mono xC).mono xD
            have r8 : RdEs w8 (Et ++ Ei) := fun e he => by
              rcases List.mem_append.1 he with h | h
              · exact ((HR.out.rt.mono xID.out).grow (HR.out.st.mono xID.out.size) HG8.out) e h
              · exact (rE e h).sep (fun ad ha hk => by have := HBA.out e h ad ha; have := hul _ hk; omega) C8
            have s8 : SepE w8 w8v (Et ++ Ei) := fun e he ad ha => by
              have hlt2 : ad.block < wD.heap.size ∧ u15.ownBlock ≠ some ad.block := by
                rcases List.mem_append.1 he with h | h
                · exact (HR.out.st.mono xID.out.size) e h ad ha
                · refine ⟨(rE e h).low ad ⟨_, _, by show Value.slice e.a _ _ = _; rw [ha]⟩ (hEv e h), fun hk => by have := HBA.out e h ad ha; have := hul _ hk; omega⟩
              refine ⟨by omega, fun hk => ?_⟩
              rcases hb8 with h | h
              · rw [h] at hk; exact hlt2.2 hk
              · rw [h] at hk; have := Option.some.inj hk; omega
            have bE : BaseE w7.heap.size (Et ++ Ei) := fun e he ad ha => by
              rcases List.mem_append.1 he with h | h
              · exact HR.out.bt e h ad ha
              · have := HBA.out e h ad ha; omega
            have x8 : Ext w5 w8 := Below.chg HXD.out C8 (fun k hk => by
              rcases hbl with h | ⟨q, h, hq⟩
              · rw [h] at hk; have := Option.some.inj hk; omega
              · rw [h] at hk; have := Option.some.inj hk; omega) hz5
            have zr := hc.size
            refine ⟨Below.chg x8 hc (fun k hk => by rcases hk with rfl | rfl <;> omega) x8.size, p1, p2, HO8.out.chg2 hc n8, r8.chg bE hc (fun k hk => by rcases hk with rfl | rfl <;> omega), s8.mono zr, bE, ?_, hbl8, by omega⟩
            rw [List.map_append, HR.out.et, HEi.out, totF_succ Fs Ss j hlt, HSj.out, HMs.out]
          have HY : Hid (∀ k : Nat, (atF Ms (0 + (k : Int))).2 = true → sumJ Fs 0 Ss k (j + 1) = (fop .add .f32 (sumJ Fs 0 Ss k j).1 (atF Ms (0 + (k : Int))).1, (sumJ Fs 0 Ss k j).2 + 1)) := Lib.hid fun k hk => by
            have := sumJ_yes (Fs := Fs) (t0 := 0) (Ss := Ss) (k := k) (j := j)
            rw [HSj.out, HMs.out] at this
            exact this hk
          have HX : Hid (∀ k : Nat, (atF Ms (0 + (k : Int))).2 = false → sumJ Fs 0 Ss k (j + 1) = sumJ Fs 0 Ss k j) := Lib.hid fun k hk => by
            have := sumJ_no (Fs := Fs) (t0 := 0) (Ss := Ss) (k := k) (j := j)
            rw [HSj.out, HMs.out] at this
            exact this hk
          have HSp : Hid (∀ t : Int, ((decide ((frAt Ms 0).sa ≤ t) && decide (t < spE Ms Ms.length)) && okGs (gapL Ms Ms.length) t (gapL Ms Ms.length).length) = (atF Ms t).2) := Lib.hid fun t => by
            have hsa := ofF_sa s (areF_sa HQ.out HS.out)
            rw [HMs.out] at hsa
            exact span_is Ms hsa (fun i hi => by
              have h1 := frAt_mem hi
              rw [← HMs.out] at h1
              have := (HEV.out _ (ofF_st h1).2).len
              rw [← HMs.out]
              omega) (fun i k hik hk => by
                have := ofF_rise Fs s (i := i) (j := k) hik (by rw [HMs.out]; exact hk)
                rw [HMs.out] at this
                exact this) hp1 t
          have HG2 : Hid (∀ k, k < (gapL Ms Ms.length).length → (rowI (gapL Ms Ms.length) k).length = 2) := Lib.hid fun k hk => gapL_two Ms _ k hk
          have hG5 : (gapL Ms Ms.length).length ≤ 1000 := by
            have := gapL_len Ms Ms.length
            have := ofF_length Fs s
            rw [HMs.out] at this
            omega
          clear hbl C8 nG nU hul HOA HRA HEi HBA HEc HOC HOF HOB HO8 HG8 HL8 hOt xID HXA HXB HXC HXD xA xB xC xD hE1 HCs HR
          obtain ⟨fr, hfr⟩ : ∃ x, (frAt Ms 0).sa = x := ⟨_, rfl⟩
          obtain ⟨to_, hto⟩ : ∃ x, spE Ms Ms.length = x := ⟨_, rfl⟩
          obtain ⟨GG, hGG⟩ : ∃ x, gapL Ms Ms.length = x := ⟨_, rfl⟩
          rw [hGG] at HG2 hG5 HGap
          rw [hfr, hto, hGG] at HSp
          rw [hfr, hto, hGG]
          clear hfr hto hGG
          go_loopw [29] (fun q wr => ∃ t : Nat, t ≤ 40 ∧ q = .int .i64 t ∧ OwnF wr w5.heap.size (.slice (some ⟨g1, 0, none⟩) 40 40) (mixTo (sumN Fs 0 Ss 40 (j + 1)) (sumN Fs 0 Ss 40 j) t) ∧ OwnI wr w5.heap.size (.slice (some ⟨g2, 0, none⟩) 40 40) (mixI (sumC Fs 0 Ss 40 (j + 1)) (sumC Fs 0 Ss 40 j) t) ∧ Chg w8 wr (fun k => k = g1 ∨ k = g2)) (fun q _ => 40 - (intOf q).toNat)
          case atStart => exact ⟨0, by omega, rfl, by rw [mixTo_zero]; exact HO1.out, by rw [mixI_zero]; exact HO2.out, Chg.refl _ _⟩
          case round =>
            clear HO1 HO2
            obtain ⟨wk, rfl⟩ : ∃ wk : World, wk = wr := ⟨_, rfl⟩
            obtain ⟨t, ht4, rfl, p1, p2, hc⟩ := hrel
            have P1 := Lib.hid p1
            have P2 := Lib.hid p2
            have HC := Lib.hid hc
            by_cases hlt4 : t < 40
            · have hb6 := HHas.out wk hc t hlt4
              obtain ⟨r5, hr5, hf5⟩ := HFil.out wk hc t hlt4
              obtain ⟨aG', cG', hvg, hgc, -, hgcell⟩ := (HGap.out wk hc).opened
              have HGC := Lib.hid hgcell
              obtain ⟨rfl, rfl⟩ : aG = aG' ∧ cG = cG' := by cases hvg; exact ⟨rfl, rfl⟩
              obtain ⟨hc1, hf1⟩ := p1.cells (by rw [mixTo_length, sumN_length])
              obtain ⟨hc2, hf2⟩ := p2.cells (by rw [mixI_length, sumC_length])
              obtain ⟨r0, hr0, hr1⟩ := hc1 t hlt4
              have hi0 := hc2 t hlt4
              rw [mixTo_getD _ _ _ _ (by rw [sumN_length]; exact hlt4), if_neg (Nat.lt_irrefl t), sumN_at _ _ _ _ _ _ hlt4] at hr1
              rw [mixI_at _ _ _ _ (by rw [sumC_length]; exact hlt4), if_neg (Nat.lt_irrefl t), sumC_at _ _ _ _ _ _ hlt4] at hi0
              have hff1 := hf1 t
              have hff2 := hf2 t
              obtain ⟨hle0, hle1⟩ := sumJ_le Fs 0 Ss t j
              have HN1 := Lib.hid (sumN_at Fs 0 Ss 40 (j + 1) t hlt4)
              have HN2 := Lib.hid (sumC_at Fs 0 Ss 40 (j + 1) t hlt4)
              have HD1 := Lib.hid (sumN_at Fs 0 Ss 40 j t hlt4)
              have HD2 := Lib.hid (sumC_at Fs 0 Ss 40 j t hlt4)
              have HYt := Lib.hid (HY.out t)
              have HXt := Lib.hid (HX.out t)
              have hspt := HSp.out (t : Int)
              have HNone : Hid ((atF Ms (0 + (t : Int))).2 = false → r5 = 0) := Lib.hid fun h => by
                have h0 := atF_none h
                rw [h0] at hf5
                exact hf5.eq_of_not (by decide +kernel)
              have e0 : (0 : Int) + (t : Int) = t := Int.zero_add _
              rw [e0] at hb6 hf5 HYt HXt HNone
              obtain ⟨b0, hb0⟩ : ∃ b0, (decide (fr ≤ (t : Int)) && decide ((t : Int) < to_)) = b0 := ⟨_, rfl⟩
              rw [hb0] at hspt
              have HSpt := Lib.hid hspt
              have HF5 := Lib.hid hf5
              have HR1 := Lib.hid hr1
              have key : (decide ((t : Int) ≥ fr) = false ∧ b0 = false) ∨ (decide ((t : Int) ≥ fr) = true ∧ decide ((t : Int) < to_) = b0) := by
                rw [← hb0]
                by_cases h : fr ≤ (t : Int)
                · exact .inr ⟨by simp [h], by simp [h]⟩
                · exact .inl ⟨by simp; omega, by simp [h]⟩
              clear hc hgcell hvg p1 p2 hc1 hc2 hf1 hf2 hspt hf5 hr1 e0 hb0
              generalize hq : atF Ms (t : Int) = q at *
              obtain ⟨qx, qb⟩ := q
              clear hq
              simp only at *
              obtain ⟨ys, hys⟩ : ∃ y, (sumJ Fs 0 Ss t j).2 = y := ⟨_, rfl⟩
              have HYS := Lib.hid hys
              rw [hys] at hi0 hle0 hle1
              clear hys
              have hne : g1 ≠ g2 := by omega
              rcases key with ⟨hk1, hk2⟩ | ⟨hk1, hk2⟩
              all_goals
                as_aux_lemma =>
                  go_wp2_with fail
                  go_loopw [30, 186] (fun q i wr => ∃ k : Nat, k ≤ GG.length ∧ i = .int .i64 k ∧ q = .bool (b0 && okGs GG (t : Int) k) ∧ wr = wk) (fun _ i _ => GG.length - (intOf i).toNat)
                  case atStart => exact ⟨0, Nat.zero_le _, rfl, by first | (rw [hk2]; rfl) | simp [okGs], rfl⟩
                  case round =>
                    obtain ⟨k, hk, rfl, rfl, hw⟩ := hrel
                    obtain rfl : wk = wr := hw.symm
                    clear hw
                    by_cases hlk : k < GG.length
                    · obtain ⟨bg, og, ar, cr, rfl, hbg, hcell, hri⟩ := HGC.out k hlk
                      have h2 := HG2.out k hlk
                      obtain ⟨ax', cx', hvx, -, -, hcc⟩ := hri.opened
                      obtain ⟨br, or_, rfl, hbr, hgg0⟩ := hcc 0 (by omega)
                      obtain ⟨br', or', har', -, hgg1⟩ := hcc 1 (by omega)
                      have hax : ar = some ⟨br, or_, none⟩ := by cases hvx; rfl
                      subst hax
                      obtain ⟨rfl, rfl⟩ : br = br' ∧ or_ = or' := by cases har'; exact ⟨rfl, rfl⟩
                      rw [h2] at hcell
                      rw [Nat.add_zero] at hgg0
                      have HOk := Lib.hid (okGs_succ GG (t : Int) k hlk)
                      obtain ⟨q0, hq0⟩ : ∃ x, inL (rowI GG k) 0 = x := ⟨_, rfl⟩
                      obtain ⟨q1, hq1⟩ : ∃ x, inL (rowI GG k) 1 = x := ⟨_, rfl⟩
                      have HOg : Hid (okG (rowI GG k) (t : Int) = (decide ((t : Int) < q0) || decide (q1 ≤ (t : Int)))) := Lib.hid (by unfold okG; rw [hq0, hq1])
                      rw [hq0] at hgg0
                      rw [hq1] at hgg1
                      clear hq0 hq1 hri hcc hvx har' hb6 hr5 hr0 hi0 h2
                      obtain ⟨cb, hcb⟩ : ∃ c, (b0 && okGs GG (t : Int) k) = c := ⟨_, rfl⟩
                      rw [hcb]
                      have HCB := Lib.hid hcb
                      clear hcb
                      cases cb with
                      | false =>
                        go_wp2_with fail
                        exact ⟨⟨k + 1, by omega, by go_num, by rw [HOk.out, ← Bool.and_assoc, HCB.out]; rfl, trivial⟩, by simp [intOf]; omega⟩
                      | true =>
                        by_cases hlt0 : (t : Int) < q0
                        · have hd : decide ((t : Int) < q0) = true := by simp [hlt0]
                          go_wp2_with fail
                          exact ⟨⟨k + 1, by omega, by go_num, by rw [HOk.out, ← Bool.and_assoc, HCB.out, HOg.out, hd]; rfl, trivial⟩, by simp [intOf]; omega⟩
                        · have hd : decide ((t : Int) < q0) = false := by simp [hlt0]
                          go_wp2_with fail
                          exact ⟨⟨k + 1, by omega, by go_num, by rw [HOk.out, ← Bool.and_assoc, HCB.out, HOg.out, hd]; rfl, trivial⟩, by simp [intOf]; omega⟩
                    · obtain rfl : k = GG.length := by omega
                      rw [HSpt.out]
                      cases qb with
                      | false =>
                        have hxx := Lib.hid (HXt.out rfl)
                        have h00 : FloatKind.f32.format.order r5 0 = some .eq := by rw [HNone.out rfl]; decide +kernel
                        clear HNone HYt
                        go_wp2_with fail
                        refine ⟨⟨t + 1, by omega, by go_num, ?_, ?_, HC.out⟩, by simp [intOf]; omega⟩
                        · rw [← mixTo_skip _ _ _ (by rw [HN1.out, HD1.out, hxx.out])]
                          exact P1.out
                        · rw [← mixI_skip _ _ _ (by rw [HN2.out, HD2.out, hxx.out])]
                          exact P2.out
                      | true =>
                        have hxx := HYt.out rfl
                        clear HNone HXt
                        go_wp2_with fail
                        refine region_rel_tail 10 (by kernel_rfl) (by kernel_rfl) (Drawn wk) (fun _ _ _ => False) ⟨1, rfl⟩ ?_
                        simp only [List.take_succ_cons, List.take_zero, List.drop_succ_cons, List.drop_zero]
                        iterate 8 (refine wpRel_draw rfl rfl (fun nq K hK => ?_); go_wp2)
                        refine wpRel_draw rfl rfl (fun nq9 K hK => ?_)
                        have HXX := Lib.hid hxx
                        clear hxx
                        go_wp2
                        have HFr : FV .f32 (fres .add .f32 r0 r5 (wk.drewN nq9)) (fop .add .f32 (sumJ Fs 0 Ss t j).1 qx) := FV.op (op := .add) HR1.out HF5.out (wk.drewN nq9)
                        refine wpRel_draw rfl rfl (fun nq10 K hK => ?_)
                        go_wp2
                        refine wpRel_nil ?_
                        rintro wd ⟨nd, hwd⟩
                        have bd : Ext wk wd := by rw [hwd]; exact Below.drewN (Below.refl _ _) nd
                        obtain ⟨v1, v2, v3⟩ := add_step hne (P1.out.kept bd) (OwnI.kept P2.out bd) (sumN_length _ _ _ _ _) (sumC_length _ _ _ _ _) HFr (by rw [HN1.out, HXX.out]) (show _ = ys + 1 by rw [HN2.out, HXX.out, ← HYS.out])
                        have V1 := Lib.hid v1
                        have V2 := Lib.hid v2
                        have V3 := Lib.hid ((HC.out.trans (Chg.of_below bd _)).trans v3)
                        have hi0' : wd.cell? ⟨g2, t, none⟩ = some (.int .i64 ys) := by rw [hwd]; exact hi0
                        have hr0' : wd.cell? ⟨g1, t, none⟩ = some (.float .f32 r0) := by rw [hwd]; exact hr0
                        have hff1' : wd.frozen? ⟨g1, t, none⟩ = false := by rw [hwd]; exact hff1
                        have hff2' : wd.frozen? ⟨g2, t, none⟩ = false := by rw [hwd]; exact hff2
                        clear v1 v2 v3 bd hwd HFr HR1 HF5 hb6 hr5 P1 P2 hi0 hr0 hff1 hff2
                        have HNE := hne
                        clear hadd
                        go_wp2_with fail
                        exact ⟨⟨t + 1, by omega, by go_num, V1.out, V2.out, V3.out⟩, by simp [intOf]; omega⟩
            · obtain rfl : t = 40 := by omega
              have h1 := P1.out
              have h2 := P2.out
              rw [mixTo_all _ _ _ (by rw [sumN_length]; exact Nat.le_refl _) (by rw [sumN_length, sumN_length])] at h1
              rw [mixI_all _ _ _ (by rw [sumC_length]; exact Nat.le_refl _) (by rw [sumC_length, sumC_length])] at h2
              have HE := Lib.hid (HEnd.out wk hc h1 h2)
              clear p1 p2 h1 h2 hc
              go_wp2_with fail
              exact ⟨⟨j + 1, Et ++ Ei, by omega, by go_num, HE.out⟩, by simp [intOf]; omega⟩
      · as_aux_lemma =>
          obtain rfl : j = Ss.length := by omega
          have HSlen := Lib.hid (sortF_length Fs)
          have htot : RdFr wi u15 (sortF Fs) := by
            have := HR.out.ot.rdFr HR.out.rt
            rw [HR.out.et] at this
            rw [← totF_all Fs, HSs.out]
            exact this
          have HTot := Lib.hid htot
          obtain ⟨aT, cT, hvT, -⟩ := htot.opened
          subst hvT
          have GI := Lib.hid (G.out.mono HR.out.x)
          obtain ⟨hc1, -⟩ := HR.out.o1.cells (sumN_length _ _ _ _ _)
          obtain ⟨hc2, -⟩ := HR.out.o2.cells (sumC_length _ _ _ _ _)
          obtain ⟨bu, ou, cu', hvu, -, hbu, hcu⟩ := GI.out.u.at_block (by rw [sumN_length]; omega)
          obtain ⟨ac', cc', hvc, -, -, hcc⟩ := GI.out.c.opened
          obtain ⟨bc, oc, hac, hbc, -⟩ := hcc 0 (by rw [sumC_length]; omega)
          obtain rfl : au = some ⟨bu, ou, none⟩ := by cases hvu; rfl
          have hac2 : ac = some ⟨bc, oc, none⟩ := by cases hvc; exact hac
          subst hac2
          have HCells : Hid (∀ t : Nat, t < 40 → ∃ r1 r2, wi.cell? ⟨g1, t, none⟩ = some (.float .f32 r1) ∧ wi.cell? ⟨bu, ou + t, none⟩ = some (.float .f32 r2) ∧ FloatKind.f32.format.order r1 r2 = some .eq ∧ wi.cell? ⟨g2, t, none⟩ = some (.int .i64 (sumJ Fs 0 Ss t Ss.length).2) ∧ wi.cell? ⟨bc, oc + t, none⟩ = some (.int .i64 (sumJ Fs 0 Ss t Ss.length).2)) := Lib.hid fun t ht => by
            obtain ⟨r1, p1, f1⟩ := hc1 t ht
            obtain ⟨r2, p2, f2⟩ := hcu t (by rw [sumN_length]; exact ht)
            have p3 := hc2 t ht
            obtain ⟨b', o', hab, -, p4⟩ := hcc t (by rw [sumC_length]; exact ht)
            have e : b' = bc ∧ o' = oc := by rw [hac] at hab; cases hab; exact ⟨rfl, rfl⟩
            obtain ⟨rfl, rfl⟩ := e
            rw [HSs.out, sumN_at _ _ _ _ _ _ ht] at f2
            rw [sumN_at _ _ _ _ _ _ ht] at f1
            rw [sumC_at _ _ _ _ _ _ ht] at p3
            rw [HSs.out, sumC_at _ _ _ _ _ _ ht] at p4
            obtain ⟨z, hz, -⟩ := sumJ_fx Fs HEV.out 0 Ss t Ss.length (by omega)
            exact ⟨r1, r2, p1, p2, hz.same f1 f2, p3, p4⟩
          have BI : Hid (Below w.heap.size w wi) := Lib.hid GI.out.bel
          have HS2 : Hid (RdFr wi (.slice axs Fs.length cxs) (sortF Fs)) := Lib.hid GI.out.s
          clear hc1 hc2 hbu hcu hvu hcc hac hbc hvc htot HR G
          rw [HSlen.out] at HTot ⊢
          go_wp2_with fail
          go_loopw [248] (fun i wr => ∃ t q : Nat, t ≤ 40 ∧ i = .int .i64 t ∧ wr = wi.drewN q) (fun i _ => 40 - (intOf i).toNat)
          case atStart => exact ⟨0, 0, by omega, rfl, rfl⟩
          case round =>
            obtain ⟨wk, rfl⟩ : ∃ wk : World, wk = wr := ⟨_, rfl⟩
            obtain ⟨t, q5, ht4, rfl, hq5⟩ := hrel
            have Hq := Lib.hid hq5
            by_cases hlt4 : t < 40
            · obtain ⟨r1, r2, p1, p2, hord, p3, p4⟩ := HCells.out t hlt4
              replace p1 : wk.cell? ⟨g1, t, none⟩ = some (.float .f32 r1) := by rw [hq5]; exact p1
              replace p2 : wk.cell? ⟨bu, ou + t, none⟩ = some (.float .f32 r2) := by rw [hq5]; exact p2
              obtain ⟨ys, hys⟩ : ∃ y, (sumJ Fs 0 Ss t Ss.length).2 = y := ⟨_, rfl⟩
              replace p3 : wk.cell? ⟨g2, t, none⟩ = some (.int .i64 ys) := by rw [hq5, ← hys]; exact p3
              replace p4 : wk.cell? ⟨bc, oc + t, none⟩ = some (.int .i64 ys) := by rw [hq5, ← hys]; exact p4
              clear hq5 hys
              go_wp2_with fail
              refine region_rel_all (by kernel_rfl) (by kernel_rfl) (Drawn wk) (fun _ _ _ => False) ⟨1, rfl⟩ ?_
              iterate 20 (refine wpRel_draw rfl rfl (fun nq K hK => ?_); go_wp2)
              refine wpRel_nil ?_
              rintro wd' ⟨nd, hwd⟩
              have Hwd := Lib.hid hwd
              clear hwd p1 p2 p3 p4 hord
              go_wp2_with fail
              exact ⟨⟨t + 1, q5 + nd, by omega, by go_num, by rw [Hwd.out, Hq.out, World.drewN_drewN]⟩, by simp [intOf]; omega⟩
            · obtain rfl : t = 40 := by omega
              have XK : Ext wi wk := by rw [hq5]; exact Below.drewN (Below.refl _ _) q5
              have HXK := Lib.hid XK
              have hL11 : ∀ j, j < (sortF Fs).length → (frAt (sortF Fs) j).L.length ≤ 1000 := fun j hj => by
                have := (Ev_sort HEV.out _ (frAt_mem hj)).len
                omega
              have HFE := Lib.hid (b10FramesE_any wk _ _ (sortF Fs) (HTot.out.mono XK) (HS2.out.mono XK) (by rw [HSlen.out]; omega) hL11)
              clear hq5 Hq XK hL11
              go_wp2_with fail
              refine HFE.out.mono ?_
              rintro e wF ⟨rfl, bF⟩
              have BF : Hid (Below w.heap.size w wF) := Lib.hid ((BI.out.trans (HXK.out.mono BI.out.size)).trans (bF.mono (by have := BI.out.size; have := HXK.out.size; omega)))
              clear HFE bF HXK HTot HS2 HCells BI GI
              go_wp2_with fail
              refine (b10FrameD_any wF _ n2 (H2.out.mono BF.out) l2).mono ?_
              rintro e wG ⟨f, vf, rfl, evf, oG, bG⟩
              obtain ⟨st, sa, L⟩ := f
              simp only at oG
              obtain ⟨af, nf, cf, rfl, hnf⟩ := oG.rd.slice2
              obtain ⟨wH, hwH⟩ : ∃ wH, wG.alloc (.cells #[.int .i64 st, .int .i64 sa, .slice af nf cf] 31) = wH := ⟨_, rfl⟩
              have xh : Ext wG wH := by rw [← hwH]; exact (Below.refl _ _).alloc (Nat.le_refl _) _
              have hh0 : wH.heap[wG.heap.size]? = some (.cells #[.int .i64 st, .int .i64 sa, .slice af nf cf] 31 (0, 0)) := by rw [← hwH]; exact alloc_new _ _
              obtain ⟨gf, hgf⟩ : ∃ gf, wG.heap.size = gf := ⟨_, rfl⟩
              rw [hgf] at hh0
              have bG' : Below w.heap.size w wG := BF.out.trans (bG.mono BF.out.size)
              have BH := Lib.hid (bG'.trans (xh.mono bG'.size))
              have RF : Hid (RdF wH (.slice af nf cf) L) := Lib.hid (oG.kept xh).rd
              have HGf := Lib.hid hh0
              have FX : Hid (∀ wq, Ext wH wq → wq.cell? ⟨gf, 0, none⟩ = some (.int .i64 st) ∧ wq.cell? ⟨gf, 1, none⟩ = some (.int .i64 sa) ∧ wq.cell? ⟨gf, 2, none⟩ = some (.slice af nf cf)) := Lib.hid fun wq hq => by
                obtain ⟨k0, k1, k2, -, -, -⟩ := blk3 ((hq.block gf (Array.getElem?_eq_some_iff.1 HGf.out).1).trans HGf.out)
                exact ⟨k0, k1, k2⟩
              have HEvf := Lib.hid evf
              have hlen := evf.len
              simp only at hlen
              have HNf := Lib.hid hnf
              rw [← hnf] at hlen
              clear xh hh0 bG bG' oG evf BF hnf
              obtain ⟨k0, k1, k2⟩ := FX.out wH (Ext.refl _)
              by_cases hl2 : nf < 2
              · go_wp2_with fail
                go_ret
                exact TrueB.mk BH.out
              · have hn2 : ¬ ((nf : Int) < 2) := by omega
                skip
                have HSq : Hid (∀ wq r, Ext wH wq → ∀ m : Nat, r = (m : Int) → 1 ≤ m → m + 1 ≤ nf → Calls Try.prog 45 #[.agg #[.int .i64 st, .int .i64 sa, .slice af nf cf], .int .i64 r] wq fun e w' => ∃ va vb, e = .returned (.tuple #[.agg #[.int .i64 st, .int .i64 sa, va], .agg #[.int .i64 st, .int .i64 (sa + m), vb], .bool true]) ∧ OwnF w' wq.heap.size va (L.take m) ∧ OwnF w' wq.heap.size vb (L.drop m) ∧ Below wq.heap.size wq w') := Lib.hid fun wq r hq m hr hm1 hm2 => by
                  subst hr
                  have hok := snd_ok HEvf.out (m := m) (by show m + 1 ≤ L.length; rw [← HNf.out]; exact hm2)
                  exact splitFrame_any wq ⟨st, sa, L⟩ (.slice af nf cf) m (RF.out.mono hq) HEvf.out hm1 (by show m + 1 ≤ L.length; rw [← HNf.out]; exact hm2) hok
                have HAt : Hid (∀ wq, Ext wH wq → Calls Try.prog 19 #[.slice a2 n2 c2, .int .i64 0, .int .i64 ((nf : Int) - 1)] wq fun e w' => ∃ m : Nat, e = .returned (.int .i64 ((m : Int) - 1)) ∧ 1 ≤ m ∧ m + 1 ≤ nf ∧ w' = wq) := Lib.hid fun wq hq => b10AtN_any wq _ n2 nf ((H2.out.mono BH.out).mono hq) l2 (by omega) (by omega)
                go_wp2_with fail
                go_cut [34, 35, 36] (fun s34 s35 s36 wx => CutR wH st sa nf L s34 s35 s36 wx)
                case first =>
                  as_aux_lemma =>
                    clear k0 k1 k2 hwH
                    refine wp_region_held_drew (S := fun w' => Ext wH w') (by kernel_rfl) (Below.drewN (Below.refl _ _) 1) (fun hE => ?_)
                    obtain ⟨wr, hwr⟩ : ∃ wr, wH.drew = wr := ⟨_, rfl⟩
                    rw [hwr] at hE ⊢
                    clear hwr
                    have hwp : IntKind.i64.wrap ((nf : Int) - 1) = (nf : Int) - 1 := i64_wrapR _ (by omega) (by omega)
                    refine wpAnyH_take (i := 0) (oi := ⟨some 290, _, _, _, _, _⟩) (v := .agg #[.int .i64 st, .int .i64 sa, .slice af nf cf]) rfl (by kernel_rfl) (by kernel_rfl) (by kernel_rfl) (fun _ _ _ h => h) (Or.inl ⟨by rfl, (by intro wq hq; obtain ⟨k0, k1, k2⟩ := FX.out wq hq; go_simp)⟩) hE ?_; try simp only [Act.put, List.setIfInBounds_toArray, List.set_cons_zero, List.set_cons_succ]
                    refine wpAnyH_take (i := 1) (oi := ⟨some 291, _, _, _, _, _⟩) (v := .slice a2 n2 c2) rfl (by kernel_rfl) (by kernel_rfl) (by kernel_rfl) (fun _ _ _ h => h) (Or.inl ⟨by rfl, (by intro wq hq; go_simp)⟩) hE ?_; try simp only [Act.put, List.setIfInBounds_toArray, List.set_cons_zero, List.set_cons_succ]
                    refine wpAnyH_take (i := 2) (oi := ⟨some 292, _, _, _, _, _⟩) (v := .pointer (some ⟨gf, 2, none⟩)) rfl (by kernel_rfl) (by kernel_rfl) (by kernel_rfl) (fun _ _ _ h => h) (Or.inl ⟨by rfl, (by intro wq hq; go_simp)⟩) hE ?_; try simp only [Act.put, List.setIfInBounds_toArray, List.set_cons_zero, List.set_cons_succ]
                    refine wpAnyH_take (i := 3) (oi := ⟨some 293, _, _, _, _, _⟩) (v := .slice af nf cf) rfl (by kernel_rfl) (by kernel_rfl) (by kernel_rfl) (fun _ _ _ h => h) (Or.inl ⟨by rfl, (by intro wq hq; obtain ⟨k0, k1, k2⟩ := FX.out wq hq; go_simp)⟩) hE ?_; try simp only [Act.put, List.setIfInBounds_toArray, List.set_cons_zero, List.set_cons_succ]
                    refine wpAnyH_take (i := 4) (oi := ⟨some 294, _, _, _, _, _⟩) (v := .int .i64 (nf : Int)) rfl (by kernel_rfl) (by kernel_rfl) (by kernel_rfl) (fun _ _ _ h => h) (Or.inl ⟨by rfl, (by intro wq hq; go_simp)⟩) hE ?_; try simp only [Act.put, List.setIfInBounds_toArray, List.set_cons_zero, List.set_cons_succ]
                    refine wpAnyH_take (i := 5) (oi := ⟨some 295, _, _, _, _, _⟩) (v := .int .i64 ((nf : Int) - 1)) rfl (by kernel_rfl) (by kernel_rfl) (by kernel_rfl) (fun _ _ _ h => h) (Or.inl ⟨by rfl, (by intro wq hq; go_simp)⟩) hE ?_; try simp only [Act.put, List.setIfInBounds_toArray, List.set_cons_zero, List.set_cons_succ]
                    refine wpAnyH_ready (rs := [6, 13, 14]) (by kernel_rfl) (by simp) (AllReadyH.cons rfl (fun K hK => ?_) (AllReadyH.cons rfl (fun K hK => ?_) (AllReadyH.cons rfl (fun K hK => ?_) AllReadyH.nil)))
                    · as_aux_lemma =>
                        go_simp
                        refine (HAt.out _ hE).mono ?_
                        rintro e wq ⟨m, rfl, hm1, hm2, hwq⟩
                        obtain rfl : wr = wq := hwq.symm
                        clear hwq
                        refine hK.out _ _ hE (fun _ => ?_)
                        clear hK K
                        try simp only [Act.put, List.setIfInBounds_toArray, List.set_cons_zero, List.set_cons_succ]
                        have hwm : IntKind.i64.wrap (1 + ((m : Int) - 1)) = (m : Int) := by rw [i64_wrapR _ (by omega) (by omega)]; omega
                        refine wpAnyH_take (i := 7) (oi := ⟨some 297, _, _, _, _, _⟩) (v := .int .i64 (m : Int)) rfl (by kernel_rfl) (by kernel_rfl) (by kernel_rfl) (fun _ _ _ h => h) (Or.inl ⟨by rfl, (by intro wq hq; first | (go_simp; done) | (go_simp; omega))⟩) hE ?_; try simp only [Act.put, List.setIfInBounds_toArray, List.set_cons_zero, List.set_cons_succ]
                        refine wpAnyH_ready (rs := [8, 13, 14]) (by kernel_rfl) (by simp) (AllReadyH.cons rfl (fun K hK => ?_) (AllReadyH.cons rfl (fun K hK => ?_) (AllReadyH.cons rfl (fun K hK => ?_) AllReadyH.nil)))
                        · as_aux_lemma =>
                            go_simp
                            refine (HSq.out _ (m : Int) hE m rfl hm1 hm2).mono ?_
                            rintro e w8 ⟨va, vb, rfl, oa, ob, bs8⟩
                            have xs : Ext wr w8 := bs8
                            have hVa : OwnF w8 wH.heap.size va (L.take m) := oa.mono hE.size
                            have hVb : OwnF w8 wH.heap.size vb (L.drop m) := ob.mono hE.size
                            replace hE : Ext wH w8 := hE.trans xs
                            obtain ⟨x1, y1, z1, rfl, -⟩ := hVa.rd.slice2
                            obtain ⟨x2, y2, z2, rfl, -⟩ := hVb.rd.slice2
                            clear oa ob bs8 xs
                            refine hK.out _ _ hE (fun _ => ?_)
                            clear hK K
                            try simp only [Act.put, List.setIfInBounds_toArray, List.set_cons_zero, List.set_cons_succ]
                            skip
                            skip
                            refine wpAnyH_take (i := 9) (oi := ⟨some 289, _, _, _, _, _⟩) (v := .tuple #[.agg #[.int .i64 st, .int .i64 sa, .slice x1 y1 z1], .agg #[.int .i64 st, .int .i64 (sa + m), .slice x2 y2 z2], .bool true]) rfl (by kernel_rfl) (by kernel_rfl) (by kernel_rfl) (fun _ _ _ h => h) (Or.inl ⟨by rfl, (by intro wq hq; go_simp)⟩) hE ?_; try simp only [Act.put, List.setIfInBounds_toArray, List.set_cons_zero, List.set_cons_succ]
                            refine wpAnyH_take (i := 10) (oi := ⟨some 299, _, _, _, _, _⟩) (v := .agg #[.int .i64 st, .int .i64 sa, .slice x1 y1 z1]) rfl (by kernel_rfl) (by kernel_rfl) (by kernel_rfl) (fun _ _ _ h => h) (Or.inl ⟨by rfl, (by intro wq hq; go_simp)⟩) hE ?_; try simp only [Act.put, List.setIfInBounds_toArray, List.set_cons_zero, List.set_cons_succ]
                            refine wpAnyH_take (i := 11) (oi := ⟨some 300, _, _, _, _, _⟩) (v := .agg #[.int .i64 st, .int .i64 (sa + m), .slice x2 y2 z2]) rfl (by kernel_rfl) (by kernel_rfl) (by kernel_rfl) (fun _ _ _ h => h) (Or.inl ⟨by rfl, (by intro wq hq; go_simp)⟩) hE ?_; try simp only [Act.put, List.setIfInBounds_toArray, List.set_cons_zero, List.set_cons_succ]
                            refine wpAnyH_take (i := 12) (oi := ⟨some 301, _, _, _, _, _⟩) (v := .bool true) rfl (by kernel_rfl) (by kernel_rfl) (by kernel_rfl) (fun _ _ _ h => h) (Or.inl ⟨by rfl, (by intro wq hq; go_simp)⟩) hE ?_; try simp only [Act.put, List.setIfInBounds_toArray, List.set_cons_zero, List.set_cons_succ]
                            skip
                            refine wpAnyH_ready (rs := [13, 14]) (by kernel_rfl) (by simp) (AllReadyH.cons rfl (fun K hK => ?_) (AllReadyH.cons rfl (fun K hK => ?_) AllReadyH.nil))
                            · as_aux_lemma =>
                                go_simp
                                have xa : Ext w8 (w8.alloc (.cells #[.int .i64 0, .int .i64 0, .slice none 0 0] 31)) := (Below.refl _ _).alloc (Nat.le_refl _) _
                                have h13 := alloc_new w8 (.cells #[.int .i64 0, .int .i64 0, .slice none 0 0] 31)
                                have hg13 : wH.heap.size ≤ w8.heap.size := hE.size
                                replace hE : Ext wH _ := hE.trans xa
                                replace hVa := hVa.kept xa
                                replace hVb := hVb.kept xa
                                obtain ⟨ga, hgx⟩ : ∃ g, w8.heap.size = g := ⟨_, rfl⟩
                                rw [hgx] at h13 hg13
                                try rw [hgx]
                                refine hK.out _ _ hE (fun _ => ?_)
                                clear hK K
                                try simp only [Act.put, List.setIfInBounds_toArray, List.set_cons_zero, List.set_cons_succ]
                                obtain ⟨w13_2, hwx⟩ : ∃ x, w8.alloc (.cells #[.int .i64 0, .int .i64 0, .slice none 0 0] 31) = x := ⟨_, rfl⟩
                                rw [hwx] at hE h13 hVa hVb ⊢
                                clear hwx hgx xa
                                refine wpAnyH_ready (rs := [14]) (by kernel_rfl) (by simp) (AllReadyH.cons rfl (fun K hK => ?_) AllReadyH.nil)
                                go_simp
                                have xa : Ext w13_2 (w13_2.alloc (.cells #[.int .i64 0, .int .i64 0, .slice none 0 0] 31)) := (Below.refl _ _).alloc (Nat.le_refl _) _
                                have h14 := alloc_new w13_2 (.cells #[.int .i64 0, .int .i64 0, .slice none 0 0] 31)
                                have hg14 : wH.heap.size ≤ w13_2.heap.size := hE.size
                                replace hE : Ext wH _ := hE.trans xa
                                have hab : w13_2.heap.size ≠ ga := by have := (Array.getElem?_eq_some_iff.1 h13).1; omega
                                replace h13 := (xa.block _ (Array.getElem?_eq_some_iff.1 h13).1).trans h13
                                replace hVa := hVa.kept xa
                                replace hVb := hVb.kept xa
                                obtain ⟨gb, hgx⟩ : ∃ g, w13_2.heap.size = g := ⟨_, rfl⟩
                                rw [hgx] at h14 hg14 hab
                                try rw [hgx]
                                refine hK.out _ _ hE (fun _ => ?_)
                                clear hK K
                                try simp only [Act.put, List.setIfInBounds_toArray, List.set_cons_zero, List.set_cons_succ]
                                obtain ⟨w14_3, hwx⟩ : ∃ x, w13_2.alloc (.cells #[.int .i64 0, .int .i64 0, .slice none 0 0] 31) = x := ⟨_, rfl⟩
                                rw [hwx] at hE h14 h13 hVa hVb ⊢
                                clear hwx hgx xa
                                refine wpAnyH_ready (rs := [15]) (by kernel_rfl) (by simp) (AllReadyH.cons rfl (fun K hK => ?_) AllReadyH.nil)
                                obtain ⟨c0, c1', c2', f0, f1, f2⟩ := blk3 h13
                                have PX := put3 h13 (.int .i64 st) (.int .i64 sa) (.slice x1 y1 z1)
                                go_simp
                                replace hE : Ext wH _ := Below.chg hE PX.chg (fun k hk => by omega) hE.size
                                replace h14 := (PX.chg.block _ (Array.getElem?_eq_some_iff.1 h14).1 (by omega)).trans h14
                                have nA := hVa.apart h13 (by decide)
                                have nB := hVb.apart h13 (by decide)
                                replace hVa := hVa.chg PX.chg nA
                                replace hVb := hVb.chg PX.chg nB
                                replace h13 := PX.heap
                                refine hK.out _ _ hE (fun _ => ?_)
                                clear hK K
                                try simp only [Act.put, List.setIfInBounds_toArray, List.set_cons_zero, List.set_cons_succ]
                                obtain ⟨w15_4, hwx⟩ : ∃ x, ((w14_3.setCell ⟨ga, 0, none⟩ (.int .i64 st)).setCell ⟨ga, 1, none⟩ (.int .i64 sa)).setCell ⟨ga, 2, none⟩ (.slice x1 y1 z1) = x := ⟨_, rfl⟩
                                rw [hwx] at hE hVa hVb h13 h14 ⊢
                                clear hwx c0 c1' c2' f0 f1 f2 PX nA nB
                                refine wpAnyH_ready (rs := [16]) (by kernel_rfl) (by simp) (AllReadyH.cons rfl (fun K hK => ?_) AllReadyH.nil)
                                obtain ⟨c0, c1', c2', f0, f1, f2⟩ := blk3 h14
                                have PX := put3 h14 (.int .i64 st) (.int .i64 (sa + m)) (.slice x2 y2 z2)
                                go_simp
                                replace hE : Ext wH _ := Below.chg hE PX.chg (fun k hk => by omega) hE.size
                                replace h13 := (PX.chg.block _ (Array.getElem?_eq_some_iff.1 h13).1 (by omega)).trans h13
                                have nA := hVa.apart h14 (by decide)
                                have nB := hVb.apart h14 (by decide)
                                replace hVa := hVa.chg PX.chg nA
                                replace hVb := hVb.chg PX.chg nB
                                replace h14 := PX.heap
                                refine hK.out _ _ hE (fun _ => ?_)
                                clear hK K
                                try simp only [Act.put, List.setIfInBounds_toArray, List.set_cons_zero, List.set_cons_succ]
                                obtain ⟨w16_5, hwx⟩ : ∃ x, ((w15_4.setCell ⟨gb, 0, none⟩ (.int .i64 st)).setCell ⟨gb, 1, none⟩ (.int .i64 (sa + m))).setCell ⟨gb, 2, none⟩ (.slice x2 y2 z2) = x := ⟨_, rfl⟩
                                rw [hwx] at hE hVa hVb h13 h14 ⊢
                                clear hwx c0 c1' c2' f0 f1 f2 PX nA nB
                                refine wpAnyH_take (i := 17) (oi := ⟨some 36, .assign (.tmp 301), 4, _, _, none⟩) (v := .bool true) rfl (by kernel_rfl) (by kernel_rfl) (by kernel_rfl) (fun _ _ _ h => h) (Or.inl ⟨by rfl, (by intro wq hq; go_simp)⟩) hE ?_; try simp only [Act.put, List.setIfInBounds_toArray, List.set_cons_zero, List.set_cons_succ]
                                refine wpAnyH_done (by kernel_rfl) ?_ _
                                go_wp2_with fail
                                go_meet
                                exact ⟨ga, gb, m, _, _, rfl, rfl, rfl, hm1, hm2, hE, h13, h14, hVa.rd, hVb.rd⟩
                            · as_aux_lemma =>
                                go_simp
                                have xa : Ext w8 (w8.alloc (.cells #[.int .i64 0, .int .i64 0, .slice none 0 0] 31)) := (Below.refl _ _).alloc (Nat.le_refl _) _
                                have h14 := alloc_new w8 (.cells #[.int .i64 0, .int .i64 0, .slice none 0 0] 31)
                                have hg14 : wH.heap.size ≤ w8.heap.size := hE.size
                                replace hE : Ext wH _ := hE.trans xa
                                replace hVa := hVa.kept xa
                                replace hVb := hVb.kept xa
                                obtain ⟨gb, hgx⟩ : ∃ g, w8.heap.size = g := ⟨_, rfl⟩
                                rw [hgx] at h14 hg14
                                try rw [hgx]
                                refine hK.out _ _ hE (fun _ => ?_)
                                clear hK K
                                try simp only [Act.put, List.setIfInBounds_toArray, List.set_cons_zero, List.set_cons_succ]
                                obtain ⟨w14_2, hwx⟩ : ∃ x, w8.alloc (.cells #[.int .i64 0, .int .i64 0, .slice none 0 0] 31) = x := ⟨_, rfl⟩
                                rw [hwx] at hE h14 hVa hVb ⊢
                                clear hwx hgx xa
                                refine wpAnyH_ready (rs := [13]) (by kernel_rfl) (by simp) (AllReadyH.cons rfl (fun K hK => ?_) AllReadyH.nil)
                                go_simp
                                have xa : Ext w14_2 (w14_2.alloc (.cells #[.int .i64 0, .int .i64 0, .slice none 0 0] 31)) := (Below.refl _ _).alloc (Nat.le_refl _) _
                                have h13 := alloc_new w14_2 (.cells #[.int .i64 0, .int .i64 0, .slice none 0 0] 31)
                                have hg13 : wH.heap.size ≤ w14_2.heap.size := hE.size
                                replace hE : Ext wH _ := hE.trans xa
                                have hab : w14_2.heap.size ≠ gb := by have := (Array.getElem?_eq_some_iff.1 h14).1; omega
                                replace h14 := (xa.block _ (Array.getElem?_eq_some_iff.1 h14).1).trans h14
                                replace hVa := hVa.kept xa
                                replace hVb := hVb.kept xa
                                obtain ⟨ga, hgx⟩ : ∃ g, w14_2.heap.size = g := ⟨_, rfl⟩
                                rw [hgx] at h13 hg13 hab
                                try rw [hgx]
                                refine hK.out _ _ hE (fun _ => ?_)
                                clear hK K
                                try simp only [Act.put, List.setIfInBounds_toArray, List.set_cons_zero, List.set_cons_succ]
                                obtain ⟨w13_3, hwx⟩ : ∃ x, w14_2.alloc (.cells #[.int .i64 0, .int .i64 0, .slice none 0 0] 31) = x := ⟨_, rfl⟩
                                rw [hwx] at hE h13 h14 hVa hVb ⊢
                                clear hwx hgx xa
                                refine wpAnyH_ready (rs := [15]) (by kernel_rfl) (by simp) (AllReadyH.cons rfl (fun K hK => ?_) AllReadyH.nil)
                                obtain ⟨c0, c1', c2', f0, f1, f2⟩ := blk3 h13
                                have PX := put3 h13 (.int .i64 st) (.int .i64 sa) (.slice x1 y1 z1)
                                go_simp
                                replace hE : Ext wH _ := Below.chg hE PX.chg (fun k hk => by omega) hE.size
                                replace h14 := (PX.chg.block _ (Array.getElem?_eq_some_iff.1 h14).1 (by omega)).trans h14
                                have nA := hVa.apart h13 (by decide)
                                have nB := hVb.apart h13 (by decide)
                                replace hVa := hVa.chg PX.chg nA
                                replace hVb := hVb.chg PX.chg nB
                                replace h13 := PX.heap
                                refine hK.out _ _ hE (fun _ => ?_)
                                clear hK K
                                try simp only [Act.put, List.setIfInBounds_toArray, List.set_cons_zero, List.set_cons_succ]
                                obtain ⟨w15_4, hwx⟩ : ∃ x, ((w13_3.setCell ⟨ga, 0, none⟩ (.int .i64 st)).setCell ⟨ga, 1, none⟩ (.int .i64 sa)).setCell ⟨ga, 2, none⟩ (.slice x1 y1 z1) = x := ⟨_, rfl⟩
                                rw [hwx] at hE hVa hVb h13 h14 ⊢
                                clear hwx c0 c1' c2' f0 f1 f2 PX nA nB
                                refine wpAnyH_ready (rs := [16]) (by kernel_rfl) (by simp) (AllReadyH.cons rfl (fun K hK => ?_) AllReadyH.nil)
                                obtain ⟨c0, c1', c2', f0, f1, f2⟩ := blk3 h14
                                have PX := put3 h14 (.int .i64 st) (.int .i64 (sa + m)) (.slice x2 y2 z2)
                                go_simp
                                replace hE : Ext wH _ := Below.chg hE PX.chg (fun k hk => by omega) hE.size
                                replace h13 := (PX.chg.block _ (Array.getElem?_eq_some_iff.1 h13).1 (by omega)).trans h13
                                have nA := hVa.apart h14 (by decide)
                                have nB := hVb.apart h14 (by decide)
                                replace hVa := hVa.chg PX.chg nA
                                replace hVb := hVb.chg PX.chg nB
                                replace h14 := PX.heap
                                refine hK.out _ _ hE (fun _ => ?_)
                                clear hK K
                                try simp only [Act.put, List.setIfInBounds_toArray, List.set_cons_zero, List.set_cons_succ]
                                obtain ⟨w16_5, hwx⟩ : ∃ x, ((w15_4.setCell ⟨gb, 0, none⟩ (.int .i64 st)).setCell ⟨gb, 1, none⟩ (.int .i64 (sa + m))).setCell ⟨gb, 2, none⟩ (.slice x2 y2 z2) = x := ⟨_, rfl⟩
                                rw [hwx] at hE hVa hVb h13 h14 ⊢
                                clear hwx c0 c1' c2' f0 f1 f2 PX nA nB
                                refine wpAnyH_take (i := 17) (oi := ⟨some 36, .assign (.tmp 301), 4, _, _, none⟩) (v := .bool true) rfl (by kernel_rfl) (by kernel_rfl) (by kernel_rfl) (fun _ _ _ h => h) (Or.inl ⟨by rfl, (by intro wq hq; go_simp)⟩) hE ?_; try simp only [Act.put, List.setIfInBounds_toArray, List.set_cons_zero, List.set_cons_succ]
                                refine wpAnyH_done (by kernel_rfl) ?_ _
                                go_wp2_with fail
                                go_meet
                                exact ⟨ga, gb, m, _, _, rfl, rfl, rfl, hm1, hm2, hE, h13, h14, hVa.rd, hVb.rd⟩
                        · as_aux_lemma =>
                            go_simp
                            have xa : Ext wr (wr.alloc (.cells #[.int .i64 0, .int .i64 0, .slice none 0 0] 31)) := (Below.refl _ _).alloc (Nat.le_refl _) _
                            have h13 := alloc_new wr (.cells #[.int .i64 0, .int .i64 0, .slice none 0 0] 31)
                            have hg13 : wH.heap.size ≤ wr.heap.size := hE.size
                            replace hE : Ext wH _ := hE.trans xa
                            obtain ⟨ga, hgx⟩ : ∃ g, wr.heap.size = g := ⟨_, rfl⟩
                            rw [hgx] at h13 hg13
                            try rw [hgx]
                            refine hK.out _ _ hE (fun _ => ?_)
                            clear hK K
                            try simp only [Act.put, List.setIfInBounds_toArray, List.set_cons_zero, List.set_cons_succ]
                            obtain ⟨w13_1, hwx⟩ : ∃ x, wr.alloc (.cells #[.int .i64 0, .int .i64 0, .slice none 0 0] 31) = x := ⟨_, rfl⟩
                            rw [hwx] at hE h13 ⊢
                            clear hwx hgx xa
                            refine wpAnyH_ready (rs := [8, 14]) (by kernel_rfl) (by simp) (AllReadyH.cons rfl (fun K hK => ?_) (AllReadyH.cons rfl (fun K hK => ?_) AllReadyH.nil))
                            · as_aux_lemma =>
                                go_simp
                                refine (HSq.out _ (m : Int) hE m rfl hm1 hm2).mono ?_
                                rintro e w8 ⟨va, vb, rfl, oa, ob, bs8⟩
                                have xs : Ext w13_1 w8 := bs8
                                have hVa : OwnF w8 wH.heap.size va (L.take m) := oa.mono hE.size
                                have hVb : OwnF w8 wH.heap.size vb (L.drop m) := ob.mono hE.size
                                replace hE : Ext wH w8 := hE.trans xs
                                replace h13 := (xs.block _ (Array.getElem?_eq_some_iff.1 h13).1).trans h13
                                obtain ⟨x1, y1, z1, rfl, -⟩ := hVa.rd.slice2
                                obtain ⟨x2, y2, z2, rfl, -⟩ := hVb.rd.slice2
                                clear oa ob bs8 xs
                                refine hK.out _ _ hE (fun _ => ?_)
                                clear hK K
                                try simp only [Act.put, List.setIfInBounds_toArray, List.set_cons_zero, List.set_cons_succ]
                                skip
                                skip
                                refine wpAnyH_take (i := 9) (oi := ⟨some 289, _, _, _, _, _⟩) (v := .tuple #[.agg #[.int .i64 st, .int .i64 sa, .slice x1 y1 z1], .agg #[.int .i64 st, .int .i64 (sa + m), .slice x2 y2 z2], .bool true]) rfl (by kernel_rfl) (by kernel_rfl) (by kernel_rfl) (fun _ _ _ h => h) (Or.inl ⟨by rfl, (by intro wq hq; go_simp)⟩) hE ?_; try simp only [Act.put, List.setIfInBounds_toArray, List.set_cons_zero, List.set_cons_succ]
                                refine wpAnyH_take (i := 10) (oi := ⟨some 299, _, _, _, _, _⟩) (v := .agg #[.int .i64 st, .int .i64 sa, .slice x1 y1 z1]) rfl (by kernel_rfl) (by kernel_rfl) (by kernel_rfl) (fun _ _ _ h => h) (Or.inl ⟨by rfl, (by intro wq hq; go_simp)⟩) hE ?_; try simp only [Act.put, List.setIfInBounds_toArray, List.set_cons_zero, List.set_cons_succ]
                                refine wpAnyH_take (i := 11) (oi := ⟨some 300, _, _, _, _, _⟩) (v := .agg #[.int .i64 st, .int .i64 (sa + m), .slice x2 y2 z2]) rfl (by kernel_rfl) (by kernel_rfl) (by kernel_rfl) (fun _ _ _ h => h) (Or.inl ⟨by rfl, (by intro wq hq; go_simp)⟩) hE ?_; try simp only [Act.put, List.setIfInBounds_toArray, List.set_cons_zero, List.set_cons_succ]
                                refine wpAnyH_take (i := 12) (oi := ⟨some 301, _, _, _, _, _⟩) (v := .bool true) rfl (by kernel_rfl) (by kernel_rfl) (by kernel_rfl) (fun _ _ _ h => h) (Or.inl ⟨by rfl, (by intro wq hq; go_simp)⟩) hE ?_; try simp only [Act.put, List.setIfInBounds_toArray, List.set_cons_zero, List.set_cons_succ]
                                skip
                                refine wpAnyH_ready (rs := [14]) (by kernel_rfl) (by simp) (AllReadyH.cons rfl (fun K hK => ?_) AllReadyH.nil)
                                go_simp
                                have xa : Ext w8 (w8.alloc (.cells #[.int .i64 0, .int .i64 0, .slice none 0 0] 31)) := (Below.refl _ _).alloc (Nat.le_refl _) _
                                have h14 := alloc_new w8 (.cells #[.int .i64 0, .int .i64 0, .slice none 0 0] 31)
                                have hg14 : wH.heap.size ≤ w8.heap.size := hE.size
                                replace hE : Ext wH _ := hE.trans xa
                                have hab : w8.heap.size ≠ ga := by have := (Array.getElem?_eq_some_iff.1 h13).1; omega
                                replace h13 := (xa.block _ (Array.getElem?_eq_some_iff.1 h13).1).trans h13
                                replace hVa := hVa.kept xa
                                replace hVb := hVb.kept xa
                                obtain ⟨gb, hgx⟩ : ∃ g, w8.heap.size = g := ⟨_, rfl⟩
                                rw [hgx] at h14 hg14 hab
                                try rw [hgx]
                                refine hK.out _ _ hE (fun _ => ?_)
                                clear hK K
                                try simp only [Act.put, List.setIfInBounds_toArray, List.set_cons_zero, List.set_cons_succ]
                                obtain ⟨w14_3, hwx⟩ : ∃ x, w8.alloc (.cells #[.int .i64 0, .int .i64 0, .slice none 0 0] 31) = x := ⟨_, rfl⟩
                                rw [hwx] at hE h14 h13 hVa hVb ⊢
                                clear hwx hgx xa
                                refine wpAnyH_ready (rs := [15]) (by kernel_rfl) (by simp) (AllReadyH.cons rfl (fun K hK => ?_) AllReadyH.nil)
                                obtain ⟨c0, c1', c2', f0, f1, f2⟩ := blk3 h13
                                have PX := put3 h13 (.int .i64 st) (.int .i64 sa) (.slice x1 y1 z1)
                                go_simp
                                replace hE : Ext wH _ := Below.chg hE PX.chg (fun k hk => by omega) hE.size
                                replace h14 := (PX.chg.block _ (Array.getElem?_eq_some_iff.1 h14).1 (by omega)).trans h14
                                have nA := hVa.apart h13 (by decide)
                                have nB := hVb.apart h13 (by decide)
                                replace hVa := hVa.chg PX.chg nA
                                replace hVb := hVb.chg PX.chg nB
                                replace h13 := PX.heap
                                refine hK.out _ _ hE (fun _ => ?_)
                                clear hK K
                                try simp only [Act.put, List.setIfInBounds_toArray, List.set_cons_zero, List.set_cons_succ]
                                obtain ⟨w15_4, hwx⟩ : ∃ x, ((w14_3.setCell ⟨ga, 0, none⟩ (.int .i64 st)).setCell ⟨ga, 1, none⟩ (.int .i64 sa)).setCell ⟨ga, 2, none⟩ (.slice x1 y1 z1) = x := ⟨_, rfl⟩
                                rw [hwx] at hE hVa hVb h13 h14 ⊢
                                clear hwx c0 c1' c2' f0 f1 f2 PX nA nB
                                refine wpAnyH_ready (rs := [16]) (by kernel_rfl) (by simp) (AllReadyH.cons rfl (fun K hK => ?_) AllReadyH.nil)
                                obtain ⟨c0, c1', c2', f0, f1, f2⟩ := blk3 h14
                                have PX := put3 h14 (.int .i64 st) (.int .i64 (sa + m)) (.slice x2 y2 z2)
                                go_simp
                                replace hE : Ext wH _ := Below.chg hE PX.chg (fun k hk => by omega) hE.size
                                replace h13 := (PX.chg.block _ (Array.getElem?_eq_some_iff.1 h13).1 (by omega)).trans h13
                                have nA := hVa.apart h14 (by decide)
                                have nB := hVb.apart h14 (by decide)
                                replace hVa := hVa.chg PX.chg nA
                                replace hVb := hVb.chg PX.chg nB
                                replace h14 := PX.heap
                                refine hK.out _ _ hE (fun _ => ?_)
                                clear hK K
                                try simp only [Act.put, List.setIfInBounds_toArray, List.set_cons_zero, List.set_cons_succ]
                                obtain ⟨w16_5, hwx⟩ : ∃ x, ((w15_4.setCell ⟨gb, 0, none⟩ (.int .i64 st)).setCell ⟨gb, 1, none⟩ (.int .i64 (sa + m))).setCell ⟨gb, 2, none⟩ (.slice x2 y2 z2) = x := ⟨_, rfl⟩
                                rw [hwx] at hE hVa hVb h13 h14 ⊢
                                clear hwx c0 c1' c2' f0 f1 f2 PX nA nB
                                refine wpAnyH_take (i := 17) (oi := ⟨some 36, .assign (.tmp 301), 4, _, _, none⟩) (v := .bool true) rfl (by kernel_rfl) (by kernel_rfl) (by kernel_rfl) (fun _ _ _ h => h) (Or.inl ⟨by rfl, (by intro wq hq; go_simp)⟩) hE ?_; try simp only [Act.put, List.setIfInBounds_toArray, List.set_cons_zero, List.set_cons_succ]
                                refine wpAnyH_done (by kernel_rfl) ?_ _
                                go_wp2_with fail
                                go_meet
                                exact ⟨ga, gb, m, _, _, rfl, rfl, rfl, hm1, hm2, hE, h13, h14, hVa.rd, hVb.rd⟩
                            · as_aux_lemma =>
                                go_simp
                                have xa : Ext w13_1 (w13_1.alloc (.cells #[.int .i64 0, .int .i64 0, .slice none 0 0] 31)) := (Below.refl _ _).alloc (Nat.le_refl _) _
                                have h14 := alloc_new w13_1 (.cells #[.int .i64 0, .int .i64 0, .slice none 0 0] 31)
                                have hg14 : wH.heap.size ≤ w13_1.heap.size := hE.size
                                replace hE : Ext wH _ := hE.trans xa
                                have hab : w13_1.heap.size ≠ ga := by have := (Array.getElem?_eq_some_iff.1 h13).1; omega
                                replace h13 := (xa.block _ (Array.getElem?_eq_some_iff.1 h13).1).trans h13
                                obtain ⟨gb, hgx⟩ : ∃ g, w13_1.heap.size = g := ⟨_, rfl⟩
                                rw [hgx] at h14 hg14 hab
                                try rw [hgx]
                                refine hK.out _ _ hE (fun _ => ?_)
                                clear hK K
                                try simp only [Act.put, List.setIfInBounds_toArray, List.set_cons_zero, List.set_cons_succ]
                                obtain ⟨w14_2, hwx⟩ : ∃ x, w13_1.alloc (.cells #[.int .i64 0, .int .i64 0, .slice none 0 0] 31) = x := ⟨_, rfl⟩
                                rw [hwx] at hE h14 h13 ⊢
                                clear hwx hgx xa
                                refine wpAnyH_ready (rs := [8]) (by kernel_rfl) (by simp) (AllReadyH.cons rfl (fun K hK => ?_) AllReadyH.nil)
                                go_simp
                                refine (HSq.out _ (m : Int) hE m rfl hm1 hm2).mono ?_
                                rintro e w8 ⟨va, vb, rfl, oa, ob, bs8⟩
                                have xs : Ext w14_2 w8 := bs8
                                have hVa : OwnF w8 wH.heap.size va (L.take m) := oa.mono hE.size
                                have hVb : OwnF w8 wH.heap.size vb (L.drop m) := ob.mono hE.size
                                replace hE : Ext wH w8 := hE.trans xs
                                replace h13 := (xs.block _ (Array.getElem?_eq_some_iff.1 h13).1).trans h13
                                replace h14 := (xs.block _ (Array.getElem?_eq_some_iff.1 h14).1).trans h14
                                obtain ⟨x1, y1, z1, rfl, -⟩ := hVa.rd.slice2
                                obtain ⟨x2, y2, z2, rfl, -⟩ := hVb.rd.slice2
                                clear oa ob bs8 xs
                                refine hK.out _ _ hE (fun _ => ?_)
                                clear hK K
                                try simp only [Act.put, List.setIfInBounds_toArray, List.set_cons_zero, List.set_cons_succ]
                                skip
                                skip
                                refine wpAnyH_take (i := 9) (oi := ⟨some 289, _, _, _, _, _⟩) (v := .tuple #[.agg #[.int .i64 st, .int .i64 sa, .slice x1 y1 z1], .agg #[.int .i64 st, .int .i64 (sa + m), .slice x2 y2 z2], .bool true]) rfl (by kernel_rfl) (by kernel_rfl) (by kernel_rfl) (fun _ _ _ h => h) (Or.inl ⟨by rfl, (by intro wq hq; go_simp)⟩) hE ?_; try simp only [Act.put, List.setIfInBounds_toArray, List.set_cons_zero, List.set_cons_succ]
                                refine wpAnyH_take (i := 10) (oi := ⟨some 299, _, _, _, _, _⟩) (v := .agg #[.int .i64 st, .int .i64 sa, .slice x1 y1 z1]) rfl (by kernel_rfl) (by kernel_rfl) (by kernel_rfl) (fun _ _ _ h => h) (Or.inl ⟨by rfl, (by intro wq hq; go_simp)⟩) hE ?_; try simp only [Act.put, List.setIfInBounds_toArray, List.set_cons_zero, List.set_cons_succ]
                                refine wpAnyH_take (i := 11) (oi := ⟨some 300, _, _, _, _, _⟩) (v := .agg #[.int .i64 st, .int .i64 (sa + m), .slice x2 y2 z2]) rfl (by kernel_rfl) (by kernel_rfl) (by kernel_rfl) (fun _ _ _ h => h) (Or.inl ⟨by rfl, (by intro wq hq; go_simp)⟩) hE ?_; try simp only [Act.put, List.setIfInBounds_toArray, List.set_cons_zero, List.set_cons_succ]
                                refine wpAnyH_take (i := 12) (oi := ⟨some 301, _, _, _, _, _⟩) (v := .bool true) rfl (by kernel_rfl) (by kernel_rfl) (by kernel_rfl) (fun _ _ _ h => h) (Or.inl ⟨by rfl, (by intro wq hq; go_simp)⟩) hE ?_; try simp only [Act.put, List.setIfInBounds_toArray, List.set_cons_zero, List.set_cons_succ]
                                skip
                                refine wpAnyH_ready (rs := [15]) (by kernel_rfl) (by simp) (AllReadyH.cons rfl (fun K hK => ?_) AllReadyH.nil)
                                obtain ⟨c0, c1', c2', f0, f1, f2⟩ := blk3 h13
                                have PX := put3 h13 (.int .i64 st) (.int .i64 sa) (.slice x1 y1 z1)
                                go_simp
                                replace hE : Ext wH _ := Below.chg hE PX.chg (fun k hk => by omega) hE.size
                                replace h14 := (PX.chg.block _ (Array.getElem?_eq_some_iff.1 h14).1 (by omega)).trans h14
                                have nA := hVa.apart h13 (by decide)
                                have nB := hVb.apart h13 (by decide)
                                replace hVa := hVa.chg PX.chg nA
                                replace hVb := hVb.chg PX.chg nB
                                replace h13 := PX.heap
                                refine hK.out _ _ hE (fun _ => ?_)
                                clear hK K
                                try simp only [Act.put, List.setIfInBounds_toArray, List.set_cons_zero, List.set_cons_succ]
                                obtain ⟨w15_4, hwx⟩ : ∃ x, ((w8.setCell ⟨ga, 0, none⟩ (.int .i64 st)).setCell ⟨ga, 1, none⟩ (.int .i64 sa)).setCell ⟨ga, 2, none⟩ (.slice x1 y1 z1) = x := ⟨_, rfl⟩
                                rw [hwx] at hE hVa hVb h13 h14 ⊢
                                clear hwx c0 c1' c2' f0 f1 f2 PX nA nB
                                refine wpAnyH_ready (rs := [16]) (by kernel_rfl) (by simp) (AllReadyH.cons rfl (fun K hK => ?_) AllReadyH.nil)
                                obtain ⟨c0, c1', c2', f0, f1, f2⟩ := blk3 h14
                                have PX := put3 h14 (.int .i64 st) (.int .i64 (sa + m)) (.slice x2 y2 z2)
                                go_simp
                                replace hE : Ext wH _ := Below.chg hE PX.chg (fun k hk => by omega) hE.size
                                replace h13 := (PX.chg.block _ (Array.getElem?_eq_some_iff.1 h13).1 (by omega)).trans h13
                                have nA := hVa.apart h14 (by decide)
                                have nB := hVb.apart h14 (by decide)
                                replace hVa := hVa.chg PX.chg nA
                                replace hVb := hVb.chg PX.chg nB
                                replace h14 := PX.heap
                                refine hK.out _ _ hE (fun _ => ?_)
                                clear hK K
                                try simp only [Act.put, List.setIfInBounds_toArray, List.set_cons_zero, List.set_cons_succ]
                                obtain ⟨w16_5, hwx⟩ : ∃ x, ((w15_4.setCell ⟨gb, 0, none⟩ (.int .i64 st)).setCell ⟨gb, 1, none⟩ (.int .i64 (sa + m))).setCell ⟨gb, 2, none⟩ (.slice x2 y2 z2) = x := ⟨_, rfl⟩
                                rw [hwx] at hE hVa hVb h13 h14 ⊢
                                clear hwx c0 c1' c2' f0 f1 f2 PX nA nB
                                refine wpAnyH_take (i := 17) (oi := ⟨some 36, .assign (.tmp 301), 4, _, _, none⟩) (v := .bool true) rfl (by kernel_rfl) (by kernel_rfl) (by kernel_rfl) (fun _ _ _ h => h) (Or.inl ⟨by rfl, (by intro wq hq; go_simp)⟩) hE ?_; try simp only [Act.put, List.setIfInBounds_toArray, List.set_cons_zero, List.set_cons_succ]
                                refine wpAnyH_done (by kernel_rfl) ?_ _
                                go_wp2_with fail
                                go_meet
                                exact ⟨ga, gb, m, _, _, rfl, rfl, rfl, hm1, hm2, hE, h13, h14, hVa.rd, hVb.rd⟩
                        · as_aux_lemma =>
                            go_simp
                            have xa : Ext wr (wr.alloc (.cells #[.int .i64 0, .int .i64 0, .slice none 0 0] 31)) := (Below.refl _ _).alloc (Nat.le_refl _) _
                            have h14 := alloc_new wr (.cells #[.int .i64 0, .int .i64 0, .slice none 0 0] 31)
                            have hg14 : wH.heap.size ≤ wr.heap.size := hE.size
                            replace hE : Ext wH _ := hE.trans xa
                            obtain ⟨gb, hgx⟩ : ∃ g, wr.heap.size = g := ⟨_, rfl⟩
                            rw [hgx] at h14 hg14
                            try rw [hgx]
                            refine hK.out _ _ hE (fun _ => ?_)
                            clear hK K
                            try simp only [Act.put, List.setIfInBounds_toArray, List.set_cons_zero, List.set_cons_succ]
                            obtain ⟨w14_1, hwx⟩ : ∃ x, wr.alloc (.cells #[.int .i64 0, .int .i64 0, .slice none 0 0] 31) = x := ⟨_, rfl⟩
                            rw [hwx] at hE h14 ⊢
                            clear hwx hgx xa
                            refine wpAnyH_ready (rs := [8, 13]) (by kernel_rfl) (by simp) (AllReadyH.cons rfl (fun K hK => ?_) (AllReadyH.cons rfl (fun K hK => ?_) AllReadyH.nil))
                            · as_aux_lemma =>
                                go_simp
                                refine (HSq.out _ (m : Int) hE m rfl hm1 hm2).mono ?_
                                rintro e w8 ⟨va, vb, rfl, oa, ob, bs8⟩
                                have xs : Ext w14_1 w8 := bs8
                                have hVa : OwnF w8 wH.heap.size va (L.take m) := oa.mono hE.size
                                have hVb : OwnF w8 wH.heap.size vb (L.drop m) := ob.mono hE.size
                                replace hE : Ext wH w8 := hE.trans xs
                                replace h14 := (xs.block _ (Array.getElem?_eq_some_iff.1 h14).1).trans h14
                                obtain ⟨x1, y1, z1, rfl, -⟩ := hVa.rd.slice2
                                obtain ⟨x2, y2, z2, rfl, -⟩ := hVb.rd.slice2
                                clear oa ob bs8 xs
                                refine hK.out _ _ hE (fun _ => ?_)
                                clear hK K
                                try simp only [Act.put, List.setIfInBounds_toArray, List.set_cons_zero, List.set_cons_succ]
                                skip
                                skip
                                refine wpAnyH_take (i := 9) (oi := ⟨some 289, _, _, _, _, _⟩) (v := .tuple #[.agg #[.int .i64 st, .int .i64 sa, .slice x1 y1 z1], .agg #[.int .i64 st, .int .i64 (sa + m), .slice x2 y2 z2], .bool true]) rfl (by kernel_rfl) (by kernel_rfl) (by kernel_rfl) (fun _ _ _ h => h) (Or.inl ⟨by rfl, (by intro wq hq; go_simp)⟩) hE ?_; try simp only [Act.put, List.setIfInBounds_toArray, List.set_cons_zero, List.set_cons_succ]
                                refine wpAnyH_take (i := 10) (oi := ⟨some 299, _, _, _, _, _⟩) (v := .agg #[.int .i64 st, .int .i64 sa, .slice x1 y1 z1]) rfl (by kernel_rfl) (by kernel_rfl) (by kernel_rfl) (fun _ _ _ h => h) (Or.inl ⟨by rfl, (by intro wq hq; go_simp)⟩) hE ?_; try simp only [Act.put, List.setIfInBounds_toArray, List.set_cons_zero, List.set_cons_succ]
                                refine wpAnyH_take (i := 11) (oi := ⟨some 300, _, _, _, _, _⟩) (v := .agg #[.int .i64 st, .int .i64 (sa + m), .slice x2 y2 z2]) rfl (by kernel_rfl) (by kernel_rfl) (by kernel_rfl) (fun _ _ _ h => h) (Or.inl ⟨by rfl, (by intro wq hq; go_simp)⟩) hE ?_; try simp only [Act.put, List.setIfInBounds_toArray, List.set_cons_zero, List.set_cons_succ]
                                refine wpAnyH_take (i := 12) (oi := ⟨some 301, _, _, _, _, _⟩) (v := .bool true) rfl (by kernel_rfl) (by kernel_rfl) (by kernel_rfl) (fun _ _ _ h => h) (Or.inl ⟨by rfl, (by intro wq hq; go_simp)⟩) hE ?_; try simp only [Act.put, List.setIfInBounds_toArray, List.set_cons_zero, List.set_cons_succ]
                                skip
                                refine wpAnyH_ready (rs := [13]) (by kernel_rfl) (by simp) (AllReadyH.cons rfl (fun K hK => ?_) AllReadyH.nil)
                                go_simp
                                have xa : Ext w8 (w8.alloc (.cells #[.int .i64 0, .int .i64 0, .slice none 0 0] 31)) := (Below.refl _ _).alloc (Nat.le_refl _) _
                                have h13 := alloc_new w8 (.cells #[.int .i64 0, .int .i64 0, .slice none 0 0] 31)
                                have hg13 : wH.heap.size ≤ w8.heap.size := hE.size
                                replace hE : Ext wH _ := hE.trans xa
                                have hab : w8.heap.size ≠ gb := by have := (Array.getElem?_eq_some_iff.1 h14).1; omega
                                replace h14 := (xa.block _ (Array.getElem?_eq_some_iff.1 h14).1).trans h14
                                replace hVa := hVa.kept xa
                                replace hVb := hVb.kept xa
                                obtain ⟨ga, hgx⟩ : ∃ g, w8.heap.size = g := ⟨_, rfl⟩
                                rw [hgx] at h13 hg13 hab
                                try rw [hgx]
                                refine hK.out _ _ hE (fun _ => ?_)
                                clear hK K
                                try simp only [Act.put, List.setIfInBounds_toArray, List.set_cons_zero, List.set_cons_succ]
                                obtain ⟨w13_3, hwx⟩ : ∃ x, w8.alloc (.cells #[.int .i64 0, .int .i64 0, .slice none 0 0] 31) = x := ⟨_, rfl⟩
                                rw [hwx] at hE h13 h14 hVa hVb ⊢
                                clear hwx hgx xa
                                refine wpAnyH_ready (rs := [15]) (by kernel_rfl) (by simp) (AllReadyH.cons rfl (fun K hK => ?_) AllReadyH.nil)
                                obtain ⟨c0, c1', c2', f0, f1, f2⟩ := blk3 h13
                                have PX := put3 h13 (.int .i64 st) (.int .i64 sa) (.slice x1 y1 z1)
                                go_simp
                                replace hE : Ext wH _ := Below.chg hE PX.chg (fun k hk => by omega) hE.size
                                replace h14 := (PX.chg.block _ (Array.getElem?_eq_some_iff.1 h14).1 (by omega)).trans h14
                                have nA := hVa.apart h13 (by decide)
                                have nB := hVb.apart h13 (by decide)
                                replace hVa := hVa.chg PX.chg nA
                                replace hVb := hVb.chg PX.chg nB
                                replace h13 := PX.heap
                                refine hK.out _ _ hE (fun _ => ?_)
                                clear hK K
                                try simp only [Act.put, List.setIfInBounds_toArray, List.set_cons_zero, List.set_cons_succ]
                                obtain ⟨w15_4, hwx⟩ : ∃ x, ((w13_3.setCell ⟨ga, 0, none⟩ (.int .i64 st)).setCell ⟨ga, 1, none⟩ (.int .i64 sa)).setCell ⟨ga, 2, none⟩ (.slice x1 y1 z1) = x := ⟨_, rfl⟩
                                rw [hwx] at hE hVa hVb h13 h14 ⊢
                                clear hwx c0 c1' c2' f0 f1 f2 PX nA nB
                                refine wpAnyH_ready (rs := [16]) (by kernel_rfl) (by simp) (AllReadyH.cons rfl (fun K hK => ?_) AllReadyH.nil)
                                obtain ⟨c0, c1', c2', f0, f1, f2⟩ := blk3 h14
                                have PX := put3 h14 (.int .i64 st) (.int .i64 (sa + m)) (.slice x2 y2 z2)
                                go_simp
                                replace hE : Ext wH _ := Below.chg hE PX.chg (fun k hk => by omega) hE.size
                                replace h13 := (PX.chg.block _ (Array.getElem?_eq_some_iff.1 h13).1 (by omega)).trans h13
                                have nA := hVa.apart h14 (by decide)
                                have nB := hVb.apart h14 (by decide)
                                replace hVa := hVa.chg PX.chg nA
                                replace hVb := hVb.chg PX.chg nB
                                replace h14 := PX.heap
                                refine hK.out _ _ hE (fun _ => ?_)
                                clear hK K
                                try simp only [Act.put, List.setIfInBounds_toArray, List.set_cons_zero, List.set_cons_succ]
                                obtain ⟨w16_5, hwx⟩ : ∃ x, ((w15_4.setCell ⟨gb, 0, none⟩ (.int .i64 st)).setCell ⟨gb, 1, none⟩ (.int .i64 (sa + m))).setCell ⟨gb, 2, none⟩ (.slice x2 y2 z2) = x := ⟨_, rfl⟩
                                rw [hwx] at hE hVa hVb h13 h14 ⊢
                                clear hwx c0 c1' c2' f0 f1 f2 PX nA nB
                                refine wpAnyH_take (i := 17) (oi := ⟨some 36, .assign (.tmp 301), 4, _, _, none⟩) (v := .bool true) rfl (by kernel_rfl) (by kernel_rfl) (by kernel_rfl) (fun _ _ _ h => h) (Or.inl ⟨by rfl, (by intro wq hq; go_simp)⟩) hE ?_; try simp only [Act.put, List.setIfInBounds_toArray, List.set_cons_zero, List.set_cons_succ]
                                refine wpAnyH_done (by kernel_rfl) ?_ _
                                go_wp2_with fail
                                go_meet
                                exact ⟨ga, gb, m, _, _, rfl, rfl, rfl, hm1, hm2, hE, h13, h14, hVa.rd, hVb.rd⟩
                            · as_aux_lemma =>
                                go_simp
                                have xa : Ext w14_1 (w14_1.alloc (.cells #[.int .i64 0, .int .i64 0, .slice none 0 0] 31)) := (Below.refl _ _).alloc (Nat.le_refl _) _
                                have h13 := alloc_new w14_1 (.cells #[.int .i64 0, .int .i64 0, .slice none 0 0] 31)
                                have hg13 : wH.heap.size ≤ w14_1.heap.size := hE.size
                                replace hE : Ext wH _ := hE.trans xa
                                have hab : w14_1.heap.size ≠ gb := by have := (Array.getElem?_eq_some_iff.1 h14).1; omega
                                replace h14 := (xa.block _ (Array.getElem?_eq_some_iff.1 h14).1).trans h14
                                obtain ⟨ga, hgx⟩ : ∃ g, w14_1.heap.size = g := ⟨_, rfl⟩
                                rw [hgx] at h13 hg13 hab
                                try rw [hgx]
                                refine hK.out _ _ hE (fun _ => ?_)
                                clear hK K
                                try simp only [Act.put, List.setIfInBounds_toArray, List.set_cons_zero, List.set_cons_succ]
                                obtain ⟨w13_2, hwx⟩ : ∃ x, w14_1.alloc (.cells #[.int .i64 0, .int .i64 0, .slice none 0 0] 31) = x := ⟨_, rfl⟩
                                rw [hwx] at hE h13 h14 ⊢
                                clear hwx hgx xa
                                refine wpAnyH_ready (rs := [8]) (by kernel_rfl) (by simp) (AllReadyH.cons rfl (fun K hK => ?_) AllReadyH.nil)
                                go_simp
                                refine (HSq.out _ (m : Int) hE m rfl hm1 hm2).mono ?_
                                rintro e w8 ⟨va, vb, rfl, oa, ob, bs8⟩
                                have xs : Ext w13_2 w8 := bs8
                                have hVa : OwnF w8 wH.heap.size va (L.take m) := oa.mono hE.size
                                have hVb : OwnF w8 wH.heap.size vb (L.drop m) := ob.mono hE.size
                                replace hE : Ext wH w8 := hE.trans xs
                                replace h13 := (xs.block _ (Array.getElem?_eq_some_iff.1 h13).1).trans h13
                                replace h14 := (xs.block _ (Array.getElem?_eq_some_iff.1 h14).1).trans h14
                                obtain ⟨x1, y1, z1, rfl, -⟩ := hVa.rd.slice2
                                obtain ⟨x2, y2, z2, rfl, -⟩ := hVb.rd.slice2
                                clear oa ob bs8 xs
                                refine hK.out _ _ hE (fun _ => ?_)
                                clear hK K
                                try simp only [Act.put, List.setIfInBounds_toArray, List.set_cons_zero, List.set_cons_succ]
                                skip
                                skip
                                refine wpAnyH_take (i := 9) (oi := ⟨some 289, _, _, _, _, _⟩) (v := .tuple #[.agg #[.int .i64 st, .int .i64 sa, .slice x1 y1 z1], .agg #[.int .i64 st, .int .i64 (sa + m), .slice x2 y2 z2], .bool true]) rfl (by kernel_rfl) (by kernel_rfl) (by kernel_rfl) (fun _ _ _ h => h) (Or.inl ⟨by rfl, (by intro wq hq; go_simp)⟩) hE ?_; try simp only [Act.put, List.setIfInBounds_toArray, List.set_cons_zero, List.set_cons_succ]
                                refine wpAnyH_take (i := 10) (oi := ⟨some 299, _, _, _, _, _⟩) (v := .agg #[.int .i64 st, .int .i64 sa, .slice x1 y1 z1]) rfl (by kernel_rfl) (by kernel_rfl) (by kernel_rfl) (fun _ _ _ h => h) (Or.inl ⟨by rfl, (by intro wq hq; go_simp)⟩) hE ?_; try simp only [Act.put, List.setIfInBounds_toArray, List.set_cons_zero, List.set_cons_succ]
                                refine wpAnyH_take (i := 11) (oi := ⟨some 300, _, _, _, _, _⟩) (v := .agg #[.int .i64 st, .int .i64 (sa + m), .slice x2 y2 z2]) rfl (by kernel_rfl) (by kernel_rfl) (by kernel_rfl) (fun _ _ _ h => h) (Or.inl ⟨by rfl, (by intro wq hq; go_simp)⟩) hE ?_; try simp only [Act.put, List.setIfInBounds_toArray, List.set_cons_zero, List.set_cons_succ]
                                refine wpAnyH_take (i := 12) (oi := ⟨some 301, _, _, _, _, _⟩) (v := .bool true) rfl (by kernel_rfl) (by kernel_rfl) (by kernel_rfl) (fun _ _ _ h => h) (Or.inl ⟨by rfl, (by intro wq hq; go_simp)⟩) hE ?_; try simp only [Act.put, List.setIfInBounds_toArray, List.set_cons_zero, List.set_cons_succ]
                                skip
                                refine wpAnyH_ready (rs := [15]) (by kernel_rfl) (by simp) (AllReadyH.cons rfl (fun K hK => ?_) AllReadyH.nil)
                                obtain ⟨c0, c1', c2', f0, f1, f2⟩ := blk3 h13
                                have PX := put3 h13 (.int .i64 st) (.int .i64 sa) (.slice x1 y1 z1)
                                go_simp
                                replace hE : Ext wH _ := Below.chg hE PX.chg (fun k hk => by omega) hE.size
                                replace h14 := (PX.chg.block _ (Array.getElem?_eq_some_iff.1 h14).1 (by omega)).trans h14
                                have nA := hVa.apart h13 (by decide)
                                have nB := hVb.apart h13 (by decide)
                                replace hVa := hVa.chg PX.chg nA
                                replace hVb := hVb.chg PX.chg nB
                                replace h13 := PX.heap
                                refine hK.out _ _ hE (fun _ => ?_)
                                clear hK K
                                try simp only [Act.put, List.setIfInBounds_toArray, List.set_cons_zero, List.set_cons_succ]
                                obtain ⟨w15_4, hwx⟩ : ∃ x, ((w8.setCell ⟨ga, 0, none⟩ (.int .i64 st)).setCell ⟨ga, 1, none⟩ (.int .i64 sa)).setCell ⟨ga, 2, none⟩ (.slice x1 y1 z1) = x := ⟨_, rfl⟩
                                rw [hwx] at hE hVa hVb h13 h14 ⊢
                                clear hwx c0 c1' c2' f0 f1 f2 PX nA nB
                                refine wpAnyH_ready (rs := [16]) (by kernel_rfl) (by simp) (AllReadyH.cons rfl (fun K hK => ?_) AllReadyH.nil)
                                obtain ⟨c0, c1', c2', f0, f1, f2⟩ := blk3 h14
                                have PX := put3 h14 (.int .i64 st) (.int .i64 (sa + m)) (.slice x2 y2 z2)
                                go_simp
                                replace hE : Ext wH _ := Below.chg hE PX.chg (fun k hk => by omega) hE.size
                                replace h13 := (PX.chg.block _ (Array.getElem?_eq_some_iff.1 h13).1 (by omega)).trans h13
                                have nA := hVa.apart h14 (by decide)
                                have nB := hVb.apart h14 (by decide)
                                replace hVa := hVa.chg PX.chg nA
                                replace hVb := hVb.chg PX.chg nB
                                replace h14 := PX.heap
                                refine hK.out _ _ hE (fun _ => ?_)
                                clear hK K
                                try simp only [Act.put, List.setIfInBounds_toArray, List.set_cons_zero, List.set_cons_succ]
                                obtain ⟨w16_5, hwx⟩ : ∃ x, ((w15_4.setCell ⟨gb, 0, none⟩ (.int .i64 st)).setCell ⟨gb, 1, none⟩ (.int .i64 (sa + m))).setCell ⟨gb, 2, none⟩ (.slice x2 y2 z2) = x := ⟨_, rfl⟩
                                rw [hwx] at hE hVa hVb h13 h14 ⊢
                                clear hwx c0 c1' c2' f0 f1 f2 PX nA nB
                                refine wpAnyH_take (i := 17) (oi := ⟨some 36, .assign (.tmp 301), 4, _, _, none⟩) (v := .bool true) rfl (by kernel_rfl) (by kernel_rfl) (by kernel_rfl) (fun _ _ _ h => h) (Or.inl ⟨by rfl, (by intro wq hq; go_simp)⟩) hE ?_; try simp only [Act.put, List.setIfInBounds_toArray, List.set_cons_zero, List.set_cons_succ]
                                refine wpAnyH_done (by kernel_rfl) ?_ _
                                go_wp2_with fail
                                go_meet
                                exact ⟨ga, gb, m, _, _, rfl, rfl, rfl, hm1, hm2, hE, h13, h14, hVa.rd, hVb.rd⟩
                    · as_aux_lemma =>
                        go_simp
                        have xa : Ext wr (wr.alloc (.cells #[.int .i64 0, .int .i64 0, .slice none 0 0] 31)) := (Below.refl _ _).alloc (Nat.le_refl _) _
                        have h13 := alloc_new wr (.cells #[.int .i64 0, .int .i64 0, .slice none 0 0] 31)
                        have hg13 : wH.heap.size ≤ wr.heap.size := hE.size
                        replace hE : Ext wH _ := hE.trans xa
                        obtain ⟨ga, hgx⟩ : ∃ g, wr.heap.size = g := ⟨_, rfl⟩
                        rw [hgx] at h13 hg13
                        try rw [hgx]
                        refine hK.out _ _ hE (fun _ => ?_)
                        clear hK K
                        try simp only [Act.put, List.setIfInBounds_toArray, List.set_cons_zero, List.set_cons_succ]
                        obtain ⟨w13_0, hwx⟩ : ∃ x, wr.alloc (.cells #[.int .i64 0, .int .i64 0, .slice none 0 0] 31) = x := ⟨_, rfl⟩
                        rw [hwx] at hE h13 ⊢
                        clear hwx hgx xa
                        refine wpAnyH_ready (rs := [6, 14]) (by kernel_rfl) (by simp) (AllReadyH.cons rfl (fun K hK => ?_) (AllReadyH.cons rfl (fun K hK => ?_) AllReadyH.nil))
                        · as_aux_lemma =>
                            go_simp
                            refine (HAt.out _ hE).mono ?_
                            rintro e wq ⟨m, rfl, hm1, hm2, hwq⟩
                            obtain rfl : w13_0 = wq := hwq.symm
                            clear hwq
                            refine hK.out _ _ hE (fun _ => ?_)
                            clear hK K
                            try simp only [Act.put, List.setIfInBounds_toArray, List.set_cons_zero, List.set_cons_succ]
                            have hwm : IntKind.i64.wrap (1 + ((m : Int) - 1)) = (m : Int) := by rw [i64_wrapR _ (by omega) (by omega)]; omega
                            refine wpAnyH_take (i := 7) (oi := ⟨some 297, _, _, _, _, _⟩) (v := .int .i64 (m : Int)) rfl (by kernel_rfl) (by kernel_rfl) (by kernel_rfl) (fun _ _ _ h => h) (Or.inl ⟨by rfl, (by intro wq hq; first | (go_simp; done) | (go_simp; omega))⟩) hE ?_; try simp only [Act.put, List.setIfInBounds_toArray, List.set_cons_zero, List.set_cons_succ]
                            refine wpAnyH_ready (rs := [8, 14]) (by kernel_rfl) (by simp) (AllReadyH.cons rfl (fun K hK => ?_) (AllReadyH.cons rfl (fun K hK => ?_) AllReadyH.nil))
                            · as_aux_lemma =>
                                go_simp
                                refine (HSq.out _ (m : Int) hE m rfl hm1 hm2).mono ?_
                                rintro e w8 ⟨va, vb, rfl, oa, ob, bs8⟩
                                have xs : Ext w13_0 w8 := bs8
                                have hVa : OwnF w8 wH.heap.size va (L.take m) := oa.mono hE.size
                                have hVb : OwnF w8 wH.heap.size vb (L.drop m) := ob.mono hE.size
                                replace hE : Ext wH w8 := hE.trans xs
                                replace h13 := (xs.block _ (Array.getElem?_eq_some_iff.1 h13).1).trans h13
                                obtain ⟨x1, y1, z1, rfl, -⟩ := hVa.rd.slice2
                                obtain ⟨x2, y2, z2, rfl, -⟩ := hVb.rd.slice2
                                clear oa ob bs8 xs
                                refine hK.out _ _ hE (fun _ => ?_)
                                clear hK K
                                try simp only [Act.put, List.setIfInBounds_toArray, List.set_cons_zero, List.set_cons_succ]
                                skip
                                skip
                                refine wpAnyH_take (i := 9) (oi := ⟨some 289, _, _, _, _, _⟩) (v := .tuple #[.agg #[.int .i64 st, .int .i64 sa, .slice x1 y1 z1], .agg #[.int .i64 st, .int .i64 (sa + m), .slice x2 y2 z2], .bool true]) rfl (by kernel_rfl) (by kernel_rfl) (by kernel_rfl) (fun _ _ _ h => h) (Or.inl ⟨by rfl, (by intro wq hq; go_simp)⟩) hE ?_; try simp only [Act.put, List.setIfInBounds_toArray, List.set_cons_zero, List.set_cons_succ]
                                refine wpAnyH_take (i := 10) (oi := ⟨some 299, _, _, _, _, _⟩) (v := .agg #[.int .i64 st, .int .i64 sa, .slice x1 y1 z1]) rfl (by kernel_rfl) (by kernel_rfl) (by kernel_rfl) (fun _ _ _ h => h) (Or.inl ⟨by rfl, (by intro wq hq; go_simp)⟩) hE ?_; try simp only [Act.put, List.setIfInBounds_toArray, List.set_cons_zero, List.set_cons_succ]
                                refine wpAnyH_take (i := 11) (oi := ⟨some 300, _, _, _, _, _⟩) (v := .agg #[.int .i64 st, .int .i64 (sa + m), .slice x2 y2 z2]) rfl (by kernel_rfl) (by kernel_rfl) (by kernel_rfl) (fun _ _ _ h => h) (Or.inl ⟨by rfl, (by intro wq hq; go_simp)⟩) hE ?_; try simp only [Act.put, List.setIfInBounds_toArray, List.set_cons_zero, List.set_cons_succ]
                                refine wpAnyH_take (i := 12) (oi := ⟨some 301, _, _, _, _, _⟩) (v := .bool true) rfl (by kernel_rfl) (by kernel_rfl) (by kernel_rfl) (fun _ _ _ h => h) (Or.inl ⟨by rfl, (by intro wq hq; go_simp)⟩) hE ?_; try simp only [Act.put, List.setIfInBounds_toArray, List.set_cons_zero, List.set_cons_succ]
                                skip
                                refine wpAnyH_ready (rs := [14]) (by kernel_rfl) (by simp) (AllReadyH.cons rfl (fun K hK => ?_) AllReadyH.nil)
                                go_simp
                                have xa : Ext w8 (w8.alloc (.cells #[.int .i64 0, .int .i64 0, .slice none 0 0] 31)) := (Below.refl _ _).alloc (Nat.le_refl _) _
                                have h14 := alloc_new w8 (.cells #[.int .i64 0, .int .i64 0, .slice none 0 0] 31)
                                have hg14 : wH.heap.size ≤ w8.heap.size := hE.size
                                replace hE : Ext wH _ := hE.trans xa
                                have hab : w8.heap.size ≠ ga := by have := (Array.getElem?_eq_some_iff.1 h13).1; omega
                                replace h13 := (xa.block _ (Array.getElem?_eq_some_iff.1 h13).1).trans h13
                                replace hVa := hVa.kept xa
                                replace hVb := hVb.kept xa
                                obtain ⟨gb, hgx⟩ : ∃ g, w8.heap.size = g := ⟨_, rfl⟩
                                rw [hgx] at h14 hg14 hab
                                try rw [hgx]
                                refine hK.out _ _ hE (fun _ => ?_)
                                clear hK K
                                try simp only [Act.put, List.setIfInBounds_toArray, List.set_cons_zero, List.set_cons_succ]
                                obtain ⟨w14_3, hwx⟩ : ∃ x, w8.alloc (.cells #[.int .i64 0, .int .i64 0, .slice none 0 0] 31) = x := ⟨_, rfl⟩
                                rw [hwx] at hE h14 h13 hVa hVb ⊢
                                clear hwx hgx xa
                                refine wpAnyH_ready (rs := [15]) (by kernel_rfl) (by simp) (AllReadyH.cons rfl (fun K hK => ?_) AllReadyH.nil)
                                obtain ⟨c0, c1', c2', f0, f1, f2⟩ := blk3 h13
                                have PX := put3 h13 (.int .i64 st) (.int .i64 sa) (.slice x1 y1 z1)
                                go_simp
                                replace hE : Ext wH _ := Below.chg hE PX.chg (fun k hk => by omega) hE.size
                                replace h14 := (PX.chg.block _ (Array.getElem?_eq_some_iff.1 h14).1 (by omega)).trans h14
                                have nA := hVa.apart h13 (by decide)
                                have nB := hVb.apart h13 (by decide)
                                replace hVa := hVa.chg PX.chg nA
                                replace hVb := hVb.chg PX.chg nB
                                replace h13 := PX.heap
                                refine hK.out _ _ hE (fun _ => ?_)
                                clear hK K
                                try simp only [Act.put, List.setIfInBounds_toArray, List.set_cons_zero, List.set_cons_succ]
                                obtain ⟨w15_4, hwx⟩ : ∃ x, ((w14_3.setCell ⟨ga, 0, none⟩ (.int .i64 st)).setCell ⟨ga, 1, none⟩ (.int .i64 sa)).setCell ⟨ga, 2, none⟩ (.slice x1 y1 z1) = x := ⟨_, rfl⟩
                                rw [hwx] at hE hVa hVb h13 h14 ⊢
                                clear hwx c0 c1' c2' f0 f1 f2 PX nA nB
                                refine wpAnyH_ready (rs := [16]) (by kernel_rfl) (by simp) (AllReadyH.cons rfl (fun K hK => ?_) AllReadyH.nil)
                                obtain ⟨c0, c1', c2', f0, f1, f2⟩ := blk3 h14
                                have PX := put3 h14 (.int .i64 st) (.int .i64 (sa + m)) (.slice x2 y2 z2)
                                go_simp
                                replace hE : Ext wH _ := Below.chg hE PX.chg (fun k hk => by omega) hE.size
                                replace h13 := (PX.chg.block _ (Array.getElem?_eq_some_iff.1 h13).1 (by omega)).trans h13
                                have nA := hVa.apart h14 (by decide)
                                have nB := hVb.apart h14 (by decide)
                                replace hVa := hVa.chg PX.chg nA
                                replace hVb := hVb.chg PX.chg nB
                                replace h14 := PX.heap
                                refine hK.out _ _ hE (fun _ => ?_)
                                clear hK K
                                try simp only [Act.put, List.setIfInBounds_toArray, List.set_cons_zero, List.set_cons_succ]
                                obtain ⟨w16_5, hwx⟩ : ∃ x, ((w15_4.setCell ⟨gb, 0, none⟩ (.int .i64 st)).setCell ⟨gb, 1, none⟩ (.int .i64 (sa + m))).setCell ⟨gb, 2, none⟩ (.slice x2 y2 z2) = x := ⟨_, rfl⟩
                                rw [hwx] at hE hVa hVb h13 h14 ⊢
                                clear hwx c0 c1' c2' f0 f1 f2 PX nA nB
                                refine wpAnyH_take (i := 17) (oi := ⟨some 36, .assign (.tmp 301), 4, _, _, none⟩) (v := .bool true) rfl (by kernel_rfl) (by kernel_rfl) (by kernel_rfl) (fun _ _ _ h => h) (Or.inl ⟨by rfl, (by intro wq hq; go_simp)⟩) hE ?_; try simp only [Act.put, List.setIfInBounds_toArray, List.set_cons_zero, List.set_cons_succ]
                                refine wpAnyH_done (by kernel_rfl) ?_ _
                                go_wp2_with fail
                                go_meet
                                exact ⟨ga, gb, m, _, _, rfl, rfl, rfl, hm1, hm2, hE, h13, h14, hVa.rd, hVb.rd⟩
                            · as_aux_lemma =>
                                go_simp
                                have xa : Ext w13_0 (w13_0.alloc (.cells #[.int .i64 0, .int .i64 0, .slice none 0 0] 31)) := (Below.refl _ _).alloc (Nat.le_refl _) _
                                have h14 := alloc_new w13_0 (.cells #[.int .i64 0, .int .i64 0, .slice none 0 0] 31)
                                have hg14 : wH.heap.size ≤ w13_0.heap.size := hE.size
                                replace hE : Ext wH _ := hE.trans xa
                                have hab : w13_0.heap.size ≠ ga := by have := (Array.getElem?_eq_some_iff.1 h13).1; omega
                                replace h13 := (xa.block _ (Array.getElem?_eq_some_iff.1 h13).1).trans h13
                                obtain ⟨gb, hgx⟩ : ∃ g, w13_0.heap.size = g := ⟨_, rfl⟩
                                rw [hgx] at h14 hg14 hab
                                try rw [hgx]
                                refine hK.out _ _ hE (fun _ => ?_)
                                clear hK K
                                try simp only [Act.put, List.setIfInBounds_toArray, List.set_cons_zero, List.set_cons_succ]
                                obtain ⟨w14_2, hwx⟩ : ∃ x, w13_0.alloc (.cells #[.int .i64 0, .int .i64 0, .slice none 0 0] 31) = x := ⟨_, rfl⟩
                                rw [hwx] at hE h14 h13 ⊢
                                clear hwx hgx xa
                                refine wpAnyH_ready (rs := [8]) (by kernel_rfl) (by simp) (AllReadyH.cons rfl (fun K hK => ?_) AllReadyH.nil)
                                go_simp
                                refine (HSq.out _ (m : Int) hE m rfl hm1 hm2).mono ?_
                                rintro e w8 ⟨va, vb, rfl, oa, ob, bs8⟩
                                have xs : Ext w14_2 w8 := bs8
                                have hVa : OwnF w8 wH.heap.size va (L.take m) := oa.mono hE.size
                                have hVb : OwnF w8 wH.heap.size vb (L.drop m) := ob.mono hE.size
                                replace hE : Ext wH w8 := hE.trans xs
                                replace h13 := (xs.block _ (Array.getElem?_eq_some_iff.1 h13).1).trans h13
                                replace h14 := (xs.block _ (Array.getElem?_eq_some_iff.1 h14).1).trans h14
                                obtain ⟨x1, y1, z1, rfl, -⟩ := hVa.rd.slice2
                                obtain ⟨x2, y2, z2, rfl, -⟩ := hVb.rd.slice2
                                clear oa ob bs8 xs
                                refine hK.out _ _ hE (fun _ => ?_)
                                clear hK K
                                try simp only [Act.put, List.setIfInBounds_toArray, List.set_cons_zero, List.set_cons_succ]
                                skip
                                skip
                                refine wpAnyH_take (i := 9) (oi := ⟨some 289, _, _, _, _, _⟩) (v := .tuple #[.agg #[.int .i64 st, .int .i64 sa, .slice x1 y1 z1], .agg #[.int .i64 st, .int .i64 (sa + m), .slice x2 y2 z2], .bool true]) rfl (by kernel_rfl) (by kernel_rfl) (by kernel_rfl) (fun _ _ _ h => h) (Or.inl ⟨by rfl, (by intro wq hq; go_simp)⟩) hE ?_; try simp only [Act.put, List.setIfInBounds_toArray, List.set_cons_zero, List.set_cons_succ]
                                refine wpAnyH_take (i := 10) (oi := ⟨some 299, _, _, _, _, _⟩) (v := .agg #[.int .i64 st, .int .i64 sa, .slice x1 y1 z1]) rfl (by kernel_rfl) (by kernel_rfl) (by kernel_rfl) (fun _ _ _ h => h) (Or.inl ⟨by rfl, (by intro wq hq; go_simp)⟩) hE ?_; try simp only [Act.put, List.setIfInBounds_toArray, List.set_cons_zero, List.set_cons_succ]
                                refine wpAnyH_take (i := 11) (oi := ⟨some 300, _, _, _, _, _⟩) (v := .agg #[.int .i64 st, .int .i64 (sa + m), .slice x2 y2 z2]) rfl (by kernel_rfl) (by kernel_rfl) (by kernel_rfl) (fun _ _ _ h => h) (Or.inl ⟨by rfl, (by intro wq hq; go_simp)⟩) hE ?_; try simp only [Act.put, List.setIfInBounds_toArray, List.set_cons_zero, List.set_cons_succ]
                                refine wpAnyH_take (i := 12) (oi := ⟨some 301, _, _, _, _, _⟩) (v := .bool true) rfl (by kernel_rfl) (by kernel_rfl) (by kernel_rfl) (fun _ _ _ h => h) (Or.inl ⟨by rfl, (by intro wq hq; go_simp)⟩) hE ?_; try simp only [Act.put, List.setIfInBounds_toArray, List.set_cons_zero, List.set_cons_succ]
                                skip
                                refine wpAnyH_ready (rs := [15]) (by kernel_rfl) (by simp) (AllReadyH.cons rfl (fun K hK => ?_) AllReadyH.nil)
                                obtain ⟨c0, c1', c2', f0, f1, f2⟩ := blk3 h13
                                have PX := put3 h13 (.int .i64 st) (.int .i64 sa) (.slice x1 y1 z1)
                                go_simp
                                replace hE : Ext wH _ := Below.chg hE PX.chg (fun k hk => by omega) hE.size
                                replace h14 := (PX.chg.block _ (Array.getElem?_eq_some_iff.1 h14).1 (by omega)).trans h14
                                have nA := hVa.apart h13 (by decide)
                                have nB := hVb.apart h13 (by decide)
                                replace hVa := hVa.chg PX.chg nA
                                replace hVb := hVb.chg PX.chg nB
                                replace h13 := PX.heap
                                refine hK.out _ _ hE (fun _ => ?_)
                                clear hK K
                                try simp only [Act.put, List.setIfInBounds_toArray, List.set_cons_zero, List.set_cons_succ]
                                obtain ⟨w15_4, hwx⟩ : ∃ x, ((w8.setCell ⟨ga, 0, none⟩ (.int .i64 st)).setCell ⟨ga, 1, none⟩ (.int .i64 sa)).setCell ⟨ga, 2, none⟩ (.slice x1 y1 z1) = x := ⟨_, rfl⟩
                                rw [hwx] at hE hVa hVb h13 h14 ⊢
                                clear hwx c0 c1' c2' f0 f1 f2 PX nA nB
                                refine wpAnyH_ready (rs := [16]) (by kernel_rfl) (by simp) (AllReadyH.cons rfl (fun K hK => ?_) AllReadyH.nil)
                                obtain ⟨c0, c1', c2', f0, f1, f2⟩ := blk3 h14
                                have PX := put3 h14 (.int .i64 st) (.int .i64 (sa + m)) (.slice x2 y2 z2)
                                go_simp
                                replace hE : Ext wH _ := Below.chg hE PX.chg (fun k hk => by omega) hE.size
                                replace h13 := (PX.chg.block _ (Array.getElem?_eq_some_iff.1 h13).1 (by omega)).trans h13
                                have nA := hVa.apart h14 (by decide)
                                have nB := hVb.apart h14 (by decide)
                                replace hVa := hVa.chg PX.chg nA
                                replace hVb := hVb.chg PX.chg nB
                                replace h14 := PX.heap
                                refine hK.out _ _ hE (fun _ => ?_)
                                clear hK K
                                try simp only [Act.put, List.setIfInBounds_toArray, List.set_cons_zero, List.set_cons_succ]
                                obtain ⟨w16_5, hwx⟩ : ∃ x, ((w15_4.setCell ⟨gb, 0, none⟩ (.int .i64 st)).setCell ⟨gb, 1, none⟩ (.int .i64 (sa + m))).setCell ⟨gb, 2, none⟩ (.slice x2 y2 z2) = x := ⟨_, rfl⟩
                                rw [hwx] at hE hVa hVb h13 h14 ⊢
                                clear hwx c0 c1' c2' f0 f1 f2 PX nA nB
                                refine wpAnyH_take (i := 17) (oi := ⟨some 36, .assign (.tmp 301), 4, _, _, none⟩) (v := .bool true) rfl (by kernel_rfl) (by kernel_rfl) (by kernel_rfl) (fun _ _ _ h => h) (Or.inl ⟨by rfl, (by intro wq hq; go_simp)⟩) hE ?_; try simp only [Act.put, List.setIfInBounds_toArray, List.set_cons_zero, List.set_cons_succ]
                                refine wpAnyH_done (by kernel_rfl) ?_ _
                                go_wp2_with fail
                                go_meet
                                exact ⟨ga, gb, m, _, _, rfl, rfl, rfl, hm1, hm2, hE, h13, h14, hVa.rd, hVb.rd⟩
                        · as_aux_lemma =>
                            go_simp
                            have xa : Ext w13_0 (w13_0.alloc (.cells #[.int .i64 0, .int .i64 0, .slice none 0 0] 31)) := (Below.refl _ _).alloc (Nat.le_refl _) _
                            have h14 := alloc_new w13_0 (.cells #[.int .i64 0, .int .i64 0, .slice none 0 0] 31)
                            have hg14 : wH.heap.size ≤ w13_0.heap.size := hE.size
                            replace hE : Ext wH _ := hE.trans xa
                            have hab : w13_0.heap.size ≠ ga := by have := (Array.getElem?_eq_some_iff.1 h13).1; omega
                            replace h13 := (xa.block _ (Array.getElem?_eq_some_iff.1 h13).1).trans h13
                            obtain ⟨gb, hgx⟩ : ∃ g, w13_0.heap.size = g := ⟨_, rfl⟩
                            rw [hgx] at h14 hg14 hab
                            try rw [hgx]
                            refine hK.out _ _ hE (fun _ => ?_)
                            clear hK K
                            try simp only [Act.put, List.setIfInBounds_toArray, List.set_cons_zero, List.set_cons_succ]
                            obtain ⟨w14_1, hwx⟩ : ∃ x, w13_0.alloc (.cells #[.int .i64 0, .int .i64 0, .slice none 0 0] 31) = x := ⟨_, rfl⟩
                            rw [hwx] at hE h14 h13 ⊢
                            clear hwx hgx xa
                            refine wpAnyH_ready (rs := [6]) (by kernel_rfl) (by simp) (AllReadyH.cons rfl (fun K hK => ?_) AllReadyH.nil)
                            go_simp
                            refine (HAt.out _ hE).mono ?_
                            rintro e wq ⟨m, rfl, hm1, hm2, hwq⟩
                            obtain rfl : w14_1 = wq := hwq.symm
                            clear hwq
                            refine hK.out _ _ hE (fun _ => ?_)
                            clear hK K
                            try simp only [Act.put, List.setIfInBounds_toArray, List.set_cons_zero, List.set_cons_succ]
                            have hwm : IntKind.i64.wrap (1 + ((m : Int) - 1)) = (m : Int) := by rw [i64_wrapR _ (by omega) (by omega)]; omega
                            refine wpAnyH_take (i := 7) (oi := ⟨some 297, _, _, _, _, _⟩) (v := .int .i64 (m : Int)) rfl (by kernel_rfl) (by kernel_rfl) (by kernel_rfl) (fun _ _ _ h => h) (Or.inl ⟨by rfl, (by intro wq hq; first | (go_simp; done) | (go_simp; omega))⟩) hE ?_; try simp only [Act.put, List.setIfInBounds_toArray, List.set_cons_zero, List.set_cons_succ]
                            refine wpAnyH_ready (rs := [8]) (by kernel_rfl) (by simp) (AllReadyH.cons rfl (fun K hK => ?_) AllReadyH.nil)
                            go_simp
                            refine (HSq.out _ (m : Int) hE m rfl hm1 hm2).mono ?_
                            rintro e w8 ⟨va, vb, rfl, oa, ob, bs8⟩
                            have xs : Ext w14_1 w8 := bs8
                            have hVa : OwnF w8 wH.heap.size va (L.take m) := oa.mono hE.size
                            have hVb : OwnF w8 wH.heap.size vb (L.drop m) := ob.mono hE.size
                            replace hE : Ext wH w8 := hE.trans xs
                            replace h13 := (xs.block _ (Array.getElem?_eq_some_iff.1 h13).1).trans h13
                            replace h14 := (xs.block _ (Array.getElem?_eq_some_iff.1 h14).1).trans h14
                            obtain ⟨x1, y1, z1, rfl, -⟩ := hVa.rd.slice2
                            obtain ⟨x2, y2, z2, rfl, -⟩ := hVb.rd.slice2
                            clear oa ob bs8 xs
                            refine hK.out _ _ hE (fun _ => ?_)
                            clear hK K
                            try simp only [Act.put, List.setIfInBounds_toArray, List.set_cons_zero, List.set_cons_succ]
                            skip
                            skip
                            refine wpAnyH_take (i := 9) (oi := ⟨some 289, _, _, _, _, _⟩) (v := .tuple #[.agg #[.int .i64 st, .int .i64 sa, .slice x1 y1 z1], .agg #[.int .i64 st, .int .i64 (sa + m), .slice x2 y2 z2], .bool true]) rfl (by kernel_rfl) (by kernel_rfl) (by kernel_rfl) (fun _ _ _ h => h) (Or.inl ⟨by rfl, (by intro wq hq; go_simp)⟩) hE ?_; try simp only [Act.put, List.setIfInBounds_toArray, List.set_cons_zero, List.set_cons_succ]
                            refine wpAnyH_take (i := 10) (oi := ⟨some 299, _, _, _, _, _⟩) (v := .agg #[.int .i64 st, .int .i64 sa, .slice x1 y1 z1]) rfl (by kernel_rfl) (by kernel_rfl) (by kernel_rfl) (fun _ _ _ h => h) (Or.inl ⟨by rfl, (by intro wq hq; go_simp)⟩) hE ?_; try simp only [Act.put, List.setIfInBounds_toArray, List.set_cons_zero, List.set_cons_succ]
                            refine wpAnyH_take (i := 11) (oi := ⟨some 300, _, _, _, _, _⟩) (v := .agg #[.int .i64 st, .int .i64 (sa + m), .slice x2 y2 z2]) rfl (by kernel_rfl) (by kernel_rfl) (by kernel_rfl) (fun _ _ _ h => h) (Or.inl ⟨by rfl, (by intro wq hq; go_simp)⟩) hE ?_; try simp only [Act.put, List.setIfInBounds_toArray, List.set_cons_zero, List.set_cons_succ]
                            refine wpAnyH_take (i := 12) (oi := ⟨some 301, _, _, _, _, _⟩) (v := .bool true) rfl (by kernel_rfl) (by kernel_rfl) (by kernel_rfl) (fun _ _ _ h => h) (Or.inl ⟨by rfl, (by intro wq hq; go_simp)⟩) hE ?_; try simp only [Act.put, List.setIfInBounds_toArray, List.set_cons_zero, List.set_cons_succ]
                            skip
                            refine wpAnyH_ready (rs := [15]) (by kernel_rfl) (by simp) (AllReadyH.cons rfl (fun K hK => ?_) AllReadyH.nil)
                            obtain ⟨c0, c1', c2', f0, f1, f2⟩ := blk3 h13
                            have PX := put3 h13 (.int .i64 st) (.int .i64 sa) (.slice x1 y1 z1)
                            go_simp
                            replace hE : Ext wH _ := Below.chg hE PX.chg (fun k hk => by omega) hE.size
                            replace h14 := (PX.chg.block _ (Array.getElem?_eq_some_iff.1 h14).1 (by omega)).trans h14
                            have nA := hVa.apart h13 (by decide)
                            have nB := hVb.apart h13 (by decide)
                            replace hVa := hVa.chg PX.chg nA
                            replace hVb := hVb.chg PX.chg nB
                            replace h13 := PX.heap
                            refine hK.out _ _ hE (fun _ => ?_)
                            clear hK K
                            try simp only [Act.put, List.setIfInBounds_toArray, List.set_cons_zero, List.set_cons_succ]
                            obtain ⟨w15_4, hwx⟩ : ∃ x, ((w8.setCell ⟨ga, 0, none⟩ (.int .i64 st)).setCell ⟨ga, 1, none⟩ (.int .i64 sa)).setCell ⟨ga, 2, none⟩ (.slice x1 y1 z1) = x := ⟨_, rfl⟩
                            rw [hwx] at hE hVa hVb h13 h14 ⊢
                            clear hwx c0 c1' c2' f0 f1 f2 PX nA nB
                            refine wpAnyH_ready (rs := [16]) (by kernel_rfl) (by simp) (AllReadyH.cons rfl (fun K hK => ?_) AllReadyH.nil)
                            obtain ⟨c0, c1', c2', f0, f1, f2⟩ := blk3 h14
                            have PX := put3 h14 (.int .i64 st) (.int .i64 (sa + m)) (.slice x2 y2 z2)
                            go_simp
                            replace hE : Ext wH _ := Below.chg hE PX.chg (fun k hk => by omega) hE.size
                            replace h13 := (PX.chg.block _ (Array.getElem?_eq_some_iff.1 h13).1 (by omega)).trans h13
                            have nA := hVa.apart h14 (by decide)
                            have nB := hVb.apart h14 (by decide)
                            replace hVa := hVa.chg PX.chg nA
                            replace hVb := hVb.chg PX.chg nB
                            replace h14 := PX.heap
                            refine hK.out _ _ hE (fun _ => ?_)
                            clear hK K
                            try simp only [Act.put, List.setIfInBounds_toArray, List.set_cons_zero, List.set_cons_succ]
                            obtain ⟨w16_5, hwx⟩ : ∃ x, ((w15_4.setCell ⟨gb, 0, none⟩ (.int .i64 st)).setCell ⟨gb, 1, none⟩ (.int .i64 (sa + m))).setCell ⟨gb, 2, none⟩ (.slice x2 y2 z2) = x := ⟨_, rfl⟩
                            rw [hwx] at hE hVa hVb h13 h14 ⊢
                            clear hwx c0 c1' c2' f0 f1 f2 PX nA nB
                            refine wpAnyH_take (i := 17) (oi := ⟨some 36, .assign (.tmp 301), 4, _, _, none⟩) (v := .bool true) rfl (by kernel_rfl) (by kernel_rfl) (by kernel_rfl) (fun _ _ _ h => h) (Or.inl ⟨by rfl, (by intro wq hq; go_simp)⟩) hE ?_; try simp only [Act.put, List.setIfInBounds_toArray, List.set_cons_zero, List.set_cons_succ]
                            refine wpAnyH_done (by kernel_rfl) ?_ _
                            go_wp2_with fail
                            go_meet
                            exact ⟨ga, gb, m, _, _, rfl, rfl, rfl, hm1, hm2, hE, h13, h14, hVa.rd, hVb.rd⟩
                    · as_aux_lemma =>
                        go_simp
                        have xa : Ext wr (wr.alloc (.cells #[.int .i64 0, .int .i64 0, .slice none 0 0] 31)) := (Below.refl _ _).alloc (Nat.le_refl _) _
                        have h14 := alloc_new wr (.cells #[.int .i64 0, .int .i64 0, .slice none 0 0] 31)
                        have hg14 : wH.heap.size ≤ wr.heap.size := hE.size
                        replace hE : Ext wH _ := hE.trans xa
                        obtain ⟨gb, hgx⟩ : ∃ g, wr.heap.size = g := ⟨_, rfl⟩
                        rw [hgx] at h14 hg14
                        try rw [hgx]
                        refine hK.out _ _ hE (fun _ => ?_)
                        clear hK K
                        try simp only [Act.put, List.setIfInBounds_toArray, List.set_cons_zero, List.set_cons_succ]
                        obtain ⟨w14_0, hwx⟩ : ∃ x, wr.alloc (.cells #[.int .i64 0, .int .i64 0, .slice none 0 0] 31) = x := ⟨_, rfl⟩
                        rw [hwx] at hE h14 ⊢
                        clear hwx hgx xa
                        refine wpAnyH_ready (rs := [6, 13]) (by kernel_rfl) (by simp) (AllReadyH.cons rfl (fun K hK => ?_) (AllReadyH.cons rfl (fun K hK => ?_) AllReadyH.nil))
                        · as_aux_lemma =>
                            go_simp
                            refine (HAt.out _ hE).mono ?_
                            rintro e wq ⟨m, rfl, hm1, hm2, hwq⟩
                            obtain rfl : w14_0 = wq := hwq.symm
                            clear hwq
                            refine hK.out _ _ hE (fun _ => ?_)
                            clear hK K
                            try simp only [Act.put, List.setIfInBounds_toArray, List.set_cons_zero, List.set_cons_succ]
                            have hwm : IntKind.i64.wrap (1 + ((m : Int) - 1)) = (m : Int) := by rw [i64_wrapR _ (by omega) (by omega)]; omega
                            refine wpAnyH_take (i := 7) (oi := ⟨some 297, _, _, _, _, _⟩) (v := .int .i64 (m : Int)) rfl (by kernel_rfl) (by kernel_rfl) (by kernel_rfl) (fun _ _ _ h => h) (Or.inl ⟨by rfl, (by intro wq hq; first | (go_simp; done) | (go_simp; omega))⟩) hE ?_; try simp only [Act.put, List.setIfInBounds_toArray, List.set_cons_zero, List.set_cons_succ]
                            refine wpAnyH_ready (rs := [8, 13]) (by kernel_rfl) (by simp) (AllReadyH.cons rfl (fun K hK => ?_) (AllReadyH.cons rfl (fun K hK => ?_) AllReadyH.nil))
                            · as_aux_lemma =>
                                go_simp
                                refine (HSq.out _ (m : Int) hE m rfl hm1 hm2).mono ?_
                                rintro e w8 ⟨va, vb, rfl, oa, ob, bs8⟩
                                have xs : Ext w14_0 w8 := bs8
                                have hVa : OwnF w8 wH.heap.size va (L.take m) := oa.mono hE.size
                                have hVb : OwnF w8 wH.heap.size vb (L.drop m) := ob.mono hE.size
                                replace hE : Ext wH w8 := hE.trans xs
                                replace h14 := (xs.block _ (Array.getElem?_eq_some_iff.1 h14).1).trans h14
                                obtain ⟨x1, y1, z1, rfl, -⟩ := hVa.rd.slice2
                                obtain ⟨x2, y2, z2, rfl, -⟩ := hVb.rd.slice2
                                clear oa ob bs8 xs
                                refine hK.out _ _ hE (fun _ => ?_)
                                clear hK K
                                try simp only [Act.put, List.setIfInBounds_toArray, List.set_cons_zero, List.set_cons_succ]
                                skip
                                skip
                                refine wpAnyH_take (i := 9) (oi := ⟨some 289, _, _, _, _, _⟩) (v := .tuple #[.agg #[.int .i64 st, .int .i64 sa, .slice x1 y1 z1], .agg #[.int .i64 st, .int .i64 (sa + m), .slice x2 y2 z2], .bool true]) rfl (by kernel_rfl) (by kernel_rfl) (by kernel_rfl) (fun _ _ _ h => h) (Or.inl ⟨by rfl, (by intro wq hq; go_simp)⟩) hE ?_; try simp only [Act.put, List.setIfInBounds_toArray, List.set_cons_zero, List.set_cons_succ]
                                refine wpAnyH_take (i := 10) (oi := ⟨some 299, _, _, _, _, _⟩) (v := .agg #[.int .i64 st, .int .i64 sa, .slice x1 y1 z1]) rfl (by kernel_rfl) (by kernel_rfl) (by kernel_rfl) (fun _ _ _ h => h) (Or.inl ⟨by rfl, (by intro wq hq; go_simp)⟩) hE ?_; try simp only [Act.put, List.setIfInBounds_toArray, List.set_cons_zero, List.set_cons_succ]
                                refine wpAnyH_take (i := 11) (oi := ⟨some 300, _, _, _, _, _⟩) (v := .agg #[.int .i64 st, .int .i64 (sa + m), .slice x2 y2 z2]) rfl (by kernel_rfl) (by kernel_rfl) (by kernel_rfl) (fun _ _ _ h => h) (Or.inl ⟨by rfl, (by intro wq hq; go_simp)⟩) hE ?_; try simp only [Act.put, List.setIfInBounds_toArray, List.set_cons_zero, List.set_cons_succ]
                                refine wpAnyH_take (i := 12) (oi := ⟨some 301, _, _, _, _, _⟩) (v := .bool true) rfl (by kernel_rfl) (by kernel_rfl) (by kernel_rfl) (fun _ _ _ h => h) (Or.inl ⟨by rfl, (by intro wq hq; go_simp)⟩) hE ?_; try simp only [Act.put, List.setIfInBounds_toArray, List.set_cons_zero, List.set_cons_succ]
                                skip
                                refine wpAnyH_ready (rs := [13]) (by kernel_rfl) (by simp) (AllReadyH.cons rfl (fun K hK => ?_) AllReadyH.nil)
                                go_simp
                                have xa : Ext w8 (w8.alloc (.cells #[.int .i64 0, .int .i64 0, .slice none 0 0] 31)) := (Below.refl _ _).alloc (Nat.le_refl _) _
                                have h13 := alloc_new w8 (.cells #[.int .i64 0, .int .i64 0, .slice none 0 0] 31)
                                have hg13 : wH.heap.size ≤ w8.heap.size := hE.size
                                replace hE : Ext wH _ := hE.trans xa
                                have hab : w8.heap.size ≠ gb := by have := (Array.getElem?_eq_some_iff.1 h14).1; omega
                                replace h14 := (xa.block _ (Array.getElem?_eq_some_iff.1 h14).1).trans h14
                                replace hVa := hVa.kept xa
                                replace hVb := hVb.kept xa
                                obtain ⟨ga, hgx⟩ : ∃ g, w8.heap.size = g := ⟨_, rfl⟩
                                rw [hgx] at h13 hg13 hab
                                try rw [hgx]
                                refine hK.out _ _ hE (fun _ => ?_)
                                clear hK K
                                try simp only [Act.put, List.setIfInBounds_toArray, List.set_cons_zero, List.set_cons_succ]
                                obtain ⟨w13_3, hwx⟩ : ∃ x, w8.alloc (.cells #[.int .i64 0, .int .i64 0, .slice none 0 0] 31) = x := ⟨_, rfl⟩
                                rw [hwx] at hE h13 h14 hVa hVb ⊢
                                clear hwx hgx xa
                                refine wpAnyH_ready (rs := [15]) (by kernel_rfl) (by simp) (AllReadyH.cons rfl (fun K hK => ?_) AllReadyH.nil)
                                obtain ⟨c0, c1', c2', f0, f1, f2⟩ := blk3 h13
                                have PX := put3 h13 (.int .i64 st) (.int .i64 sa) (.slice x1 y1 z1)
                                go_simp
                                replace hE : Ext wH _ := Below.chg hE PX.chg (fun k hk => by omega) hE.size
                                replace h14 := (PX.chg.block _ (Array.getElem?_eq_some_iff.1 h14).1 (by omega)).trans h14
                                have nA := hVa.apart h13 (by decide)
                                have nB := hVb.apart h13 (by decide)
                                replace hVa := hVa.chg PX.chg nA
                                replace hVb := hVb.chg PX.chg nB
                                replace h13 := PX.heap
                                refine hK.out _ _ hE (fun _ => ?_)
                                clear hK K
                                try simp only [Act.put, List.setIfInBounds_toArray, List.set_cons_zero, List.set_cons_succ]
                                obtain ⟨w15_4, hwx⟩ : ∃ x, ((w13_3.setCell ⟨ga, 0, none⟩ (.int .i64 st)).setCell ⟨ga, 1, none⟩ (.int .i64 sa)).setCell ⟨ga, 2, none⟩ (.slice x1 y1 z1) = x := ⟨_, rfl⟩
                                rw [hwx] at hE hVa hVb h13 h14 ⊢
                                clear hwx c0 c1' c2' f0 f1 f2 PX nA nB
                                refine wpAnyH_ready (rs := [16]) (by kernel_rfl) (by simp) (AllReadyH.cons rfl (fun K hK => ?_) AllReadyH.nil)
                                obtain ⟨c0, c1', c2', f0, f1, f2⟩ := blk3 h14
                                have PX := put3 h14 (.int .i64 st) (.int .i64 (sa + m)) (.slice x2 y2 z2)
                                go_simp
                                replace hE : Ext wH _ := Below.chg hE PX.chg (fun k hk => by omega) hE.size
                                replace h13 := (PX.chg.block _ (Array.getElem?_eq_some_iff.1 h13).1 (by omega)).trans h13
                                have nA := hVa.apart h14 (by decide)
                                have nB := hVb.apart h14 (by decide)
                                replace hVa := hVa.chg PX.chg nA
                                replace hVb := hVb.chg PX.chg nB
                                replace h14 := PX.heap
                                refine hK.out _ _ hE (fun _ => ?_)
                                clear hK K
                                try simp only [Act.put, List.setIfInBounds_toArray, List.set_cons_zero, List.set_cons_succ]
                                obtain ⟨w16_5, hwx⟩ : ∃ x, ((w15_4.setCell ⟨gb, 0, none⟩ (.int .i64 st)).setCell ⟨gb, 1, none⟩ (.int .i64 (sa + m))).setCell ⟨gb, 2, none⟩ (.slice x2 y2 z2) = x := ⟨_, rfl⟩
                                rw [hwx] at hE hVa hVb h13 h14 ⊢
                                clear hwx c0 c1' c2' f0 f1 f2 PX nA nB
                                refine wpAnyH_take (i := 17) (oi := ⟨some 36, .assign (.tmp 301), 4, _, _, none⟩) (v := .bool true) rfl (by kernel_rfl) (by kernel_rfl) (by kernel_rfl) (fun _ _ _ h => h) (Or.inl ⟨by rfl, (by intro wq hq; go_simp)⟩) hE ?_; try simp only [Act.put, List.setIfInBounds_toArray, List.set_cons_zero, List.set_cons_succ]
                                refine wpAnyH_done (by kernel_rfl) ?_ _
                                go_wp2_with fail
                                go_meet
                                exact ⟨ga, gb, m, _, _, rfl, rfl, rfl, hm1, hm2, hE, h13, h14, hVa.rd, hVb.rd⟩
                            · as_aux_lemma =>
                                go_simp
                                have xa : Ext w14_0 (w14_0.alloc (.cells #[.int .i64 0, .int .i64 0, .slice none 0 0] 31)) := (Below.refl _ _).alloc (Nat.le_refl _) _
                                have h13 := alloc_new w14_0 (.cells #[.int .i64 0, .int .i64 0, .slice none 0 0] 31)
                                have hg13 : wH.heap.size ≤ w14_0.heap.size := hE.size
                                replace hE : Ext wH _ := hE.trans xa
                                have hab : w14_0.heap.size ≠ gb := by have := (Array.getElem?_eq_some_iff.1 h14).1; omega
                                replace h14 := (xa.block _ (Array.getElem?_eq_some_iff.1 h14).1).trans h14
                                obtain ⟨ga, hgx⟩ : ∃ g, w14_0.heap.size = g := ⟨_, rfl⟩
                                rw [hgx] at h13 hg13 hab
                                try rw [hgx]
                                refine hK.out _ _ hE (fun _ => ?_)
                                clear hK K
                                try simp only [Act.put, List.setIfInBounds_toArray, List.set_cons_zero, List.set_cons_succ]
                                obtain ⟨w13_2, hwx⟩ : ∃ x, w14_0.alloc (.cells #[.int .i64 0, .int .i64 0, .slice none 0 0] 31) = x := ⟨_, rfl⟩
                                rw [hwx] at hE h13 h14 ⊢
                                clear hwx hgx xa
                                refine wpAnyH_ready (rs := [8]) (by kernel_rfl) (by simp) (AllReadyH.cons rfl (fun K hK => ?_) AllReadyH.nil)
                                go_simp
                                refine (HSq.out _ (m : Int) hE m rfl hm1 hm2).mono ?_
                                rintro e w8 ⟨va, vb, rfl, oa, ob, bs8⟩
                                have xs : Ext w13_2 w8 := bs8
                                have hVa : OwnF w8 wH.heap.size va (L.take m) := oa.mono hE.size
                                have hVb : OwnF w8 wH.heap.size vb (L.drop m) := ob.mono hE.size
                                replace hE : Ext wH w8 := hE.trans xs
                                replace h13 := (xs.block _ (Array.getElem?_eq_some_iff.1 h13).1).trans h13
                                replace h14 := (xs.block _ (Array.getElem?_eq_some_iff.1 h14).1).trans h14
                                obtain ⟨x1, y1, z1, rfl, -⟩ := hVa.rd.slice2
                                obtain ⟨x2, y2, z2, rfl, -⟩ := hVb.rd.slice2
                                clear oa ob bs8 xs
                                refine hK.out _ _ hE (fun _ => ?_)
                                clear hK K
                                try simp only [Act.put, List.setIfInBounds_toArray, List.set_cons_zero, List.set_cons_succ]
                                skip
                                skip
                                refine wpAnyH_take (i := 9) (oi := ⟨some 289, _, _, _, _, _⟩) (v := .tuple #[.agg #[.int .i64 st, .int .i64 sa, .slice x1 y1 z1], .agg #[.int .i64 st, .int .i64 (sa + m), .slice x2 y2 z2], .bool true]) rfl (by kernel_rfl) (by kernel_rfl) (by kernel_rfl) (fun _ _ _ h => h) (Or.inl ⟨by rfl, (by intro wq hq; go_simp)⟩) hE ?_; try simp only [Act.put, List.setIfInBounds_toArray, List.set_cons_zero, List.set_cons_succ]
                                refine wpAnyH_take (i := 10) (oi := ⟨some 299, _, _, _, _, _⟩) (v := .agg #[.int .i64 st, .int .i64 sa, .slice x1 y1 z1]) rfl (by kernel_rfl) (by kernel_rfl) (by kernel_rfl) (fun _ _ _ h => h) (Or.inl ⟨by rfl, (by intro wq hq; go_simp)⟩) hE ?_; try simp only [Act.put, List.setIfInBounds_toArray, List.set_cons_zero, List.set_cons_succ]
                                refine wpAnyH_take (i := 11) (oi := ⟨some 300, _, _, _, _, _⟩) (v := .agg #[.int .i64 st, .int .i64 (sa + m), .slice x2 y2 z2]) rfl (by kernel_rfl) (by kernel_rfl) (by kernel_rfl) (fun _ _ _ h => h) (Or.inl ⟨by rfl, (by intro wq hq; go_simp)⟩) hE ?_; try simp only [Act.put, List.setIfInBounds_toArray, List.set_cons_zero, List.set_cons_succ]
                                refine wpAnyH_take (i := 12) (oi := ⟨some 301, _, _, _, _, _⟩) (v := .bool true) rfl (by kernel_rfl) (by kernel_rfl) (by kernel_rfl) (fun _ _ _ h => h) (Or.inl ⟨by rfl, (by intro wq hq; go_simp)⟩) hE ?_; try simp only [Act.put, List.setIfInBounds_toArray, List.set_cons_zero, List.set_cons_succ]
                                skip
                                refine wpAnyH_ready (rs := [15]) (by kernel_rfl) (by simp) (AllReadyH.cons rfl (fun K hK => ?_) AllReadyH.nil)
                                obtain ⟨c0, c1', c2', f0, f1, f2⟩ := blk3 h13
                                have PX := put3 h13 (.int .i64 st) (.int .i64 sa) (.slice x1 y1 z1)
                                go_simp
                                replace hE : Ext wH _ := Below.chg hE PX.chg (fun k hk => by omega) hE.size
                                replace h14 := (PX.chg.block _ (Array.getElem?_eq_some_iff.1 h14).1 (by omega)).trans h14
                                have nA := hVa.apart h13 (by decide)
                                have nB := hVb.apart h13 (by decide)
                                replace hVa := hVa.chg PX.chg nA
                                replace hVb := hVb.chg PX.chg nB
                                replace h13 := PX.heap
                                refine hK.out _ _ hE (fun _ => ?_)
                                clear hK K
                                try simp only [Act.put, List.setIfInBounds_toArray, List.set_cons_zero, List.set_cons_succ]
                                obtain ⟨w15_4, hwx⟩ : ∃ x, ((w8.setCell ⟨ga, 0, none⟩ (.int .i64 st)).setCell ⟨ga, 1, none⟩ (.int .i64 sa)).setCell ⟨ga, 2, none⟩ (.slice x1 y1 z1) = x := ⟨_, rfl⟩
                                rw [hwx] at hE hVa hVb h13 h14 ⊢
                                clear hwx c0 c1' c2' f0 f1 f2 PX nA nB
                                refine wpAnyH_ready (rs := [16]) (by kernel_rfl) (by simp) (AllReadyH.cons rfl (fun K hK => ?_) AllReadyH.nil)
                                obtain ⟨c0, c1', c2', f0, f1, f2⟩ := blk3 h14
                                have PX := put3 h14 (.int .i64 st) (.int .i64 (sa + m)) (.slice x2 y2 z2)
                                go_simp
                                replace hE : Ext wH _ := Below.chg hE PX.chg (fun k hk => by omega) hE.size
                                replace h13 := (PX.chg.block _ (Array.getElem?_eq_some_iff.1 h13).1 (by omega)).trans h13
                                have nA := hVa.apart h14 (by decide)
                                have nB := hVb.apart h14 (by decide)
                                replace hVa := hVa.chg PX.chg nA
                                replace hVb := hVb.chg PX.chg nB
                                replace h14 := PX.heap
                                refine hK.out _ _ hE (fun _ => ?_)
                                clear hK K
                                try simp only [Act.put, List.setIfInBounds_toArray, List.set_cons_zero, List.set_cons_succ]
                                obtain ⟨w16_5, hwx⟩ : ∃ x, ((w15_4.setCell ⟨gb, 0, none⟩ (.int .i64 st)).setCell ⟨gb, 1, none⟩ (.int .i64 (sa + m))).setCell ⟨gb, 2, none⟩ (.slice x2 y2 z2) = x := ⟨_, rfl⟩
                                rw [hwx] at hE hVa hVb h13 h14 ⊢
                                clear hwx c0 c1' c2' f0 f1 f2 PX nA nB
                                refine wpAnyH_take (i := 17) (oi := ⟨some 36, .assign (.tmp 301), 4, _, _, none⟩) (v := .bool true) rfl (by kernel_rfl) (by kernel_rfl) (by kernel_rfl) (fun _ _ _ h => h) (Or.inl ⟨by rfl, (by intro wq hq; go_simp)⟩) hE ?_; try simp only [Act.put, List.setIfInBounds_toArray, List.set_cons_zero, List.set_cons_succ]
                                refine wpAnyH_done (by kernel_rfl) ?_ _
                                go_wp2_with fail
                                go_meet
                                exact ⟨ga, gb, m, _, _, rfl, rfl, rfl, hm1, hm2, hE, h13, h14, hVa.rd, hVb.rd⟩
                        · as_aux_lemma =>
                            go_simp
                            have xa : Ext w14_0 (w14_0.alloc (.cells #[.int .i64 0, .int .i64 0, .slice none 0 0] 31)) := (Below.refl _ _).alloc (Nat.le_refl _) _
                            have h13 := alloc_new w14_0 (.cells #[.int .i64 0, .int .i64 0, .slice none 0 0] 31)
                            have hg13 : wH.heap.size ≤ w14_0.heap.size := hE.size
                            replace hE : Ext wH _ := hE.trans xa
                            have hab : w14_0.heap.size ≠ gb := by have := (Array.getElem?_eq_some_iff.1 h14).1; omega
                            replace h14 := (xa.block _ (Array.getElem?_eq_some_iff.1 h14).1).trans h14
                            obtain ⟨ga, hgx⟩ : ∃ g, w14_0.heap.size = g := ⟨_, rfl⟩
                            rw [hgx] at h13 hg13 hab
                            try rw [hgx]
                            refine hK.out _ _ hE (fun _ => ?_)
                            clear hK K
                            try simp only [Act.put, List.setIfInBounds_toArray, List.set_cons_zero, List.set_cons_succ]
                            obtain ⟨w13_1, hwx⟩ : ∃ x, w14_0.alloc (.cells #[.int .i64 0, .int .i64 0, .slice none 0 0] 31) = x := ⟨_, rfl⟩
                            rw [hwx] at hE h13 h14 ⊢
                            clear hwx hgx xa
                            refine wpAnyH_ready (rs := [6]) (by kernel_rfl) (by simp) (AllReadyH.cons rfl (fun K hK => ?_) AllReadyH.nil)
                            go_simp
                            refine (HAt.out _ hE).mono ?_
                            rintro e wq ⟨m, rfl, hm1, hm2, hwq⟩
                            obtain rfl : w13_1 = wq := hwq.symm
                            clear hwq
                            refine hK.out _ _ hE (fun _ => ?_)
                            clear hK K
                            try simp only [Act.put, List.setIfInBounds_toArray, List.set_cons_zero, List.set_cons_succ]
                            have hwm : IntKind.i64.wrap (1 + ((m : Int) - 1)) = (m : Int) := by rw [i64_wrapR _ (by omega) (by omega)]; omega
                            refine wpAnyH_take (i := 7) (oi := ⟨some 297, _, _, _, _, _⟩) (v := .int .i64 (m : Int)) rfl (by kernel_rfl) (by kernel_rfl) (by kernel_rfl) (fun _ _ _ h => h) (Or.inl ⟨by rfl, (by intro wq hq; first | (go_simp; done) | (go_simp; omega))⟩) hE ?_; try simp only [Act.put, List.setIfInBounds_toArray, List.set_cons_zero, List.set_cons_succ]
                            refine wpAnyH_ready (rs := [8]) (by kernel_rfl) (by simp) (AllReadyH.cons rfl (fun K hK => ?_) AllReadyH.nil)
                            go_simp
                            refine (HSq.out _ (m : Int) hE m rfl hm1 hm2).mono ?_
                            rintro e w8 ⟨va, vb, rfl, oa, ob, bs8⟩
                            have xs : Ext w13_1 w8 := bs8
                            have hVa : OwnF w8 wH.heap.size va (L.take m) := oa.mono hE.size
                            have hVb : OwnF w8 wH.heap.size vb (L.drop m) := ob.mono hE.size
                            replace hE : Ext wH w8 := hE.trans xs
                            replace h13 := (xs.block _ (Array.getElem?_eq_some_iff.1 h13).1).trans h13
                            replace h14 := (xs.block _ (Array.getElem?_eq_some_iff.1 h14).1).trans h14
                            obtain ⟨x1, y1, z1, rfl, -⟩ := hVa.rd.slice2
                            obtain ⟨x2, y2, z2, rfl, -⟩ := hVb.rd.slice2
                            clear oa ob bs8 xs
                            refine hK.out _ _ hE (fun _ => ?_)
                            clear hK K
                            try simp only [Act.put, List.setIfInBounds_toArray, List.set_cons_zero, List.set_cons_succ]
                            skip
                            skip
                            refine wpAnyH_take (i := 9) (oi := ⟨some 289, _, _, _, _, _⟩) (v := .tuple #[.agg #[.int .i64 st, .int .i64 sa, .slice x1 y1 z1], .agg #[.int .i64 st, .int .i64 (sa + m), .slice x2 y2 z2], .bool true]) rfl (by kernel_rfl) (by kernel_rfl) (by kernel_rfl) (fun _ _ _ h => h) (Or.inl ⟨by rfl, (by intro wq hq; go_simp)⟩) hE ?_; try simp only [Act.put, List.setIfInBounds_toArray, List.set_cons_zero, List.set_cons_succ]
                            refine wpAnyH_take (i := 10) (oi := ⟨some 299, _, _, _, _, _⟩) (v := .agg #[.int .i64 st, .int .i64 sa, .slice x1 y1 z1]) rfl (by kernel_rfl) (by kernel_rfl) (by kernel_rfl) (fun _ _ _ h => h) (Or.inl ⟨by rfl, (by intro wq hq; go_simp)⟩) hE ?_; try simp only [Act.put, List.setIfInBounds_toArray, List.set_cons_zero, List.set_cons_succ]
                            refine wpAnyH_take (i := 11) (oi := ⟨some 300, _, _, _, _, _⟩) (v := .agg #[.int .i64 st, .int .i64 (sa + m), .slice x2 y2 z2]) rfl (by kernel_rfl) (by kernel_rfl) (by kernel_rfl) (fun _ _ _ h => h) (Or.inl ⟨by rfl, (by intro wq hq; go_simp)⟩) hE ?_; try simp only [Act.put, List.setIfInBounds_toArray, List.set_cons_zero, List.set_cons_succ]
                            refine wpAnyH_take (i := 12) (oi := ⟨some 301, _, _, _, _, _⟩) (v := .bool true) rfl (by kernel_rfl) (by kernel_rfl) (by kernel_rfl) (fun _ _ _ h => h) (Or.inl ⟨by rfl, (by intro wq hq; go_simp)⟩) hE ?_; try simp only [Act.put, List.setIfInBounds_toArray, List.set_cons_zero, List.set_cons_succ]
                            skip
                            refine wpAnyH_ready (rs := [15]) (by kernel_rfl) (by simp) (AllReadyH.cons rfl (fun K hK => ?_) AllReadyH.nil)
                            obtain ⟨c0, c1', c2', f0, f1, f2⟩ := blk3 h13
                            have PX := put3 h13 (.int .i64 st) (.int .i64 sa) (.slice x1 y1 z1)
                            go_simp
                            replace hE : Ext wH _ := Below.chg hE PX.chg (fun k hk => by omega) hE.size
                            replace h14 := (PX.chg.block _ (Array.getElem?_eq_some_iff.1 h14).1 (by omega)).trans h14
                            have nA := hVa.apart h13 (by decide)
                            have nB := hVb.apart h13 (by decide)
                            replace hVa := hVa.chg PX.chg nA
                            replace hVb := hVb.chg PX.chg nB
                            replace h13 := PX.heap
                            refine hK.out _ _ hE (fun _ => ?_)
                            clear hK K
                            try simp only [Act.put, List.setIfInBounds_toArray, List.set_cons_zero, List.set_cons_succ]
                            obtain ⟨w15_4, hwx⟩ : ∃ x, ((w8.setCell ⟨ga, 0, none⟩ (.int .i64 st)).setCell ⟨ga, 1, none⟩ (.int .i64 sa)).setCell ⟨ga, 2, none⟩ (.slice x1 y1 z1) = x := ⟨_, rfl⟩
                            rw [hwx] at hE hVa hVb h13 h14 ⊢
                            clear hwx c0 c1' c2' f0 f1 f2 PX nA nB
                            refine wpAnyH_ready (rs := [16]) (by kernel_rfl) (by simp) (AllReadyH.cons rfl (fun K hK => ?_) AllReadyH.nil)
                            obtain ⟨c0, c1', c2', f0, f1, f2⟩ := blk3 h14
                            have PX := put3 h14 (.int .i64 st) (.int .i64 (sa + m)) (.slice x2 y2 z2)
                            go_simp
                            replace hE : Ext wH _ := Below.chg hE PX.chg (fun k hk => by omega) hE.size
                            replace h13 := (PX.chg.block _ (Array.getElem?_eq_some_iff.1 h13).1 (by omega)).trans h13
                            have nA := hVa.apart h14 (by decide)
                            have nB := hVb.apart h14 (by decide)
                            replace hVa := hVa.chg PX.chg nA
                            replace hVb := hVb.chg PX.chg nB
                            replace h14 := PX.heap
                            refine hK.out _ _ hE (fun _ => ?_)
                            clear hK K
                            try simp only [Act.put, List.setIfInBounds_toArray, List.set_cons_zero, List.set_cons_succ]
                            obtain ⟨w16_5, hwx⟩ : ∃ x, ((w15_4.setCell ⟨gb, 0, none⟩ (.int .i64 st)).setCell ⟨gb, 1, none⟩ (.int .i64 (sa + m))).setCell ⟨gb, 2, none⟩ (.slice x2 y2 z2) = x := ⟨_, rfl⟩
                            rw [hwx] at hE hVa hVb h13 h14 ⊢
                            clear hwx c0 c1' c2' f0 f1 f2 PX nA nB
                            refine wpAnyH_take (i := 17) (oi := ⟨some 36, .assign (.tmp 301), 4, _, _, none⟩) (v := .bool true) rfl (by kernel_rfl) (by kernel_rfl) (by kernel_rfl) (fun _ _ _ h => h) (Or.inl ⟨by rfl, (by intro wq hq; go_simp)⟩) hE ?_; try simp only [Act.put, List.setIfInBounds_toArray, List.set_cons_zero, List.set_cons_succ]
                            refine wpAnyH_done (by kernel_rfl) ?_ _
                            go_wp2_with fail
                            go_meet
                            exact ⟨ga, gb, m, _, _, rfl, rfl, rfl, hm1, hm2, hE, h13, h14, hVa.rd, hVb.rd⟩
                case rest =>
                  as_aux_lemma =>
                    clear k0 k1 k2 hwH HSq HAt
                    obtain ⟨ga, gb, m, va, vb, rfl, rfl, rfl, hm1, hm2, hE, hga, hgb, hva, hvb⟩ := hcut
                    have hTk : (L.take m).length = m := by rw [List.length_take, ← HNf.out]; omega
                    have hDk : (L.drop m).length = nf - m := by rw [List.length_drop, ← HNf.out]
                    have o1 : okF ⟨st, sa, L.take m⟩ = true := HEvf.out.part (L.take m) sa (by have := HEvf.out.sa; simp only at this; omega) ⟨by omega, by omega⟩ (fun x hx => List.mem_of_mem_take hx)
                    have o2 : okF ⟨st, sa + ((L.take m).length : Nat), L.drop m⟩ = true := by
                      rw [hTk]
                      exact snd_ok HEvf.out (m := m) (by show m + 1 ≤ L.length; rw [← HNf.out]; exact hm2)
                    have o3 : okF ⟨st, sa, L.take m ++ L.drop m⟩ = true := by rw [List.take_append_drop]; exact HEvf.out.ok
                    have hsa := HEvf.out.sa
                    simp only at hsa
                    have HJ := joinFrames_any wc st sa va vb (L.take m) (L.drop m) hva hvb o1 o2 o3 (by omega) (by omega) (by omega) (by omega) (by omega)
                    rw [hTk, List.take_append_drop] at HJ
                    have HJ' := Lib.hid HJ
                    obtain ⟨x1, y1, z1, rfl, -⟩ := hva.slice2
                    obtain ⟨x2, y2, z2, rfl, -⟩ := hvb.slice2
                    obtain ⟨k0, k1, k2, -, -, -⟩ := blk3 hga
                    obtain ⟨j0, j1, j2, -, -, -⟩ := blk3 hgb
                    have HE := Lib.hid hE
                    clear HJ hva hvb o1 o2 o3 hE hga hgb
                    go_wp2_with fail
                    clear k0 k1 k2 j0 j1 j2
                    refine HJ'.out.mono ?_
                    rintro e wJ ⟨vo, rfl, oJ, bJ⟩
                    have xJ : Ext wH wJ := HE.out.trans bJ
                    obtain ⟨x3, y3, z3, rfl, -⟩ := oJ.rd.slice2
                    have RJ := Lib.hid oJ.rd
                    have XJ := Lib.hid xJ
                    obtain ⟨wK, hwK⟩ : ∃ wK, wJ.alloc (.cells #[.int .i64 st, .int .i64 sa, .slice x3 y3 z3] 31) = wK := ⟨_, rfl⟩
                    have xK : Ext wJ wK := by rw [← hwK]; exact (Below.refl _ _).alloc (Nat.le_refl _) _
                    have hK0 : wK.heap[wJ.heap.size]? = some (.cells #[.int .i64 st, .int .i64 sa, .slice x3 y3 z3] 31 (0, 0)) := by rw [← hwK]; exact alloc_new _ _
                    obtain ⟨k0, k1, k2⟩ := FX.out wK (xJ.trans xK)
                    obtain ⟨j0, j1, j2, -, -, -⟩ := blk3 hK0
                    have HSF := Lib.hid (sameFrameI_any wK st sa _ _ L (RJ.out.mono xK) (RF.out.mono (xJ.trans xK)) (by rw [← HNf.out]; omega))
                    have XK := Lib.hid (XJ.out.trans xK)
                    clear oJ bJ xJ xK hK0
                    go_wp2_with fail
                    refine HSF.out.mono ?_
                    rintro e wL ⟨rfl, bL⟩
                    have XL := Lib.hid (XK.out.trans bL)
                    clear bL HSF k0 k1 k2 j0 j1 j2 hwK
                    go_wp2_with fail
                    go_ret
                    exact TrueB.mk (BH.out.trans (XL.out.mono BH.out.size))
end Go.Proofs.Ytibojlpeaolfbaa
