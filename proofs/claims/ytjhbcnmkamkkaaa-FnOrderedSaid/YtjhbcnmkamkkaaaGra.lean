/- Walks on a seat of gathers: MergeGathers of a gather and itself. -/
import Derived.Test.YtjhbcnmkamkkaaaGr9
namespace Go.Proofs.Ytjhbcnmkamkkaaa
open Go Go.RowKit

def twT (T : TM) : TM := ⟨T.t, T.P ++ T.P, T.Ls ++ T.Ls⟩
/-- What the two calls hand back. -/
def mgT (P : List Nat) (us : List Value) (f : FuncId) (args : Array Value) (w : World) (u : Value) (w'' : World) : Prop :=
  (f = 96 ∧ OwnF w'' w.heap.size u (P ++ P)) ∨ (f = 97 ∧ w''.ownsRow w.heap.size 25 1 u (us ++ us).length (us ++ us))
theorem row_exists (w : World) (us : List Value) (hl : us.length ≤ maxLen) : ∃ u w'', w''.ownsRow w.heap.size 25 1 u us.length us ∧ Ext w w'' :=
  ⟨.slice (some ⟨w.heap.size, 0, none⟩) us.length us.length, w.alloc (.cells us.toArray 25), ⟨by simp, .inr ⟨w.heap.size, us.length, _, rfl, Nat.le_refl _, alloc_new _ _, Nat.le_refl _, hl, by simp, by rw [Nat.mul_one]; exact List.take_of_length_le (by simp)⟩⟩, (Below.refl _ _).alloc (Nat.le_refl _) _⟩
theorem row_apart {w : World} {B g n : Nat} {v : Value} {us : List Value} {cs : Array Value} (h : w.ownsRow B 25 1 v n us) (hg : w.heap[g]? = some (.cells cs 59 (0, 0))) : ∀ k, v.ownBlock = some k → k ≠ g := fun k hk e => by
  subst e
  rcases h.2 with ⟨rfl, -⟩ | ⟨g, cap, cur, rfl, -, hg2, -⟩
  · cases hk
  · cases hk; rw [hg] at hg2; cases hg2
set_option maxRecDepth 100000 in
set_option maxHeartbeats 6400000 in
theorem mergeGathers_any (w : World) (vp vt : Value) (T : TM) (hP : RdF w vp T.P) (hL : RdSS w vt T.Ls) (hl : T.Ls.length = T.P.length) (h0 : 0 < T.P.length) (hn : T.P.length ≤ 8) (hr : ∀ j, (rowAt T.Ls j).length ≤ 64) (hv : validT T = true) (hv2 : validT (twT T) = true) :
    Calls Try.prog 45 #[.agg #[.int .i64 T.t, vp, vt], .agg #[.int .i64 T.t, vp, vt]] w fun e w' => ∃ ap np cp at_ ct, e = .returned (.tuple #[.agg #[.int .i64 T.t, .slice ap np cp, .slice at_ (T.Ls.length + T.Ls.length) ct], .bool true]) ∧ Below w.heap.size w w' := by
  have HP := Lib.hid hP
  have HL := Lib.hid hL
  obtain ⟨us, hus, hrw⟩ := hL.cells (by omega)
  have hul : us.length = T.Ls.length := hrw.1
  have HU := Lib.hid hus
  have HRW := Lib.hid hrw
  obtain ⟨a1, c1, rfl, -, -, -⟩ := hP.opened
  obtain ⟨a2, c2, rfl, -, -, -⟩ := hL.opened
  obtain ⟨wA, hwA⟩ : ∃ wA, w.alloc (.cells #[.int .i64 T.t, .slice a1 T.P.length c1, .slice a2 T.Ls.length c2] 59) = wA := ⟨_, rfl⟩
  obtain ⟨wB, hwB⟩ : ∃ wB, wA.alloc (.cells #[.int .i64 T.t, .slice a1 T.P.length c1, .slice a2 T.Ls.length c2] 59) = wB := ⟨_, rfl⟩
  obtain ⟨W, hW⟩ : ∃ W, wB.alloc (.cells #[.int .i64 0, .slice none 0 0, .slice none 0 0] 59) = W := ⟨_, rfl⟩
  have xA : Ext w wA := by rw [← hwA]; exact (Below.refl _ _).alloc (Nat.le_refl _) _
  have xB : Ext wA wB := by rw [← hwB]; exact (Below.refl _ _).alloc (Nat.le_refl _) _
  have xC : Ext wB W := by rw [← hW]; exact (Below.refl _ _).alloc (Nat.le_refl _) _
  have zA : wA.heap.size = w.heap.size + 1 := by rw [← hwA]; exact World.size_alloc _ _
  have zB : wB.heap.size = w.heap.size + 2 := by rw [← hwB, World.size_alloc]; omega
  have hWs : W.heap.size = w.heap.size + 3 := by rw [← hW, World.size_alloc]; omega
  have hbx : W.heap[w.heap.size]? = some (.cells #[.int .i64 T.t, .slice a1 T.P.length c1, .slice a2 T.Ls.length c2] 59 (0, 0)) := by
    refine ((xB.trans xC).block w.heap.size (by omega)).trans ?_
    rw [← hwA]; exact alloc_new _ _
  have hbs : W.heap[w.heap.size + 1]? = some (.cells #[.int .i64 T.t, .slice a1 T.P.length c1, .slice a2 T.Ls.length c2] 59 (0, 0)) := by
    refine (xC.block (w.heap.size + 1) (by omega)).trans ?_
    rw [← hwB, ← zA]; exact alloc_new _ _
  have hby : W.heap[w.heap.size + 2]? = some (.cells #[.int .i64 0, .slice none 0 0, .slice none 0 0] 59 (0, 0)) := by
    rw [← hW, ← zB]; exact alloc_new _ _
  have hG : Below w.heap.size w W := (xA.trans xB).trans xC
  have FX : Hid (∀ wq, Below W.heap.size W wq → wq.cell? ⟨w.heap.size, 0, none⟩ = some (.int .i64 T.t) ∧ wq.cell? ⟨w.heap.size, 1, none⟩ = some (.slice a1 T.P.length c1) ∧ wq.cell? ⟨w.heap.size, 2, none⟩ = some (.slice a2 T.Ls.length c2)) := Lib.hid fun wq hq => by
    obtain ⟨k0, k1, k2, -, -, -⟩ := blk3 ((hq.block w.heap.size (by omega)).trans hbx)
    exact ⟨k0, k1, k2⟩
  have FY : Hid (∀ wq, Below W.heap.size W wq → wq.cell? ⟨w.heap.size + 1, 0, none⟩ = some (.int .i64 T.t) ∧ wq.cell? ⟨w.heap.size + 1, 1, none⟩ = some (.slice a1 T.P.length c1) ∧ wq.cell? ⟨w.heap.size + 1, 2, none⟩ = some (.slice a2 T.Ls.length c2)) := Lib.hid fun wq hq => by
    obtain ⟨k0, k1, k2, -, -, -⟩ := blk3 ((hq.block (w.heap.size + 1) (by omega)).trans hbs)
    exact ⟨k0, k1, k2⟩
  have HBY := Lib.hid hby
  have HG := Lib.hid hG
  have HWS := Lib.hid hWs
  have HVT : Hid (∀ wq : World, Below w.heap.size w wq → Calls Try.prog 42 #[.agg #[.int .i64 T.t, .slice a1 T.P.length c1, .slice a2 T.Ls.length c2]] wq fun e w' => e = .returned (.bool true) ∧ Below wq.heap.size wq w') := Lib.hid fun wq hq => by
    have := implValidGather_any wq (.agg #[.int .i64 T.t, .slice a1 T.P.length c1, .slice a2 T.Ls.length c2]) T ⟨_, _, rfl, HP.out.mono hq, HL.out.mono hq⟩ ⟨by omega, by omega, fun j _ => by have := hr j; omega⟩
    rw [hv] at this
    exact this
  have HV2 := Lib.hid hv2
  have HR := Lib.hid hr
  have HLN := Lib.hid hl
  have HUL := Lib.hid hul
  clear hP hL hbx hby hbs hG hl hWs hv hr hv2 xA xB xC zA zB hus hrw hul
  subst hwA
  subst hwB
  go_enter Try.func45, Try.ntmps45
  obtain ⟨k0, k1, k2⟩ := FX.out W (Below.refl _ _)
  go_wp2_with fail
  clear hW k0 k1 k2
  refine (HVT.out W HG.out).mono ?_
  rintro e w1 ⟨rfl, b1⟩
  obtain ⟨k0, k1, k2⟩ := FY.out w1 b1
  have B1 := Lib.hid b1
  have z1 := b1.size
  have HV1 := Lib.hid (HVT.out w1 (HG.out.trans (b1.mono (by have := HWS.out; omega))))
  clear b1 HVT
  go_wp2_with fail
  clear k0 k1 k2
  refine HV1.out.mono ?_
  rintro e w2 ⟨rfl, b2⟩
  have b12 : Below W.heap.size W w2 := B1.out.trans (b2.mono z1)
  obtain ⟨k0, k1, k2⟩ := FX.out w2 b12
  obtain ⟨j0, j1, j2⟩ := FY.out w2 b12
  have B2 := Lib.hid b12
  have z2 := b12.size
  clear b2 b12 HV1
  go_wp2_with fail
  clear k0 k1 k2 j0 j1 j2
  have FW : Hid (∀ wq, Ext w2.drew wq → Below W.heap.size W wq ∧ Below w.heap.size w wq) := Lib.hid fun wq hq => by
    have h1 : Below W.heap.size W wq := B2.out.trans (((Ext.drew w2).trans hq).mono z2)
    exact ⟨h1, HG.out.trans (h1.mono (by have := HWS.out; omega))⟩
  refine region_grow_tail 16 (by kernel_rfl) (by kernel_rfl) (mgT T.P us) ?_
  simp only [List.take_succ_cons, List.take_zero, List.drop_succ_cons, List.drop_zero]
  iterate 6 (refine wpRelK_still rfl rfl (fun wq hq K hK => ?_); obtain ⟨k0, k1, k2⟩ := FX.out wq (FW.out wq hq.1).1; obtain ⟨j0, j1, j2⟩ := FY.out wq (FW.out wq hq.1).1; go_wp2; clear k0 k1 k2 j0 j1 j2)
  refine wpRelK_op rfl rfl (fun w6 hq6 K hK => ?_)
  go_wp2
  refine hK _ _ ((Below.refl _ _).alloc (Nat.le_refl _) _) ?_
  clear hK K
  refine wpRelK_callF #[.slice (some ⟨w6.heap.size, 0, none⟩) 2 2] rfl Try.func96 (by kernel_rfl) (by kernel_rfl) (by simp [go_sem])
    (fun wq hq => by
      have x6 : Ext (w6.alloc (.cells #[.slice a1 T.P.length c1, .slice a1 T.P.length c1] 25)) wq := hq.dep 6 (by kernel_rfl)
      have h6 := (x6.block w6.heap.size (by rw [World.size_alloc]; omega)).trans (alloc_new _ _)
      have hb := (FW.out wq hq.1).2
      refine (concatF_any wq w6.heap.size _ _ T.P T.P (cell_of_row wq _ 0 _ _ _ h6) (cell_of_row wq _ 1 _ _ _ h6) (HP.out.mono hb) (HP.out.mono hb) (by omega) (by omega) h0).mono fun e w'' ⟨v', he, ho, hx⟩ => ⟨v', he, .inl ⟨rfl, ho⟩, hx⟩)
    (fun wq hq => by
      obtain ⟨u, w'', h1, h2⟩ := ownF_of wq (T.P ++ T.P) (by rw [List.length_append]; unfold maxLen; omega) (fun j hj => by
        obtain ⟨_, _, -, -, -, hc⟩ := HP.out.opened
        rw [List.length_append] at hj
        by_cases hlt : j < T.P.length
        · obtain ⟨_, _, r, -, -, hf⟩ := hc j hlt
          refine ⟨r, ?_⟩
          rw [List.getD_eq_getElem?_getD, List.getElem?_append_left hlt, ← List.getD_eq_getElem?_getD]; exact hf
        · obtain ⟨_, _, r, -, -, hf⟩ := hc (j - T.P.length) (by omega)
          refine ⟨r, ?_⟩
          rw [List.getD_eq_getElem?_getD, List.getElem?_append_right (by omega), ← List.getD_eq_getElem?_getD]; exact hf)
      exact ⟨u, w'', .inl ⟨rfl, h1⟩, h2⟩) ?_
  intro wq7 hq7 u7 w7 hT7 x7
  have O7 : Hid (OwnF w7 wq7.heap.size u7 (T.P ++ T.P)) := Lib.hid (by rcases hT7 with ⟨-, h⟩ | ⟨h, -⟩; exact h; cases h)
  have s7 := (FW.out wq7 hq7.1).2.size
  obtain ⟨a7, c7, hv7, -, -, -⟩ := O7.out.rd.opened
  subst hv7
  clear hT7 hq6 hq7
  simp only [Act.put, List.setIfInBounds_toArray, List.set_cons_succ, List.set_cons_zero]
  iterate 4 (refine wpRelK_still rfl rfl (fun wq hq K hK => ?_); obtain ⟨k0, k1, k2⟩ := FX.out wq (FW.out wq hq.1).1; obtain ⟨j0, j1, j2⟩ := FY.out wq (FW.out wq hq.1).1; go_wp2; clear k0 k1 k2 j0 j1 j2)
  refine wpRelK_op rfl rfl (fun w12 hq12 K hK => ?_)
  go_wp2
  refine hK _ _ ((Below.refl _ _).alloc (Nat.le_refl _) _) ?_
  clear hK K
  refine wpRelK_callF #[.slice (some ⟨w12.heap.size, 0, none⟩) 2 2] rfl Try.func97 (by kernel_rfl) (by kernel_rfl) (by simp [go_sem])
    (fun wq hq => by
      have x6 : Ext (w12.alloc (.cells #[.slice a2 T.Ls.length c2, .slice a2 T.Ls.length c2] 57)) wq := hq.dep 12 (by kernel_rfl)
      have h6 := (x6.block w12.heap.size (by rw [World.size_alloc]; omega)).trans (alloc_new _ _)
      have hb := (FW.out wq hq.1).2
      have hul := HUL.out
      have hln := HLN.out
      refine (concatSS_any wq w12.heap.size _ _ us us (cell_of_row wq _ 0 _ _ _ h6) (cell_of_row wq _ 1 _ _ _ h6) (HU.out.mono hb) (HU.out.mono hb) (by omega) (by omega) (by omega)).mono fun e w'' ⟨v', he, ho, hx⟩ => ⟨v', he, .inr ⟨rfl, ho⟩, hx⟩)
    (fun wq hq => by
      have hul := HUL.out
      have hln := HLN.out
      obtain ⟨u, w'', h1, h2⟩ := row_exists wq (us ++ us) (by rw [List.length_append]; unfold maxLen; omega)
      exact ⟨u, w'', .inr ⟨rfl, h1⟩, h2⟩) ?_
  intro wq13 hq13 u13 w13 hT13 x13
  have O13 : Hid (w13.ownsRow wq13.heap.size 25 1 u13 (us ++ us).length (us ++ us)) := Lib.hid (by rcases hT13 with ⟨h, -⟩ | ⟨-, h⟩; cases h; exact h)
  have s13 := (FW.out wq13 hq13.1).2.size
  clear hT13 hq12 hq13
  obtain ⟨n13, hn13⟩ : ∃ n, (us ++ us).length = n := ⟨_, rfl⟩
  have hn13' : n13 = T.Ls.length + T.Ls.length := by rw [← hn13, List.length_append, HUL.out]
  have HN13 := Lib.hid hn13
  rw [hn13] at O13
  clear hn13
  subst hn13'
  obtain ⟨a13, c13, hv13⟩ : ∃ a c, u13 = .slice a (T.Ls.length + T.Ls.length) c := by
    rcases O13.out.2 with ⟨h, h2⟩ | ⟨g, cap, cur, h, -⟩
    · exact ⟨none, 0, by rw [h, h2]⟩
    · exact ⟨_, _, h⟩
  subst hv13
  simp only [Act.put, List.setIfInBounds_toArray, List.set_cons_succ, List.set_cons_zero]
  refine wpRelK_still rfl rfl (fun wq hq K hK => ?_)
  go_wp2
  refine wpRelK_op rfl rfl (fun w15 hq15 K hK => ?_)
  have s15 := (FW.out w15 hq15.1).1.size
  go_wp2
  refine hK _ _ ((Below.refl _ _).alloc (Nat.le_refl _) _) ?_
  clear hK K
  refine wpRelK_nil ?_
  intro w8 hW8 hall
  have E15 : Ext (w15.alloc (.cells #[.int .i64 0, .slice none 0 0, .slice none 0 0] 59)) w8 := hall 15 (by decide)
  have E7 : Ext w7 w8 := hall 7 (by decide)
  have E13 : Ext w13 w8 := hall 13 (by decide)
  have h8 : w8.heap[w15.heap.size]? = some (.cells #[.int .i64 0, .slice none 0 0, .slice none 0 0] 59 (0, 0)) := (E15.block w15.heap.size (by rw [World.size_alloc]; omega)).trans (alloc_new _ _)
  have g8 : w15.heap.size < w8.heap.size := (Array.getElem?_eq_some_iff.1 h8).1
  obtain ⟨b8W, b8⟩ := FW.out w8 hW8
  have B8W := Lib.hid b8W
  have B8 := Lib.hid b8
  have O8 : Hid (OwnF w8 wq7.heap.size (.slice a7 (T.P ++ T.P).length c7) (T.P ++ T.P) ∧ ∀ k, (Value.slice a7 (T.P ++ T.P).length c7).ownBlock = some k → k ≠ w15.heap.size) := Lib.hid ⟨O7.out.kept E7, (O7.out.kept E7).apart h8⟩
  have o13 : w8.ownsRow wq13.heap.size 25 1 (.slice a13 (T.Ls.length + T.Ls.length) c13) (T.Ls.length + T.Ls.length) (us ++ us) := ownsRow_same O13.out fun k hk => E13.block k (World.ownsRow.lt O13.out k hk).2
  have R8 := Lib.hid o13
  have RA8 := Lib.hid (row_apart o13 h8)
  have P := put3 h8 (.int .i64 T.t) (.slice a7 (T.P ++ T.P).length c7) (.slice a13 (T.Ls.length + T.Ls.length) c13)
  have HPt := Lib.hid P
  have hn7 : (T.P ++ T.P).length = T.P.length + T.P.length := List.length_append
  rw [hn7] at HPt O8 ⊢
  clear hall hW8 b8 b8W E15 hq15 x7 x13 hq FW E7 E13 O7 O13 o13 hn7
  have hw9 : w.heap.size + 3 ≤ w15.heap.size := by have := HWS.out; omega
  generalize w15.heap.size = g9 at *
  obtain ⟨m0, m1, m2, f0, f1, f2⟩ := blk3 h8
  clear h8
  clear P
  go_wp2_with fail
  clear m0 m1 m2 f0 f1 f2
  generalize (((w8.setCell ⟨g9, 0, none⟩ (.int .i64 T.t)).setCell ⟨g9, 1, none⟩ (.slice a7 (T.P.length + T.P.length) c7)).setCell ⟨g9, 2, none⟩ (.slice a13 (T.Ls.length + T.Ls.length) c13)) = wz at *
  have zz := HPt.out.size
  have BZW : Hid (Below W.heap.size W wz) := Lib.hid (Below.chg B8W.out HPt.out.chg (fun k hk => by have := HWS.out; omega) B8W.out.size)
  have BZ : Hid (Below w.heap.size w wz) := Lib.hid (Below.chg B8.out HPt.out.chg (fun k hk => by omega) B8.out.size)
  have RZP : Hid (RdF wz (.slice a7 (T.P.length + T.P.length) c7) (T.P ++ T.P)) := Lib.hid (O8.out.1.chg HPt.out.chg fun k hk e => O8.out.2 k hk e).rd
  have RZL : Hid (RdSS wz (.slice a13 (T.Ls.length + T.Ls.length) c13) (T.Ls ++ T.Ls)) := Lib.hid (by
    have h1 : wz.ownsRow wq13.heap.size 25 1 (.slice a13 (T.Ls.length + T.Ls.length) c13) (us ++ us).length (us ++ us) := by
      rw [HN13.out]
      exact ownsRow_same R8.out fun k hk => HPt.out.chg.block k (World.ownsRow.lt R8.out k hk).2 fun e => RA8.out k hk e
    exact rdSS_of h1 ((HRW.out.mono BZ.out).append (HRW.out.mono BZ.out)))
  have HVZ : Hid (∀ wq : World, Ext wz wq → Calls Try.prog 42 #[.agg #[.int .i64 T.t, .slice a7 (T.P.length + T.P.length) c7, .slice a13 (T.Ls.length + T.Ls.length) c13]] wq fun e w' => e = .returned (.bool true) ∧ Below wq.heap.size wq w') := Lib.hid fun wq hq => by
    have hln := HLN.out
    have := implValidGather_any wq (.agg #[.int .i64 T.t, .slice a7 (T.P.length + T.P.length) c7, .slice a13 (T.Ls.length + T.Ls.length) c13]) (twT T) ⟨_, _, rfl, RZP.out.mono hq, RZL.out.mono hq⟩ ⟨by simp [twT]; omega, by simp [twT]; omega, fun j _ => by
      have h1 := HR.out j
      have h2 := HR.out (j - T.Ls.length)
      unfold twT rowAt at *
      simp only [List.getD_eq_getElem?_getD, List.getElem?_append] at *
      split <;> omega⟩
    rw [HV2.out] at this
    exact this
  have hrow : ∀ j, (rowAt (twT T).Ls j).length ≤ 64 := fun j => by
    have h1 := HR.out j
    have h2 := HR.out (j - T.Ls.length)
    unfold twT rowAt at *
    simp only [List.getD_eq_getElem?_getD, List.getElem?_append] at *
    split <;> omega
  have HEZ : Hid (∀ wq : World, Ext wz wq → Calls Try.prog 86 #[.agg #[.int .i64 T.t, .slice a7 (T.P.length + T.P.length) c7, .slice a13 (T.Ls.length + T.Ls.length) c13], .func (.func 98) #[] #[]] wq fun e w' => ∃ vp' vt', e = .returned (.agg #[.int .i64 T.t, vp', vt']) ∧ OwnF w' wq.heap.size vp' (T.P ++ T.P) ∧ (∃ S : Nat → Prop, OwnSS w' S vt' (doL (rowAt (twT T).Ls) (twT T).Ls.length) ∧ ∀ k, S k → wq.heap.size ≤ k) ∧ Below wq.heap.size wq w') := Lib.hid (fun (wq : World) (hq : Ext wz wq) => each_any wq (.slice a7 (T.P.length + T.P.length) c7) (.slice a13 (T.Ls.length + T.Ls.length) c13) (twT T) 98 #[] (rowAt (twT T).Ls) (RZP.out.mono hq) (RZL.out.mono hq) (by simp [twT, HLN.out]) (by simp [twT]; omega)
    (fun i hi => ⟨hrow i, fun j hj => by
      obtain ⟨_, _, -, -, -, hc⟩ := RZL.out.opened
      obtain ⟨b, o, a', c', -, -, -, hR⟩ := hc i hi
      obtain ⟨_, _, -, -, -, hc2⟩ := hR.opened
      obtain ⟨b2, o2, r, -, -, hf⟩ := hc2 j hj
      exact ⟨r, hf⟩⟩)
    (fun args wx => run_enter Try.func98 (by kernel_rfl) (by kernel_rfl) args wx)
    (fun wx hx i hi v r hR hf => mergeFn_any wx v r _ hR (hrow i)))
  have HSZ : Hid ((doL (rowAt (twT T).Ls) (twT T).Ls.length).length = T.Ls.length + T.Ls.length) := Lib.hid (by rw [doL_length]; simp [twT])
  obtain ⟨D, hD⟩ : ∃ D, doL (rowAt (twT T).Ls) (twT T).Ls.length = D := ⟨_, rfl⟩
  rw [hD] at HEZ HSZ
  have hex : Hid (∀ wq : World, Ext wz wq → wq.cell? ⟨g9, 0, none⟩ = some (.int .i64 T.t) ∧ wq.cell? ⟨g9, 1, none⟩ = some (.slice a7 (T.P.length + T.P.length) c7) ∧ wq.cell? ⟨g9, 2, none⟩ = some (.slice a13 (T.Ls.length + T.Ls.length) c13)) := Lib.hid fun wq hq => by
    obtain ⟨k0, k1, k2, -, -, -⟩ := blk3 ((hq.block g9 (by omega)).trans HPt.out.heap)
    exact ⟨k0, k1, k2⟩
  have g9z : g9 < wz.heap.size := by omega
  clear zz
  clear hrow hD O8 R8 RA8 HPt HV2 HRW HU
  refine (HVZ.out wz (Ext.refl _)).mono ?_
  rintro e wy ⟨rfl, by1⟩
  obtain ⟨q0, q1, q2⟩ := hex.out wy by1
  have HE1 := Lib.hid (HEZ.out wy by1)
  have BY1 : Hid (Ext wz wy) := Lib.hid by1
  have zy := by1.size
  clear by1 HVZ HEZ
  go_wp2_with fail
  refine HE1.out.mono ?_
  clear HE1
  rintro e w3 ⟨vp', vt', rfl, o3, ⟨S, s3, hS⟩, b3⟩
  obtain ⟨ap, n1, cp, rfl⟩ : ∃ a n c, vp' = .slice a n c := (by obtain ⟨a, c, h, -⟩ := o3.rd.opened; exact ⟨a, _, c, h⟩)
  obtain ⟨at_, ct, rfl⟩ : ∃ a c, vt' = .slice a (T.Ls.length + T.Ls.length) c := (by obtain ⟨a, c, h, -⟩ := OwnC.rd s3; exact ⟨a, c, by rw [h, HSZ.out]⟩)
  have hy3 : w3.heap[w.heap.size + 2]? = some (.cells #[.int .i64 0, .slice none 0 0, .slice none 0 0] 59 (0, 0)) := (b3.block _ (by omega)).trans ((BY1.out.block _ (by omega)).trans ((BZW.out.block _ (by have := HWS.out; omega)).trans HBY.out))
  have PY := put3 hy3 (.int .i64 T.t) (.slice ap n1 cp) (.slice at_ (T.Ls.length + T.Ls.length) ct)
  obtain ⟨m0, m1, m2, f0, f1, f2⟩ := blk3 hy3
  have HPY := Lib.hid PY
  have B3 : Hid (Below w.heap.size w w3) := Lib.hid (BZ.out.trans ((BY1.out.mono BZ.out.size).trans (b3.mono (by have := BZ.out.size; omega))))
  have hlt1 : w.heap.size + 2 < w3.heap.size := (Array.getElem?_eq_some_iff.1 hy3).1
  clear hy3 PY b3 o3 s3 hS q0 q1 q2
  go_wp2_with fail
  have PY := HPY.out
  clear HPY
  generalize (((w3.setCell ⟨w.heap.size + 2, 0, none⟩ (.int .i64 T.t)).setCell ⟨w.heap.size + 2, 1, none⟩ (.slice ap n1 cp)).setCell ⟨w.heap.size + 2, 2, none⟩ (.slice at_ (T.Ls.length + T.Ls.length) ct)) = wz2 at *
  obtain ⟨q0, q1, q2, -, -, -⟩ := blk3 PY.heap
  refine bodyPost_ret (v := .tuple #[.agg #[.int .i64 T.t, .slice ap n1 cp, .slice at_ (T.Ls.length + T.Ls.length) ct], .bool true]) (by simp [results, Try.results45, go_sem, q0, q1, q2]) rfl ?_
  exact ⟨_, _, _, _, _, rfl, Below.chg B3.out PY.chg (fun k hk => by omega) (by omega)⟩
end Go.Proofs.Ytjhbcnmkamkkaaa
