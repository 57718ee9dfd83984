/- Walks: impl.ShiftGather. -/
import Derived.Test.YtcffkhmjljlbaaaSfG
namespace Go.Proofs.Ytcffkhmjljlbaaa
open Go Go.RowKit

/-- The rows, each shifted. -/
def shL (Ls : List (List Nat)) (D : List Int) (n : Nat) : List (List Nat) := (List.range n).map fun i => latF (rowAt Ls i) (inL D i)
theorem shL_length (Ls : List (List Nat)) (D : List Int) (n : Nat) : (shL Ls D n).length = n := by simp [shL]
theorem shL_succ (Ls : List (List Nat)) (D : List Int) (n : Nat) : shL Ls D (n + 1) = shL Ls D n ++ [latF (rowAt Ls n) (inL D n)] := by simp [shL, List.range_succ]
theorem ownF_exists (w : World) (v : Value) (L : List Nat) (h : RdF w v L) (hl : L.length ≤ maxLen) : ∃ u w'', OwnF w'' w.heap.size u L ∧ Ext w w'' := by
  obtain ⟨a, c, rfl, hc, hz, hcell⟩ := h.opened
  obtain ⟨new, hn, hnew⟩ := pick_list (P := fun j r => FV .f32 r (L.getD j 0)) L.length (fun j hj => by
    obtain ⟨b, o, r, e, h1, h2⟩ := hcell j hj
    exact ⟨r, h2⟩)
  refine ⟨.slice (some ⟨w.heap.size, 0, none⟩) L.length L.length, w.alloc (.cells (new.map (Value.float .f32)).toArray 27), ⟨new, hn, fun j hj => hnew j hj, ?_⟩, (Below.refl _ _).alloc (Nat.le_refl _) _⟩
  exact ⟨by simp [hn], .inr ⟨w.heap.size, L.length, _, rfl, Nat.le_refl _, alloc_new _ _, Nat.le_refl _, hl, by simp [hn], by rw [Nat.mul_one]; exact List.take_of_length_le (by simp [hn])⟩⟩
theorem latF_exists (w : World) (v : Value) (L : List Nat) (t : Int) (h : RdF w v L) (hl : L.length ≤ maxLen) : ∃ u w'', OwnF w'' w.heap.size u (latF L t) ∧ Ext w w'' := by
  obtain ⟨a, c, rfl, hc, hz, hcell⟩ := h.opened
  have hll : (latF L t).length = L.length := tab_length _ _
  refine ⟨.slice (some ⟨w.heap.size, 0, none⟩) L.length L.length, w.alloc (.cells ((latF L t).map (Value.float .f32)).toArray 27), ⟨latF L t, rfl, fun j hj => ?_, ?_⟩, (Below.refl _ _).alloc (Nat.le_refl _) _⟩
  · have e : (latF L t).getD j 0 = _ := tab_getD _ _ _ (by rw [← hll]; exact hj)
    rw [e]
    by_cases hq : inB ((j : Int) + t) 0 ((L.length : Int) - 1) = true
    · rw [if_pos hq]
      have := inB_out hq
      obtain ⟨b, o, r, e, h1, h2⟩ := hcell ((j : Int) + t).toNat (by omega)
      exact h2.cls
    · rw [if_neg hq]; exact fv0 _
  · exact ⟨by simp, .inr ⟨w.heap.size, L.length, _, by rw [hll], Nat.le_refl _, alloc_new _ _, by omega, hl, by simp [hll], by rw [Nat.mul_one]; exact List.take_of_length_le (by simp)⟩⟩
def rowT (L : List Nat) (f : FuncId) (args : Array Value) (w : World) (u : Value) (w'' : World) : Prop := OwnF w'' w.heap.size u L
set_option maxRecDepth 100000 in
set_option maxHeartbeats 3200000 in
theorem shiftGather_any (w : World) (vp vt v2 : Value) (T : TM) (D : List Int) (hP : RdF w vp T.P) (hL : RdSS w vt T.Ls) (hd : RdI w v2 D) (hs : T.small) (hv : validT T = true) (hl : D.length = T.Ls.length) (hn : T.Ls.length ≤ 16) (hpl : T.P.length ≤ 16)
    (hb : ∀ j, j < D.length → -64 ≤ inL D j ∧ inL D j ≤ 64) (hr : ∀ j, j < T.Ls.length → (rowAt T.Ls j).length ≤ 64) :
    Calls Try.prog 17 #[.agg #[.int .i64 T.t, vp, vt], v2] w fun e w' => ∃ ap np cp vt', e = .returned (.tuple #[.agg #[.int .i64 T.t, .slice ap np cp, vt'], .bool true]) ∧ OwnSS w' (Iv w.heap.size w'.heap.size) vt' (shL T.Ls D T.Ls.length) ∧ Below w.heap.size w w' := by
  obtain ⟨a1, c1, rfl, -⟩ := hP.opened
  obtain ⟨a2, c2, rfl, hc2, -, hcell⟩ := hL.opened
  obtain ⟨a3, c3, rfl, -, -, hcelld⟩ := hd.opened
  rw [hl] at hcelld
  have HD := Lib.hid (fun wq hq => containsFar_any wq _ D (RdP.mono hd hq) (by omega) hb)
  rw [hl] at HD ⊢
  obtain ⟨W, hW⟩ : ∃ W, (w.alloc (.cells #[.int .i64 T.t, .slice a1 T.P.length c1, .slice a2 T.Ls.length c2] 38)).alloc (.cells #[.int .i64 0, .slice none 0 0, .slice none 0 0] 38) = W := ⟨_, rfl⟩
  have hG : Below w.heap.size w W := by rw [← hW]; exact ((Below.refl _ _).alloc (Nat.le_refl _) _).alloc (by rw [World.size_alloc]; omega) _
  have hbx : W.heap[w.heap.size]? = some (.cells #[.int .i64 T.t, .slice a1 T.P.length c1, .slice a2 T.Ls.length c2] 38 (0, 0)) := by
    rw [← hW]
    exact (((Below.refl _ _).alloc (Nat.le_refl _) _ : Below _ (w.alloc (.cells #[.int .i64 T.t, .slice a1 T.P.length c1, .slice a2 T.Ls.length c2] 38)) _).block w.heap.size (by rw [World.size_alloc]; omega)).trans (alloc_new _ _)
  have hby : W.heap[w.heap.size + 1]? = some (.cells #[.int .i64 0, .slice none 0 0, .slice none 0 0] 38 (0, 0)) := by
    rw [← hW]
    have := alloc_new (w.alloc (.cells #[.int .i64 T.t, .slice a1 T.P.length c1, .slice a2 T.Ls.length c2] 38)) (.cells #[.int .i64 0, .slice none 0 0, .slice none 0 0] 38)
    rw [World.size_alloc] at this
    exact this
  have hWs : W.heap.size = w.heap.size + 2 := by rw [← hW, World.size_alloc, World.size_alloc]
  have HV : Hid (Calls Try.prog 32 #[.agg #[.int .i64 T.t, .slice a1 T.P.length c1, .slice a2 T.Ls.length c2]] W fun e w' => e = .returned (.bool true) ∧ Below W.heap.size W w') := Lib.hid (by
    have hb := hG
    have := implValidGather_any W _ T ⟨_, _, rfl, hP.mono hb, hL.mono hb⟩ hs
    rw [hv] at this
    exact this)
  have FX : Hid (∀ wq, Below W.heap.size W wq → wq.cell? ⟨w.heap.size, 0, none⟩ = some (.int .i64 T.t) ∧ wq.cell? ⟨w.heap.size, 1, none⟩ = some (.slice a1 T.P.length c1) ∧ wq.cell? ⟨w.heap.size, 2, none⟩ = some (.slice a2 T.Ls.length c2)) := Lib.hid fun wq hq => by
    obtain ⟨k0, k1, k2, -, -, -⟩ := blk3 ((hq.block w.heap.size (by omega)).trans hbx)
    exact ⟨k0, k1, k2⟩
  have HBY := Lib.hid hby
  have HG := Lib.hid hG
  have HP := Lib.hid hP
  have HBd : Hid (∀ j, j < T.Ls.length → -64 ≤ inL D j ∧ inL D j ≤ 64) := Lib.hid fun j hj => hb j (by omega)
  clear hP hL hd hbx hby hG hs hv hl hb
  go_enter Try.func17, Try.ntmps17
  obtain ⟨k0, k1, k2⟩ := FX.out W (Below.refl _ _)
  go_wp2_with fail
  clear hW k0 k1 k2
  refine HV.out.mono ?_
  clear HV
  rintro e w1 ⟨rfl, b1⟩
  obtain ⟨k0, k1, k2⟩ := FX.out w1 b1
  have z1 := b1.size
  have B1 := Lib.hid b1
  clear b1
  go_wp2_with fail
  refine (HD.out w1 (HG.out.trans (B1.out.mono (by omega)))).mono ?_
  clear HD
  rintro e w2 ⟨rfl, hw2⟩
  obtain rfl : w1 = w2 := hw2.symm
  clear hw2 k0 k1 k2
  go_wp2_with fail
  have FW : Hid (∀ wq, Ext w1.drew wq → Below W.heap.size W wq) := Lib.hid fun wq hq => B1.out.trans (((Ext.drew w1).trans hq).mono z1)
  refine region_grow_tail 7 (by kernel_rfl) (by kernel_rfl) (rowT T.P) ?_
  simp only [List.take_succ_cons, List.take_zero, List.drop_succ_cons, List.drop_zero]
  iterate 4 (refine wpRelK_still rfl rfl (fun wq hq K hK => ?_); obtain ⟨k0, k1, k2⟩ := FX.out wq (FW.out wq hq.1); go_wp2; clear k0 k1 k2)
  refine wpRelK_callF #[.slice a1 T.P.length c1] rfl Try.func31 (by kernel_rfl) (by kernel_rfl) (by simp [go_sem])
    (fun wq hq => (clone_any wq _ T.P (HP.out.mono (HG.out.trans ((FW.out wq hq.1).mono (by omega)))) (by omega)).mono fun e w'' ⟨v', he, ho, hb⟩ => ⟨v', he, ho, hb⟩)
    (fun wq hq => ownF_exists wq _ T.P (HP.out.mono (HG.out.trans ((FW.out wq hq.1).mono (by omega)))) (by unfold maxLen; omega)) ?_
  intro wq7 hq7 u w7 hT7 x7
  have hT7' : OwnF w7 wq7.heap.size u T.P := hT7
  obtain ⟨a4, c4, rfl, -, -, -⟩ := hT7'.rd.opened
  clear hT7 hT7' hq7
  simp only [Act.put, List.setIfInBounds_toArray, List.set_cons_succ, List.set_cons_zero]
  refine wpRelK_still rfl rfl (fun wq hq K hK => ?_)
  go_wp2
  refine wpRelK_op rfl rfl (fun w9 hq9 K hK => ?_)
  have s9 := (FW.out w9 hq9.1).size
  go_wp2
  refine hK _ _ ((Below.refl _ _).alloc (Nat.le_refl _) _) ?_
  clear hK K
  refine wpRelK_nil ?_
  intro w8 hW8 hall
  have E9 : Ext (w9.alloc (.cells #[.int .i64 0, .slice none 0 0, .slice none 0 0] 38)) w8 := hall 6 (by decide)
  have h8 : w8.heap[w9.heap.size]? = some (.cells #[.int .i64 0, .slice none 0 0, .slice none 0 0] 38 (0, 0)) := (E9.block w9.heap.size (by rw [World.size_alloc]; omega)).trans (alloc_new _ _)
  have g8 : w9.heap.size < w8.heap.size := (Array.getElem?_eq_some_iff.1 h8).1
  have b8 := FW.out w8 hW8
  have B8 := Lib.hid b8
  have z8 := b8.size
  obtain ⟨-, -, j2⟩ := FX.out w8 b8
  have P := put3 h8 (.int .i64 T.t) (.slice a4 T.P.length c4) (.slice none 0 0)
  have HPt := Lib.hid P
  clear hall hW8 b8 E9 hq9 x7 hq P FW
  generalize w9.heap.size = g9 at *
  obtain ⟨m0, m1, m2, f0, f1, f2⟩ := blk3 h8
  clear h8
  go_wp2_with fail
  generalize (((w8.setCell ⟨g9, 0, none⟩ (.int .i64 T.t)).setCell ⟨g9, 1, none⟩ (.slice a4 T.P.length c4)).setCell ⟨g9, 2, none⟩ (.slice none 0 0)) = wz at *
  have CZ : Hid (Chg w8 wz fun k => k = g9) := Lib.hid HPt.out.chg
  have hz9 := HPt.out.size
  go_loopw [34] (fun i wr => ∃ (j : Nat) (vt : Value), j ≤ T.Ls.length ∧ i = .int .i64 j ∧ OwnSS wr (Iv w8.heap.size wr.heap.size) vt (shL T.Ls D j) ∧ wr.heap[g9]? = some (.cells #[.int .i64 T.t, .slice a4 T.P.length c4, vt] 38 (0, 0)) ∧ Chg w8 wr (fun k => k = g9)) (fun i _ => T.Ls.length - (intOf i).toNat)
  case atStart => exact ⟨0, .slice none 0 0, Nat.zero_le _, rfl, ⟨[], rfl, World.ownsRow_nil _ 0 _ 1, (fun k hk => by cases hk), (fun j hj => by cases hj), (fun i j k hi => by cases hi), (fun j k hj => by cases hj)⟩, HPt.out.heap, CZ.out⟩
  case round =>
    obtain ⟨wi, rfl⟩ : ∃ wi : World, wi = wr := ⟨_, rfl⟩
    obtain ⟨j, vt, hj, rfl, ho, hb, hc⟩ := hrel
    have HO := Lib.hid ho
    have HB := Lib.hid hb
    have HCg := Lib.hid hc
    have hgs : g9 < wi.heap.size := (Array.getElem?_eq_some_iff.1 hb).1
    have hsz := hc.size
    have hbel : Below w.heap.size w wi := Below.chg (HG.out.trans (B8.out.mono (by omega))) hc (fun k hk => by omega) (by omega)
    have HBL := Lib.hid hbel
    have hll := shL_length T.Ls D j
    by_cases hlt : j < T.Ls.length
    · obtain ⟨b, o, a', c', rfl, hlb, d0, R0⟩ := hcell j hlt
      obtain ⟨b3, o3, rfl, hlb3, d3⟩ := hcelld j hlt
      have d1 := ((bcell hbel).1 _ _ hlb).trans d0
      have R1 := Lib.hid (R0.mono hbel)
      have hrj := hr j hlt
      clear ho hb hc d0 R0 hr hcell hcelld
      have hdj := (HBd.out j hlt)
      have FY : Hid (∀ wq, Ext wi.drew wq → Ext wi wq ∧ wq.cell? ⟨g9, 2, none⟩ = some vt ∧ wq.cell? ⟨b3, o3 + j, none⟩ = some (.int .i64 (inL D j))) := Lib.hid fun wq hq => by
        have x1 : Ext wi wq := (Ext.drew wi).trans hq
        obtain ⟨-, -, k2, -, -, -⟩ := blk3 ((x1.block g9 hgs).trans HB.out)
        exact ⟨x1, k2, (((bcell x1).1 _ _ (by have := hbel.size; omega)).trans ((bcell hbel).1 _ _ hlb3)).trans d3⟩
      have HSH := Lib.hid (shL_succ T.Ls D j)
      clear d3 hbel
      go_wp2_with fail
      refine region_grow_tail 9 (by kernel_rfl) (by kernel_rfl) (rowT (latF (rowAt T.Ls j) (inL D j))) ?_
      simp only [List.take_succ_cons, List.take_zero, List.drop_succ_cons, List.drop_zero]
      iterate 7 (refine wpRelK_still rfl rfl (fun wq hq K hK => ?_); obtain ⟨-, k1, k2⟩ := FY.out wq hq.1; go_wp2; clear k1 k2)
      refine wpRelK_callF #[.slice a' (rowAt T.Ls j).length c', .int .i64 (inL D j)] rfl Try.func23 (by kernel_rfl) (by kernel_rfl) (by simp [go_sem])
        (fun wq hq => (shifted_any wq _ (rowAt T.Ls j) (inL D j) (R1.out.mono (FY.out wq hq.1).1) (by omega) (by omega) (by omega)).mono fun e w'' ⟨v', he, ho, hb⟩ => ⟨v', he, ho, hb⟩)
        (fun wq hq => latF_exists wq _ (rowAt T.Ls j) (inL D j) (R1.out.mono (FY.out wq hq.1).1) (by unfold maxLen; omega)) ?_
      intro wa ha u w7 hT7 x7
      have hT7' : OwnF w7 wa.heap.size u (latF (rowAt T.Ls j) (inL D j)) := hT7
      have HT7 := Lib.hid hT7'
      obtain ⟨a5, c5, rfl, -⟩ := hT7'.rd.opened
      have ga : wi.heap.size ≤ wa.heap.size := ha.1.size
      clear hT7 hT7' ha
      simp only [Act.put, List.setIfInBounds_toArray, List.set_cons_succ, List.set_cons_zero]
      refine wpRelK_op rfl rfl (fun wb hb2 K hK => ?_)
      have E7b : Ext w7 wb := hb2.dep 7 (by kernel_rfl)
      have gb : wi.heap.size ≤ wb.heap.size := hb2.1.size
      go_wp2
      refine hK _ _ ((Below.refl _ _).alloc (Nat.le_refl _) _) ?_
      clear hK K
      refine wpRelK_nil ?_
      intro w8' hW hall
      have E7 : Ext w7 w8' := hall 7 (by decide)
      have E8 : Ext (wb.alloc (.cells #[.slice a5 (latF (rowAt T.Ls j) (inL D j)).length c5] 24)) w8' := hall 8 (by decide)
      have xW : Ext wi w8' := (Ext.drew wi).trans hW
      have OX : Hid (OwnF w8' wa.heap.size (.slice a5 (latF (rowAt T.Ls j) (inL D j)).length c5) (latF (rowAt T.Ls j) (inL D j))) := Lib.hid (HT7.out.kept E7)
      have hcell8 : w8'.cell? ⟨wb.heap.size, 0, none⟩ = some (.slice a5 (latF (rowAt T.Ls j) (inL D j)).length c5) := cell_of_row w8' _ 0 _ _ _ ((E8.block wb.heap.size (by rw [World.size_alloc]; omega)).trans (alloc_new _ _))
      have HC8 := Lib.hid hcell8
      have XW := Lib.hid xW
      have z8' := xW.size
      have hd1 : Own1 w8' (fun k => wi.heap.size ≤ k) (.fs (latF (rowAt T.Ls j) (inL D j))) (.slice a5 (latF (rowAt T.Ls j) (inL D j)).length c5) := Own1.fs_ OX.out fun k hk => by have := (OX.out.lt hk).1; omega
      have HD1 := Lib.hid hd1
      clear hall hW E7 E8 E7b x7 hb2 hcell8 xW hd1 HT7
      refine wpList_pushC rfl _ _ 36 24 rfl (.slice none 0 0) 24 Try.underlying36 Try.infoFF rfl (by decide) w8.heap.size wi.heap.size _ _ _ rfl (OwnC.kept HO.out XW.out) (by omega) (by omega) _ _ _ (.fs (latF (rowAt T.Ls j) (inL D j))) rfl HC8.out rfl HD1.out (by omega) ?_
      intro v9 w9' o9 g9' l9
      rw [hll] at o9
      have z9 := g9'.size
      obtain ⟨q9, cap9, hv9, -⟩ := (OwnC.form o9).resolve_left fun h => by have := h.2.1; omega
      subst hv9
      have hb9 : w9'.heap[g9]? = some (.cells #[.int .i64 T.t, .slice a4 T.P.length c4, vt] 38 (0, 0)) := by
        rw [g9'.block g9 (by omega) fun e => by have := (OwnC.lt HO.out _ e.symm).1.1; omega, XW.out.block g9 hgs]
        exact HB.out
      obtain ⟨k0, k1, k2, f0, f1, f2⟩ := blk3 hb9
      have P := (Put.one hb9 2 (.slice (some ⟨q9, 0, none⟩) (j + 1) cap9)).cs (cs' := #[.int .i64 T.t, .slice a4 T.P.length c4, .slice (some ⟨q9, 0, none⟩) (j + 1) cap9]) (by simp)
      have HP9 := Lib.hid P
      have O9 := Lib.hid o9
      have C9 : Hid (Chg w8 w9' (fun k => k = g9)) := Lib.hid ((HCg.out.trans (Chg.of_below XW.out _)).only (Chg.of_grown (S := fun b => vt.ownBlock = some b) g9' fun b hb => hb) fun k hk hkl => by have := (OwnC.lt HO.out _ hk).1.1; omega)
      clear o9 g9' l9 hb9 P
      go_wp2
      refine ⟨⟨j + 1, _, by omega, by go_num, ?_, HP9.out.heap, ?_⟩, by simp [intOf]; omega⟩
      · have := OwnC.chg O9.out HP9.out.chg (fun k hk e => by have := hk.1; omega)
        rw [HP9.out.size]
        unfold OwnSS
        rw [shL_length, HSH.out, List.map_append]
        exact this
      · exact C9.out.trans HP9.out.chg
    · obtain rfl : j = T.Ls.length := by omega
      obtain ⟨a6, c6, rfl, -⟩ := OwnC.rd ho
      obtain ⟨n6, hn6⟩ : ∃ n6, (shL T.Ls D T.Ls.length).length = n6 := ⟨_, rfl⟩
      rw [hn6] at hb HO HB
      have HN6 := Lib.hid hn6
      clear hn6 ho
      obtain ⟨k0, k1, k2, -, -, -⟩ := blk3 hb
      have hY : wi.heap[w.heap.size + 1]? = some (.cells #[.int .i64 0, .slice none 0 0, .slice none 0 0] 38 (0, 0)) := (hc.block _ (by omega) (by omega)).trans ((B8.out.block _ (by omega)).trans HBY.out)
      have P := put3 hY (.int .i64 T.t) (.slice a4 T.P.length c4) (.slice a6 n6 c6)
      have HPY := Lib.hid P
      obtain ⟨m0, m1, m2, f0, f1, f2⟩ := blk3 hY
      clear hb hc hr hcell hcelld hY P hbel hll
      go_wp2_with fail
      have PY := HPY.out
      clear HPY
      generalize (((wi.setCell ⟨w.heap.size + 1, 0, none⟩ (.int .i64 T.t)).setCell ⟨w.heap.size + 1, 1, none⟩ (.slice a4 T.P.length c4)).setCell ⟨w.heap.size + 1, 2, none⟩ (.slice a6 n6 c6)) = wz2 at *
      obtain ⟨q0, q1, q2, -, -, -⟩ := blk3 PY.heap
      refine bodyPost_ret (v := .tuple #[.agg #[.int .i64 T.t, .slice a4 T.P.length c4, .slice a6 n6 c6], .bool true]) (by simp [results, Try.results17, go_sem, q0, q1, q2]) rfl ?_
      refine ⟨_, _, _, _, rfl, ?_, ?_⟩
      · have := OwnC.chg HO.out PY.chg (fun k hk e => by have := hk.1; omega)
        rw [← HN6.out] at this ⊢
        exact OwnC.wide this fun k hk => ⟨by have := hk.1; omega, by rw [PY.size]; exact hk.2⟩
      · exact Below.chg HBL.out PY.chg (fun k hk => by omega) (by omega)
end Go.Proofs.Ytcffkhmjljlbaaa
