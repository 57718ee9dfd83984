/- Walks on a seat of gathers: something done with each trace. -/
import Derived.Test.YthacadbdncfocaaGr6
namespace Go.Proofs.Ythacadbdncfocaa
open Go Go.RowKit

section
variable {P : Program} {md : Region.Mode} {ops : Array Oper} {W : World} {T : FuncId → Array Value → World → Value → World → Prop} {Q : Act → (Nat → World) → Prop} {a : Act} {κ : Nat → World} {rest : List Oper} {k : Nat}
theorem execOp_callV (ρ : Operand → Value) (dst : Option Tmp) (c : Operand) (xs : Array Operand) (ats : Array TypeId) (ty : TypeId) (pos : String) (after : Array Edge) (gd : Option (Nat × Bool)) (fd : FuncId) (cb : Array Value) (h : ρ c = .func (.func fd) #[] cb) (hc : ∀ g, c ≠ .func g) :
    execOp ρ ⟨dst, .call { callee := .value c, args := xs, argTypes := ats }, ty, pos, after, gd⟩ = callFunc fd (#[] ++ xs.map ρ ++ cb) := by
  simp only [execOp, resolve, h]
  rfl
/-- A call of a function value. -/
theorem wpRelK_callV {dst : Option Tmp} {f : FuncId} {c : Operand} {cb : Array Value} {xs : Array Operand} {ats : Array TypeId} {ty : TypeId} {pos : String} {after : Array Edge} {gd : Option (Nat × Bool)} (args : Array Value)
    (hg : Region.wanted ⟨dst, .call { callee := .value c, args := xs, argTypes := ats }, ty, pos, after, gd⟩ (yielded ops a.tmps) = true)
    (hv : a.eval c = .func (.func f) #[] cb) (hne : ∀ g, c ≠ .func g) (hrun : ∀ (args : Array Value) (wq : World), (callFunc f args).run P wq = .ok (.enter f args) wq) (hargs : #[] ++ xs.map a.eval ++ cb = args)
    (hc : ∀ w, Grw md W κ ⟨dst, .call { callee := .value c, args := xs, argTypes := ats }, ty, pos, after, gd⟩ w → Calls P f args w (fun e w'' => ∃ u, e = .returned u ∧ T f args w u w'' ∧ Ext w w''))
    (hT : ∀ w, Grw md W κ ⟨dst, .call { callee := .value c, args := xs, argTypes := ats }, ty, pos, after, gd⟩ w → ∃ u w'', T f args w u w'' ∧ Ext w w'')
    (h : ∀ w, Grw md W κ ⟨dst, .call { callee := .value c, args := xs, argTypes := ats }, ty, pos, after, gd⟩ w → ∀ u w'', T f args w u w'' → Ext w w'' → wpRelK P md ops W T Q rest (k + 1) (a.put dst u) (upd κ k w'')) :
    wpRelK P md ops W T Q (⟨dst, .call { callee := .value c, args := xs, argTypes := ats }, ty, pos, after, gd⟩ :: rest) k a κ := by
  have hrun' : ∀ w, (execOp a.eval ⟨dst, .call { callee := .value c, args := xs, argTypes := ats }, ty, pos, after, gd⟩).run P w = .ok (.enter f args) w := fun w => by
    rw [execOp_callV _ _ _ _ _ _ _ _ _ _ _ hv hne, hargs, hrun]
  refine ⟨fun _ w hw => ?_, ?_⟩
  · rw [hrun' w]; exact ⟨hc w hw, hT w hw⟩
  · rintro v wn (⟨_, w, hw, hv⟩ | ⟨hn, _⟩)
    · rw [hrun' w] at hv; exact h w hw v wn hv.1 hv.2
    · rw [hg] at hn; cases hn
end
theorem ownF_of (w : World) (L : List Nat) (hl : L.length ≤ maxLen) (h : ∀ j, j < L.length → ∃ r, FV .f32 r (L.getD j 0)) : ∃ u w'', OwnF w'' w.heap.size u L ∧ Ext w w'' := by
  obtain ⟨new, hn, hnew⟩ := pick_list (P := fun j r => FV .f32 r (L.getD j 0)) L.length h
  refine ⟨.slice (some ⟨w.heap.size, 0, none⟩) L.length L.length, w.alloc (.cells (new.map (Value.float .f32)).toArray 27), ⟨new, hn, fun j hj => hnew j hj, ?_⟩, (Below.refl _ _).alloc (Nat.le_refl _) _⟩
  exact ⟨by simp [hn], .inr ⟨w.heap.size, L.length, _, rfl, Nat.le_refl _, alloc_new _ _, Nat.le_refl _, hl, by simp [hn], by rw [Nat.mul_one]; exact List.take_of_length_le (by simp [hn])⟩⟩
theorem OwnF.kind {w : World} {B : Nat} {v : Value} {L : List Nat} (h : OwnF w B v L) {k : Nat} (hk : v.ownBlock = some k) : ∃ cur, w.heap[k]? = some (.cells cur 27 (0, 0)) := by
  obtain ⟨bits, -, -, hown⟩ := h
  rcases hown.2 with ⟨rfl, -⟩ | ⟨g, cap, cur, rfl, -, hg, -⟩
  · cases hk
  · cases hk; exact ⟨cur, hg⟩
theorem OwnF.apart {w : World} {B g : Nat} {v : Value} {L : List Nat} {cs : Array Value} (h : OwnF w B v L) (hg : w.heap[g]? = some (.cells cs 44 (0, 0))) : ∀ k, v.ownBlock = some k → k ≠ g := fun k hk e => by
  subst e
  obtain ⟨cur, h2⟩ := h.kind hk
  rw [hg] at h2
  cases h2
def doL (F : Nat → List Nat) (n : Nat) : List (List Nat) := (List.range n).map F
theorem doL_length (F : Nat → List Nat) (n : Nat) : (doL F n).length = n := by simp [doL]
theorem doL_succ (F : Nat → List Nat) (n : Nat) : doL F (n + 1) = doL F n ++ [F n] := by simp [doL, List.range_succ]
/-- What is asked of the function: it makes the list 'F i' of trace i. -/
def DoOk (w : World) (T : TM) (fd : FuncId) (cb : Array Value) (F : Nat → List Nat) : Prop :=
  ∀ wq, Below w.heap.size w wq → ∀ i, i < T.Ls.length → ∀ v r, RdF wq v (rowAt T.Ls i) → FV .f32 r (T.P.getD i 0) →
    Calls Try.prog fd (#[v, .float .f32 r] ++ cb) wq fun e w' => ∃ v', e = .returned v' ∧ OwnF w' wq.heap.size v' (F i) ∧ Ext wq w'
set_option maxRecDepth 100000 in
set_option maxHeartbeats 6400000 in
theorem each_any (w : World) (vp vt : Value) (T : TM) (fd : FuncId) (cb : Array Value) (F : Nat → List Nat) (hP : RdF w vp T.P) (hL : RdSS w vt T.Ls) (hl : T.Ls.length = T.P.length) (hn : T.P.length ≤ 16)
    (hF : ∀ i, i < T.Ls.length → (F i).length ≤ 64 ∧ ∀ j, j < (F i).length → ∃ r, FV .f32 r ((F i).getD j 0)) (hrun : ∀ (args : Array Value) (wq : World), (callFunc fd args).run Try.prog wq = .ok (.enter fd args) wq) (hd : DoOk w T fd cb F) :
    Calls Try.prog 62 #[.agg #[.int .i64 T.t, vp, vt], .func (.func fd) #[] cb] w fun e w' => ∃ vp' vt', e = .returned (.agg #[.int .i64 T.t, vp', vt']) ∧ OwnF w' w.heap.size vp' T.P ∧ (∃ S : Nat → Prop, OwnSS w' S vt' (doL F T.Ls.length) ∧ ∀ k, S k → w.heap.size ≤ k) ∧ Below w.heap.size w w' := by
  obtain ⟨a1, c1, rfl, -, -, hcp⟩ := hP.opened
  obtain ⟨a2, c2, rfl, -, -, hcell⟩ := hL.opened
  obtain ⟨W, hW⟩ : ∃ W, (w.alloc (.cells #[.int .i64 T.t, .slice a1 T.P.length c1, .slice a2 T.Ls.length c2] 44)).alloc (.cells #[.int .i64 0, .slice none 0 0, .slice none 0 0] 44) = W := ⟨_, rfl⟩
  have hG : Below w.heap.size w W := by rw [← hW]; exact ((Below.refl _ _).alloc (Nat.le_refl _) _).alloc (by rw [World.size_alloc]; omega) _
  have hbx : W.heap[w.heap.size]? = some (.cells #[.int .i64 T.t, .slice a1 T.P.length c1, .slice a2 T.Ls.length c2] 44 (0, 0)) := by
    rw [← hW]
    exact (((Below.refl _ _).alloc (Nat.le_refl _) _ : Below _ (w.alloc (.cells #[.int .i64 T.t, .slice a1 T.P.length c1, .slice a2 T.Ls.length c2] 44)) _).block w.heap.size (by rw [World.size_alloc]; omega)).trans (alloc_new _ _)
  have hby : W.heap[w.heap.size + 1]? = some (.cells #[.int .i64 0, .slice none 0 0, .slice none 0 0] 44 (0, 0)) := by
    rw [← hW]
    have := alloc_new (w.alloc (.cells #[.int .i64 T.t, .slice a1 T.P.length c1, .slice a2 T.Ls.length c2] 44)) (.cells #[.int .i64 0, .slice none 0 0, .slice none 0 0] 44)
    rw [World.size_alloc] at this
    exact this
  have hWs : W.heap.size = w.heap.size + 2 := by rw [← hW, World.size_alloc, World.size_alloc]
  have FX : Hid (∀ wq, Below W.heap.size W wq → wq.cell? ⟨w.heap.size, 0, none⟩ = some (.int .i64 T.t) ∧ wq.cell? ⟨w.heap.size, 1, none⟩ = some (.slice a1 T.P.length c1) ∧ wq.cell? ⟨w.heap.size, 2, none⟩ = some (.slice a2 T.Ls.length c2)) := Lib.hid fun wq hq => by
    obtain ⟨k0, k1, k2, -, -, -⟩ := blk3 ((hq.block w.heap.size (by omega)).trans hbx)
    exact ⟨k0, k1, k2⟩
  have HBY := Lib.hid hby
  have HG := Lib.hid hG
  have HP := Lib.hid hP
  have HD := Lib.hid hd
  have HFL := Lib.hid hF
  have HRun := Lib.hid hrun
  have HLn := Lib.hid hl
  have HWS := Lib.hid hWs
  clear hP hL hbx hby hG hd hF hl hWs hrun
  go_enter Try.func62, Try.ntmps62
  go_wp2_with fail
  clear hW
  have FW : Hid (∀ wq, Ext W.drew wq → Below W.heap.size W wq) := Lib.hid fun wq hq => ((Ext.drew W).trans hq)
  refine region_grow_tail 7 (by kernel_rfl) (by kernel_rfl) (rowT T.P) ?_
  simp only [List.take_succ_cons, List.take_zero, List.drop_succ_cons, List.drop_zero]
  iterate 4 (refine wpRelK_still rfl rfl (fun wq hq K hK => ?_); obtain ⟨k0, k1, k2⟩ := FX.out wq (FW.out wq hq.1); go_wp2; clear k0 k1 k2)
  refine wpRelK_callF #[.slice a1 T.P.length c1] rfl Try.func61 (by kernel_rfl) (by kernel_rfl) (by simp [go_sem])
    (fun wq hq => (clone_any wq _ T.P (HP.out.mono (HG.out.trans ((FW.out wq hq.1).mono (by have := HWS.out; omega)))) (by omega)).mono fun e w'' ⟨v', he, ho, hb⟩ => ⟨v', he, ho, hb⟩)
    (fun wq hq => ownF_exists wq _ T.P (HP.out.mono (HG.out.trans ((FW.out wq hq.1).mono (by have := HWS.out; omega)))) (by unfold maxLen; omega)) ?_
  intro wq7 hq7 u w7 hT7 x7
  have hT7' : OwnF w7 wq7.heap.size u T.P := hT7
  have s7 := (FW.out wq7 hq7.1).size
  obtain ⟨a4, c4, rfl, -, -, -⟩ := hT7'.rd.opened
  have HT7 := Lib.hid hT7'
  clear hT7 hT7' hq7
  simp only [Act.put, List.setIfInBounds_toArray, List.set_cons_succ, List.set_cons_zero]
  refine wpRelK_still rfl rfl (fun wq hq K hK => ?_)
  go_wp2
  refine wpRelK_op rfl rfl (fun w9 hq9 K hK => ?_)
  have s9 := (FW.out w9 hq9.1).size
  go_wp2
  refine hK _ _ ((Below.refl _ _).alloc (Nat.le_refl _) _) ?_
  clear hK K
  refine wpRelK_nil ?_
  intro w8 hW8 hall
  have E9 : Ext (w9.alloc (.cells #[.int .i64 0, .slice none 0 0, .slice none 0 0] 44)) w8 := hall 6 (by decide)
  have E78 : Ext w7 w8 := hall 4 (by decide)
  have h8 : w8.heap[w9.heap.size]? = some (.cells #[.int .i64 0, .slice none 0 0, .slice none 0 0] 44 (0, 0)) := (E9.block w9.heap.size (by rw [World.size_alloc]; omega)).trans (alloc_new _ _)
  have g8 : w9.heap.size < w8.heap.size := (Array.getElem?_eq_some_iff.1 h8).1
  have b8 := FW.out w8 hW8
  have B8 := Lib.hid b8
  have z8 := b8.size
  have O8 : Hid (OwnF w8 wq7.heap.size (.slice a4 T.P.length c4) T.P ∧ ∀ k, (Value.slice a4 T.P.length c4).ownBlock = some k → k ≠ w9.heap.size) := Lib.hid ⟨HT7.out.kept E78, (HT7.out.kept E78).apart h8⟩
  obtain ⟨-, -, j2⟩ := FX.out w8 b8
  have P := put3 h8 (.int .i64 T.t) (.slice a4 T.P.length c4) (.slice none 0 0)
  have HPt := Lib.hid P
  clear hall hW8 b8 E9 hq9 x7 hq P FW E78 HT7
  generalize w9.heap.size = g9 at *
  obtain ⟨m0, m1, m2, f0, f1, f2⟩ := blk3 h8
  have hw9 : w.heap.size + 2 ≤ g9 := by have := HWS.out; omega
  clear h8
  go_wp2_with fail
  generalize (((w8.setCell ⟨g9, 0, none⟩ (.int .i64 T.t)).setCell ⟨g9, 1, none⟩ (.slice a4 T.P.length c4)).setCell ⟨g9, 2, none⟩ (.slice none 0 0)) = wz at *
  have CZ : Hid (Chg w8 wz fun k => k = g9) := Lib.hid HPt.out.chg
  have hz9 := HPt.out.size
  go_loopw [17] (fun i wr => ∃ (j : Nat) (vt : Value), j ≤ T.Ls.length ∧ i = .int .i64 j ∧ OwnSS wr (Iv w8.heap.size wr.heap.size) vt (doL F j) ∧ wr.heap[g9]? = some (.cells #[.int .i64 T.t, .slice a4 T.P.length c4, vt] 44 (0, 0)) ∧ Chg w8 wr (fun k => k = g9)) (fun i _ => T.Ls.length - (intOf i).toNat)
  case atStart => exact ⟨0, .slice none 0 0, Nat.zero_le _, rfl, ⟨[], rfl, World.ownsRow_nil _ 0 _ 1, (fun k hk => by cases hk), (fun j hj => by cases hj), (fun i j k hi => by cases hi), (fun j k hj => by cases hj)⟩, HPt.out.heap, CZ.out⟩
  case round =>
    obtain ⟨wi, rfl⟩ : ∃ wi : World, wi = wr := ⟨_, rfl⟩
    obtain ⟨j, vt, hj, rfl, ho, hb, hc⟩ := hrel
    have HO := Lib.hid ho
    have HB := Lib.hid hb
    have HCg := Lib.hid hc
    have hgs : g9 < wi.heap.size := (Array.getElem?_eq_some_iff.1 hb).1
    have hsz := hc.size
    have hbW : Below W.heap.size W wi := Below.chg B8.out hc (fun k hk => by omega) (by omega)
    have hbel : Below w.heap.size w wi := HG.out.trans (hbW.mono (by have := HWS.out; omega))
    have HBL := Lib.hid hbel
    have HBW := Lib.hid hbW
    have hll := doL_length F j
    by_cases hlt : j < T.Ls.length
    · obtain ⟨b, o, a', c', rfl, hlb, d0, R0⟩ := hcell j hlt
      have hlP : j < T.P.length := by have := HLn.out; omega
      obtain ⟨b3, o3, r3, rfl, d3, f3⟩ := hcp j hlP
      have hlb3 := block_lt d3
      have d1 := ((bcell hbel).1 _ _ hlb).trans d0
      have D3 := Lib.hid d3
      have HF3 := Lib.hid f3
      have R1 := Lib.hid (R0.mono hbel)
      have hjP : (j : Int) < (T.P.length : Int) := by omega
      have HFj := Lib.hid (HFL.out j hlt)
      clear ho hb hc d0 R0 hcell hcp d3 f3 hbW
      have FY : Hid (∀ wq, Ext wi.drew wq → Ext wi wq ∧ wq.cell? ⟨g9, 2, none⟩ = some vt ∧ wq.cell? ⟨w.heap.size, 1, none⟩ = some (.slice (some ⟨b3, o3, none⟩) T.P.length c1) ∧ wq.cell? ⟨b3, o3 + j, none⟩ = some (.float .f32 r3)) := Lib.hid fun wq hq => by
        have x1 : Ext wi wq := (Ext.drew wi).trans hq
        obtain ⟨-, -, k2, -, -, -⟩ := blk3 ((x1.block g9 hgs).trans HB.out)
        obtain ⟨-, k1, -⟩ := FX.out wq (HBW.out.trans (x1.mono (by omega)))
        exact ⟨x1, k2, k1, (((bcell x1).1 _ _ (by have := HBL.out.size; omega)).trans ((bcell HBL.out).1 _ _ hlb3)).trans D3.out⟩
      have HSH := Lib.hid (doL_succ F j)
      clear hbel
      go_wp2_with fail
      refine region_grow_tail 11 (by kernel_rfl) (by kernel_rfl) (rowT (F j)) ?_
      simp only [List.take_succ_cons, List.take_zero, List.drop_succ_cons, List.drop_zero]
      iterate 9 (refine wpRelK_still rfl rfl (fun wq hq K hK => ?_); obtain ⟨-, k1, k2, k3⟩ := FY.out wq hq.1; go_wp2; clear k1 k2 k3)
      refine wpRelK_callV (f := fd) (cb := cb) (#[.slice a' (rowAt T.Ls j).length c', .float .f32 r3] ++ cb) rfl rfl (fun g h => by cases h) HRun.out ?_ ?_ ?_ ?_
      · simp [go_sem]
      · exact fun wq hq => (HD.out wq (HBL.out.trans ((FY.out wq hq.1).1.mono HBL.out.size)) j hlt _ r3 (R1.out.mono (FY.out wq hq.1).1) HF3.out).mono fun e w'' ⟨v', he, ho, hb⟩ => ⟨v', he, ho, hb⟩
      · exact fun wq hq => ownF_of wq (F j) (by have := HFj.out.1; unfold maxLen; omega) HFj.out.2
      intro wa ha u w7 hT7 x7
      have hT7' : OwnF w7 wa.heap.size u (F j) := hT7
      have HT7 := Lib.hid hT7'
      obtain ⟨a5, c5, rfl, -⟩ := hT7'.rd.opened
      have ga : wi.heap.size ≤ wa.heap.size := ha.1.size
      clear hT7 hT7' ha
      simp only [Act.put, List.setIfInBounds_toArray, List.set_cons_succ, List.set_cons_zero]
      refine wpRelK_op rfl rfl (fun wb hb2 K hK => ?_)
      have E7b : Ext w7 wb := hb2.dep 9 (by kernel_rfl)
      have gb : wi.heap.size ≤ wb.heap.size := hb2.1.size
      go_wp2
      refine hK _ _ ((Below.refl _ _).alloc (Nat.le_refl _) _) ?_
      clear hK K
      refine wpRelK_nil ?_
      intro w8' hW hall
      have E7 : Ext w7 w8' := hall 9 (by decide)
      have E8 : Ext (wb.alloc (.cells #[.slice a5 (F j).length c5] 25)) w8' := hall 10 (by decide)
      have xW : Ext wi w8' := (Ext.drew wi).trans hW
      have OX : Hid (OwnF w8' wa.heap.size (.slice a5 (F j).length c5) (F j)) := Lib.hid (HT7.out.kept E7)
      have hcell8 : w8'.cell? ⟨wb.heap.size, 0, none⟩ = some (.slice a5 (F j).length c5) := cell_of_row w8' _ 0 _ _ _ ((E8.block wb.heap.size (by rw [World.size_alloc]; omega)).trans (alloc_new _ _))
      have HC8 := Lib.hid hcell8
      have XW := Lib.hid xW
      have z8' := xW.size
      have hd1 : Own1 w8' (fun k => wi.heap.size ≤ k) (.fs (F j)) (.slice a5 (F j).length c5) := Own1.fs_ OX.out fun k hk => by have := (OX.out.lt hk).1; omega
      have HD1 := Lib.hid hd1
      clear hall hW E7 E8 E7b x7 hb2 hcell8 xW hd1 HT7
      refine wpList_pushC rfl _ _ 42 25 rfl (.slice none 0 0) 24 Try.underlying42 Try.infoFF rfl (by decide) w8.heap.size wi.heap.size _ _ _ rfl (OwnC.kept HO.out XW.out) (by omega) (by omega) _ _ _ (.fs (F j)) rfl HC8.out rfl HD1.out (by have := HLn.out; omega) ?_
      intro v9 w9' o9 g9' l9
      rw [hll] at o9
      have z9 := g9'.size
      obtain ⟨q9, cap9, hv9, -⟩ := (OwnC.form o9).resolve_left fun h => by have := h.2.1; omega
      subst hv9
      have hb9 : w9'.heap[g9]? = some (.cells #[.int .i64 T.t, .slice a4 T.P.length c4, vt] 44 (0, 0)) := by
        rw [g9'.block g9 (by omega) fun e => by have := (OwnC.lt HO.out _ e.symm).1.1; omega, XW.out.block g9 hgs]
        exact HB.out
      obtain ⟨k0, k1, k2, f0, f1, f2⟩ := blk3 hb9
      have P := (Put.one hb9 2 (.slice (some ⟨q9, 0, none⟩) (j + 1) cap9)).cs (cs' := #[.int .i64 T.t, .slice a4 T.P.length c4, .slice (some ⟨q9, 0, none⟩) (j + 1) cap9]) (by simp)
      have HP9 := Lib.hid P
      have O9 := Lib.hid o9
      have C9 : Hid (Chg w8 w9' (fun k => k = g9)) := Lib.hid ((HCg.out.trans (Chg.of_below XW.out _)).only (Chg.of_grown (S := fun b => vt.ownBlock = some b) g9' fun b hb => hb) fun k hk hkl => by have := (OwnC.lt HO.out _ hk).1.1; omega)
      clear o9 g9' l9 hb9 P
      go_wp2_with fail
      refine ⟨⟨j + 1, _, by omega, by go_num, ?_, HP9.out.heap, ?_⟩, by simp [intOf]; omega⟩
      · have := OwnC.chg O9.out HP9.out.chg (fun k hk e => by have := hk.1; omega)
        rw [HP9.out.size]
        unfold OwnSS
        rw [doL_length, HSH.out, List.map_append]
        exact this
      · exact C9.out.trans HP9.out.chg
    · obtain rfl : j = T.Ls.length := by omega
      obtain ⟨a6, c6, rfl, -⟩ := OwnC.rd ho
      obtain ⟨n6, hn6⟩ : ∃ n6, (doL F T.Ls.length).length = n6 := ⟨_, rfl⟩
      rw [hn6] at hb HO HB
      have HN6 := Lib.hid hn6
      clear hn6 ho
      obtain ⟨k0, k1, k2, -, -, -⟩ := blk3 hb
      have hY : wi.heap[w.heap.size + 1]? = some (.cells #[.int .i64 0, .slice none 0 0, .slice none 0 0] 44 (0, 0)) := (hbW.block _ (by have := HWS.out; omega)).trans HBY.out
      have P := put3 hY (.int .i64 T.t) (.slice a4 T.P.length c4) (.slice a6 n6 c6)
      have HPY := Lib.hid P
      obtain ⟨m0, m1, m2, f0, f1, f2⟩ := blk3 hY
      have OP : Hid (OwnF wi wq7.heap.size (.slice a4 T.P.length c4) T.P) := Lib.hid (O8.out.1.chg hc fun k hk e => O8.out.2 k hk e)
      have hlt1 : w.heap.size + 1 < wi.heap.size := (Array.getElem?_eq_some_iff.1 hY).1
      clear hb hc hcell hcp hY P hbel hll hbW
      go_wp2_with fail
      have PY := HPY.out
      clear HPY
      generalize (((wi.setCell ⟨w.heap.size + 1, 0, none⟩ (.int .i64 T.t)).setCell ⟨w.heap.size + 1, 1, none⟩ (.slice a4 T.P.length c4)).setCell ⟨w.heap.size + 1, 2, none⟩ (.slice a6 n6 c6)) = wz2 at *
      obtain ⟨q0, q1, q2, -, -, -⟩ := blk3 PY.heap
      refine bodyPost_ret (v := .agg #[.int .i64 T.t, .slice a4 T.P.length c4, .slice a6 n6 c6]) (by simp [results, Try.results62, go_sem, q0, q1, q2]) rfl ?_
      have hw := HWS.out
      refine ⟨_, _, rfl, (OP.out.chg PY.chg fun k hk e => by have := (OP.out.lt hk).1; omega).mono (by omega), ⟨_, OwnC.chg HO.out PY.chg (fun k hk e => by have := hk.1; omega), fun k hk => by have := hk.1; omega⟩, ?_⟩
      exact Below.chg HBL.out PY.chg (fun k hk => by omega) (by omega)
end Go.Proofs.Ythacadbdncfocaa
