/- Walks on a seat of gathers: a gather that is built field by field; the gather of some traces. -/
import Derived.Test.YtjhbcnmkamkkaaaGr2
namespace Go.Proofs.Ytjhbcnmkamkkaaa
open Go Go.RowKit

/-- The gather that is built lies in block gb; what it leads to lies behind it. -/
structure GO (w0 wq : World) (gb : Nat) (t : Int) (vp vt : Value) (P : List Nat) (Ls : List (List Nat)) : Prop where
  bel : Below gb w0 wq
  p : wq.heap[gb]? = some (.cells #[.int .i64 t, vp, vt] 59 (0, 0))
  op : OwnF wq (gb + 1) vp P
  ot : ∃ S : Nat → Prop, OwnSS wq S vt Ls ∧ ∀ k, S k → gb < k ∧ k < wq.heap.size ∧ vp.ownBlock ≠ some k
theorem GO.lt {w0 wq : World} {gb : Nat} {t : Int} {vp vt : Value} {P : List Nat} {Ls : List (List Nat)} (h : GO w0 wq gb t vp vt P Ls) : gb < wq.heap.size := (Array.getElem?_eq_some_iff.1 h.p).1
/-- A gather that was just laid. -/
theorem GO.fresh (w0 : World) (t : Int) : GO w0 (w0.alloc (.cells #[.int .i64 t, .slice none 0 0, .slice none 0 0] 59)) w0.heap.size t (.slice none 0 0) (.slice none 0 0) [] [] :=
  ⟨(Below.refl _ _).alloc (Nat.le_refl _) _, alloc_new _ _, OwnF.nil _ _, ⟨fun _ => False, ⟨[], rfl, World.ownsRow_nil _ 0 _ 1, (fun k hk => by cases hk), (fun j hj => by cases hj), (fun i j k hi => by cases hi), (fun j k hj => by cases hj)⟩, fun k hk => hk.elim⟩⟩
/-- A place more. -/
theorem GO.place {w0 wi w8 w9 : World} {gb : Nat} {t : Int} {vp vt v' : Value} {P P' : List Nat} {Ls : List (List Nat)} (h : GO w0 wi gb t vp vt P Ls) (x : Ext wi w8) (o9 : OwnF w9 (gb + 1) v' P') (g9 : w8.grownBy w9 vp.ownBlock) (l9 : v'.ownBlock = vp.ownBlock ∨ v'.ownBlock = some w8.heap.size) :
    GO w0 (w9.setCell ⟨gb, 1, none⟩ v') gb t v' vt P' Ls ∧ w9.heap[gb]? = some (.cells #[.int .i64 t, vp, vt] 59 (0, 0)) := by
  have hp := h.lt
  have hv : ∀ k, vp.ownBlock = some k → gb + 1 ≤ k ∧ k < wi.heap.size := fun k hk => h.op.lt hk
  have C9 : Chg w8 w9 (fun k => vp.ownBlock = some k) := Chg.of_grown g9 fun k hk => hk
  have z8 := x.size
  have z9 := C9.size
  have hp9 : w9.heap[gb]? = some (.cells #[.int .i64 t, vp, vt] 59 (0, 0)) := by
    rw [C9.block gb (by omega) (fun e => by have := (hv _ e).1; omega), x.block gb hp]; exact h.p
  have Pt := Put.one hp9 1 v'
  obtain ⟨S, hS, hS2⟩ := h.ot
  have ot9 : OwnSS w9 S vt Ls := OwnC.chg (OwnC.kept hS x) C9 fun k hk e => (hS2 k hk).2.2 e
  have otP := OwnC.chg ot9 Pt.chg fun k hk e => by have := (hS2 k hk).1; omega
  have zP := Pt.chg.size
  have B9 : Below gb w0 w9 := Below.chg (h.bel.trans (Below.mono x (Nat.le_of_lt hp))) C9 (fun k hk => by have := (hv k hk).1; omega) (by omega)
  refine ⟨⟨Below.chg B9 Pt.chg (fun k hk => by omega) (by omega), (Pt.cs (cs' := #[.int .i64 t, v', vt]) (by simp)).heap, o9.chg Pt.chg fun k hk e => by have := (o9.lt hk).1; omega, ⟨S, otP, fun k hk => ?_⟩⟩, hp9⟩
  obtain ⟨k1, k2, k3⟩ := hS2 k hk
  refine ⟨k1, by omega, fun e => ?_⟩
  rcases l9 with l9 | l9
  · rw [l9] at e; exact k3 e
  · rw [l9] at e; have := Option.some.inj e; omega
/-- A trace more. -/
theorem GO.row {w0 wi w8 w9 : World} {gb : Nat} {t : Int} {vp vt v' : Value} {P : List Nat} {Ls Ls' : List (List Nat)} (S : Nat → Prop) (h : GO w0 wi gb t vp vt P Ls) (hS2 : ∀ k, S k → gb < k ∧ k < wi.heap.size ∧ vp.ownBlock ≠ some k) (hv : ∀ k, vt.ownBlock = some k → S k) (x : Ext wi w8)
    (o9 : OwnSS w9 (fun k => S k ∨ (wi.heap.size ≤ k ∧ k < w9.heap.size)) v' Ls') (g9 : w8.grownBy w9 vt.ownBlock) :
    GO w0 (w9.setCell ⟨gb, 2, none⟩ v') gb t vp v' P Ls' ∧ w9.heap[gb]? = some (.cells #[.int .i64 t, vp, vt] 59 (0, 0)) := by
  have hp := h.lt
  have C9 : Chg w8 w9 (fun k => vt.ownBlock = some k) := Chg.of_grown g9 fun k hk => hk
  have z8 := x.size
  have z9 := C9.size
  have hp9 : w9.heap[gb]? = some (.cells #[.int .i64 t, vp, vt] 59 (0, 0)) := by
    rw [C9.block gb (by omega) (fun e => by have := (hS2 _ (hv _ e)).1; omega), x.block gb hp]; exact h.p
  have Pt := Put.one hp9 2 v'
  have zP := Pt.chg.size
  have B9 : Below gb w0 w9 := Below.chg (h.bel.trans (Below.mono x (Nat.le_of_lt hp))) C9 (fun k hk => by have := (hS2 _ (hv _ hk)).1; omega) (by omega)
  have op9 : OwnF w9 (gb + 1) vp P := (h.op.kept x).chg C9 fun k hk e => (hS2 k (hv k e)).2.2 hk
  have otP := OwnC.chg o9 Pt.chg fun k hk e => by
    rcases hk with hk | hk
    · have := (hS2 k hk).1; omega
    · omega
  refine ⟨⟨Below.chg B9 Pt.chg (fun k hk => by omega) (by omega), (Pt.cs (cs' := #[.int .i64 t, vp, v']) (by simp)).heap, op9.chg Pt.chg fun k hk e => by have := (op9.lt hk).1; omega, ⟨_, otP, fun k hk => ?_⟩⟩, hp9⟩
  rcases hk with hk | hk
  · obtain ⟨k1, k2, k3⟩ := hS2 k hk
    exact ⟨k1, by omega, k3⟩
  · exact ⟨by omega, by omega, fun e => by have := (h.op.lt e).2; omega⟩

def pkP (P : List Nat) (js : List Nat) : List Nat := js.map fun j => P.getD j 0
def pkL (Ls : List (List Nat)) (js : List Nat) : List (List Nat) := js.map (rowAt Ls)
def pkT (T : TM) (js : List Nat) : TM := ⟨T.t, pkP T.P js, pkL T.Ls js⟩
def RdJ (w : World) (v : Value) (js : List Nat) : Prop := RdP w v js.length fun j u => u = .int .i64 (js.getD j 0 : Nat)
theorem take_succJ (js : List Nat) (j m : Nat) (h : j < js.length) (hm : js.getD j 0 = m) : js.take (j + 1) = js.take j ++ [m] := by
  rw [List.take_succ_eq_append_getElem h]
  rw [List.getD_eq_getElem?_getD, List.getElem?_eq_getElem h] at hm
  simp only [Option.getD_some] at hm
  rw [hm]
theorem pkT_small (T : TM) (js : List Nat) (h1 : js.length ≤ 16) (hr : ∀ j, (rowAt T.Ls j).length ≤ 64) : (pkT T js).small := by
  refine ⟨by simp [pkT, pkP]; omega, by simp [pkT, pkL]; omega, fun j hj => ?_⟩
  have hj' : j < js.length := by simpa [pkT, pkL] using hj
  have : rowAt (pkT T js).Ls j = rowAt T.Ls (js.getD j 0) := by
    simp [pkT, pkL, rowAt, List.getD_eq_getElem?_getD, List.getElem?_map, List.getElem?_eq_getElem hj']
  rw [this]
  have := hr (js.getD j 0)
  omega
def rowT (L : List Nat) (f : FuncId) (args : Array Value) (w : World) (u : Value) (w'' : World) : Prop := OwnF w'' w.heap.size u L
theorem ownF_exists (w : World) (v : Value) (L : List Nat) (h : RdF w v L) (hl : L.length ≤ maxLen) : ∃ u w'', OwnF w'' w.heap.size u L ∧ Ext w w'' := by
  obtain ⟨a, c, rfl, hc, hz, hcell⟩ := h.opened
  obtain ⟨new, hn, hnew⟩ := pick_list (P := fun j r => FV .f32 r (L.getD j 0)) L.length (fun j hj => by
    obtain ⟨b, o, r, e, h1, h2⟩ := hcell j hj
    exact ⟨r, h2⟩)
  refine ⟨.slice (some ⟨w.heap.size, 0, none⟩) L.length L.length, w.alloc (.cells (new.map (Value.float .f32)).toArray 31), ⟨new, hn, fun j hj => hnew j hj, ?_⟩, (Below.refl _ _).alloc (Nat.le_refl _) _⟩
  exact ⟨by simp [hn], .inr ⟨w.heap.size, L.length, _, rfl, Nat.le_refl _, alloc_new _ _, Nat.le_refl _, hl, by simp [hn], by rw [Nat.mul_one]; exact List.take_of_length_le (by simp [hn])⟩⟩
def noT (f : FuncId) (args : Array Value) (w : World) (u : Value) (w'' : World) : Prop := False
set_option maxRecDepth 100000 in
set_option maxHeartbeats 6400000 in
theorem chosen_any (w : World) (vp vt v2 : Value) (T : TM) (js : List Nat) (b : Bool) (hP : RdF w vp T.P) (hL : RdSS w vt T.Ls) (hj : RdJ w v2 js) (hjs : ∀ i, i < js.length → js.getD i 0 < T.P.length) (hl : T.Ls.length = T.P.length) (hn : T.P.length ≤ 16) (hjl : js.length ≤ 16) (hr : ∀ j, (rowAt T.Ls j).length ≤ 64) (hb : validT (pkT T js) = b) :
    Calls Try.prog 95 #[.agg #[.int .i64 T.t, vp, vt], v2] w fun e w' => ∃ vp' vt', e = .returned (.tuple #[.agg #[.int .i64 (cond b T.t 0), vp', vt'], .bool b]) ∧ (b = true → OwnF w' w.heap.size vp' (pkP T.P js) ∧ ∃ S : Nat → Prop, OwnSS w' S vt' (pkL T.Ls js) ∧ ∀ k, S k → w.heap.size ≤ k) ∧ (b = false → vp' = .slice none 0 0 ∧ vt' = .slice none 0 0) ∧ Below w.heap.size w w' := by
  obtain ⟨a1, c1, rfl, -, -, hcp⟩ := hP.opened
  obtain ⟨a2, c2, rfl, -, -, hcl⟩ := hL.opened
  obtain ⟨a3, c3, rfl, -, -, hcj⟩ := hj
  obtain ⟨W, hW⟩ : ∃ W, (w.alloc (.cells #[.int .i64 T.t, .slice a1 T.P.length c1, .slice a2 T.Ls.length c2] 59)).alloc (.cells #[.int .i64 0, .slice none 0 0, .slice none 0 0] 59) = W := ⟨_, rfl⟩
  have hG : Below w.heap.size w W := by rw [← hW]; exact ((Below.refl _ _).alloc (Nat.le_refl _) _).alloc (by rw [World.size_alloc]; omega) _
  have hbx : W.heap[w.heap.size]? = some (.cells #[.int .i64 T.t, .slice a1 T.P.length c1, .slice a2 T.Ls.length c2] 59 (0, 0)) := by
    rw [← hW]
    exact (((Below.refl _ _).alloc (Nat.le_refl _) _ : Below _ (w.alloc (.cells #[.int .i64 T.t, .slice a1 T.P.length c1, .slice a2 T.Ls.length c2] 59)) _).block w.heap.size (by rw [World.size_alloc]; omega)).trans (alloc_new _ _)
  have hby : W.heap[w.heap.size + 1]? = some (.cells #[.int .i64 0, .slice none 0 0, .slice none 0 0] 59 (0, 0)) := by
    rw [← hW]
    have := alloc_new (w.alloc (.cells #[.int .i64 T.t, .slice a1 T.P.length c1, .slice a2 T.Ls.length c2] 59)) (.cells #[.int .i64 0, .slice none 0 0, .slice none 0 0] 59)
    rw [World.size_alloc] at this
    exact this
  have hWs : W.heap.size = w.heap.size + 2 := by rw [← hW, World.size_alloc, World.size_alloc]
  have FX : Hid (∀ wq, Below W.heap.size W wq → wq.cell? ⟨w.heap.size, 0, none⟩ = some (.int .i64 T.t) ∧ wq.cell? ⟨w.heap.size, 1, none⟩ = some (.slice a1 T.P.length c1) ∧ wq.cell? ⟨w.heap.size, 2, none⟩ = some (.slice a2 T.Ls.length c2)) := Lib.hid fun wq hq => by
    obtain ⟨k0, k1, k2, -, -, -⟩ := blk3 ((hq.block w.heap.size (by omega)).trans hbx)
    exact ⟨k0, k1, k2⟩
  have HBY := Lib.hid hby
  have HG := Lib.hid hG
  have HWS := Lib.hid hWs
  have HSM := Lib.hid (pkT_small T js hjl hr)
  have HVB := Lib.hid hb
  have HL := Lib.hid hl
  have G0 := Lib.hid (GO.fresh W T.t)
  clear hP hL hbx hby hG hb hl hWs
  go_enter Try.func95, Try.ntmps95
  obtain ⟨k0, k1, k2⟩ := FX.out W (Below.refl _ _)
  go_wp2_with fail
  clear hW k0 k1 k2
  go_loopw [14] (fun i wr => ∃ (j : Nat) (vp vt : Value), j ≤ js.length ∧ i = .int .i64 j ∧ GO W wr W.heap.size T.t vp vt (pkP T.P (js.take j)) (pkL T.Ls (js.take j))) (fun i _ => js.length - (intOf i).toNat)
  case atStart => exact ⟨0, .slice none 0 0, .slice none 0 0, Nat.zero_le _, rfl, G0.out⟩
  case round =>
    clear G0
    obtain ⟨wi, rfl⟩ : ∃ wi : World, wi = wr := ⟨_, rfl⟩
    obtain ⟨j, vp', vt', hj, rfl, hS⟩ := hrel
    have HS := Lib.hid hS
    have hbel : Below w.heap.size w wi := HG.out.trans (hS.bel.mono (by have := HWS.out; omega))
    have hgl := hS.lt
    have HBL := Lib.hid hbel
    by_cases hlt : j < js.length
    · obtain ⟨b3, o3, u3, rfl, d3, hu3⟩ := hcj j hlt
      obtain ⟨m, hm⟩ : ∃ m, js.getD j 0 = m := ⟨_, rfl⟩
      have hmj := hjs j hlt
      have HTk := Lib.hid (take_succJ js j m hlt hm)
      rw [hm] at hu3 hmj
      subst hu3
      obtain ⟨b1, o1, r1, rfl, d1, hf1⟩ := hcp m hmj
      obtain ⟨b2, o2, a', c', rfl, hb2, d2, R2⟩ := hcl m (by have := HL.out; omega)
      have hm2 : (m : Int) < (T.P.length : Int) := by omega
      have hm3 : (m : Int) < (T.Ls.length : Int) := by have := HL.out; omega
      have hrm := hr m
      have hlb1 := block_lt d1
      have hlb3 := block_lt d3
      have e3 := ((bcell hbel).1 _ (o3 + j) hlb3).trans d3
      obtain ⟨-, g1, g2, -, -, -⟩ := blk3 hS.p
      have HF1 := Lib.hid hf1
      have D1 := Lib.hid d1
      have D2 := Lib.hid d2
      have HR2 := Lib.hid R2
      have G1 := Lib.hid g1
      have hb1s : b1 < wi.heap.size := by have := hbel.size; omega
      clear hS hm hcj hcp hcl d1 d2 d3 R2 hf1 g1 g2 hbel hr hjs
      go_wp2_with fail
      have FW : Hid (∀ wq, Ext wi.drew wq → wq.cell? ⟨W.heap.size, 1, none⟩ = some vp' ∧ wq.cell? ⟨w.heap.size, 1, none⟩ = some (.slice (some ⟨b1, o1, none⟩) T.P.length c1) ∧ wq.cell? ⟨b1, o1 + m, none⟩ = some (.float .f32 r1)) := Lib.hid fun wq hq => by
        have x : Ext wi wq := (Ext.drew wi).trans hq
        obtain ⟨-, k1, -⟩ := FX.out wq (HS.out.bel.trans (x.mono (by omega)))
        exact ⟨((bcell x).1 _ _ hgl).trans G1.out, k1, ((bcell x).1 _ _ hb1s).trans (((bcell HBL.out).1 _ _ hlb1).trans D1.out)⟩
      refine region_grow_tail 8 (by kernel_rfl) (by kernel_rfl) noT ?_
      simp only [List.take_succ_cons, List.take_zero, List.drop_succ_cons, List.drop_zero]
      clear e3
      iterate 7 (refine wpRelK_still rfl rfl (fun wq hq K hK => ?_); obtain ⟨q0, q1, q2⟩ := FW.out wq hq.1; go_wp2; clear q0 q1 q2)
      refine wpRelK_op rfl rfl (fun wb hb2 K hK => ?_)
      have gb : wi.heap.size ≤ wb.heap.size := hb2.1.size
      go_wp2
      refine hK _ _ ((Below.refl _ _).alloc (Nat.le_refl _) _) ?_
      clear hK K
      refine wpRelK_nil ?_
      intro w8 hW8 hall
      have E8 : Ext (wb.alloc (.cells #[.float .f32 r1] 31)) w8 := hall 7 (by decide)
      have x8 : Ext wi w8 := (Ext.drew wi).trans hW8
      have hcell8 : w8.cell? ⟨wb.heap.size, 0, none⟩ = some (.float .f32 r1) := cell_of_row w8 _ 0 _ _ _ ((E8.block wb.heap.size (by rw [World.size_alloc]; omega)).trans (alloc_new _ _))
      have HC8 := Lib.hid hcell8
      have X8 := Lib.hid x8
      have z8 := x8.size
      clear hall hW8 E8 hb2 hcell8 x8
      refine wpList_push rfl _ _ rfl (W.heap.size + 1) _ (pkP T.P (js.take j)) rfl (HS.out.op.kept X8.out) _ _ _ (T.P.getD m 0) rfl HC8.out HF1.out (by simp [pkP]; omega) (by omega) ?_
      intro v9 w9 o9 g9 b9 l9
      obtain ⟨a9, n9, c9, rfl⟩ : ∃ a n c, v9 = .slice a n c := (by obtain ⟨a, c, h, -⟩ := o9.rd.opened; exact ⟨a, _, c, h⟩)
      obtain ⟨ST, hp9⟩ := HS.out.place X8.out o9 g9 l9
      obtain ⟨q0, q1, q2, f0, f1, f2⟩ := blk3 hp9
      have HST := Lib.hid ST
      clear o9 g9 b9 l9 ST hp9
      go_wp2_with fail
      clear q0 q1 q2 f0 f1 f2
      generalize (w9.setCell ⟨W.heap.size, 1, none⟩ (.slice a9 n9 c9)) = wz at *
      have hgz := HST.out.lt
      have hbz : Below w.heap.size w wz := HG.out.trans (HST.out.bel.mono (by have := HWS.out; omega))
      obtain ⟨-, -, g2, -, -, -⟩ := blk3 HST.out.p
      have HBZ := Lib.hid hbz
      have G2 := Lib.hid g2
      have hb2z : b2 < wz.heap.size := by have := hbz.size; omega
      obtain ⟨S, hSS, hS2⟩ := HST.out.ot
      have HSS := Lib.hid hSS
      have HS2 := Lib.hid hS2
      clear g2 hbz hSS hS2
      have FV2 : Hid (∀ wq, Ext wz.drew wq → Ext wz wq ∧ wq.cell? ⟨W.heap.size, 2, none⟩ = some vt' ∧ wq.cell? ⟨w.heap.size, 2, none⟩ = some (.slice (some ⟨b2, o2, none⟩) T.Ls.length c2) ∧ wq.cell? ⟨b2, o2 + m, none⟩ = some (.slice a' (rowAt T.Ls m).length c') ∧ RdF wq (.slice a' (rowAt T.Ls m).length c') (rowAt T.Ls m)) := Lib.hid fun wq hq => by
        have x : Ext wz wq := (Ext.drew wz).trans hq
        obtain ⟨-, -, k2⟩ := FX.out wq (HST.out.bel.trans (x.mono (by omega)))
        exact ⟨x, ((bcell x).1 _ _ hgz).trans G2.out, k2, ((bcell x).1 _ _ hb2z).trans (((bcell HBZ.out).1 _ _ hb2).trans D2.out), (HR2.out.mono HBZ.out).mono x⟩
      refine region_grow_tail 9 (by kernel_rfl) (by kernel_rfl) (rowT (rowAt T.Ls m)) ?_
      simp only [List.take_succ_cons, List.take_zero, List.drop_succ_cons, List.drop_zero]
      iterate 7 (refine wpRelK_still rfl rfl (fun wq hq K hK => ?_); obtain ⟨-, q0, q1, q2, -⟩ := FV2.out wq hq.1; go_wp2; clear q0 q1 q2)
      refine wpRelK_callF #[.slice a' (rowAt T.Ls m).length c'] rfl Try.func64 (by kernel_rfl) (by kernel_rfl) (by simp [go_sem])
        (fun wq hq => (clone_any wq _ (rowAt T.Ls m) (FV2.out wq hq.1).2.2.2.2 (by omega)).mono fun e w'' ⟨v', he, ho, hb⟩ => ⟨v', he, ho, hb⟩)
        (fun wq hq => ownF_exists wq _ (rowAt T.Ls m) (FV2.out wq hq.1).2.2.2.2 (by unfold maxLen; omega)) ?_
      intro wa ha u w7 hT7 x7
      have hT7' : OwnF w7 wa.heap.size u (rowAt T.Ls m) := hT7
      have HT7 := Lib.hid hT7'
      obtain ⟨a5, c5, rfl, -⟩ := hT7'.rd.opened
      have ga : wz.heap.size ≤ wa.heap.size := ha.1.size
      clear hT7 hT7' ha
      simp only [Act.put, List.setIfInBounds_toArray, List.set_cons_succ, List.set_cons_zero]
      refine wpRelK_op rfl rfl (fun wb hb2 K hK => ?_)
      have E7b : Ext w7 wb := hb2.dep 7 (by kernel_rfl)
      have gb2 : wz.heap.size ≤ wb.heap.size := hb2.1.size
      go_wp2
      refine hK _ _ ((Below.refl _ _).alloc (Nat.le_refl _) _) ?_
      clear hK K
      refine wpRelK_nil ?_
      intro w8' hW hall
      have E7 : Ext w7 w8' := hall 7 (by decide)
      have E8 : Ext (wb.alloc (.cells #[.slice a5 (rowAt T.Ls m).length c5] 25)) w8' := hall 8 (by decide)
      have xW : Ext wz w8' := (Ext.drew wz).trans hW
      have OX : Hid (OwnF w8' wa.heap.size (.slice a5 (rowAt T.Ls m).length c5) (rowAt T.Ls m)) := Lib.hid (HT7.out.kept E7)
      have hcell8 : w8'.cell? ⟨wb.heap.size, 0, none⟩ = some (.slice a5 (rowAt T.Ls m).length c5) := cell_of_row w8' _ 0 _ _ _ ((E8.block wb.heap.size (by rw [World.size_alloc]; omega)).trans (alloc_new _ _))
      have HC8' := Lib.hid hcell8
      have XW := Lib.hid xW
      have z8' := xW.size
      have hd1 : Own1 w8' (fun k => wz.heap.size ≤ k) (.fs (rowAt T.Ls m)) (.slice a5 (rowAt T.Ls m).length c5) := Own1.fs_ OX.out fun k hk => by have := (OX.out.lt hk).1; omega
      have HD1 := Lib.hid hd1
      clear hall hW E7 E8 E7b x7 hb2 hcell8 xW hd1 HT7
      have hlen : (pkL T.Ls (js.take j)).length ≤ 1048576 := by simp [pkL]; omega
      refine wpList_pushS rfl _ _ 57 25 rfl (.slice none 0 0) 24 Try.underlying57 Try.infoFF rfl (by decide) S wz.heap.size _ _ _ rfl (OwnC.kept HSS.out XW.out) (by omega) (fun k hk => (HS2.out k hk).2.1) _ _ _ (.fs (rowAt T.Ls m)) rfl HC8'.out rfl HD1.out hlen ?_
      intro v9 w9' o9 g9' l9
      obtain ⟨a6, n6, c6, rfl⟩ : ∃ a n c, v9 = .slice a n c := (by rcases OwnC.form o9 with h | ⟨q, cp, h, -⟩; exact ⟨_, _, _, h.1⟩; exact ⟨_, _, _, h⟩)
      obtain ⟨ST, hp9⟩ := GO.row (Ls' := pkL T.Ls (js.take j) ++ [rowAt T.Ls m]) S HST.out HS2.out (fun k hk => (OwnC.lt HSS.out k hk).1) XW.out (by unfold OwnSS; rw [List.map_append, List.length_append]; exact o9) g9'
      obtain ⟨q0, q1, q2, f0, f1, f2⟩ := blk3 hp9
      have HS9 := Lib.hid ST
      clear o9 g9' l9 ST hp9 hlen
      go_wp2_with fail
      have HE : GO W (w9'.setCell ⟨W.heap.size, 2, none⟩ (.slice a6 n6 c6)) W.heap.size T.t (.slice a9 n9 c9) (.slice a6 n6 c6) (pkP T.P (js.take (j + 1))) (pkL T.Ls (js.take (j + 1))) := by
        rw [HTk.out]
        have := HS9.out
        unfold pkP pkL at this ⊢
        rw [List.map_append, List.map_append]
        exact this
      exact ⟨⟨j + 1, _, _, by omega, by go_num, HE⟩, by simp [intOf]; omega⟩
    · obtain rfl : js.length = j := by omega
      rw [List.take_length] at hS
      have HSf := Lib.hid hS
      obtain ⟨ap, cp, rfl, -⟩ := hS.op.rd.opened
      obtain ⟨S, hSS, hS2⟩ := hS.ot
      obtain ⟨at_, ct, rfl, -⟩ := OwnC.rd hSS
      obtain ⟨g0, g1, g2, -, -, -⟩ := blk3 hS.p
      obtain ⟨n1, hn1⟩ : ∃ n, (pkP T.P js).length = n := ⟨_, rfl⟩
      obtain ⟨n2, hn2⟩ : ∃ n, (pkL T.Ls js).length = n := ⟨_, rfl⟩
      have hR : RdT wi (.agg #[.int .i64 T.t, .slice ap n1 cp, .slice at_ n2 ct]) (pkT T js) := ⟨_, _, rfl, by rw [← hn1]; exact hS.op.rd, by rw [← hn2]; exact OwnC.rd hSS⟩
      rw [hn1] at g1
      rw [hn2] at g2
      rw [hn1, hn2] at HSf
      have hV := implValidGather_any wi _ _ hR HSM.out
      rw [HVB.out] at hV
      have HV := Lib.hid hV
      have HR := Lib.hid hR
      clear hS hcj hcp hcl hr hjs hSS hS2 hR hV hbel hn1 hn2 HS
      go_wp2_with fail
      refine HV.out.mono ?_
      rintro e w1 ⟨rfl, b1⟩
      have hby1 : w1.heap[w.heap.size + 1]? = some (.cells #[.int .i64 0, .slice none 0 0, .slice none 0 0] 59 (0, 0)) := (b1.block _ (by have := HWS.out; omega)).trans ((HSf.out.bel.block _ (by have := HWS.out; omega)).trans HBY.out)
      have hg1 := (b1.block _ hgl).trans HSf.out.p
      have B1 : Hid (Below w.heap.size w w1) := Lib.hid (HBL.out.trans (b1.mono HBL.out.size))
      have X1 : Hid (Ext wi w1) := Lib.hid b1
      obtain ⟨m0, m1, m2, f0, f1, f2⟩ := blk3 hby1
      have hlt1 : w.heap.size + 1 < w1.heap.size := (Array.getElem?_eq_some_iff.1 hby1).1
      clear g0 g1 g2
      cases b with
      | false =>
        have PY := put3 hby1 (.int .i64 0) (.slice none 0 0) (.slice none 0 0)
        have HPY := Lib.hid PY
        clear hg1 hby1 PY b1
        go_wp2_with fail
        have PY := HPY.out
        clear HPY
        generalize (((w1.setCell ⟨w.heap.size + 1, 0, none⟩ (.int .i64 0)).setCell ⟨w.heap.size + 1, 1, none⟩ (.slice none 0 0)).setCell ⟨w.heap.size + 1, 2, none⟩ (.slice none 0 0)) = wz2 at *
        obtain ⟨q0, q1, q2, -, -, -⟩ := blk3 PY.heap
        refine bodyPost_ret (v := .tuple #[.agg #[.int .i64 0, .slice none 0 0, .slice none 0 0], .bool false]) (by simp [results, Try.results95, go_sem, q0, q1, q2]) rfl ?_
        exact ⟨_, _, rfl, ⟨rfl, rfl⟩, Below.chg B1.out PY.chg (fun k hk => by omega) (by omega)⟩
      | true =>
        have PY := put3 hby1 (.int .i64 T.t) (.slice ap n1 cp) (.slice at_ n2 ct)
        obtain ⟨g0, g1, g2, -, -, -⟩ := blk3 hg1
        have HPY := Lib.hid PY
        have hne : W.heap.size ≠ w.heap.size + 1 := by have := HWS.out; omega
        have HG1 := Lib.hid hg1
        clear hg1 hby1 PY b1
        go_wp2_with fail
        have PY := HPY.out
        clear HPY
        generalize (((w1.setCell ⟨w.heap.size + 1, 0, none⟩ (.int .i64 T.t)).setCell ⟨w.heap.size + 1, 1, none⟩ (.slice ap n1 cp)).setCell ⟨w.heap.size + 1, 2, none⟩ (.slice at_ n2 ct)) = wz2 at *
        obtain ⟨q0, q1, q2, -, -, -⟩ := blk3 PY.heap
        refine bodyPost_ret (v := .tuple #[.agg #[.int .i64 T.t, .slice ap n1 cp, .slice at_ n2 ct], .bool true]) (by simp [results, Try.results95, go_sem, q0, q1, q2]) rfl ?_
        have xo : OwnF wz2 (W.heap.size + 1) (.slice ap n1 cp) (pkP T.P js) := (HSf.out.op.kept X1.out).chg PY.chg fun k hk e => by have := (HSf.out.op.lt hk).1; have := HWS.out; omega
        obtain ⟨S, hSS, hS2⟩ := HSf.out.ot
        have xt : OwnSS wz2 S (.slice at_ n2 ct) (pkL T.Ls js) := OwnC.chg (OwnC.kept hSS X1.out) PY.chg fun k hk e => by have := (hS2 k hk).1; have := HWS.out; omega
        exact ⟨_, _, rfl, ⟨xo.mono (by have := HWS.out; omega), S, xt, fun k hk => by have := (hS2 k hk).1; have := HWS.out; omega⟩, Below.chg B1.out PY.chg (fun k hk => by omega) (by omega)⟩
end Go.Proofs.Ytjhbcnmkamkkaaa
