/- Walks: ReadPath: the program's, the reference's. -/
import Derived.Test.YtjbaebgdebcipaaGreatDoorPlc
import Derived.Test.YtjbaebgdebcipaaGreatDoorRelK
namespace Go.Proofs.YtjbaebgdebcipaaGreatDoor
open Go Go.RowKit

theorem blk4 {w : World} {g : Nat} {t : TypeId} {a b c d : Value} (h : w.heap[g]? = some (.cells #[a, b, c, d] t (0, 0))) :
    (w.cell? ⟨g, 0, none⟩ = some a ∧ w.cell? ⟨g, 1, none⟩ = some b ∧ w.cell? ⟨g, 2, none⟩ = some c ∧ w.cell? ⟨g, 3, none⟩ = some d) ∧ w.frozen? ⟨g, 0, none⟩ = false ∧ w.frozen? ⟨g, 1, none⟩ = false ∧ w.frozen? ⟨g, 2, none⟩ = false ∧ w.frozen? ⟨g, 3, none⟩ = false :=
  ⟨⟨cell_of_row w g 0 _ t (0, 0) h, cell_of_row w g 1 _ t (0, 0) h, cell_of_row w g 2 _ t (0, 0) h, cell_of_row w g 3 _ t (0, 0) h⟩, frozen_of_row w g 0 _ t h, frozen_of_row w g 1 _ t h, frozen_of_row w g 2 _ t h, frozen_of_row w g 3 _ t h⟩
theorem put4 {w : World} {g : Nat} {t : TypeId} {x y z u : Value} (h : w.heap[g]? = some (.cells #[x, y, z, u] t (0, 0))) (a b c d : Value) :
    Put w ((((w.setCell ⟨g, 0, none⟩ a).setCell ⟨g, 1, none⟩ b).setCell ⟨g, 2, none⟩ c).setCell ⟨g, 3, none⟩ d) g t #[a, b, c, d] := ((((Put.one h 0 a).next 1 b).next 2 c).next 3 d).cs (by simp)
/-- The path that a text tells. -/
noncomputable def rp (t : ByteArray) : Option (List Nat) := match rx 4 t with
  | none => none
  | some L => if allB placeB L = true then some L else none
def zeroPath : Value := .agg #[.float .f32 0, .float .f32 0, .float .f32 0, .float .f32 0]
def RpRes (t : ByteArray) (u : Value) : Prop :=
  (∃ x0 x1 x2 x3 p, rp t = some [x0, x1, x2, x3] ∧ RdPath p x0 x1 x2 x3 ∧ u = .tuple #[p, .bool true]) ∨ (rp t = none ∧ u = .tuple #[zeroPath, .bool false])
theorem list4 {L : List Nat} (h : L.length = 4) : L = [L.getD 0 0, L.getD 1 0, L.getD 2 0, L.getD 3 0] := by
  match L, h with
  | [a, b, c, d], _ => rfl
theorem rx_rn {n : Nat} {t : ByteArray} {L : List Nat} (h : rn 256 t = some L) : rx n t = if L.length = n then some L else none := by
  unfold rx; simp only [h]
theorem rx_none {n : Nat} {t : ByteArray} (h : rn 256 t = none) : rx n t = none := by
  unfold rx; simp only [h]

set_option maxRecDepth 100000 in
set_option maxHeartbeats 1600000 in
theorem implReadPath_any (w : World) (t : ByteArray) (hmax : t.size ≤ 1048576) (hD : Dr w) :
    Calls Tryz.prog 12 #[.string t] w fun e w' => ∃ u, e = .returned u ∧ RpRes t u ∧ Below w.heap.size w w' := by
  have hx0 : Below w.heap.size w (w.alloc (.cells #[.float .f32 0, .float .f32 0, .float .f32 0, .float .f32 0] 27)) := (Below.refl _ _).alloc (Nat.le_refl _) _
  have X0 := Lib.hid hx0
  have HE := Lib.hid (exactly_any _ t 4 (by decide) hmax (hD.mono hx0))
  have HH := Lib.hid (alloc_new w (.cells #[.float .f32 0, .float .f32 0, .float .f32 0, .float .f32 0] 27))
  have hz0 : (w.alloc (.cells #[.float .f32 0, .float .f32 0, .float .f32 0, .float .f32 0] 27)).heap.size = w.heap.size + 1 := World.size_alloc _ _
  clear hD hx0
  go_enter Tryz.func12, Tryz.ntmps12
  go_wp2_with fail
  refine HE.out.mono ?_
  clear HE
  rintro e w1 ⟨u, rfl, hu, b1⟩
  have B1 := Lib.hid (X0.out.trans (b1.mono (by omega)))
  have h1 : w1.heap[w.heap.size]? = some (.cells #[.float .f32 0, .float .f32 0, .float .f32 0, .float .f32 0] 27 (0, 0)) := (b1.block w.heap.size (by omega)).trans HH.out
  have z1 := b1.size
  clear b1 X0 HH
  obtain ⟨⟨m0, m1, m2, m3⟩, f0, f1, f2, f3⟩ := blk4 h1
  rcases hu with ⟨L, v, hL, hl, rfl, ho⟩ | ⟨hL, a, m, c, rfl⟩
  · have HL := Lib.hid hL
    have HH1 := Lib.hid h1
    have h4 := list4 hl
    obtain ⟨gv, cv, rfl, -, hgl, hcv, hcl, -⟩ := ho.at_block hl (by decide)
    obtain ⟨r0, k0, v0⟩ := hcl 0 (by omega)
    obtain ⟨r1, k1, v1⟩ := hcl 1 (by omega)
    obtain ⟨r2, k2, v2⟩ := hcl 2 (by omega)
    obtain ⟨r3, k3, v3⟩ := hcl 3 (by omega)
    rw [h4] at HL
    have HV : Hid (FV .f32 r0 (L.getD 0 0) ∧ FV .f32 r1 (L.getD 1 0) ∧ FV .f32 r2 (L.getD 2 0) ∧ FV .f32 r3 (L.getD 3 0)) := Lib.hid ⟨v0, v1, v2, v3⟩
    clear hL h1 hl h4 ho hcl v0 v1 v2 v3 m0 m1 m2 m3 f0 f1 f2 f3
    generalize L.getD 0 0 = x0 at *
    generalize L.getD 1 0 = x1 at *
    generalize L.getD 2 0 = x2 at *
    generalize L.getD 3 0 = x3 at *
    have FX : Hid (∀ wq, Ext w1.drew wq → wq.cell? ⟨gv, 0, none⟩ = some (.float .f32 r0) ∧ wq.cell? ⟨gv, 1, none⟩ = some (.float .f32 r1) ∧ wq.cell? ⟨gv, 2, none⟩ = some (.float .f32 r2) ∧ wq.cell? ⟨gv, 3, none⟩ = some (.float .f32 r3)) := Lib.hid fun wq hq => by
      have e := (bcell ((Ext.drew w1).trans hq)).1
      exact ⟨(e _ _ hgl).trans k0, (e _ _ hgl).trans k1, (e _ _ hgl).trans k2, (e _ _ hgl).trans k3⟩
    clear k0 k1 k2 k3
    go_wp2_with fail
    refine region_grow_tail 14 (by kernel_rfl) (by kernel_rfl) (fun _ _ _ _ _ => False) ?_
    simp only [List.take_succ_cons, List.take_zero, List.drop_succ_cons, List.drop_zero]
    iterate 13 (refine wpRelK_still rfl rfl (fun wq hq K hK => ?_); obtain ⟨k0, k1, k2, k3⟩ := FX.out wq hq.1; go_wp2; clear k0 k1 k2 k3)
    refine wpRelK_op rfl rfl (fun w9 hq9 K hK => ?_)
    have s9 := hq9.1.size
    go_wp2
    refine hK _ _ ((Below.refl _ _).alloc (Nat.le_refl _) _) ?_
    clear hK K
    refine wpRelK_nil ?_
    intro w8 hW8 hall
    have E9 : Ext (w9.alloc (.cells #[.float .f32 0, .float .f32 0, .float .f32 0, .float .f32 0] 27)) w8 := hall 13 (by decide)
    have h8 : w8.heap[w9.heap.size]? = some (.cells #[.float .f32 0, .float .f32 0, .float .f32 0, .float .f32 0] 27 (0, 0)) := (E9.block w9.heap.size (by rw [World.size_alloc]; omega)).trans (alloc_new _ _)
    have x8 : Ext w1 w8 := (Ext.drew w1).trans hW8
    have X8 := Lib.hid x8
    have g8 : w9.heap.size < w8.heap.size := (Array.getElem?_eq_some_iff.1 h8).1
    have s9' : w1.heap.size ≤ w9.heap.size := s9
    clear hall hW8 E9 hq9 x8 hq FX s9
    generalize w9.heap.size = g9 at *
    have HP8 := Lib.hid (put4 h8 (.float .f32 r0) (.float .f32 r1) (.float .f32 r2) (.float .f32 r3))
    obtain ⟨⟨m0, m1, m2, m3⟩, f0, f1, f2, f3⟩ := blk4 h8
    clear h8
    have hst := run_store_float (P := Tryz.prog)
    obtain ⟨⟨j0, j1, j2, j3⟩, -, -, -, -⟩ := blk4 HP8.out.heap
    have J : Hid _ := Lib.hid HP8.out
    clear HP8
    obtain ⟨wz, hwz⟩ : ∃ wz, ((((w8.setCell ⟨g9, 0, none⟩ (.float .f32 r0)).setCell ⟨g9, 1, none⟩ (.float .f32 r1)).setCell ⟨g9, 2, none⟩ (.float .f32 r2)).setCell ⟨g9, 3, none⟩ (.float .f32 r3)) = wz := ⟨_, rfl⟩
    rw [hwz] at J j0 j1 j2 j3
    have HIP := Lib.hid (isPath_any wz (.agg #[.float .f32 r0, .float .f32 r1, .float .f32 r2, .float .f32 r3]) x0 x1 x2 x3 ⟨r0, r1, r2, r3, rfl, HV.out.1, HV.out.2.1, HV.out.2.2.1, HV.out.2.2.2⟩)
    have BZ : Hid (Below w.heap.size w wz) := Lib.hid (Below.chg (B1.out.trans (X8.out.mono (by omega))) J.out.chg (fun k hk => by omega) (by have := X8.out.size; omega))
    have hbz : wz.heap[w.heap.size]? = some (.cells #[.float .f32 0, .float .f32 0, .float .f32 0, .float .f32 0] 27 (0, 0)) := (J.out.chg.block _ (by have := X8.out.size; omega) (by omega)).trans ((X8.out.block _ (by omega)).trans HH1.out)
    have HBZ := Lib.hid hbz
    have hzz := BZ.out.size
    have hgz : g9 < wz.heap.size := by rw [J.out.size]; exact g8
    have hwl : w.heap.size < g9 := by omega
    have hbg := J.out.heap
    have HBG := Lib.hid hbg
    clear J X8 B1 HH1 hbz hbg
    go_wp2_with fail
    clear hwz
    refine HIP.out.mono ?_
    clear HIP m0 m1 m2 m3 f0 f1 f2 f3 j0 j1 j2 j3
    rintro e w10 ⟨rfl, b10⟩
    have B10 := Lib.hid (BZ.out.trans (b10.mono hzz))
    have hz10 := b10.size
    have hbg := (b10.block _ hgz).trans HBG.out
    have hbw := (b10.block _ (by omega)).trans HBZ.out
    obtain ⟨⟨j0, j1, j2, j3⟩, -, -, -, -⟩ := blk4 hbg
    obtain ⟨⟨m0, m1, m2, m3⟩, f0, f1, f2, f3⟩ := blk4 hbw
    have HBW := Lib.hid hbw
    clear b10 BZ HBZ HBG hbg hbw
    cases hp : allB placeB [x0, x1, x2, x3] with
    | false =>
      have HN : Hid (rp t = none) := Lib.hid (by unfold rp; simp only [HL.out, hp]; rfl)
      have HP := Lib.hid (put4 HBW.out (.float .f32 0) (.float .f32 0) (.float .f32 0) (.float .f32 0))
      clear hp HL
      go_wp2_with fail
      have P := HP.out
      clear HP
      generalize ((((w10.setCell ⟨w.heap.size, 0, none⟩ (.float .f32 0)).setCell ⟨w.heap.size, 1, none⟩ (.float .f32 0)).setCell ⟨w.heap.size, 2, none⟩ (.float .f32 0)).setCell ⟨w.heap.size, 3, none⟩ (.float .f32 0)) = wy at *
      obtain ⟨⟨q0, q1, q2, q3⟩, -, -, -, -⟩ := blk4 P.heap
      refine bodyPost_ret (v := .tuple #[zeroPath, .bool false]) (by simp [results, Tryz.results12, go_sem, q0, q1, q2, q3, zeroPath]) rfl ?_
      exact ⟨_, rfl, .inr ⟨HN.out, rfl⟩, Below.chg B10.out P.chg (fun k hk => by omega) (by omega)⟩
    | true =>
      have HN : Hid (rp t = some [x0, x1, x2, x3]) := Lib.hid (by unfold rp; simp only [HL.out, hp]; rfl)
      have HP := Lib.hid (put4 HBW.out (.float .f32 r0) (.float .f32 r1) (.float .f32 r2) (.float .f32 r3))
      clear hp HL
      go_wp2_with fail
      have P := HP.out
      clear HP
      generalize ((((w10.setCell ⟨w.heap.size, 0, none⟩ (.float .f32 r0)).setCell ⟨w.heap.size, 1, none⟩ (.float .f32 r1)).setCell ⟨w.heap.size, 2, none⟩ (.float .f32 r2)).setCell ⟨w.heap.size, 3, none⟩ (.float .f32 r3)) = wy at *
      obtain ⟨⟨q0, q1, q2, q3⟩, -, -, -, -⟩ := blk4 P.heap
      refine bodyPost_ret (v := .tuple #[.agg #[.float .f32 r0, .float .f32 r1, .float .f32 r2, .float .f32 r3], .bool true]) (by simp [results, Tryz.results12, go_sem, q0, q1, q2, q3]) rfl ?_
      exact ⟨_, rfl, .inl ⟨x0, x1, x2, x3, _, HN.out, ⟨r0, r1, r2, r3, rfl, HV.out.1, HV.out.2.1, HV.out.2.2.1, HV.out.2.2.2⟩, rfl⟩, Below.chg B10.out P.chg (fun k hk => by omega) (by omega)⟩
  · have HP := Lib.hid (put4 h1 (.float .f32 0) (.float .f32 0) (.float .f32 0) (.float .f32 0))
    have HN : Hid (rp t = none) := Lib.hid (by unfold rp; simp only [hL])
    have hst := run_store_float (P := Tryz.prog)
    clear hL h1
    go_wp2_with fail
    have P := HP.out
    clear HP
    generalize ((((w1.setCell ⟨w.heap.size, 0, none⟩ (.float .f32 0)).setCell ⟨w.heap.size, 1, none⟩ (.float .f32 0)).setCell ⟨w.heap.size, 2, none⟩ (.float .f32 0)).setCell ⟨w.heap.size, 3, none⟩ (.float .f32 0)) = wz at *
    obtain ⟨⟨q0, q1, q2, q3⟩, -, -, -, -⟩ := blk4 P.heap
    refine bodyPost_ret (v := .tuple #[zeroPath, .bool false]) (by simp [results, Tryz.results12, go_sem, q0, q1, q2, q3, zeroPath]) rfl ?_
    exact ⟨_, rfl, .inr ⟨HN.out, rfl⟩, Below.chg B1.out P.chg (fun k hk => by omega) (by omega)⟩
end Go.Proofs.YtjbaebgdebcipaaGreatDoor
