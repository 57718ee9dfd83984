/- Walks: ReadSection: the program's, the reference's. -/
import Derived.Test.YtjbaebgdebcipaaGreatDoorNl
import Derived.Test.YtjbaebgdebcipaaGreatDoorRsP
import Derived.Test.YtjbaebgdebcipaaGreatDoorRelK
namespace Go.Proofs.YtjbaebgdebcipaaGreatDoor
open Go Go.RowKit

def zeroSec : Value := .agg #[.int .i64 0, .int .i64 0, .slice none 0 0]
def RsRes (B : Nat) (t : ByteArray) (w' : World) (u : Value) : Prop :=
  (∃ S v, rs t = some S ∧ u = .tuple #[.agg #[.int .i64 S.w, .int .i64 S.d, v], .bool true] ∧ OwnF w' B v S.V) ∨ (rs t = none ∧ u = .tuple #[zeroSec, .bool false])
theorem rs_D {t : ByteArray} (h : rl (bef 58 t) = none) : rs t = none := by unfold rs; simp only [h]
theorem rs_V {t : ByteArray} (h : rn 256 (aft 58 t) = none) : rs t = none := by
  unfold rs
  cases rl (bef 58 t) with
  | none => rfl
  | some D => simp only [h]
theorem rs_len {t : ByteArray} {D : List Int} (h : rl (bef 58 t) = some D) (h2 : ¬ D.length = 2) : rs t = none := by
  unfold rs
  simp only [h, if_neg h2]
  cases rn 256 (aft 58 t) <;> rfl
theorem rs_yes {t : ByteArray} {D : List Int} {V : List Nat} (h : rl (bef 58 t) = some D) (h1 : rn 256 (aft 58 t) = some V) (h2 : D.length = 2) : rs t = if validS ⟨D.getD 0 0, D.getD 1 0, V⟩ = true then some ⟨D.getD 0 0, D.getD 1 0, V⟩ else none := by
  unfold rs
  simp only [h, h1, if_pos h2]

set_option maxRecDepth 100000 in
set_option maxHeartbeats 1600000 in
theorem implReadSection_any (w : World) (t : ByteArray) (hmax : t.size ≤ 1048576) (hD : Dr w) (hT10 : Tab10 w) :
    Calls Tryz.prog 14 #[.string t] w fun e w' => ∃ u, e = .returned u ∧ RsRes w.heap.size t w' u ∧ Below w.heap.size w w' := by
  obtain ⟨W, hW⟩ : ∃ W, w.alloc (.cells #[.int .i64 0, .int .i64 0, .slice none 0 0] 31) = W := ⟨_, rfl⟩
  have hx0 : Below w.heap.size w W := by rw [← hW]; exact (Below.refl _ _).alloc (Nat.le_refl _) _
  have hz0 : W.heap.size = w.heap.size + 1 := by rw [← hW]; exact World.size_alloc _ _
  have HW0 : Hid (W.heap[w.heap.size]? = some (.cells #[.int .i64 0, .int .i64 0, .slice none 0 0] 31 (0, 0))) := Lib.hid (by rw [← hW]; exact alloc_new _ _)
  have X0 := Lib.hid hx0
  obtain ⟨m, hm⟩ := (hD.mono hx0).mxl
  have HCut : Hid (Calls Tryz.prog 38 #[.string t, .string ⟨#[58]⟩] W fun e w' => e = .returned (.tuple #[.string (bef 58 t), .string (aft 58 t), .bool (Lib.cut t.data.toList [58]).2.2]) ∧ ∃ n, w' = W.drewN n) := Lib.hid (Tryz.strings_Cut t ⟨#[58]⟩ m W (by omega) hm)
  have HL := Lib.hid (fun wq hq => readList_any wq (bef 58 t) (bef_size 58 t hmax) (hD.mono hq) (hT10.mono hq))
  have HR := Lib.hid (fun wq hq => readNumbers_any wq (aft 58 t) (aft_size 58 t hmax) (hD.mono hq))
  generalize (Lib.cut t.data.toList [58]).2.2 = fnd at *
  clear hD hT10 hm hx0
  go_enter Tryz.func14, Tryz.ntmps14
  go_wp2_with fail
  clear hW
  refine HCut.out.mono ?_
  clear HCut
  rintro e w1 ⟨rfl, n1, hw1⟩
  have b1 : Below W.heap.size W w1 := by rw [hw1]; exact Below.drewN (Below.refl _ _) _
  have B1 := Lib.hid (X0.out.trans (b1.mono (by omega)))
  have HW1 := Lib.hid ((b1.block _ (by omega)).trans HW0.out)
  have z1 := b1.size
  clear hw1 b1 X0 HW0
  go_wp2_with fail
  refine (HL.out _ B1.out).mono ?_
  clear HL
  rintro e w2 ⟨u2, rfl, hu2, b2⟩
  have B2 := Lib.hid (B1.out.trans (b2.mono (by omega)))
  have HW2 := Lib.hid ((b2.block _ (by omega)).trans HW1.out)
  have z2 := b2.size
  clear b2 HW1
  rcases hu2 with ⟨D, vD, hD1, rfl, oD⟩ | ⟨hD1, rfl⟩
  · have HD1 := Lib.hid hD1
    have OD := Lib.hid oD
    clear hD1 oD
    go_wp2_with fail
    refine (HR.out _ B2.out).mono ?_
    clear HR
    rintro e w3 ⟨u3, rfl, hu3, b3⟩
    have B3 := Lib.hid (B2.out.trans (b3.mono (by omega)))
    have HW3 := Lib.hid ((b3.block _ (by omega)).trans HW2.out)
    have z3 := b3.size
    have HOD := Lib.hid (ownI_kept OD.out b3)
    clear b3 HW2 OD
    rcases hu3 with ⟨V, vV, hV1, rfl, oV⟩ | ⟨hV1, rfl⟩
    · have HV1 := Lib.hid hV1
      have HOV := Lib.hid (oV.mono (B' := w.heap.size + 1) (by omega))
      clear hV1 oV
      by_cases hl2 : D.length = 2
      · obtain ⟨a7, c7, hv7, -, -, hcl7⟩ := (OwnI.rd HOD.out).opened
        obtain ⟨b7, o7, ha7, hb7, j0⟩ := hcl7 0 (by omega)
        obtain ⟨b7', o7', ha7', -, j1⟩ := hcl7 1 (by omega)
        subst hv7
        obtain ⟨rfl, rfl⟩ : b7 = b7' ∧ o7 = o7' := by rw [ha7] at ha7'; cases ha7'; exact ⟨rfl, rfl⟩
        subst ha7
        rw [hl2]
        have HRS := Lib.hid (rs_yes HD1.out HV1.out hl2)
        obtain ⟨av, cv, hvv, -⟩ := HOV.out.rd.opened
        subst hvv
        have HJ : Hid (w3.cell? ⟨b7, o7, none⟩ = some (.int .i64 (D.getD 0 0)) ∧ w3.cell? ⟨b7, o7 + 1, none⟩ = some (.int .i64 (D.getD 1 0))) := Lib.hid ⟨j0, j1⟩
        clear hcl7 j0 j1 ha7' hl2
        generalize D.getD 0 0 = x at *
        generalize D.getD 1 0 = y at *
        have FX : Hid (∀ wq, Ext w3.drew wq → wq.cell? ⟨b7, o7, none⟩ = some (.int .i64 x) ∧ wq.cell? ⟨b7, o7 + 1, none⟩ = some (.int .i64 y)) := Lib.hid fun wq hq => by
          have e := (bcell ((Ext.drew w3).trans hq)).1
          exact ⟨(e _ _ hb7).trans HJ.out.1, (e _ _ hb7).trans HJ.out.2⟩
        go_wp2_with fail
        refine region_grow_tail 9 (by kernel_rfl) (by kernel_rfl) (fun _ _ _ _ _ => False) ?_
        simp only [List.take_succ_cons, List.take_zero, List.drop_succ_cons, List.drop_zero]
        iterate 8 (refine wpRelK_still rfl rfl (fun wq hq K hK => ?_); obtain ⟨k0, k1⟩ := FX.out wq hq.1; go_wp2; clear k0 k1)
        refine wpRelK_op rfl rfl (fun w9 hq9 K hK => ?_)
        have s9 := hq9.1.size
        go_wp2
        refine hK _ _ ((Below.refl _ _).alloc (Nat.le_refl _) _) ?_
        clear hK K
        refine wpRelK_nil ?_
        intro w8 hW8 hall
        have E9 : Ext (w9.alloc (.cells #[.int .i64 0, .int .i64 0, .slice none 0 0] 31)) w8 := hall 8 (by decide)
        have h8 : w8.heap[w9.heap.size]? = some (.cells #[.int .i64 0, .int .i64 0, .slice none 0 0] 31 (0, 0)) := (E9.block w9.heap.size (by rw [World.size_alloc]; omega)).trans (alloc_new _ _)
        have x8 : Ext w3 w8 := (Ext.drew w3).trans hW8
        have X8 := Lib.hid x8
        have g8 : w9.heap.size < w8.heap.size := (Array.getElem?_eq_some_iff.1 h8).1
        have s9' : w3.heap.size ≤ w9.heap.size := s9
        clear hall hW8 E9 hq9 x8 hq FX s9
        generalize w9.heap.size = g9 at *
        have HP8 := Lib.hid (put3 h8 (.int .i64 x) (.int .i64 y) (.slice av V.length cv))
        obtain ⟨m0, m1, m2, f0, f1, f2⟩ := blk3 h8
        clear h8
        obtain ⟨wz, hwz⟩ : ∃ wz, (((w8.setCell ⟨g9, 0, none⟩ (.int .i64 x)).setCell ⟨g9, 1, none⟩ (.int .i64 y)).setCell ⟨g9, 2, none⟩ (.slice av V.length cv)) = wz := ⟨_, rfl⟩
        rw [hwz] at HP8
        have BZ : Hid (Below w.heap.size w wz) := Lib.hid (Below.chg (B3.out.trans (X8.out.mono (by have := B3.out.size; omega))) HP8.out.chg (fun k hk => by have := B3.out.size; omega) (by have := X8.out.size; have := B3.out.size; omega))
        have HBZ : Hid (wz.heap[w.heap.size]? = some (.cells #[.int .i64 0, .int .i64 0, .slice none 0 0] 31 (0, 0))) := Lib.hid ((HP8.out.chg.block _ (by have := X8.out.size; omega) (by omega)).trans ((X8.out.block _ (by omega)).trans HW3.out))
        have HOZ : Hid (OwnF wz (w.heap.size + 1) (.slice av V.length cv) V) := Lib.hid ((HOV.out.kept X8.out).chg HP8.out.chg fun k hk e => by have := (HOV.out.lt hk).2; omega)
        have HBG := Lib.hid HP8.out.heap
        obtain ⟨j0, j1, j2, -, -, -⟩ := blk3 HP8.out.heap
        have hgz : g9 < wz.heap.size := by rw [HP8.out.size]; exact g8
        have hwl : w.heap.size < g9 := by omega
        have HIS := Lib.hid (validSection_any wz (.agg #[.int .i64 x, .int .i64 y, .slice av V.length cv]) ⟨x, y, V⟩ ⟨_, rfl, HOZ.out.rd⟩)
        clear HP8 X8
        go_wp2_with fail
        clear hwz
        refine HIS.out.mono ?_
        clear HIS m0 m1 m2 f0 f1 f2 j0 j1 j2
        rintro e w10 ⟨rfl, b10⟩
        have B10 := Lib.hid (BZ.out.trans (b10.mono BZ.out.size))
        have HW10 := Lib.hid ((b10.block _ (by omega)).trans HBZ.out)
        have HBG10 := Lib.hid ((b10.block _ hgz).trans HBG.out)
        have HO10 := Lib.hid (HOZ.out.kept b10)
        have hz10 := b10.size
        clear b10 BZ HBZ HBG HOZ
        cases hp : validS ⟨x, y, V⟩ with
        | false =>
          have HN : Hid (rs t = none) := Lib.hid (by rw [HRS.out, hp]; rfl)
          clear hp HRS
          have P := put3 HW10.out (.int .i64 0) (.int .i64 0) (.slice none 0 0)
          have HP := Lib.hid P
          obtain ⟨m0, m1, m2, f0, f1, f2⟩ := blk3 HW10.out
          clear P
          go_wp2_with fail
          have P := HP.out
          clear HP
          generalize (((w10.setCell ⟨w.heap.size, 0, none⟩ (.int .i64 0)).setCell ⟨w.heap.size, 1, none⟩ (.int .i64 0)).setCell ⟨w.heap.size, 2, none⟩ (.slice none 0 0)) = wy at *
          obtain ⟨q0, q1, q2, -, -, -⟩ := blk3 P.heap
          refine bodyPost_ret (v := .tuple #[zeroSec, .bool false]) (by simp [results, Tryz.results14, go_sem, q0, q1, q2, zeroSec]) rfl ?_
          exact ⟨_, rfl, .inr ⟨HN.out, rfl⟩, Below.chg B10.out P.chg (fun k hk => by omega) (by have := B10.out.size; omega)⟩
        | true =>
          have HN : Hid (rs t = some ⟨x, y, V⟩) := Lib.hid (by rw [HRS.out, hp]; rfl)
          clear hp HRS
          have P := put3 HW10.out (.int .i64 x) (.int .i64 y) (.slice av V.length cv)
          have HP := Lib.hid P
          obtain ⟨m0, m1, m2, f0, f1, f2⟩ := blk3 HW10.out
          obtain ⟨j0, j1, j2, -, -, -⟩ := blk3 HBG10.out
          clear P
          go_wp2_with fail
          have P := HP.out
          clear HP
          generalize (((w10.setCell ⟨w.heap.size, 0, none⟩ (.int .i64 x)).setCell ⟨w.heap.size, 1, none⟩ (.int .i64 y)).setCell ⟨w.heap.size, 2, none⟩ (.slice av V.length cv)) = wy at *
          obtain ⟨q0, q1, q2, -, -, -⟩ := blk3 P.heap
          refine bodyPost_ret (v := .tuple #[.agg #[.int .i64 x, .int .i64 y, .slice av V.length cv], .bool true]) (by simp [results, Tryz.results14, go_sem, q0, q1, q2]) rfl ?_
          exact ⟨_, rfl, .inl ⟨_, _, HN.out, rfl, (HO10.out.chg P.chg fun k hk e => by have := (HO10.out.lt hk).1; omega).mono (by omega)⟩, Below.chg B10.out P.chg (fun k hk => by omega) (by omega)⟩
      · have HN : Hid (rs t = none) := Lib.hid (rs_len HD1.out hl2)
        obtain ⟨a7, c7, hv7, -⟩ := (OwnI.rd HOD.out).opened
        subst hv7
        obtain ⟨av, cv, hvv, -⟩ := HOV.out.rd.opened
        subst hvv
        have hd : ((D.length : Int) != 2) = true := by rw [bne_iff_ne]; omega
        clear hl2
        have P := put3 HW3.out (.int .i64 0) (.int .i64 0) (.slice none 0 0)
        have HP := Lib.hid P
        obtain ⟨m0, m1, m2, f0, f1, f2⟩ := blk3 HW3.out
        clear P
        go_wp2_with fail
        have P := HP.out
        clear HP
        generalize (((w3.setCell ⟨w.heap.size, 0, none⟩ (.int .i64 0)).setCell ⟨w.heap.size, 1, none⟩ (.int .i64 0)).setCell ⟨w.heap.size, 2, none⟩ (.slice none 0 0)) = wy at *
        obtain ⟨q0, q1, q2, -, -, -⟩ := blk3 P.heap
        refine bodyPost_ret (v := .tuple #[zeroSec, .bool false]) (by simp [results, Tryz.results14, go_sem, q0, q1, q2, zeroSec]) rfl ?_
        exact ⟨_, rfl, .inr ⟨HN.out, rfl⟩, Below.chg B3.out P.chg (fun k hk => by omega) (by have := B3.out.size; omega)⟩
    · have HN : Hid (rs t = none) := Lib.hid (rs_V hV1)
      obtain ⟨a7, c7, hv7, -⟩ := (OwnI.rd HOD.out).opened
      subst hv7
      clear hV1
      have P := put3 HW3.out (.int .i64 0) (.int .i64 0) (.slice none 0 0)
      have HP := Lib.hid P
      obtain ⟨m0, m1, m2, f0, f1, f2⟩ := blk3 HW3.out
      clear P
      go_wp2_with fail
      have P := HP.out
      clear HP
      generalize (((w3.setCell ⟨w.heap.size, 0, none⟩ (.int .i64 0)).setCell ⟨w.heap.size, 1, none⟩ (.int .i64 0)).setCell ⟨w.heap.size, 2, none⟩ (.slice none 0 0)) = wy at *
      obtain ⟨q0, q1, q2, -, -, -⟩ := blk3 P.heap
      refine bodyPost_ret (v := .tuple #[zeroSec, .bool false]) (by simp [results, Tryz.results14, go_sem, q0, q1, q2, zeroSec]) rfl ?_
      exact ⟨_, rfl, .inr ⟨HN.out, rfl⟩, Below.chg B3.out P.chg (fun k hk => by omega) (by have := B3.out.size; omega)⟩
  · have HN : Hid (rs t = none) := Lib.hid (rs_D hD1)
    clear hD1
    go_wp2_with fail
    refine (HR.out _ B2.out).mono ?_
    clear HR
    rintro e w3 ⟨u3, rfl, hu3, b3⟩
    have B3 := Lib.hid (B2.out.trans (b3.mono (by omega)))
    have HW3 := Lib.hid ((b3.block _ (by omega)).trans HW2.out)
    have z3 := b3.size
    clear b3 HW2
    have hu4 : ∃ av nv cv bv, u3 = .tuple #[.slice av nv cv, .bool bv] := by
      rcases hu3 with ⟨V, vV, -, rfl, oV⟩ | ⟨-, rfl⟩
      · obtain ⟨av, cv, rfl, -⟩ := oV.rd.opened
        exact ⟨_, _, _, _, rfl⟩
      · exact ⟨_, _, _, _, rfl⟩
    obtain ⟨av, nv, cv, bv, rfl⟩ := hu4
    clear hu3
    have P := put3 HW3.out (.int .i64 0) (.int .i64 0) (.slice none 0 0)
    have HP := Lib.hid P
    obtain ⟨m0, m1, m2, f0, f1, f2⟩ := blk3 HW3.out
    clear P
    go_wp2_with fail
    have P := HP.out
    clear HP
    generalize (((w3.setCell ⟨w.heap.size, 0, none⟩ (.int .i64 0)).setCell ⟨w.heap.size, 1, none⟩ (.int .i64 0)).setCell ⟨w.heap.size, 2, none⟩ (.slice none 0 0)) = wy at *
    obtain ⟨q0, q1, q2, -, -, -⟩ := blk3 P.heap
    refine bodyPost_ret (v := .tuple #[zeroSec, .bool false]) (by simp [results, Tryz.results14, go_sem, q0, q1, q2, zeroSec]) rfl ?_
    exact ⟨_, rfl, .inr ⟨HN.out, rfl⟩, Below.chg B3.out P.chg (fun k hk => by omega) (by have := B3.out.size; omega)⟩
end Go.Proofs.YtjbaebgdebcipaaGreatDoor
