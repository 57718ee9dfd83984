/- Walks: ReadGround: the program's. -/
import Derived.Test.YtjbaebgdebcipaaGreatDoorRgP
import Derived.Test.YtjbaebgdebcipaaGreatDoorPsh
import Derived.Test.YtjbaebgdebcipaaGreatDoorRelK
namespace Go.Proofs.YtjbaebgdebcipaaGreatDoor
open Go Go.RowKit

theorem cell_same {w w' : World} {b o : Nat} (h : w'.heap[b]? = w.heap[b]?) : w'.cell? ⟨b, o, none⟩ = w.cell? ⟨b, o, none⟩ := by
  unfold World.cell?
  rw [h]
theorem Chg.only {a w w' : World} {S S' : Nat → Prop} (h : Chg a w S) (hc : Chg w w' S') (hS : ∀ k, S' k → k < a.heap.size → S k) : Chg a w' S :=
  ⟨hc.os.trans h.os, hc.tape.trans h.tape, hc.output.trans h.output, Nat.le_trans h.size hc.size, fun k hk hn => (hc.block k (Nat.lt_of_lt_of_le hk h.size) fun e => hn (hS k e hk)).trans (h.block k hk hn)⟩
theorem OwnL.chg {w w' : World} {S S' : Nat → Prop} {v : Value} {n : Nat} {L : List Nat} (h : OwnL w S v n L) (hc : Chg w w' S') (hd : ∀ k, v.ownBlock = some k → ¬ S' k) : OwnL w' S v n L := by
  have hlen := OwnC.length h
  have hlt := OwnC.lt h
  obtain ⟨bits, h1, h2, h3, h4⟩ := ownL_bits h
  exact ownL_of h1 h2 (ownsRow_same h3 fun k hk => hc.block k (hlt k hk).2 (hd k hk)) h4
theorem OwnL.kept {w w' : World} {S : Nat → Prop} {v : Value} {n : Nat} {L : List Nat} (h : OwnL w S v n L) (hb : Below w.heap.size w w') : OwnL w' S v n L := h.chg (Chg.of_below hb fun _ => False) fun _ _ => id
theorem OwnL.shape {w : World} {S : Nat → Prop} {v : Value} {n : Nat} {L : List Nat} (h : OwnL w S v n L) : ∃ a c, v = .slice a n c := by
  rcases OwnC.form h with ⟨h1, h2, -⟩ | ⟨g, cap, h1, -⟩
  · exact ⟨none, 0, by rw [h1, h2]⟩
  · exact ⟨_, _, h1⟩
def zeroG : Value := .agg #[.slice none 0 0, .float .f32 0, .float .f32 0]
def RgRes (B : Nat) (t : ByteArray) (w' : World) (u : Value) : Prop :=
  (∃ G u1, rg t = some G ∧ u = .tuple #[u1, .bool true] ∧ OwnG w' (fun k => B ≤ k) u1 G) ∨ (rg t = none ∧ u = .tuple #[zeroG, .bool false])
theorem bef_less {m : UInt8} {t : ByteArray} (h : ¬ aft m t = ⟨#[]⟩) : (bef m t).size < t.size := by
  have hix : Lib.index t.data.toList [m] = Lib.indexByte t.data.toList m := Lib.index_one _ m
  have hge := Lib.indexByte_ge t.data.toList m
  by_cases h1 : Lib.indexByte t.data.toList m = -1
  · exact absurd (by unfold aft Lib.cut; rw [if_neg (by rw [hix]; omega)]) h
  · obtain ⟨i, hi⟩ : ∃ i : Nat, Lib.indexByte t.data.toList m = i := ⟨(Lib.indexByte t.data.toList m).toNat, by omega⟩
    obtain ⟨h2, -⟩ := Lib.indexByte_some hi
    have hlt : i < t.data.toList.length := (List.getElem?_eq_some_iff.1 h2).1
    have hb : bef m t = mkB (t.data.toList.take i) := by
      unfold bef Lib.cut
      rw [if_pos (by rw [hix]; omega), show (Lib.index t.data.toList [m]).toNat = i by omega]
      rfl
    rw [hb, mkB_size, List.length_take, Lib.size_eq]
    omega
theorem rg_few {t : ByteArray} {D : List Nat} (h : rx 2 (aft 59 t) = some D) (ht : t.size ≤ 1048576) : (cutB 47 (bef 59 t)).length ≤ 1048576 := by
  have h1 : ¬ aft 59 t = ⟨#[]⟩ := fun e => by rw [e, rx_none rn_empty] at h; cases h
  have h2 := bef_less h1
  have h3 := cutL_len 47 (bef 59 t).data.toList
  have h4 := Lib.size_eq (bef 59 t)
  unfold cutB
  rw [List.length_map]
  omega
theorem four_of {X : List Nat} (h : X.length = 4) : X = [X.getD 0 0, X.getD 1 0, X.getD 2 0, X.getD 3 0] := by
  match X, h with
  | [a, b, c, d], _ => rfl

set_option maxRecDepth 100000 in
set_option maxHeartbeats 6400000 in
theorem implReadGround_any (w : World) (t : ByteArray) (hmax : t.size ≤ 1048576) (hD : Dr w) :
    Calls Tryz.prog 17 #[.string t] w fun e w' => ∃ u, e = .returned u ∧ RgRes w.heap.size t w' u ∧ Below w.heap.size w w' := by
  have hst := run_store_float (P := Tryz.prog)
  obtain ⟨W, hW⟩ : ∃ W, w.alloc (.cells #[.slice none 0 0, .float .f32 0, .float .f32 0] 43) = W := ⟨_, rfl⟩
  have hx0 : Below w.heap.size w W := by rw [← hW]; exact (Below.refl _ _).alloc (Nat.le_refl _) _
  have hz0 : W.heap.size = w.heap.size + 1 := by rw [← hW]; exact World.size_alloc _ _
  have HW0 : Hid (W.heap[w.heap.size]? = some (.cells #[.slice none 0 0, .float .f32 0, .float .f32 0] 43 (0, 0))) := Lib.hid (by rw [← hW]; exact alloc_new _ _)
  have X0 := Lib.hid hx0
  obtain ⟨m, hm⟩ := (hD.mono hx0).mxl
  have HCut : Hid (Calls Tryz.prog 38 #[.string t, .string ⟨#[59]⟩] W fun e w' => e = .returned (.tuple #[.string (bef 59 t), .string (aft 59 t), .bool (Lib.cut t.data.toList [59]).2.2]) ∧ ∃ n, w' = W.drewN n) := Lib.hid (Tryz.strings_Cut t ⟨#[59]⟩ m W (by omega) hm)
  have HX2 := Lib.hid (fun wq hq => exactly_any wq (aft 59 t) 2 (by decide) (aft_size 59 t hmax) (hD.mono hq))
  have HX4 := Lib.hid (fun wq (p : ByteArray) (hp : p.size ≤ 1048576) hq => exactly_any wq p 4 (by decide) hp (hD.mono hq))
  have HBS := Lib.hid (bef_size 59 t hmax)
  have HD := Lib.hid hD
  have HFew : Hid (∀ D, rx 2 (aft 59 t) = some D → (cutB 47 (bef 59 t)).length ≤ 1048576) := Lib.hid fun D h => rg_few h hmax
  have HPs := Lib.hid (cutB_part 47 (bef 59 t) (bef_size 59 t hmax))
  generalize (Lib.cut t.data.toList [59]).2.2 = fnd at *
  clear hD hm hx0 hmax
  go_enter Tryz.func17, Tryz.ntmps17
  go_wp2_with fail
  clear hW
  refine HCut.out.mono ?_
  clear HCut
  rintro e w1 ⟨rfl, n1, hw1⟩
  have b1 : Below W.heap.size W w1 := by rw [hw1]; exact Below.drewN (Below.refl _ _) _
  have B1 := Lib.hid (X0.out.trans (b1.mono (by omega)))
  have HW1 := Lib.hid ((b1.block _ (by omega)).trans HW0.out)
  have z1 := b1.size
  clear hw1 b1 X0 HW0
  go_wp2_with fail
  refine (HX2.out _ B1.out).mono ?_
  clear HX2
  rintro e w2 ⟨u2, rfl, hu2, b2⟩
  have B2 := Lib.hid (B1.out.trans (b2.mono (by omega)))
  have HW2 := Lib.hid ((b2.block _ (by omega)).trans HW1.out)
  have z2 := b2.size
  clear b2 HW1
  rcases hu2 with ⟨D, vD, hD1, hDl, rfl, oD⟩ | ⟨hD1, aq, mq, cq, rfl⟩
  rotate_left
  · have HN : Hid (rg t = none) := Lib.hid (rg_D hD1)
    clear hD1
    have PZ := put3 HW2.out (.slice none 0 0) (.float .f32 0) (.float .f32 0)
    have HPZ := Lib.hid PZ
    obtain ⟨m0, m1, m2, f0, f1, f2⟩ := blk3 HW2.out
    clear PZ
    go_wp2_with fail
    have PZ := HPZ.out
    clear HPZ
    generalize (((w2.setCell ⟨w.heap.size, 0, none⟩ (.slice none 0 0)).setCell ⟨w.heap.size, 1, none⟩ (.float .f32 0)).setCell ⟨w.heap.size, 2, none⟩ (.float .f32 0)) = wy at *
    obtain ⟨q0, q1, q2, -, -, -⟩ := blk3 PZ.heap
    refine bodyPost_ret (v := .tuple #[zeroG, .bool false]) (by simp [results, Tryz.results17, go_sem, q0, q1, q2, zeroG]) rfl ?_
    exact ⟨_, rfl, .inr ⟨HN.out, rfl⟩, Below.chg B2.out PZ.chg (fun k hk => by omega) (by have := B2.out.size; omega)⟩
  have HD1 := Lib.hid hD1
  have hfew := HFew.out D hD1
  obtain ⟨b7, o7, c7, hv7, -, hb7, hcl⟩ := oD.rd.at_block (by omega)
  obtain ⟨r0, j0, F0⟩ := hcl 0 (by omega)
  obtain ⟨r1, j1, F1⟩ := hcl 1 (by omega)
  subst hv7
  rw [hDl]
  have HF : Hid (FV .f32 r0 (D.getD 0 0) ∧ FV .f32 r1 (D.getD 1 0)) := Lib.hid ⟨F0, F1⟩
  have FX : Hid (∀ wq, Ext w2.drew wq → wq.cell? ⟨b7, o7, none⟩ = some (.float .f32 r0) ∧ wq.cell? ⟨b7, o7 + 1, none⟩ = some (.float .f32 r1)) := Lib.hid fun wq hq => by
    have e := (bcell ((Ext.drew w2).trans hq)).1
    exact ⟨(e _ _ hb7).trans j0, (e _ _ hb7).trans j1⟩
  clear hcl j0 j1 F0 F1 hD1 oD hDl HFew
  have HRG : Hid (∀ L, allL (cutB 47 (bef 59 t)) = some L → rg t = if validG ⟨(cutB 47 (bef 59 t)).length, L, D.getD 0 0, D.getD 1 0⟩ = true then some ⟨(cutB 47 (bef 59 t)).length, L, D.getD 0 0, D.getD 1 0⟩ else none) := Lib.hid fun L h => rg_yes HD1.out h
  have HRN : Hid (allL (cutB 47 (bef 59 t)) = none → rg t = none) := Lib.hid rg_L
  clear HD1
  generalize D.getD 0 0 = x at *
  generalize D.getD 1 0 = y at *
  go_wp2_with fail
  refine region_grow_tail 8 (by kernel_rfl) (by kernel_rfl) (fun _ _ _ _ _ => False) ?_
  simp only [List.take_succ_cons, List.take_zero, List.drop_succ_cons, List.drop_zero]
  iterate 7 (refine wpRelK_still rfl rfl (fun wq hq K hK => ?_); obtain ⟨k0, k1⟩ := FX.out wq hq.1; go_wp2; clear k0 k1)
  refine wpRelK_op rfl rfl (fun w9 hq9 K hK => ?_)
  have s9 := hq9.1.size
  go_wp2
  refine hK _ _ ((Below.refl _ _).alloc (Nat.le_refl _) _) ?_
  clear hK K
  refine wpRelK_nil ?_
  intro w8 hW8 hall
  have E9 : Ext (w9.alloc (.cells #[.slice none 0 0, .float .f32 0, .float .f32 0] 43)) w8 := hall 7 (by decide)
  have h8 : w8.heap[w9.heap.size]? = some (.cells #[.slice none 0 0, .float .f32 0, .float .f32 0] 43 (0, 0)) := (E9.block w9.heap.size (by rw [World.size_alloc]; omega)).trans (alloc_new _ _)
  have x8 : Ext w2 w8 := (Ext.drew w2).trans hW8
  have X8 := Lib.hid x8
  have g8 : w9.heap.size < w8.heap.size := (Array.getElem?_eq_some_iff.1 h8).1
  have s9' : w2.heap.size ≤ w9.heap.size := s9
  clear hall hW8 E9 hq9 x8 FX s9
  generalize w9.heap.size = g9 at *
  have HP8 := Lib.hid (put3 h8 (.slice none 0 0) (.float .f32 r0) (.float .f32 r1))
  obtain ⟨m0, m1, m2, f0, f1, f2⟩ := blk3 h8
  clear h8
  obtain ⟨wz, hwz⟩ : ∃ wz, (((w8.setCell ⟨g9, 0, none⟩ (.slice none 0 0)).setCell ⟨g9, 1, none⟩ (.float .f32 r0)).setCell ⟨g9, 2, none⟩ (.float .f32 r1)) = wz := ⟨_, rfl⟩
  rw [hwz] at HP8
  have BZ : Hid (Below w.heap.size w wz) := Lib.hid (Below.chg (B2.out.trans (X8.out.mono (by have := B2.out.size; omega))) HP8.out.chg (fun k hk => by have := B2.out.size; omega) (by have := X8.out.size; have := B2.out.size; omega))
  have HBZ : Hid (wz.heap[w.heap.size]? = some (.cells #[.slice none 0 0, .float .f32 0, .float .f32 0] 43 (0, 0))) := Lib.hid ((HP8.out.chg.block _ (by have := X8.out.size; omega) (by omega)).trans ((X8.out.block _ (by omega)).trans HW2.out))
  have HGZ := Lib.hid HP8.out.heap
  have hgz : g9 < wz.heap.size := by rw [HP8.out.size]; exact g8
  have hwl : w.heap.size < g9 := by omega
  obtain ⟨mx, hmx⟩ := (HD.out.mono BZ.out).mxl
  have HSp := Lib.hid (Tryz.strings_Split (bef 59 t) ⟨#[47]⟩ mx wz (by have := HBS.out; omega) hmx (Nat.le_refl 1))
  obtain ⟨hs1, hs2⟩ := splitB_cut 47 (bef 59 t)
  rw [hs1, hs2] at HSp
  clear hs1 hs2 hmx HBS HP8 X8
  have hpos := cutB_pos 47 (bef 59 t)
  generalize cutB 47 (bef 59 t) = P at *
  go_wp2_with fail
  clear hwz m0 m1 m2 f0 f1 f2
  refine HSp.out.mono ?_
  clear HSp
  rintro e w6 ⟨rfl, hw6⟩
  have HC : Hid (∀ wq : World, wq.heap[wz.heap.size]? = w6.heap[wz.heap.size]? → ∀ j, j < P.length → wq.cell? ⟨wz.heap.size, j, none⟩ = some (.string (prt P j))) := Lib.hid fun wq hq j hj => by
    rw [cell_of_row wq _ j _ _ _ (hq.trans (by rw [hw6]; exact alloc_new _ _))]
    rw [List.getElem?_toArray, List.getElem?_map, List.getElem?_eq_getElem hj]
    simp [prt, List.getD_eq_getElem?_getD, List.getElem?_eq_getElem hj]
  have b6 : Below wz.heap.size wz w6 := by rw [hw6]; exact (Below.refl _ _).alloc (Nat.le_refl _) _
  have z6 : w6.heap.size = wz.heap.size + 1 := by rw [hw6]; exact World.size_alloc _ _
  have B6 := Lib.hid (BZ.out.trans (b6.mono BZ.out.size))
  have HW6 := Lib.hid ((b6.block _ (by omega)).trans HBZ.out)
  have HG6 := Lib.hid ((b6.block _ hgz).trans HGZ.out)
  clear b6 hw6 BZ HBZ HGZ
  obtain ⟨CS, hCS⟩ : ∃ CS : Nat → Prop, CS = fun k => k = g9 := ⟨_, rfl⟩
  have HCS : Hid (∀ k, CS k ↔ k = g9) := Lib.hid fun k => by rw [hCS]
  clear hCS
  go_wp2_with fail
  go_loopw [38] (fun i wr => ∃ (j : Nat) (L : List Nat) (vt : Value), j ≤ P.length ∧ i = .int .i64 j ∧ allL (P.take j) = some L ∧ OwnL wr (fun k => w6.heap.size ≤ k) vt j L ∧ (∀ k, vt.ownBlock = some k → k ≠ g9) ∧ wr.heap[g9]? = some (.cells #[vt, .float .f32 r0, .float .f32 r1] 43 (0, 0)) ∧ Chg w6 wr CS) (fun i _ => P.length - (intOf i).toNat)
  case atStart => exact ⟨0, [], .slice none 0 0, Nat.zero_le _, rfl, rfl, OwnL.nil _ _, (fun k hk => by cases hk), HG6.out, Chg.refl _ _⟩
  case round =>
    obtain ⟨wi, rfl⟩ : ∃ wi : World, wi = wr := ⟨_, rfl⟩
    obtain ⟨j, L, vt, hj, rfl, hall, ho, hng, hb, hc⟩ := hrel
    obtain ⟨av, cv, rfl⟩ := ho.shape
    have HA := Lib.hid hall
    have HO := Lib.hid ho
    have HNG := Lib.hid hng
    have HB := Lib.hid hb
    have HCg := Lib.hid hc
    have hzi := hc.size
    have BI : Hid (Below w.heap.size w wi) := Lib.hid (Below.chg B6.out hc (fun k hk => by have := (HCS.out k).1 hk; omega) (by omega))
    have HWI : Hid (wi.heap[w.heap.size]? = some (.cells #[.slice none 0 0, .float .f32 0, .float .f32 0] 43 (0, 0))) := Lib.hid ((hc.block w.heap.size (by omega) (fun hk => by have := (HCS.out _).1 hk; omega)).trans HW6.out)
    by_cases hlt : j < P.length
    · have hc0 := HC.out wi (hc.block _ (by omega) (fun hk => by have := (HCS.out _).1 hk; omega)) j hlt
      have HXp := Lib.hid (HX4.out wi (prt P j) (HPs.out _ (prt_mem P j hlt)) BI.out)
      have HT := Lib.hid (prt_take P j hlt)
      have HSpl := Lib.hid (prt_split P j hlt)
      clear hall ho hng hb hc
      generalize prt P j = p at *
      go_wp2_with fail
      refine HXp.out.mono ?_
      clear HXp
      rintro e wj ⟨u, rfl, hu, b2⟩
      have BJ := Lib.hid (BI.out.trans (b2.mono (by omega)))
      have HWJ := Lib.hid ((b2.block _ (by omega)).trans HWI.out)
      have HGJ := Lib.hid ((b2.block _ (by omega)).trans HB.out)
      have HOJ := Lib.hid (HO.out.kept b2)
      have CJ := Lib.hid (HCg.out.trans (Chg.of_below b2 _))
      have zj := b2.size
      clear b2 BI HWI HB HO HCg
      rcases hu with ⟨X, vX, hX, hXl, rfl, oX⟩ | ⟨hX, aq, mq, cq, rfl⟩
      rotate_left
      · have HN : Hid (rg t = none) := Lib.hid (HRN.out (by rw [HSpl.out]; exact allL_bad hX))
        clear hX
        have PZ := put3 HWJ.out (.slice none 0 0) (.float .f32 0) (.float .f32 0)
        have HPZ := Lib.hid PZ
        obtain ⟨m0, m1, m2, f0, f1, f2⟩ := blk3 HWJ.out
        clear PZ
        go_wp2_with fail
        have PZ := HPZ.out
        clear HPZ
        generalize (((wj.setCell ⟨w.heap.size, 0, none⟩ (.slice none 0 0)).setCell ⟨w.heap.size, 1, none⟩ (.float .f32 0)).setCell ⟨w.heap.size, 2, none⟩ (.float .f32 0)) = wy at *
        obtain ⟨q0, q1, q2, -, -, -⟩ := blk3 PZ.heap
        refine bodyPost_ret (v := .tuple #[zeroG, .bool false]) (by simp [results, Tryz.results17, go_sem, q0, q1, q2, zeroG]) rfl ?_
        exact ⟨_, rfl, .inr ⟨HN.out, rfl⟩, Below.chg BJ.out PZ.chg (fun k hk => by omega) (by have := BJ.out.size; omega)⟩
      obtain ⟨b7, o7, c7, hv7, -, hb7, hcl⟩ := oX.rd.at_block (by omega)
      obtain ⟨r4, j4, F4⟩ := hcl 0 (by omega)
      obtain ⟨r5, j5, F5⟩ := hcl 1 (by omega)
      obtain ⟨r6, j6, F6⟩ := hcl 2 (by omega)
      obtain ⟨r7, j7, F7⟩ := hcl 3 (by omega)
      subst hv7
      rw [hXl]
      have HF4 : Hid (FV .f32 r4 (X.getD 0 0) ∧ FV .f32 r5 (X.getD 1 0) ∧ FV .f32 r6 (X.getD 2 0) ∧ FV .f32 r7 (X.getD 3 0)) := Lib.hid ⟨F4, F5, F6, F7⟩
      have HXe := Lib.hid (four_of hXl)
      have HX := Lib.hid hX
      have FX : Hid (∀ wq, Ext wj.drew wq → wq.cell? ⟨b7, o7, none⟩ = some (.float .f32 r4) ∧ wq.cell? ⟨b7, o7 + 1, none⟩ = some (.float .f32 r5) ∧ wq.cell? ⟨b7, o7 + 2, none⟩ = some (.float .f32 r6) ∧ wq.cell? ⟨b7, o7 + 3, none⟩ = some (.float .f32 r7) ∧ wq.cell? ⟨g9, 0, none⟩ = some (.slice av j cv)) := Lib.hid fun wq hq => by
        have e := (bcell ((Ext.drew wj).trans hq)).1
        obtain ⟨k2, -, -, -, -, -⟩ := blk3 HGJ.out
        exact ⟨(e _ _ hb7).trans j4, (e _ _ hb7).trans j5, (e _ _ hb7).trans j6, (e _ _ hb7).trans j7, (e _ _ (by omega)).trans k2⟩
      clear hcl j4 j5 j6 j7 F4 F5 F6 F7 oX hX hXl
      generalize X.getD 0 0 = x4 at *
      generalize X.getD 1 0 = x5 at *
      generalize X.getD 2 0 = x6 at *
      generalize X.getD 3 0 = x7 at *
      go_wp2_with fail
      refine region_grow_tail 16 (by kernel_rfl) (by kernel_rfl) (fun _ _ _ _ _ => False) ?_
      simp only [List.take_succ_cons, List.take_zero, List.drop_succ_cons, List.drop_zero]
      iterate 15 (refine wpRelK_still rfl rfl (fun wq hq K hK => ?_); obtain ⟨k0, k1, k2, k3, k4⟩ := FX.out wq hq.1; go_wp2; clear k0 k1 k2 k3 k4)
      refine wpRelK_op rfl rfl (fun wb hb2 K hK => ?_)
      have gb : wj.heap.size ≤ wb.heap.size := hb2.1.size
      go_wp2
      refine hK _ _ ((Below.refl _ _).alloc (Nat.le_refl _) _) ?_
      clear hK K
      refine wpRelK_nil ?_
      intro w8 hW hall
      have E8 : Ext (wb.alloc (.cells #[.float .f32 r4, .float .f32 r5, .float .f32 r6, .float .f32 r7] 77)) w8 := hall 15 (by decide)
      have xW : Ext wj w8 := (Ext.drew wj).trans hW
      have h8 : w8.heap[wb.heap.size]? = some (.cells #[.float .f32 r4, .float .f32 r5, .float .f32 r6, .float .f32 r7] 77 (0, 0)) := (E8.block wb.heap.size (by rw [World.size_alloc]; omega)).trans (alloc_new _ _)
      have n0 := cell_of_row w8 _ 0 _ _ _ h8
      have n1 := cell_of_row w8 _ 1 _ _ _ h8
      have n2 := cell_of_row w8 _ 2 _ _ _ h8
      have n3 := cell_of_row w8 _ 3 _ _ _ h8
      have XW := Lib.hid xW
      have z8 := xW.size
      clear hall hW E8 hb2 xW h8 FX
      refine wpList_pushL rfl _ _ rfl w6.heap.size _ j L rfl (HOJ.out.kept XW.out) (by omega) _ _ r4 r5 r6 r7 _ _ _ _ rfl n0 n1 n2 n3 HF4.out.1 HF4.out.2.1 HF4.out.2.2.1 HF4.out.2.2.2 (by omega) ?_
      intro v9 w9 o9 gr9 l9
      have z9 := gr9.size
      obtain ⟨q9, cap9, hv9, -⟩ := (OwnC.form o9).resolve_left fun h => by have := h.2.1; omega
      subst hv9
      have hne9 : q9 ≠ g9 := by
        rcases l9 with l9 | l9
        · exact HNG.out _ l9.symm
        · have hq9 : q9 = w8.heap.size := Option.some.inj l9
          omega
      have HNE9 := Lib.hid hne9
      have hb9 : w9.heap[g9]? = some (.cells #[.slice av j cv, .float .f32 r0, .float .f32 r1] 43 (0, 0)) := by
        rw [gr9.block g9 (by omega) fun e => HNG.out _ e.symm rfl, XW.out.block g9 (by omega)]
        exact HGJ.out
      obtain ⟨k0, k1, k2, f0, f1, f2⟩ := blk3 hb9
      have P9 := (Put.one hb9 0 (.slice (some ⟨q9, 0, none⟩) (j + 1) cap9)).cs (cs' := #[.slice (some ⟨q9, 0, none⟩) (j + 1) cap9, .float .f32 r0, .float .f32 r1]) (by simp)
      have HP9 := Lib.hid P9
      have O9 := Lib.hid o9
      have C9 : Hid (Chg w6 w9 CS) := Lib.hid ((CJ.out.trans (Chg.of_below XW.out _)).only (Chg.of_grown (S := fun b => (Value.slice av j cv).ownBlock = some b) gr9 fun b hb => hb) fun k hk hkl => by have := (OwnC.lt HOJ.out _ hk).1; omega)
      clear o9 gr9 l9 hb9 P9 n0 n1 n2 n3
      go_wp2
      refine ⟨⟨j + 1, L ++ [x4, x5, x6, x7], _, by omega, by go_num, ?_, ?_, ?_, HP9.out.heap, ?_⟩, by simp [intOf]; omega⟩
      · rw [HT.out, allL_snoc, HA.out]
        simp only [HX.out]
        rw [HXe.out]
      · exact O9.out.chg HP9.out.chg (fun k hk e => by cases hk; exact HNE9.out e)
      · intro k hk
        cases hk
        exact HNE9.out
      · exact C9.out.trans (HP9.out.chg.wide fun k hk => (HCS.out k).2 hk)
    · clear hall ho hng hb hc
      obtain rfl : j = P.length := by omega
      have hL : allL P = some L := by have := HA.out; rwa [List.take_length] at this
      have HRG2 := Lib.hid (HRG.out L hL)
      have hcells := blk3 HB.out
      have HV := Lib.hid (implValidGround_any wi (.agg #[.slice av P.length cv, .float .f32 r0, .float .f32 r1]) ⟨P.length, L, x, y⟩ (OwnG.rd ⟨_, _, _, rfl, HO.out, HF.out.1, HF.out.2⟩) (by show P.length ≤ 1048576; omega))
      obtain ⟨k0, k1, k2, -, -, -⟩ := hcells
      go_wp2_with fail
      refine HV.out.mono ?_
      clear HV k0 k1 k2
      rintro e w10 ⟨rfl, b10x⟩
      have b10 : Below wi.heap.size wi w10 := b10x
      clear b10x
      have B10 := Lib.hid (BI.out.trans (b10.mono (by omega)))
      have HW10 := Lib.hid ((b10.block _ (by omega)).trans HWI.out)
      have HG10 := Lib.hid ((b10.block _ (by omega)).trans HB.out)
      have HO10 := Lib.hid (HO.out.kept b10)
      have z10 := b10.size
      clear b10 hL
      cases hp : validG ⟨P.length, L, x, y⟩ with
      | false =>
        have HN : Hid (rg t = none) := Lib.hid (by rw [HRG2.out, hp]; rfl)
        clear hp HRG2
        have PZ := put3 HW10.out (.slice none 0 0) (.float .f32 0) (.float .f32 0)
        have HPZ := Lib.hid PZ
        obtain ⟨m0, m1, m2, f0, f1, f2⟩ := blk3 HW10.out
        clear PZ
        go_wp2_with fail
        have PZ := HPZ.out
        clear HPZ
        generalize (((w10.setCell ⟨w.heap.size, 0, none⟩ (.slice none 0 0)).setCell ⟨w.heap.size, 1, none⟩ (.float .f32 0)).setCell ⟨w.heap.size, 2, none⟩ (.float .f32 0)) = wy at *
        obtain ⟨q0, q1, q2, -, -, -⟩ := blk3 PZ.heap
        refine bodyPost_ret (v := .tuple #[zeroG, .bool false]) (by simp [results, Tryz.results17, go_sem, q0, q1, q2, zeroG]) rfl ?_
        exact ⟨_, rfl, .inr ⟨HN.out, rfl⟩, Below.chg B10.out PZ.chg (fun k hk => by omega) (by have := B10.out.size; omega)⟩
      | true =>
        have HN : Hid (rg t = some ⟨P.length, L, x, y⟩) := Lib.hid (by rw [HRG2.out, hp]; rfl)
        clear hp HRG2
        have PZ := put3 HW10.out (.slice av P.length cv) (.float .f32 r0) (.float .f32 r1)
        have HPZ := Lib.hid PZ
        obtain ⟨m0, m1, m2, f0, f1, f2⟩ := blk3 HW10.out
        obtain ⟨k0, k1, k2, -, -, -⟩ := blk3 HG10.out
        clear PZ
        go_wp2_with fail
        have PZ := HPZ.out
        clear HPZ
        generalize (((w10.setCell ⟨w.heap.size, 0, none⟩ (.slice av P.length cv)).setCell ⟨w.heap.size, 1, none⟩ (.float .f32 r0)).setCell ⟨w.heap.size, 2, none⟩ (.float .f32 r1)) = wy at *
        obtain ⟨q0, q1, q2, -, -, -⟩ := blk3 PZ.heap
        refine bodyPost_ret (v := .tuple #[.agg #[.slice av P.length cv, .float .f32 r0, .float .f32 r1], .bool true]) (by simp [results, Tryz.results17, go_sem, q0, q1, q2]) rfl ?_
        exact ⟨_, rfl, .inl ⟨_, _, HN.out, rfl, ⟨_, _, _, rfl, OwnC.wide (HO10.out.chg PZ.chg fun k hk e => by have := (OwnC.lt HO10.out k hk).1; omega) (fun k hk => by omega), HF.out.1, HF.out.2⟩⟩, Below.chg B10.out PZ.chg (fun k hk => by omega) (by omega)⟩
end Go.Proofs.YtjbaebgdebcipaaGreatDoor
