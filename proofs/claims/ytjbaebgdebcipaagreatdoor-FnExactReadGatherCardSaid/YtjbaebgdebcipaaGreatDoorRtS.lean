/- Walks: ReadGather: the reference's. -/
import Derived.Test.YtjbaebgdebcipaaGreatDoorRtI
import Derived.Test.YtjbaebgdebcipaaGreatDoorDcV
import Derived.Test.YtjbaebgdebcipaaGreatDoorL9
namespace Go.Proofs.YtjbaebgdebcipaaGreatDoor
open Go Go.RowKit

theorem OwnStr.cellsT {w : World} {B : Nat} {v : Value} {P : List ByteArray} (h : OwnStr w B v P) (h0 : 0 < P.length) : ∃ b o c, v = .slice (some ⟨b, o, none⟩) P.length c ∧ b < w.heap.size ∧ B ≤ b ∧ ∀ wq : World, wq.heap[b]? = w.heap[b]? → ∀ j, j < P.length → wq.cell? ⟨b, o + j, none⟩ = some (.string (prt P j)) := by
  have h1 := h
  obtain ⟨a, c, rfl, hc⟩ := h.cellAt
  obtain ⟨b, o, rfl, hb, -⟩ := hc 0 h0
  refine ⟨b, o, c, rfl, hb, ?_, fun wq hq j hj => ?_⟩
  · rcases h1.2 with ⟨h2, -⟩ | ⟨g, cap, cur, h2, hB, -⟩
    · cases h2
    · cases h2; exact hB
  · obtain ⟨b', o', e, -, hcell⟩ := hc j hj
    cases e
    rw [cellS_same hq]; exact hcell
set_option maxRecDepth 100000 in
set_option maxHeartbeats 6400000 in
theorem l08ReadGather_any (w : World) (t : ByteArray) (hmax : t.size ≤ 1048576) :
    Calls Tryz.prog 56 #[.string t] w fun e w' => ∃ u, e = .returned u ∧ RtRes w.heap.size t w' u ∧ Below w.heap.size w w' := by
  obtain ⟨W, hW⟩ : ∃ W, w.alloc (.cells #[.int .i64 0, .slice none 0 0, .slice none 0 0] 52) = W := ⟨_, rfl⟩
  have hx0 : Below w.heap.size w W := by rw [← hW]; exact (Below.refl _ _).alloc (Nat.le_refl _) _
  have hz0 : W.heap.size = w.heap.size + 1 := by rw [← hW]; exact World.size_alloc _ _
  have HW0 : Hid (W.heap[w.heap.size]? = some (.cells #[.int .i64 0, .slice none 0 0, .slice none 0 0] 52 (0, 0))) := Lib.hid (by rw [← hW]; exact alloc_new _ _)
  have X0 := Lib.hid hx0
  have HCut := Lib.hid (l01Cut_any W t 59 hmax)
  have HLen : Hid (¬ (cutB 59 t).length = 3 → rt t = none) := Lib.hid rt_len
  have HNn : Hid (rdD (prt (cutB 59 t) 0) = none → rt t = none) := Lib.hid rt_n
  have HNP : Hid (rn 256 (prt (cutB 59 t) 1) = none → rt t = none) := Lib.hid rt_P
  have HNL : Hid (allN (cutB 47 (prt (cutB 59 t) 2)) = none → rt t = none) := Lib.hid rt_L
  have HY : Hid (∀ n P Ls, (cutB 59 t).length = 3 → rdD (prt (cutB 59 t) 0) = some n → rn 256 (prt (cutB 59 t) 1) = some P → allN (cutB 47 (prt (cutB 59 t) 2)) = some Ls → rt t = if validT ⟨n, P, Ls⟩ = true then some ⟨n, P, Ls⟩ else none) := Lib.hid fun n P Ls h0 h1 h2 h3 => rt_yes h0 h1 h2 h3
  have HFew : Hid ((cutB 59 t).length = 3 → (cutB 47 (prt (cutB 59 t) 2)).length ≤ 1048576) := Lib.hid fun h => part_less h hmax
  have HP1 := Lib.hid (cutB_part 59 t hmax)
  have hpl := cutB_small 59 t hmax
  have hpp := cutB_pos 59 t
  clear hx0 hmax
  generalize cutB 59 t = P1 at *
  go_enter Tryz.func56, Tryz.ntmps56
  go_wp2_with fail
  clear hW
  refine HCut.out.mono ?_
  clear HCut
  rintro e w1 ⟨v1, rfl, o1, b1⟩
  obtain ⟨b5, o5, c5, rfl, hb5, hB5, hcell⟩ := OwnStr.cellsT o1 hpp
  have B1 := Lib.hid (X0.out.trans (b1.mono (by omega)))
  have HW1 := Lib.hid ((b1.block _ (by omega)).trans HW0.out)
  have z1 := b1.size
  clear b1 X0 HW0 o1
  by_cases h2 : P1.length = 3
  rotate_left
  · have HN : Hid (rt t = none) := Lib.hid (HLen.out h2)
    have hd : ((P1.length : Int) != 3) = true := by rw [bne_iff_ne]; omega
    clear h2
    have PZ := put3 HW1.out (.int .i64 0) (.slice none 0 0) (.slice none 0 0)
    have HPZ := Lib.hid PZ
    obtain ⟨m0, m1, m2, f0, f1, f2⟩ := blk3 HW1.out
    clear PZ
    go_wp2_with fail
    have PZ := HPZ.out
    clear HPZ
    generalize (((w1.setCell ⟨w.heap.size, 0, none⟩ (.int .i64 0)).setCell ⟨w.heap.size, 1, none⟩ (.slice none 0 0)).setCell ⟨w.heap.size, 2, none⟩ (.slice none 0 0)) = wy at *
    obtain ⟨q0, q1, q2, -, -, -⟩ := blk3 PZ.heap
    refine bodyPost_ret (v := .tuple #[zeroT, .bool false]) (by simp [results, Tryz.results56, go_sem, q0, q1, q2, zeroT]) rfl ?_
    exact ⟨_, rfl, .inr ⟨HN.out, rfl⟩, Below.chg B1.out PZ.chg (fun k hk => by omega) (by have := B1.out.size; omega)⟩
  have hq0 : (prt P1 0).size ≤ 1048576 := HP1.out _ (prt_mem P1 0 (by omega))
  have hq1 : (prt P1 1).size ≤ 1048576 := HP1.out _ (prt_mem P1 1 (by omega))
  have hq2 : (prt P1 2).size ≤ 1048576 := HP1.out _ (prt_mem P1 2 (by omega))
  have hfew := HFew.out h2
  have HY2 : Hid (∀ n P Ls, rdD (prt P1 0) = some n → rn 256 (prt P1 1) = some P → allN (cutB 47 (prt P1 2)) = some Ls → rt t = if validT ⟨n, P, Ls⟩ = true then some ⟨n, P, Ls⟩ else none) := Lib.hid fun n P Ls => HY.out n P Ls h2
  have HC5 : Hid (∀ wq : World, wq.heap[b5]? = w1.heap[b5]? → wq.cell? ⟨b5, o5, none⟩ = some (.string (prt P1 0)) ∧ wq.cell? ⟨b5, o5 + 1, none⟩ = some (.string (prt P1 1)) ∧ wq.cell? ⟨b5, o5 + 2, none⟩ = some (.string (prt P1 2))) := Lib.hid fun wq hq => ⟨hcell wq hq 0 (by omega), hcell wq hq 1 (by omega), hcell wq hq 2 (by omega)⟩
  clear HLen HY HFew HP1 hcell hpp hpl
  rw [h2]
  clear h2
  generalize prt P1 0 = p0 at *
  generalize prt P1 1 = p1 at *
  generalize prt P1 2 = p2 at *
  clear P1
  obtain ⟨k0, k1, k2⟩ := HC5.out w1 rfl
  go_wp2_with fail
  clear k0 k1 k2
  refine (l01Value_any w1 p0).mono ?_
  rintro e w2 ⟨u2, rfl, hu2, b2⟩
  have B2 := Lib.hid (B1.out.trans (b2.mono (by omega)))
  have HW2 := Lib.hid ((b2.block _ (by omega)).trans HW1.out)
  have HS2 : Hid (w2.heap[b5]? = w1.heap[b5]?) := Lib.hid (b2.block _ (by omega))
  have z2 := b2.size
  clear b2 HW1
  obtain ⟨k0, k1, k2⟩ := HC5.out w2 HS2.out
  rcases hu2 with ⟨n, hn, rfl⟩ | ⟨hn, rfl⟩
  rotate_left
  · have HN : Hid (rt t = none) := Lib.hid (HNn.out hn)
    clear hn
    go_wp2_with fail
    clear k0 k1 k2
    refine (l01NRead_any w2 p1 hq1).mono ?_
    rintro e w3 ⟨u3, rfl, hu3, b3⟩
    have B3 := Lib.hid (B2.out.trans (b3.mono (by omega)))
    have HW3 := Lib.hid ((b3.block _ (by omega)).trans HW2.out)
    have z3 := b3.size
    clear b3 HW2
    have hu4 : ∃ av nv cv bv, u3 = .tuple #[.slice av nv cv, .bool bv] := by
      rcases hu3 with ⟨V, vV, -, rfl, oV⟩ | ⟨-, rfl⟩
      · obtain ⟨av, cv, rfl, -⟩ := oV.rd.opened
        exact ⟨_, _, _, _, rfl⟩
      · exact ⟨_, _, _, _, rfl⟩
    obtain ⟨av, nv, cv, bv, rfl⟩ := hu4
    clear hu3
    have PZ := put3 HW3.out (.int .i64 0) (.slice none 0 0) (.slice none 0 0)
    have HPZ := Lib.hid PZ
    obtain ⟨m0, m1, m2, f0, f1, f2⟩ := blk3 HW3.out
    clear PZ
    go_wp2_with fail
    have PZ := HPZ.out
    clear HPZ
    generalize (((w3.setCell ⟨w.heap.size, 0, none⟩ (.int .i64 0)).setCell ⟨w.heap.size, 1, none⟩ (.slice none 0 0)).setCell ⟨w.heap.size, 2, none⟩ (.slice none 0 0)) = wy at *
    obtain ⟨q0, q1, q2, -, -, -⟩ := blk3 PZ.heap
    refine bodyPost_ret (v := .tuple #[zeroT, .bool false]) (by simp [results, Tryz.results56, go_sem, q0, q1, q2, zeroT]) rfl ?_
    exact ⟨_, rfl, .inr ⟨HN.out, rfl⟩, Below.chg B3.out PZ.chg (fun k hk => by omega) (by have := B3.out.size; omega)⟩
  have HN1 := Lib.hid hn
  clear hn
  go_wp2_with fail
  clear k0 k1 k2
  refine (l01NRead_any w2 p1 hq1).mono ?_
  rintro e w3 ⟨u3, rfl, hu3, b3⟩
  have B3 := Lib.hid (B2.out.trans (b3.mono (by omega)))
  have HW3 := Lib.hid ((b3.block _ (by omega)).trans HW2.out)
  have HS3 : Hid (w3.heap[b5]? = w1.heap[b5]?) := Lib.hid ((b3.block _ (by omega)).trans HS2.out)
  have z3 := b3.size
  clear b3 HW2 HS2
  rcases hu3 with ⟨P, vP, hP, rfl, oP⟩ | ⟨hP, rfl⟩
  rotate_left
  · have HN : Hid (rt t = none) := Lib.hid (HNP.out hP)
    clear hP
    have PZ := put3 HW3.out (.int .i64 0) (.slice none 0 0) (.slice none 0 0)
    have HPZ := Lib.hid PZ
    obtain ⟨m0, m1, m2, f0, f1, f2⟩ := blk3 HW3.out
    clear PZ
    go_wp2_with fail
    have PZ := HPZ.out
    clear HPZ
    generalize (((w3.setCell ⟨w.heap.size, 0, none⟩ (.int .i64 0)).setCell ⟨w.heap.size, 1, none⟩ (.slice none 0 0)).setCell ⟨w.heap.size, 2, none⟩ (.slice none 0 0)) = wy at *
    obtain ⟨q0, q1, q2, -, -, -⟩ := blk3 PZ.heap
    refine bodyPost_ret (v := .tuple #[zeroT, .bool false]) (by simp [results, Tryz.results56, go_sem, q0, q1, q2, zeroT]) rfl ?_
    exact ⟨_, rfl, .inr ⟨HN.out, rfl⟩, Below.chg B3.out PZ.chg (fun k hk => by omega) (by have := B3.out.size; omega)⟩
  have hPf : P.length ≤ 256 := rn_few hP
  have HY3 : Hid (∀ Ls, allN (cutB 47 p2) = some Ls → rt t = if validT ⟨n, P, Ls⟩ = true then some ⟨n, P, Ls⟩ else none) := Lib.hid fun Ls h => HY2.out n P Ls HN1.out hP h
  obtain ⟨ap, cp, rfl, -⟩ := oP.rd.opened
  have HOP : Hid (OwnF w3 (w.heap.size + 1) (.slice ap P.length cp) P) := Lib.hid (oP.mono (by omega))
  clear hP oP HY2 HN1 HNn HNP
  obtain ⟨w4, hw4⟩ : ∃ w4, w3.alloc (.cells #[] 29) = w4 := ⟨_, rfl⟩
  obtain ⟨wa, hwa⟩ : ∃ wa, w4.alloc (.cells #[.int .i64 0, .slice none 0 0, .slice none 0 0] 52) = wa := ⟨_, rfl⟩
  have x4 : Below w3.heap.size w3 w4 := by rw [← hw4]; exact (Below.refl _ _).alloc (Nat.le_refl _) _
  have z4a : w4.heap.size ≤ w3.heap.size + 1 := by rw [← hw4, World.size_alloc]; exact Nat.le_refl _
  have z4b : w3.heap.size + 1 ≤ w4.heap.size := by rw [← hw4, World.size_alloc]; exact Nat.le_refl _
  have x5 : Below w4.heap.size w4 wa := by rw [← hwa]; exact (Below.refl _ _).alloc (Nat.le_refl _) _
  have XA : Hid (Below w3.heap.size w3 wa) := Lib.hid (x4.trans (x5.mono (by omega)))
  have za1 : wa.heap.size ≤ w4.heap.size + 1 := by rw [← hwa, World.size_alloc]; exact Nat.le_refl _
  have za2 : w4.heap.size + 1 ≤ wa.heap.size := by rw [← hwa, World.size_alloc]; exact Nat.le_refl _
  have h9 : wa.heap[w4.heap.size]? = some (.cells #[.int .i64 0, .slice none 0 0, .slice none 0 0] 52 (0, 0)) := by rw [← hwa]; exact alloc_new _ _
  obtain ⟨g3, hg3⟩ : ∃ g3, w3.heap.size = g3 := ⟨_, rfl⟩
  obtain ⟨g9, hg9⟩ : ∃ g9, w4.heap.size = g9 := ⟨_, rfl⟩
  have OE : Hid (∀ S : Nat → Prop, S g3 → OwnC w4 S 29 1 (.slice (some ⟨g3, 0, none⟩) 0 0) 0 []) := Lib.hid fun S hS => by
    rw [← hw4, ← hg3] at *
    exact ⟨[], rfl, World.ownsRow_lit w3 #[] 0 (Nat.zero_le _) (by decide) rfl, (fun k hk => by cases hk; exact hS), (fun j hj => by cases hj), (fun i j k hi => by cases hi), (fun j k hj => by cases hj)⟩
  have X5 := Lib.hid x5
  clear x4 x5
  rw [hg9] at h9
  have HP8 := Lib.hid (put3 h9 (.int .i64 n) (.slice ap P.length cp) (.slice (some ⟨g3, 0, none⟩) 0 0))
  obtain ⟨m0, m1, m2, f0, f1, f2⟩ := blk3 h9
  clear h9
  obtain ⟨wz, hwz⟩ : ∃ wz, (((wa.setCell ⟨g9, 0, none⟩ (.int .i64 n)).setCell ⟨g9, 1, none⟩ (.slice ap P.length cp)).setCell ⟨g9, 2, none⟩ (.slice (some ⟨g3, 0, none⟩) 0 0)) = wz := ⟨_, rfl⟩
  rw [hwz] at HP8
  have BZ : Hid (Below w.heap.size w wz) := Lib.hid (Below.chg (B3.out.trans (XA.out.mono (by omega))) HP8.out.chg (fun k hk => by omega) (by omega))
  have HBZ : Hid (wz.heap[w.heap.size]? = some (.cells #[.int .i64 0, .slice none 0 0, .slice none 0 0] 52 (0, 0))) := Lib.hid ((HP8.out.chg.block _ (by omega) (by omega)).trans ((XA.out.block _ (by omega)).trans HW3.out))
  have HSZ : wz.heap[b5]? = w1.heap[b5]? := ((HP8.out.chg.block _ (by omega) (by omega)).trans ((XA.out.block _ (by omega)).trans HS3.out))
  have HGZ := Lib.hid HP8.out.heap
  have HOPZ : Hid (OwnF wz (w.heap.size + 1) (.slice ap P.length cp) P) := Lib.hid ((HOP.out.kept XA.out).chg HP8.out.chg fun k hk e => by have := (HOP.out.lt hk).2; omega)
  have HLP : Hid (∀ k, (Value.slice ap P.length cp).ownBlock = some k → w.heap.size + 1 ≤ k ∧ k < w3.heap.size) := Lib.hid fun k hk => HOP.out.lt hk
  have HOZ : Hid (∀ S : Nat → Prop, S g3 → OwnC wz S 29 1 (.slice (some ⟨g3, 0, none⟩) 0 0) 0 []) := Lib.hid fun S hS => OwnC.wide (OwnC.chg (OwnC.kept (OE.out (fun k => k = g3) rfl) X5.out) HP8.out.chg fun k hk e => by omega) fun k hk => hk ▸ hS
  clear OE
  have hzz1 : wa.heap.size ≤ wz.heap.size := by rw [HP8.out.size]; exact Nat.le_refl _
  have hzz2 : wz.heap.size ≤ wa.heap.size := by rw [HP8.out.size]; exact Nat.le_refl _
  obtain ⟨k0, k1, k2⟩ := HC5.out wz HSZ
  clear HSZ HS3 HC5 HP8 HOP XA HW3
  have hpos := cutB_pos 47 p2
  have HPs := Lib.hid (cutB_part 47 p2 hq2)
  obtain ⟨Q, hQ⟩ : ∃ Q, cutB 47 p2 = Q := ⟨_, rfl⟩
  rw [hQ] at hpos hfew HPs HNL HY3
  go_wp2_with fail
  clear hwz hwa hw4 m0 m1 m2 f0 f1 f2 k0 k1 k2
  refine (l01Cut_any wz p2 47 hq2).mono ?_
  rintro e w6 ⟨v6, rfl, o6, b6⟩
  rw [hQ] at o6
  clear hQ
  obtain ⟨b8, o8, c8, rfl, hb8, hB8, hcell⟩ := OwnStr.cellsT o6 hpos
  have HC := Lib.hid hcell
  have z6 := b6.size
  clear o6 hcell
  have B6 := Lib.hid (BZ.out.trans (b6.mono BZ.out.size))
  have HW6 := Lib.hid ((b6.block _ (by omega)).trans HBZ.out)
  have HG6 := Lib.hid ((b6.block _ (by omega)).trans HGZ.out)
  have HOP6 := Lib.hid (HOPZ.out.kept b6)
  have O6 : Hid (∀ S : Nat → Prop, S g3 → OwnC w6 S 29 1 (.slice (some ⟨g3, 0, none⟩) 0 0) 0 []) := Lib.hid fun S hS => OwnC.kept (HOZ.out S hS) b6
  clear HOZ
  clear b6 BZ HBZ HGZ HOPZ
  obtain ⟨CS, hCS⟩ : ∃ CS : Nat → Prop, CS = fun k => k = g9 ∨ k = g3 := ⟨_, rfl⟩
  have HCS : Hid (∀ k, CS k ↔ k = g9 ∨ k = g3) := Lib.hid fun k => by rw [hCS]
  clear hCS
  have hQ0 : Q.length ≤ 1048576 := hfew
  go_wp2_with fail
  go_loopw [11] (fun i wr => ∃ (j : Nat) (Ls : List (List Nat)) (vt : Value), j ≤ Q.length ∧ i = .int .i64 j ∧ allN (Q.take j) = some Ls ∧ Ls.length = j ∧ OwnC wr (fun k => (k = g3 ∨ w6.heap.size ≤ k) ∧ k < wr.heap.size) 29 1 vt j (Ls.map D1.fs) ∧ wr.heap[g9]? = some (.cells #[.int .i64 n, .slice ap P.length cp, vt] 52 (0, 0)) ∧ Chg w6 wr CS) (fun i _ => Q.length - (intOf i).toNat)
  case atStart => exact ⟨0, [], .slice (some ⟨g3, 0, none⟩) 0 0, Nat.zero_le _, rfl, rfl, rfl, O6.out _ ⟨.inl rfl, by omega⟩, HG6.out, Chg.refl _ _⟩
  case round =>
    obtain ⟨wi, rfl⟩ : ∃ wi : World, wi = wr := ⟨_, rfl⟩
    obtain ⟨j, Ls, vt, hj, rfl, hall, hlj, ho, hb, hc⟩ := hrel
    obtain ⟨av, cv, rfl⟩ := OwnC.shape ho
    have HA := Lib.hid hall
    have HO := Lib.hid ho
    have HB := Lib.hid hb
    have HCg := Lib.hid hc
    have HLJ := Lib.hid hlj
    have hzi := hc.size
    have BI : Hid (Below w.heap.size w wi) := Lib.hid (Below.chg B6.out hc (fun k hk => by have := (HCS.out k).1 hk; omega) (by omega))
    have HWI : Hid (wi.heap[w.heap.size]? = some (.cells #[.int .i64 0, .slice none 0 0, .slice none 0 0] 52 (0, 0))) := Lib.hid ((hc.block w.heap.size (by omega) (fun hk => by have := (HCS.out _).1 hk; omega)).trans HW6.out)
    by_cases hlt : j < Q.length
    · have hc0 := HC.out wi (hc.block _ (by omega) (fun hk => by have := (HCS.out _).1 hk; omega)) j hlt
      have HXp := Lib.hid (l01NRead_any wi (prt Q j) (HPs.out _ (prt_mem Q j hlt)))
      have HT := Lib.hid (prt_take Q j hlt)
      have HSpl := Lib.hid (prt_split Q j hlt)
      clear hall hlj ho hb hc
      generalize prt Q j = p at *
      go_wp2_with fail
      refine HXp.out.mono ?_
      clear HXp hc0
      rintro e wj ⟨u, rfl, hu, b2⟩
      have BJ := Lib.hid (BI.out.trans (b2.mono (by omega)))
      have HWJ := Lib.hid ((b2.block _ (by omega)).trans HWI.out)
      have HGJ := Lib.hid ((b2.block _ (by omega)).trans HB.out)
      have HOJ := Lib.hid (OwnC.kept HO.out b2)
      have CJ := Lib.hid (HCg.out.trans (Chg.of_below b2 _))
      have zj := b2.size
      clear b2 BI HWI HB HO HCg
      rcases hu with ⟨X, vX, hX, rfl, oX⟩ | ⟨hX, rfl⟩
      rotate_left
      · have HN : Hid (rt t = none) := Lib.hid (HNL.out (by rw [HSpl.out]; exact allN_bad hX))
        clear hX
        have PZ := put3 HWJ.out (.int .i64 0) (.slice none 0 0) (.slice none 0 0)
        have HPZ := Lib.hid PZ
        obtain ⟨m0, m1, m2, f0, f1, f2⟩ := blk3 HWJ.out
        clear PZ
        go_wp2_with fail
        have PZ := HPZ.out
        clear HPZ
        generalize (((wj.setCell ⟨w.heap.size, 0, none⟩ (.int .i64 0)).setCell ⟨w.heap.size, 1, none⟩ (.slice none 0 0)).setCell ⟨w.heap.size, 2, none⟩ (.slice none 0 0)) = wy at *
        obtain ⟨q0, q1, q2, -, -, -⟩ := blk3 PZ.heap
        refine bodyPost_ret (v := .tuple #[zeroT, .bool false]) (by simp [results, Tryz.results56, go_sem, q0, q1, q2, zeroT]) rfl ?_
        exact ⟨_, rfl, .inr ⟨HN.out, rfl⟩, Below.chg BJ.out PZ.chg (fun k hk => by omega) (by have := BJ.out.size; omega)⟩
      obtain ⟨aX, cX, rfl, -⟩ := oX.rd.opened
      have HX := Lib.hid hX
      obtain ⟨wb, hwb⟩ : ∃ wb, wj.alloc (.cells #[.slice aX X.length cX] 29) = wb := ⟨_, rfl⟩
      have xb : Below wj.heap.size wj wb := by rw [← hwb]; exact (Below.refl _ _).alloc (Nat.le_refl _) _
      have zb : wb.heap.size = wj.heap.size + 1 := by rw [← hwb]; exact World.size_alloc _ _
      have kb : wb.cell? ⟨wj.heap.size, 0, none⟩ = some (.slice aX X.length cX) := by rw [← hwb]; exact cell_new _ _ _
      have HKB := Lib.hid kb
      have XB := Lib.hid xb
      have HDX : Hid (Own1 wb (fun k => wi.heap.size ≤ k) (.fs X) (.slice aX X.length cX)) := Lib.hid (Own1.fs_ (oX.kept xb) fun k hk => (oX.lt hk).1)
      obtain ⟨k0, k1, k2, -, -, -⟩ := blk3 HGJ.out
      clear hX oX xb kb
      go_wp2_with (at_builtin; go_must (refine wpList_pushS rfl _ _ 50 29 rfl (.slice none 0 0) 24 Tryz.underlying50 Tryz.infoFS rfl (by decide) (fun k => (k = g3 ∨ w6.heap.size ≤ k) ∧ k < wi.heap.size) wi.heap.size _ _ _ rfl (OwnC.kept HOJ.out XB.out) (by omega) (fun k hk => hk.2) _ _ _ (.fs X) rfl HKB.out rfl HDX.out (by omega) ?_; intro v9 w9 o9' gr9 l9; clear hwb k0 k1 k2; have z9 := gr9.size; have o9 := o9' (fun k => (k = g3 ∨ w6.heap.size ≤ k) ∧ k < w9.heap.size) (fun k hk => ⟨hk.1, by have := hk.2; omega⟩) (fun k h1 h2 => ⟨.inr (by omega), h2⟩); obtain ⟨q9, cap9, hv9, -⟩ := (OwnC.form o9).resolve_left (fun h => by have := h.2.1; omega); subst hv9; have hb9 : w9.heap[g9]? = some (.cells #[.int .i64 n, .slice ap P.length cp, .slice av j cv] 52 (0, 0)) := (gr9.block g9 (by omega) (fun e => by have := (OwnC.lt HOJ.out _ e.symm).1; omega)).trans ((XB.out.block g9 (by omega)).trans HGJ.out); obtain ⟨k0, k1, k2, f0, f1, f2⟩ := blk3 hb9; have P9 := (Put.one hb9 2 (.slice (some ⟨q9, 0, none⟩) (j + 1) cap9)).cs (cs' := #[.int .i64 n, .slice ap P.length cp, .slice (some ⟨q9, 0, none⟩) (j + 1) cap9]) (by simp); have HP9 := Lib.hid P9; have O9 := Lib.hid o9; have C9 : Hid (Chg w6 w9 CS) := Lib.hid ((CJ.out.trans (Chg.of_below XB.out _)).onlyT (Chg.of_grown (S := fun b => (Value.slice av j cv).ownBlock = some b) gr9 fun b hb => hb) fun k hk hkl => (HCS.out k).2 (by have := (OwnC.lt HOJ.out _ hk).1; omega)); clear o9 o9' gr9 l9 hb9 P9))
      refine ⟨⟨j + 1, Ls ++ [X], _, by omega, by go_num, ?_, by rw [List.length_append, HLJ.out]; rfl, ?_, HP9.out.heap, ?_⟩, by simp [intOf]; omega⟩
      · rw [HT.out, allN_snoc, HA.out]
        simp only [HX.out]
      · rw [List.map_append, HP9.out.size]
        exact OwnC.chg O9.out HP9.out.chg (fun k hk e => by have := hk.1; have e2 : k = g9 := e; omega)
      · exact C9.out.trans (HP9.out.chg.wide fun k hk => (HCS.out k).2 (.inl hk))
    · clear hall hlj ho hb hc
      obtain rfl : j = Q.length := by omega
      have hL : allN Q = some Ls := by have := HA.out; rwa [List.take_length] at this
      have HRG2 := Lib.hid (HY3.out Ls hL)
      have HPI : Hid (OwnF wi (w.heap.size + 1) (.slice ap P.length cp) P) := Lib.hid (HOP6.out.chg HCg.out fun k hk e => by have := (HCS.out k).1 e; have := HLP.out k hk; omega)
      have hcells := blk3 HB.out
      have HRow : Hid (RdSS wi (.slice av Q.length cv) Ls) := Lib.hid (by unfold RdSS; rw [HLJ.out]; exact OwnC.rd HO.out)
      have HV := Lib.hid (l04Is_any wi g9 0 n (.slice ap P.length cp) (.slice av Q.length cv) P Ls hcells.1 hcells.2.1 hcells.2.2.1 HPI.out.rd HRow.out (by omega) (by rw [HLJ.out]; exact hQ0))
      obtain ⟨k0, k1, k2, -, -, -⟩ := hcells
      go_wp2_with fail
      refine HV.out.mono ?_
      clear HV k0 k1 k2
      rintro e w10 ⟨rfl, b10x⟩
      have b10 : Below wi.heap.size wi w10 := by obtain ⟨n10, hn10⟩ := b10x; rw [hn10]; exact Below.drewN (Below.refl _ _) _
      clear b10x
      have B10 := Lib.hid (BI.out.trans (b10.mono (by omega)))
      have HW10 := Lib.hid ((b10.block _ (by omega)).trans HWI.out)
      have HG10 := Lib.hid ((b10.block _ (by omega)).trans HB.out)
      have HO10 := Lib.hid (OwnC.kept HO.out b10)
      have HP10 := Lib.hid (HPI.out.kept b10)
      have z10 := b10.size
      clear b10 hL
      cases hp : validT ⟨n, P, Ls⟩ with
      | false =>
        have HN : Hid (rt t = none) := Lib.hid (by rw [HRG2.out, hp]; rfl)
        clear hp HRG2
        have PZ := put3 HW10.out (.int .i64 0) (.slice none 0 0) (.slice none 0 0)
        have HPZ := Lib.hid PZ
        obtain ⟨m0, m1, m2, f0, f1, f2⟩ := blk3 HW10.out
        clear PZ
        go_wp2_with fail
        have PZ := HPZ.out
        clear HPZ
        generalize (((w10.setCell ⟨w.heap.size, 0, none⟩ (.int .i64 0)).setCell ⟨w.heap.size, 1, none⟩ (.slice none 0 0)).setCell ⟨w.heap.size, 2, none⟩ (.slice none 0 0)) = wy at *
        obtain ⟨q0, q1, q2, -, -, -⟩ := blk3 PZ.heap
        refine bodyPost_ret (v := .tuple #[zeroT, .bool false]) (by simp [results, Tryz.results56, go_sem, q0, q1, q2, zeroT]) rfl ?_
        exact ⟨_, rfl, .inr ⟨HN.out, rfl⟩, Below.chg B10.out PZ.chg (fun k hk => by omega) (by have := B10.out.size; omega)⟩
      | true =>
        have HN : Hid (rt t = some ⟨n, P, Ls⟩) := Lib.hid (by rw [HRG2.out, hp]; rfl)
        clear hp HRG2
        have PZ := put3 HW10.out (.int .i64 n) (.slice ap P.length cp) (.slice av Q.length cv)
        have HPZ := Lib.hid PZ
        obtain ⟨m0, m1, m2, f0, f1, f2⟩ := blk3 HW10.out
        obtain ⟨k0, k1, k2, -, -, -⟩ := blk3 HG10.out
        clear PZ
        go_wp2_with fail
        have PZ := HPZ.out
        clear HPZ
        generalize (((w10.setCell ⟨w.heap.size, 0, none⟩ (.int .i64 n)).setCell ⟨w.heap.size, 1, none⟩ (.slice ap P.length cp)).setCell ⟨w.heap.size, 2, none⟩ (.slice av Q.length cv)) = wy at *
        obtain ⟨q0, q1, q2, -, -, -⟩ := blk3 PZ.heap
        refine bodyPost_ret (v := .tuple #[.agg #[.int .i64 n, .slice ap P.length cp, .slice av Q.length cv], .bool true]) (by simp [results, Tryz.results56, go_sem, q0, q1, q2]) rfl ?_
        refine ⟨_, rfl, .inl ⟨_, _, HN.out, rfl, ⟨_, _, (fun k => w.heap.size + 1 ≤ k ∧ k < w3.heap.size), (fun k => k = g3 ∨ w6.heap.size ≤ k), rfl, (HP10.out.chg PZ.chg fun k hk e => by have := HLP.out k hk; omega).mono (Nat.zero_le _), HLP.out, ?_, fun k hk => by have := hk.1; omega, fun k hk => by omega, fun k h1 h2 => by omega⟩⟩, Below.chg B10.out PZ.chg (fun k hk => by omega) (by omega)⟩
        unfold OwnSS
        rw [HLJ.out]
        exact OwnC.wide (OwnC.chg HO10.out PZ.chg fun k hk e => by have := hk.1; omega) fun k hk => hk.1
set_option maxRecDepth 100000 in
theorem specReadGather_any (w : World) (t : ByteArray) (hmax : t.size ≤ 1048576) :
    Calls Tryz.prog 25 #[.string t] w fun e w' => ∃ u, e = .returned u ∧ RtRes w.heap.size t w' u ∧ Below w.heap.size w w' := by
  obtain ⟨W, hW⟩ : ∃ W, w.alloc (.cells #[.int .i64 0, .slice none 0 0, .slice none 0 0] 52) = W := ⟨_, rfl⟩
  have hx0 : Below w.heap.size w W := by rw [← hW]; exact (Below.refl _ _).alloc (Nat.le_refl _) _
  have hz0 : W.heap.size = w.heap.size + 1 := by rw [← hW]; exact World.size_alloc _ _
  have HW0 : Hid (W.heap[w.heap.size]? = some (.cells #[.int .i64 0, .slice none 0 0, .slice none 0 0] 52 (0, 0))) := Lib.hid (by rw [← hW]; exact alloc_new _ _)
  have X0 := Lib.hid hx0
  have HL := Lib.hid (l08ReadGather_any W t hmax)
  clear hmax hx0
  go_enter Tryz.func25, Tryz.ntmps25
  go_wp2_with fail
  clear hW
  refine HL.out.mono ?_
  clear HL
  rintro e w1 ⟨u, rfl, hu, b1⟩
  have B1 := Lib.hid (X0.out.trans (b1.mono (by omega)))
  have HW1 := Lib.hid ((b1.block _ (by omega)).trans HW0.out)
  have z1 := b1.size
  clear b1 X0 HW0
  rcases hu with ⟨T, u1, hG, rfl, ho⟩ | ⟨hN, rfl⟩
  · have HO : Hid (∀ w' : World, Chg w1 w' (fun k => k = w.heap.size) → OwnT w' (fun k => w.heap.size ≤ k) u1 T) := Lib.hid fun w' h => (ho.chg h fun k hk e => by omega).wide fun k hk => by omega
    obtain ⟨vp, vt, rfl, r1, r2⟩ := ho.rd
    obtain ⟨ap, cp, rfl, -⟩ := r1.opened
    obtain ⟨av, cv, rfl, -⟩ := r2.opened
    have HN := Lib.hid hG
    have PZ := put3 HW1.out (.int .i64 T.t) (.slice ap T.P.length cp) (.slice av T.Ls.length cv)
    have HPZ := Lib.hid PZ
    obtain ⟨m0, m1, m2, f0, f1, f2⟩ := blk3 HW1.out
    clear PZ hG ho r1 r2
    go_wp2
    have PZ := HPZ.out
    clear HPZ
    generalize (((w1.setCell ⟨w.heap.size, 0, none⟩ (.int .i64 T.t)).setCell ⟨w.heap.size, 1, none⟩ (.slice ap T.P.length cp)).setCell ⟨w.heap.size, 2, none⟩ (.slice av T.Ls.length cv)) = wy at *
    obtain ⟨q0, q1, q2, -, -, -⟩ := blk3 PZ.heap
    refine bodyPost_ret (v := .tuple #[.agg #[.int .i64 T.t, .slice ap T.P.length cp, .slice av T.Ls.length cv], .bool true]) (by simp [results, Tryz.results25, go_sem, q0, q1, q2]) rfl ?_
    exact ⟨_, rfl, .inl ⟨_, _, HN.out, rfl, HO.out _ PZ.chg⟩, Below.chg B1.out PZ.chg (fun k hk => by omega) (by omega)⟩
  · have HN := Lib.hid hN
    clear hN
    unfold zeroT
    have PZ := put3 HW1.out (.int .i64 0) (.slice none 0 0) (.slice none 0 0)
    have HPZ := Lib.hid PZ
    obtain ⟨m0, m1, m2, f0, f1, f2⟩ := blk3 HW1.out
    clear PZ
    go_wp2_with fail
    have PZ := HPZ.out
    clear HPZ
    generalize (((w1.setCell ⟨w.heap.size, 0, none⟩ (.int .i64 0)).setCell ⟨w.heap.size, 1, none⟩ (.slice none 0 0)).setCell ⟨w.heap.size, 2, none⟩ (.slice none 0 0)) = wy at *
    obtain ⟨q0, q1, q2, -, -, -⟩ := blk3 PZ.heap
    refine bodyPost_ret (v := .tuple #[zeroT, .bool false]) (by simp [results, Tryz.results25, go_sem, q0, q1, q2, zeroT]) rfl ?_
    exact ⟨_, rfl, .inr ⟨HN.out, rfl⟩, Below.chg B1.out PZ.chg (fun k hk => by omega) (by have := B1.out.size; omega)⟩
end Go.Proofs.YtjbaebgdebcipaaGreatDoor
