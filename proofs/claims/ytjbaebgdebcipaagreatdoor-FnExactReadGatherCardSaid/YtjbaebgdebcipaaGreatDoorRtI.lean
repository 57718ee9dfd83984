/- Walks: ReadGather: the program's. -/
import Derived.Test.YtjbaebgdebcipaaGreatDoorRtP
import Derived.Test.YtjbaebgdebcipaaGreatDoorDcW
import Derived.Test.YtjbaebgdebcipaaGreatDoorL6
namespace Go.Proofs.YtjbaebgdebcipaaGreatDoor
open Go Go.RowKit

theorem cellS_same {w w' : World} {b o : Nat} (h : w'.heap[b]? = w.heap[b]?) : w'.cell? ⟨b, o, none⟩ = w.cell? ⟨b, o, none⟩ := by
  unfold World.cell?
  rw [h]
theorem Chg.onlyT {a w w' : World} {S S' : Nat → Prop} (h : Chg a w S) (hc : Chg w w' S') (hS : ∀ k, S' k → k < a.heap.size → S k) : Chg a w' S :=
  ⟨hc.os.trans h.os, hc.tape.trans h.tape, hc.output.trans h.output, Nat.le_trans h.size hc.size, fun k hk hn => (hc.block k (Nat.lt_of_lt_of_le hk h.size) fun e => hn (hS k e hk)).trans (h.block k hk hn)⟩
theorem OwnC.shape {w : World} {S : Nat → Prop} {t : TypeId} {size : Nat} {v : Value} {n : Nat} {ds : List D1} (h : OwnC w S t size v n ds) : ∃ a c, v = .slice a n c := by
  rcases OwnC.form h with ⟨h1, h2, -⟩ | ⟨g, cap, h1, -⟩
  · exact ⟨none, 0, by rw [h1, h2]⟩
  · exact ⟨_, _, h1⟩
def zeroT : Value := .agg #[.int .i64 0, .slice none 0 0, .slice none 0 0]
def RtRes (B : Nat) (t : ByteArray) (w' : World) (u : Value) : Prop :=
  (∃ G u1, rt t = some G ∧ u = .tuple #[u1, .bool true] ∧ OwnT w' (fun k => B ≤ k) u1 G) ∨ (rt t = none ∧ u = .tuple #[zeroT, .bool false])

set_option maxRecDepth 100000 in
set_option maxHeartbeats 6400000 in
theorem implReadGather_any (w : World) (t : ByteArray) (hmax : t.size ≤ 1048576) (hD : Dr w) (hT10 : Tab10 w) :
    Calls Tryz.prog 26 #[.string t] w fun e w' => ∃ u, e = .returned u ∧ RtRes w.heap.size t w' u ∧ Below w.heap.size w w' := by
  obtain ⟨W, hW⟩ : ∃ W, w.alloc (.cells #[.int .i64 0, .slice none 0 0, .slice none 0 0] 52) = W := ⟨_, rfl⟩
  have hx0 : Below w.heap.size w W := by rw [← hW]; exact (Below.refl _ _).alloc (Nat.le_refl _) _
  have hz0 : W.heap.size = w.heap.size + 1 := by rw [← hW]; exact World.size_alloc _ _
  have HW0 : Hid (W.heap[w.heap.size]? = some (.cells #[.int .i64 0, .slice none 0 0, .slice none 0 0] 52 (0, 0))) := Lib.hid (by rw [← hW]; exact alloc_new _ _)
  have X0 := Lib.hid hx0
  obtain ⟨m, hm⟩ := (hD.mono hx0).mxl
  have HSp := Lib.hid (Tryz.strings_Split t ⟨#[59]⟩ m W (by omega) hm (Nat.le_refl 1))
  obtain ⟨hs1, hs2⟩ := splitB_cut 59 t
  rw [hs1, hs2] at HSp
  have HD := Lib.hid hD
  have HT10 := Lib.hid hT10
  have HLen : Hid (¬ (cutB 59 t).length = 3 → rt t = none) := Lib.hid rt_len
  have HNn : Hid (rdD (prt (cutB 59 t) 0) = none → rt t = none) := Lib.hid rt_n
  have HNP : Hid (rn 256 (prt (cutB 59 t) 1) = none → rt t = none) := Lib.hid rt_P
  have HNL : Hid (allN (cutB 47 (prt (cutB 59 t) 2)) = none → rt t = none) := Lib.hid rt_L
  have HY : Hid (∀ n P Ls, (cutB 59 t).length = 3 → rdD (prt (cutB 59 t) 0) = some n → rn 256 (prt (cutB 59 t) 1) = some P → allN (cutB 47 (prt (cutB 59 t) 2)) = some Ls → rt t = if validT ⟨n, P, Ls⟩ = true then some ⟨n, P, Ls⟩ else none) := Lib.hid fun n P Ls h0 h1 h2 h3 => rt_yes h0 h1 h2 h3
  have HFew : Hid ((cutB 59 t).length = 3 → (cutB 47 (prt (cutB 59 t) 2)).length ≤ 1048576) := Lib.hid fun h => part_less h hmax
  have HP1 := Lib.hid (cutB_part 59 t hmax)
  have hpl := cutB_small 59 t hmax
  have hpp := cutB_pos 59 t
  clear hs1 hs2 hm hD hT10 hx0 hmax
  generalize cutB 59 t = P1 at *
  go_enter Tryz.func26, Tryz.ntmps26
  go_wp2_with fail
  clear hW
  refine HSp.out.mono ?_
  clear HSp
  rintro e w1 ⟨rfl, hw1⟩
  have b1 : Below W.heap.size W w1 := by rw [hw1]; exact (Below.refl _ _).alloc (Nat.le_refl _) _
  have z1 : w1.heap.size = W.heap.size + 1 := by rw [hw1]; exact World.size_alloc _ _
  obtain ⟨b5, hb5⟩ : ∃ b5, W.heap.size = b5 := ⟨_, rfl⟩
  have hcell : ∀ wq : World, wq.heap[b5]? = w1.heap[b5]? → ∀ j, j < P1.length → wq.cell? ⟨b5, j, none⟩ = some (.string (prt P1 j)) := fun wq hq j hj => by
    rw [← hb5] at hq ⊢
    rw [cell_of_row wq _ j _ _ _ (hq.trans (by rw [hw1]; exact alloc_new _ _))]
    rw [List.getElem?_toArray, List.getElem?_map, List.getElem?_eq_getElem hj]
    simp [prt, List.getD_eq_getElem?_getD, List.getElem?_eq_getElem hj]
  have B1 := Lib.hid (X0.out.trans (b1.mono (by omega)))
  have HW1 := Lib.hid ((b1.block _ (by omega)).trans HW0.out)
  rw [hb5]
  clear hw1 b1 X0 HW0
  by_cases h2 : P1.length = 3
  rotate_left
  · have HN : Hid (rt t = none) := Lib.hid (HLen.out h2)
    have hd : ((P1.length : Int) != 3) = true := by rw [bne_iff_ne]; omega
    clear h2
    have PZ := put3 HW1.out (.int .i64 0) (.slice none 0 0) (.slice none 0 0)
    have HPZ := Lib.hid PZ
    obtain ⟨m0, m1, m2, f0, f1, f2⟩ := blk3 HW1.out
    clear PZ
    go_wp2_with fail
    have PZ := HPZ.out
    clear HPZ
    generalize (((w1.setCell ⟨w.heap.size, 0, none⟩ (.int .i64 0)).setCell ⟨w.heap.size, 1, none⟩ (.slice none 0 0)).setCell ⟨w.heap.size, 2, none⟩ (.slice none 0 0)) = wy at *
    obtain ⟨q0, q1, q2, -, -, -⟩ := blk3 PZ.heap
    refine bodyPost_ret (v := .tuple #[zeroT, .bool false]) (by simp [results, Tryz.results26, go_sem, q0, q1, q2, zeroT]) rfl ?_
    exact ⟨_, rfl, .inr ⟨HN.out, rfl⟩, Below.chg B1.out PZ.chg (fun k hk => by omega) (by have := B1.out.size; omega)⟩
  have hq0 : (prt P1 0).size ≤ 1048576 := HP1.out _ (prt_mem P1 0 (by omega))
  have hq1 : (prt P1 1).size ≤ 1048576 := HP1.out _ (prt_mem P1 1 (by omega))
  have hq2 : (prt P1 2).size ≤ 1048576 := HP1.out _ (prt_mem P1 2 (by omega))
  have hfew := HFew.out h2
  have HY2 : Hid (∀ n P Ls, rdD (prt P1 0) = some n → rn 256 (prt P1 1) = some P → allN (cutB 47 (prt P1 2)) = some Ls → rt t = if validT ⟨n, P, Ls⟩ = true then some ⟨n, P, Ls⟩ else none) := Lib.hid fun n P Ls => HY.out n P Ls h2
  have HC5 : Hid (∀ wq : World, wq.heap[b5]? = w1.heap[b5]? → wq.cell? ⟨b5, 0, none⟩ = some (.string (prt P1 0)) ∧ wq.cell? ⟨b5, 1, none⟩ = some (.string (prt P1 1)) ∧ wq.cell? ⟨b5, 2, none⟩ = some (.string (prt P1 2))) := Lib.hid fun wq hq => ⟨hcell wq hq 0 (by omega), hcell wq hq 1 (by omega), hcell wq hq 2 (by omega)⟩
  clear HLen HY HFew HP1 hcell hpp hpl
  rw [h2]
  clear h2
  generalize prt P1 0 = p0 at *
  generalize prt P1 1 = p1 at *
  generalize prt P1 2 = p2 at *
  clear P1
  obtain ⟨k0, k1, k2⟩ := HC5.out w1 rfl
  go_wp2_with fail
  clear k0 k1 k2
  refine (readDecimal_any w1 p0 hq0 (HD.out.mono B1.out) (HT10.out.mono B1.out)).mono ?_
  rintro e w2 ⟨u2, rfl, hu2, b2⟩
  have B2 := Lib.hid (B1.out.trans (b2.mono (by omega)))
  have HW2 := Lib.hid ((b2.block _ (by omega)).trans HW1.out)
  have HS2 : Hid (w2.heap[b5]? = w1.heap[b5]?) := Lib.hid (b2.block _ (by omega))
  have z2 := b2.size
  clear b2 HW1
  obtain ⟨k0, k1, k2⟩ := HC5.out w2 HS2.out
  rcases hu2 with ⟨n, hn, rfl⟩ | ⟨hn, rfl⟩
  rotate_left
  · have HN : Hid (rt t = none) := Lib.hid (HNn.out hn)
    clear hn
    go_wp2_with fail
    clear k0 k1 k2
    refine (readNumbers_any w2 p1 hq1 (HD.out.mono B2.out)).mono ?_
    rintro e w3 ⟨u3, rfl, hu3, b3⟩
    have B3 := Lib.hid (B2.out.trans (b3.mono (by omega)))
    have HW3 := Lib.hid ((b3.block _ (by omega)).trans HW2.out)
    have z3 := b3.size
    clear b3 HW2
    have hu4 : ∃ av nv cv bv, u3 = .tuple #[.slice av nv cv, .bool bv] := by
      rcases hu3 with ⟨V, vV, -, rfl, oV⟩ | ⟨-, rfl⟩
      · obtain ⟨av, cv, rfl, -⟩ := oV.rd.opened
        exact ⟨_, _, _, _, rfl⟩
      · exact ⟨_, _, _, _, rfl⟩
    obtain ⟨av, nv, cv, bv, rfl⟩ := hu4
    clear hu3
    have PZ := put3 HW3.out (.int .i64 0) (.slice none 0 0) (.slice none 0 0)
    have HPZ := Lib.hid PZ
    obtain ⟨m0, m1, m2, f0, f1, f2⟩ := blk3 HW3.out
    clear PZ
    go_wp2_with fail
    have PZ := HPZ.out
    clear HPZ
    generalize (((w3.setCell ⟨w.heap.size, 0, none⟩ (.int .i64 0)).setCell ⟨w.heap.size, 1, none⟩ (.slice none 0 0)).setCell ⟨w.heap.size, 2, none⟩ (.slice none 0 0)) = wy at *
    obtain ⟨q0, q1, q2, -, -, -⟩ := blk3 PZ.heap
    refine bodyPost_ret (v := .tuple #[zeroT, .bool false]) (by simp [results, Tryz.results26, go_sem, q0, q1, q2, zeroT]) rfl ?_
    exact ⟨_, rfl, .inr ⟨HN.out, rfl⟩, Below.chg B3.out PZ.chg (fun k hk => by omega) (by have := B3.out.size; omega)⟩
  have HN1 := Lib.hid hn
  clear hn
  go_wp2_with fail
  clear k0 k1 k2
  refine (readNumbers_any w2 p1 hq1 (HD.out.mono B2.out)).mono ?_
  rintro e w3 ⟨u3, rfl, hu3, b3⟩
  have B3 := Lib.hid (B2.out.trans (b3.mono (by omega)))
  have HW3 := Lib.hid ((b3.block _ (by omega)).trans HW2.out)
  have HS3 : Hid (w3.heap[b5]? = w1.heap[b5]?) := Lib.hid ((b3.block _ (by omega)).trans HS2.out)
  have z3 := b3.size
  clear b3 HW2 HS2
  rcases hu3 with ⟨P, vP, hP, rfl, oP⟩ | ⟨hP, rfl⟩
  rotate_left
  · have HN : Hid (rt t = none) := Lib.hid (HNP.out hP)
    clear hP
    have PZ := put3 HW3.out (.int .i64 0) (.slice none 0 0) (.slice none 0 0)
    have HPZ := Lib.hid PZ
    obtain ⟨m0, m1, m2, f0, f1, f2⟩ := blk3 HW3.out
    clear PZ
    go_wp2_with fail
    have PZ := HPZ.out
    clear HPZ
    generalize (((w3.setCell ⟨w.heap.size, 0, none⟩ (.int .i64 0)).setCell ⟨w.heap.size, 1, none⟩ (.slice none 0 0)).setCell ⟨w.heap.size, 2, none⟩ (.slice none 0 0)) = wy at *
    obtain ⟨q0, q1, q2, -, -, -⟩ := blk3 PZ.heap
    refine bodyPost_ret (v := .tuple #[zeroT, .bool false]) (by simp [results, Tryz.results26, go_sem, q0, q1, q2, zeroT]) rfl ?_
    exact ⟨_, rfl, .inr ⟨HN.out, rfl⟩, Below.chg B3.out PZ.chg (fun k hk => by omega) (by have := B3.out.size; omega)⟩
  have hPf : P.length ≤ 256 := rn_few hP
  have HY3 : Hid (∀ Ls, allN (cutB 47 p2) = some Ls → rt t = if validT ⟨n, P, Ls⟩ = true then some ⟨n, P, Ls⟩ else none) := Lib.hid fun Ls h => HY2.out n P Ls HN1.out hP h
  obtain ⟨ap, cp, rfl, -⟩ := oP.rd.opened
  have HOP : Hid (OwnF w3 (w.heap.size + 1) (.slice ap P.length cp) P) := Lib.hid (oP.mono (by omega))
  clear hP oP HY2 HN1 HNn HNP
  obtain ⟨wa, hwa⟩ : ∃ wa, w3.alloc (.cells #[.int .i64 0, .slice none 0 0, .slice none 0 0] 52) = wa := ⟨_, rfl⟩
  have XA : Hid (Below w3.heap.size w3 wa) := Lib.hid (by rw [← hwa]; exact (Below.refl _ _).alloc (Nat.le_refl _) _)
  have za : wa.heap.size = w3.heap.size + 1 := by rw [← hwa]; exact World.size_alloc _ _
  have h9 : wa.heap[w3.heap.size]? = some (.cells #[.int .i64 0, .slice none 0 0, .slice none 0 0] 52 (0, 0)) := by rw [← hwa]; exact alloc_new _ _
  obtain ⟨g9, hg9⟩ : ∃ g9, w3.heap.size = g9 := ⟨_, rfl⟩
  rw [hg9] at h9
  have HP8 := Lib.hid (put3 h9 (.int .i64 n) (.slice ap P.length cp) (.slice none 0 0))
  obtain ⟨m0, m1, m2, f0, f1, f2⟩ := blk3 h9
  clear h9
  obtain ⟨wz, hwz⟩ : ∃ wz, (((wa.setCell ⟨g9, 0, none⟩ (.int .i64 n)).setCell ⟨g9, 1, none⟩ (.slice ap P.length cp)).setCell ⟨g9, 2, none⟩ (.slice none 0 0)) = wz := ⟨_, rfl⟩
  rw [hwz] at HP8
  have BZ : Hid (Below w.heap.size w wz) := Lib.hid (Below.chg (B3.out.trans (XA.out.mono (by omega))) HP8.out.chg (fun k hk => by omega) (by omega))
  have HBZ : Hid (wz.heap[w.heap.size]? = some (.cells #[.int .i64 0, .slice none 0 0, .slice none 0 0] 52 (0, 0))) := Lib.hid ((HP8.out.chg.block _ (by omega) (by omega)).trans ((XA.out.block _ (by omega)).trans HW3.out))
  have HSZ : wz.heap[b5]? = w1.heap[b5]? := ((HP8.out.chg.block _ (by omega) (by omega)).trans ((XA.out.block _ (by omega)).trans HS3.out))
  have HGZ := Lib.hid HP8.out.heap
  have HOPZ : Hid (OwnF wz (w.heap.size + 1) (.slice ap P.length cp) P) := Lib.hid ((HOP.out.kept XA.out).chg HP8.out.chg fun k hk e => by have := (HOP.out.lt hk).2; omega)
  have HLP : Hid (∀ k, (Value.slice ap P.length cp).ownBlock = some k → w.heap.size + 1 ≤ k ∧ k < w3.heap.size) := Lib.hid fun k hk => HOP.out.lt hk
  have hzz1 : wa.heap.size ≤ wz.heap.size := by rw [HP8.out.size]; exact Nat.le_refl _
  have hzz2 : wz.heap.size ≤ wa.heap.size := by rw [HP8.out.size]; exact Nat.le_refl _
  obtain ⟨k0, k1, k2⟩ := HC5.out wz HSZ
  obtain ⟨mx, hmx⟩ := (HD.out.mono BZ.out).mxl
  have HSp := Lib.hid (Tryz.strings_Split p2 ⟨#[47]⟩ mx wz (by omega) hmx (Nat.le_refl 1))
  obtain ⟨hs1, hs2⟩ := splitB_cut 47 p2
  rw [hs1, hs2] at HSp
  clear hs1 hs2 hmx
  clear HSZ HS3 HC5 HP8 HOP XA HW3
  have hpos := cutB_pos 47 p2
  have HPs := Lib.hid (cutB_part 47 p2 hq2)
  generalize cutB 47 p2 = Q at *
  go_wp2_with fail
  clear hwz hwa m0 m1 m2 f0 f1 f2 k0 k1 k2
  refine HSp.out.mono ?_
  clear HSp
  rintro e w6 ⟨rfl, hw6⟩
  have HC : Hid (∀ wq : World, wq.heap[wz.heap.size]? = w6.heap[wz.heap.size]? → ∀ j, j < Q.length → wq.cell? ⟨wz.heap.size, j, none⟩ = some (.string (prt Q j))) := Lib.hid fun wq hq j hj => by
    rw [cell_of_row wq _ j _ _ _ (hq.trans (by rw [hw6]; exact alloc_new _ _))]
    rw [List.getElem?_toArray, List.getElem?_map, List.getElem?_eq_getElem hj]
    simp [prt, List.getD_eq_getElem?_getD, List.getElem?_eq_getElem hj]
  have b6 : Below wz.heap.size wz w6 := by rw [hw6]; exact (Below.refl _ _).alloc (Nat.le_refl _) _
  have z6 : w6.heap.size = wz.heap.size + 1 := by rw [hw6]; exact World.size_alloc _ _
  clear hw6
  have B6 := Lib.hid (BZ.out.trans (b6.mono BZ.out.size))
  have HW6 := Lib.hid ((b6.block _ (by omega)).trans HBZ.out)
  have HG6 := Lib.hid ((b6.block _ (by omega)).trans HGZ.out)
  have HOP6 := Lib.hid (HOPZ.out.kept b6)
  obtain ⟨g3, hg3⟩ : ∃ g3, g3 = w6.heap.size := ⟨_, rfl⟩
  clear b6 BZ HBZ HGZ HOPZ
  obtain ⟨CS, hCS⟩ : ∃ CS : Nat → Prop, CS = fun k => k = g9 ∨ k = g3 := ⟨_, rfl⟩
  have HCS : Hid (∀ k, CS k ↔ k = g9 ∨ k = g3) := Lib.hid fun k => by rw [hCS]
  clear hCS
  have hQ0 : Q.length ≤ 1048576 := hfew
  go_wp2_with fail
  go_loopw [49] (fun i wr => ∃ (j : Nat) (Ls : List (List Nat)) (vt : Value), j ≤ Q.length ∧ i = .int .i64 j ∧ allN (Q.take j) = some Ls ∧ Ls.length = j ∧ OwnC wr (fun k => (k = g3 ∨ w6.heap.size ≤ k) ∧ k < wr.heap.size) 29 1 vt j (Ls.map D1.fs) ∧ wr.heap[g9]? = some (.cells #[.int .i64 n, .slice ap P.length cp, vt] 52 (0, 0)) ∧ Chg w6 wr CS) (fun i _ => Q.length - (intOf i).toNat)
  case atStart => exact ⟨0, [], .slice none 0 0, Nat.zero_le _, rfl, rfl, rfl, ⟨[], rfl, World.ownsRow_nil w6 0 _ 1, (fun k hk => by cases hk), (fun j hj => by cases hj), (fun i j k hi => by cases hi), (fun j k hj => by cases hj)⟩, HG6.out, Chg.refl _ _⟩
  case round =>
    obtain ⟨wi, rfl⟩ : ∃ wi : World, wi = wr := ⟨_, rfl⟩
    obtain ⟨j, Ls, vt, hj, rfl, hall, hlj, ho, hb, hc⟩ := hrel
    obtain ⟨av, cv, rfl⟩ := OwnC.shape ho
    have HA := Lib.hid hall
    have HO := Lib.hid ho
    have HB := Lib.hid hb
    have HCg := Lib.hid hc
    have HLJ := Lib.hid hlj
    have hzi := hc.size
    have BI : Hid (Below w.heap.size w wi) := Lib.hid (Below.chg B6.out hc (fun k hk => by have := (HCS.out k).1 hk; omega) (by omega))
    have HWI : Hid (wi.heap[w.heap.size]? = some (.cells #[.int .i64 0, .slice none 0 0, .slice none 0 0] 52 (0, 0))) := Lib.hid ((hc.block w.heap.size (by omega) (fun hk => by have := (HCS.out _).1 hk; omega)).trans HW6.out)
    by_cases hlt : j < Q.length
    · have hc0 := HC.out wi (hc.block _ (by omega) (fun hk => by have := (HCS.out _).1 hk; omega)) j hlt
      have HXp := Lib.hid (readNumbers_any wi (prt Q j) (HPs.out _ (prt_mem Q j hlt)) (HD.out.mono BI.out))
      have HT := Lib.hid (prt_take Q j hlt)
      have HSpl := Lib.hid (prt_split Q j hlt)
      clear hall hlj ho hb hc
      generalize prt Q j = p at *
      go_wp2_with fail
      refine HXp.out.mono ?_
      clear HXp hc0
      rintro e wj ⟨u, rfl, hu, b2⟩
      have BJ := Lib.hid (BI.out.trans (b2.mono (by omega)))
      have HWJ := Lib.hid ((b2.block _ (by omega)).trans HWI.out)
      have HGJ := Lib.hid ((b2.block _ (by omega)).trans HB.out)
      have HOJ := Lib.hid (OwnC.kept HO.out b2)
      have CJ := Lib.hid (HCg.out.trans (Chg.of_below b2 _))
      have zj := b2.size
      clear b2 BI HWI HB HO HCg
      rcases hu with ⟨X, vX, hX, rfl, oX⟩ | ⟨hX, rfl⟩
      rotate_left
      · have HN : Hid (rt t = none) := Lib.hid (HNL.out (by rw [HSpl.out]; exact allN_bad hX))
        clear hX
        have PZ := put3 HWJ.out (.int .i64 0) (.slice none 0 0) (.slice none 0 0)
        have HPZ := Lib.hid PZ
        obtain ⟨m0, m1, m2, f0, f1, f2⟩ := blk3 HWJ.out
        clear PZ
        go_wp2_with fail
        have PZ := HPZ.out
        clear HPZ
        generalize (((wj.setCell ⟨w.heap.size, 0, none⟩ (.int .i64 0)).setCell ⟨w.heap.size, 1, none⟩ (.slice none 0 0)).setCell ⟨w.heap.size, 2, none⟩ (.slice none 0 0)) = wy at *
        obtain ⟨q0, q1, q2, -, -, -⟩ := blk3 PZ.heap
        refine bodyPost_ret (v := .tuple #[zeroT, .bool false]) (by simp [results, Tryz.results26, go_sem, q0, q1, q2, zeroT]) rfl ?_
        exact ⟨_, rfl, .inr ⟨HN.out, rfl⟩, Below.chg BJ.out PZ.chg (fun k hk => by omega) (by have := BJ.out.size; omega)⟩
      obtain ⟨aX, cX, rfl, -⟩ := oX.rd.opened
      have HX := Lib.hid hX
      obtain ⟨wb, hwb⟩ : ∃ wb, wj.alloc (.cells #[.slice aX X.length cX] 29) = wb := ⟨_, rfl⟩
      have xb : Below wj.heap.size wj wb := by rw [← hwb]; exact (Below.refl _ _).alloc (Nat.le_refl _) _
      have zb : wb.heap.size = wj.heap.size + 1 := by rw [← hwb]; exact World.size_alloc _ _
      have kb : wb.cell? ⟨wj.heap.size, 0, none⟩ = some (.slice aX X.length cX) := by rw [← hwb]; exact cell_new _ _ _
      have HKB := Lib.hid kb
      have XB := Lib.hid xb
      have HDX : Hid (Own1 wb (fun k => wi.heap.size ≤ k) (.fs X) (.slice aX X.length cX)) := Lib.hid (Own1.fs_ (oX.kept xb) fun k hk => (oX.lt hk).1)
      obtain ⟨k0, k1, k2, -, -, -⟩ := blk3 HGJ.out
      clear hX oX xb kb
      go_wp2_with (at_builtin; go_must (refine wpList_pushS rfl _ _ 50 29 rfl (.slice none 0 0) 24 Tryz.underlying50 Tryz.infoFS rfl (by decide) (fun k => (k = g3 ∨ w6.heap.size ≤ k) ∧ k < wi.heap.size) wi.heap.size _ _ _ rfl (OwnC.kept HOJ.out XB.out) (by omega) (fun k hk => hk.2) _ _ _ (.fs X) rfl HKB.out rfl HDX.out (by omega) ?_; intro v9 w9 o9' gr9 l9; clear hwb k0 k1 k2; have z9 := gr9.size; have o9 := o9' (fun k => (k = g3 ∨ w6.heap.size ≤ k) ∧ k < w9.heap.size) (fun k hk => ⟨hk.1, by have := hk.2; omega⟩) (fun k h1 h2 => ⟨.inr (by omega), h2⟩); obtain ⟨q9, cap9, hv9, -⟩ := (OwnC.form o9).resolve_left (fun h => by have := h.2.1; omega); subst hv9; have hb9 : w9.heap[g9]? = some (.cells #[.int .i64 n, .slice ap P.length cp, .slice av j cv] 52 (0, 0)) := (gr9.block g9 (by omega) (fun e => by have := (OwnC.lt HOJ.out _ e.symm).1; omega)).trans ((XB.out.block g9 (by omega)).trans HGJ.out); obtain ⟨k0, k1, k2, f0, f1, f2⟩ := blk3 hb9; have P9 := (Put.one hb9 2 (.slice (some ⟨q9, 0, none⟩) (j + 1) cap9)).cs (cs' := #[.int .i64 n, .slice ap P.length cp, .slice (some ⟨q9, 0, none⟩) (j + 1) cap9]) (by simp); have HP9 := Lib.hid P9; have O9 := Lib.hid o9; have C9 : Hid (Chg w6 w9 CS) := Lib.hid ((CJ.out.trans (Chg.of_below XB.out _)).onlyT (Chg.of_grown (S := fun b => (Value.slice av j cv).ownBlock = some b) gr9 fun b hb => hb) fun k hk hkl => (HCS.out k).2 (by have := (OwnC.lt HOJ.out _ hk).1; omega)); clear o9 o9' gr9 l9 hb9 P9))
      refine ⟨⟨j + 1, Ls ++ [X], _, by omega, by go_num, ?_, by rw [List.length_append, HLJ.out]; rfl, ?_, HP9.out.heap, ?_⟩, by simp [intOf]; omega⟩
      · rw [HT.out, allN_snoc, HA.out]
        simp only [HX.out]
      · rw [List.map_append, HP9.out.size]
        exact OwnC.chg O9.out HP9.out.chg (fun k hk e => by have := hk.1; have e2 : k = g9 := e; omega)
      · exact C9.out.trans (HP9.out.chg.wide fun k hk => (HCS.out k).2 (.inl hk))
    · clear hall hlj ho hb hc
      obtain rfl : j = Q.length := by omega
      have hL : allN Q = some Ls := by have := HA.out; rwa [List.take_length] at this
      have HRG2 := Lib.hid (HY3.out Ls hL)
      have HPI : Hid (OwnF wi (w.heap.size + 1) (.slice ap P.length cp) P) := Lib.hid (HOP6.out.chg HCg.out fun k hk e => by have := (HCS.out k).1 e; have := HLP.out k hk; omega)
      have hcells := blk3 HB.out
      have HRow : Hid (RdSS wi (.slice av Q.length cv) Ls) := Lib.hid (by unfold RdSS; rw [HLJ.out]; exact OwnC.rd HO.out)
      have HV := Lib.hid (implValidGather_any wi (.agg #[.int .i64 n, .slice ap P.length cp, .slice av Q.length cv]) ⟨n, P, Ls⟩ ⟨_, _, rfl, HPI.out.rd, HRow.out⟩ ⟨by show P.length ≤ 1048576; omega, by show Ls.length ≤ 1048576; rw [HLJ.out]; exact hQ0, fun j _ => Nat.le_trans (allN_few hL j) (by decide)⟩)
      obtain ⟨k0, k1, k2, -, -, -⟩ := hcells
      go_wp2_with fail
      refine HV.out.mono ?_
      clear HV k0 k1 k2
      rintro e w10 ⟨rfl, b10x⟩
      have b10 : Below wi.heap.size wi w10 := b10x
      clear b10x
      have B10 := Lib.hid (BI.out.trans (b10.mono (by omega)))
      have HW10 := Lib.hid ((b10.block _ (by omega)).trans HWI.out)
      have HG10 := Lib.hid ((b10.block _ (by omega)).trans HB.out)
      have HO10 := Lib.hid (OwnC.kept HO.out b10)
      have HP10 := Lib.hid (HPI.out.kept b10)
      have z10 := b10.size
      clear b10 hL
      cases hp : validT ⟨n, P, Ls⟩ with
      | false =>
        have HN : Hid (rt t = none) := Lib.hid (by rw [HRG2.out, hp]; rfl)
        clear hp HRG2
        have PZ := put3 HW10.out (.int .i64 0) (.slice none 0 0) (.slice none 0 0)
        have HPZ := Lib.hid PZ
        obtain ⟨m0, m1, m2, f0, f1, f2⟩ := blk3 HW10.out
        clear PZ
        go_wp2_with fail
        have PZ := HPZ.out
        clear HPZ
        generalize (((w10.setCell ⟨w.heap.size, 0, none⟩ (.int .i64 0)).setCell ⟨w.heap.size, 1, none⟩ (.slice none 0 0)).setCell ⟨w.heap.size, 2, none⟩ (.slice none 0 0)) = wy at *
        obtain ⟨q0, q1, q2, -, -, -⟩ := blk3 PZ.heap
        refine bodyPost_ret (v := .tuple #[zeroT, .bool false]) (by simp [results, Tryz.results26, go_sem, q0, q1, q2, zeroT]) rfl ?_
        exact ⟨_, rfl, .inr ⟨HN.out, rfl⟩, Below.chg B10.out PZ.chg (fun k hk => by omega) (by have := B10.out.size; omega)⟩
      | true =>
        have HN : Hid (rt t = some ⟨n, P, Ls⟩) := Lib.hid (by rw [HRG2.out, hp]; rfl)
        clear hp HRG2
        have PZ := put3 HW10.out (.int .i64 n) (.slice ap P.length cp) (.slice av Q.length cv)
        have HPZ := Lib.hid PZ
        obtain ⟨m0, m1, m2, f0, f1, f2⟩ := blk3 HW10.out
        obtain ⟨k0, k1, k2, -, -, -⟩ := blk3 HG10.out
        clear PZ
        go_wp2_with fail
        have PZ := HPZ.out
        clear HPZ
        generalize (((w10.setCell ⟨w.heap.size, 0, none⟩ (.int .i64 n)).setCell ⟨w.heap.size, 1, none⟩ (.slice ap P.length cp)).setCell ⟨w.heap.size, 2, none⟩ (.slice av Q.length cv)) = wy at *
        obtain ⟨q0, q1, q2, -, -, -⟩ := blk3 PZ.heap
        refine bodyPost_ret (v := .tuple #[.agg #[.int .i64 n, .slice ap P.length cp, .slice av Q.length cv], .bool true]) (by simp [results, Tryz.results26, go_sem, q0, q1, q2]) rfl ?_
        refine ⟨_, rfl, .inl ⟨_, _, HN.out, rfl, ⟨_, _, (fun k => w.heap.size + 1 ≤ k ∧ k < w3.heap.size), (fun k => k = g3 ∨ w6.heap.size ≤ k), rfl, (HP10.out.chg PZ.chg fun k hk e => by have := HLP.out k hk; omega).mono (Nat.zero_le _), HLP.out, ?_, fun k hk => by have := hk.1; omega, fun k hk => by omega, fun k h1 h2 => by omega⟩⟩, Below.chg B10.out PZ.chg (fun k hk => by omega) (by omega)⟩
        unfold OwnSS
        rw [HLJ.out]
        exact OwnC.wide (OwnC.chg HO10.out PZ.chg fun k hk e => by have := hk.1; omega) fun k hk => hk.1
end Go.Proofs.YtjbaebgdebcipaaGreatDoor
