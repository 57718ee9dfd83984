/- Walks: impl.readTexts of integers, impl.ReadList. -/
import Derived.Test.YtjbaebgdebcipaaGreatDoorRn
import Derived.Test.YtjbaebgdebcipaaGreatDoorDcW
namespace Go.Proofs.YtjbaebgdebcipaaGreatDoor
open Go Go.RowKit

theorem Tryz.infoI64 : (Tryz.prog.info? 2).map (fun i => (i.zero, i.size, i.bytes)) = some (some (.int .i64 0), 1, 8) := by kernel_rfl
theorem ownI_kept {w w' : World} {B : Nat} {v : Value} {L : List Int} (h : OwnI w B v L) (hb : Below w.heap.size w w') : OwnI w' B v L :=
  ownsRow_same h fun k hk => hb.block k (World.ownsRow.lt h k hk).2
theorem RdI.opened {w : World} {v : Value} {L : List Int} (h : RdI w v L) :
    ∃ a c, v = .slice a L.length c ∧ L.length ≤ c ∧ (a = none → c = 0) ∧ ∀ j, j < L.length → ∃ b o, a = some ⟨b, o, none⟩ ∧ b < w.heap.size ∧ w.cell? ⟨b, o + j, none⟩ = some (.int .i64 (L.getD j 0)) := by
  obtain ⟨a, c, hv, hc, hz, hr⟩ := h
  refine ⟨a, c, hv, hc, hz, fun j hj => ?_⟩
  obtain ⟨b, o, u, ha, hu, rfl⟩ := hr j hj
  exact ⟨b, o, ha, block_lt hu, hu⟩
def RlRes (B : Nat) (t : ByteArray) (w' : World) (u : Value) : Prop :=
  (∃ L v, rl t = some L ∧ u = .tuple #[v, .bool true] ∧ OwnI w' B v L) ∨ (rl t = none ∧ u = .tuple #[.slice none 0 0, .bool false])
theorem rl_parts {t : ByteArray} (h : ¬ t = noneT) : rl t = if 64 < (cutB 44 t).length then none else allD (cutB 44 t) := by
  unfold rl
  rw [if_neg h]

set_option maxRecDepth 100000 in
set_option maxHeartbeats 1600000 in
theorem readTextsI_any (w : World) (t : ByteArray) (hmax : t.size ≤ 1048576) (hD : Dr w) (hT10 : Tab10 w) :
    Calls Tryz.prog 71 #[.string t, .int .i64 64, .func (.func 57) #[] #[]] w fun e w' => ∃ u, e = .returned u ∧ RlRes w.heap.size t w' u ∧ Below w.heap.size w w' := by
  by_cases hno : t = noneT
  · subst hno
    go_enter Tryz.func71, Tryz.ntmps71
    have H0 : Hid (rl noneT = some []) := Lib.hid (by unfold rl; rw [if_pos rfl])
    unfold noneT at *
    go_wp2
    go_ret2
    exact ⟨_, rfl, .inl ⟨[], _, H0.out, rfl, World.ownsRow_nil _ _ _ 1⟩, Below.refl _ _⟩
  · have hne : ¬ t.toList = [110, 111, 110, 101] := fun e => neq_bytes hno (by rw [e, ByteArray.toList_eq]; rfl)
    have hne2 : (t.toList == [110, 111, 110, 101]) = false := by rw [beq_eq_false_iff_ne]; exact hne
    have HRN := Lib.hid (rl_parts hno)
    obtain ⟨m, hm⟩ := hD.mxl
    have HSp := Lib.hid (Tryz.strings_Split t ⟨#[44]⟩ m w (by omega) hm (Nat.le_refl 1))
    obtain ⟨hs1, hs2⟩ := splitB_cut 44 t
    have HPs := Lib.hid (cutB_part 44 t hmax)
    have hpl := cutB_small 44 t hmax
    rw [hs1, hs2] at HSp
    have HD := Lib.hid hD
    have HT10 := Lib.hid hT10
    clear hs1 hs2 hm hD hT10 hmax hno
    generalize cutB 44 t = P at *
    go_enter Tryz.func71, Tryz.ntmps71
    go_wp2_with fail
    refine HSp.out.mono ?_
    clear HSp
    rintro e w1 ⟨rfl, hw1⟩
    have hcell : ∀ j, j < P.length → w1.cell? ⟨w.heap.size, j, none⟩ = some (.string (prt P j)) := fun j hj => by
      rw [cell_of_row w1 _ j _ _ _ (by rw [hw1]; exact alloc_new _ _)]
      rw [List.getElem?_toArray, List.getElem?_map, List.getElem?_eq_getElem hj]
      simp [prt, List.getD_eq_getElem?_getD, List.getElem?_eq_getElem hj]
    have hb1 : Below w.heap.size w w1 := by rw [hw1]; exact (Below.refl _ _).alloc (Nat.le_refl _) _
    have hz1 : w1.heap.size = w.heap.size + 1 := by rw [hw1]; exact World.size_alloc _ _
    have HC := Lib.hid hcell
    have B1 := Lib.hid hb1
    clear hcell hb1 hw1
    go_wp2_with fail
    go_loopw [8, 18] (fun v i wr => ∃ (j : Nat) (L : List Int), j ≤ P.length ∧ j ≤ 64 ∧ i = .int .i64 j ∧ L.length = j ∧ allD (P.take j) = some L ∧ OwnI wr w1.heap.size v L ∧ Below w1.heap.size w1 wr) (fun _ i _ => P.length - (intOf i).toNat)
    case atStart => exact ⟨0, [], Nat.zero_le _, by decide, rfl, rfl, rfl, World.ownsRow_nil _ _ _ 1, Below.refl _ _⟩
    case round =>
      obtain ⟨wi, rfl⟩ : ∃ wi : World, wi = wr := ⟨_, rfl⟩
      obtain ⟨j, L, hj, hj2, rfl, hl, hall, ho, hb⟩ := hrel
      have HA := Lib.hid hall
      have HL := Lib.hid hl
      have HO := Lib.hid ho
      have HB := Lib.hid hb
      have hzi := hb.size
      obtain ⟨a8, c8, rfl, -⟩ := (OwnI.rd ho).opened
      by_cases hlt : j < P.length
      · have hc0 := ((bcell hb).1 _ _ (by omega)).trans (HC.out j hlt)
        have HRB := Lib.hid (readDecimal_any wi (prt P j) (HPs.out _ (prt_mem P j hlt)) (HD.out.mono (B1.out.trans (hb.mono (by omega)))) (HT10.out.mono (B1.out.trans (hb.mono (by omega)))))
        have HT := Lib.hid (prt_take P j hlt)
        have HSpl := Lib.hid (prt_split P j hlt)
        clear hall ho hb
        rw [hl] at HO ⊢
        clear hl
        generalize prt P j = p at *
        go_wp2_with fail
        refine HRB.out.mono ?_
        clear HRB
        rintro e w2 ⟨u, rfl, hu, b2⟩
        have B2 := Lib.hid b2
        have hz2 := b2.size
        clear b2
        rcases hu with ⟨n, hn, rfl⟩ | ⟨hn, rfl⟩
        · have HN := Lib.hid hn
          clear hn
          by_cases h64 : j = 64
          · subst h64
            have HF : Hid (rl t = none) := Lib.hid (by rw [HRN.out, if_pos (by omega)])
            go_wp2
            go_ret2
            exact ⟨_, rfl, .inr ⟨HF.out, rfl⟩, B1.out.trans ((HB.out.trans (B2.out.mono hzi)).mono (by omega))⟩
          · have hd : ((j : Int) == 64) = false := by rw [beq_eq_false_iff_ne]; omega
            go_wp2_with (at_builtin; go_must (refine wpList_push1 rfl _ _ 69 2 rfl (.int .i64 0) 8 Tryz.underlying69 Tryz.infoI64 rfl (by decide) w1.heap.size _ _ _ rfl (ownI_kept (ownI_kept HO.out B2.out) ((Below.refl _ _).alloc (Nat.le_refl _) _)) _ _ _ rfl (cell_new _ _ _) rfl (by rw [HL.out]; omega) (by rw [World.size_alloc]; omega) ?_); intro v9 w9 o9 g9 b9)
            refine ⟨⟨j + 1, L ++ [n], by omega, by omega, by go_num, by rw [List.length_append, HL.out]; rfl, ?_, by unfold OwnI; rw [List.map_append, List.length_append]; exact o9, ((HB.out.trans (B2.out.mono hzi)).alloc (by omega) _).trans b9⟩, by simp [intOf]; omega⟩
            rw [HT.out, allD_snoc, HA.out]
            simp only [HN.out]
        · have HN := Lib.hid hn
          clear hn
          have HF : Hid (rl t = none) := Lib.hid (by
            rw [HRN.out]
            split
            · rfl
            · rw [HSpl.out]; exact allD_bad HN.out)
          go_wp2
          go_ret2
          exact ⟨_, rfl, .inr ⟨HF.out, rfl⟩, B1.out.trans ((HB.out.trans (B2.out.mono hzi)).mono (by omega))⟩
      · obtain rfl : j = P.length := by omega
        have HF : Hid (rl t = some L) := Lib.hid (by
          rw [HRN.out, if_neg (by omega)]
          have := HA.out
          rwa [List.take_length] at this)
        clear hall ho hb hl
        go_wp2
        go_ret2
        exact ⟨_, rfl, .inl ⟨L, _, HF.out, rfl, ownsRow_lower HO.out (by omega)⟩, B1.out.trans (HB.out.mono (by omega))⟩

set_option maxRecDepth 100000 in
set_option maxHeartbeats 800000 in
theorem readList_any (w : World) (t : ByteArray) (hmax : t.size ≤ 1048576) (hD : Dr w) (hT10 : Tab10 w) :
    Calls Tryz.prog 39 #[.string t] w fun e w' => ∃ u, e = .returned u ∧ RlRes w.heap.size t w' u ∧ Below w.heap.size w w' := by
  have HR := Lib.hid (readTextsI_any w t hmax hD hT10)
  clear hD hT10
  go_enter Tryz.func39, Tryz.ntmps39
  go_wp2_with fail
  refine HR.out.mono ?_
  clear HR
  rintro e w1 ⟨u, rfl, hu, b1⟩
  have B1 := Lib.hid b1
  clear b1
  rcases hu with ⟨L, v, hL, rfl, ho⟩ | ⟨hL, rfl⟩
  · have HL := Lib.hid hL
    have HO := Lib.hid ho
    clear hL ho
    go_wp2
    go_ret2
    exact ⟨_, rfl, .inl ⟨L, v, HL.out, rfl, HO.out⟩, B1.out⟩
  · have HL := Lib.hid hL
    clear hL
    go_wp2
    go_ret2
    exact ⟨_, rfl, .inr ⟨HL.out, rfl⟩, B1.out⟩
end Go.Proofs.YtjbaebgdebcipaaGreatDoor
