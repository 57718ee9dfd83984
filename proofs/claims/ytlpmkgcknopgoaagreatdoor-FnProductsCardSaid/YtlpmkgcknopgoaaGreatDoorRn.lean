/- Walks: impl.readTexts of numbers, impl.ReadNumbers, impl.exactly. -/
import Derived.Test.YtlpmkgcknopgoaaGreatDoorRb
namespace Go.Proofs.YtlpmkgcknopgoaaGreatDoor
open Go Go.RowKit

def RnRes (n B : Nat) (t : ByteArray) (w' : World) (u : Value) : Prop :=
  (∃ L v, rn n t = some L ∧ u = .tuple #[v, .bool true] ∧ OwnF w' B v L) ∨ (rn n t = none ∧ u = .tuple #[.slice none 0 0, .bool false])
theorem rn_parts {most : Nat} {t : ByteArray} (h : ¬ t = noneT) : rn most t = if most < (cutB 44 t).length then none else allR (cutB 44 t) := by
  unfold rn
  rw [if_neg h]
def prt (P : List ByteArray) (j : Nat) : ByteArray := P.getD j ⟨#[]⟩
theorem prt_take (P : List ByteArray) (j : Nat) (h : j < P.length) : P.take (j + 1) = P.take j ++ [prt P j] := by
  rw [List.take_add_one, List.getElem?_eq_getElem h]
  simp [prt, List.getD_eq_getElem?_getD, List.getElem?_eq_getElem h]
theorem prt_split (P : List ByteArray) (j : Nat) (h : j < P.length) : P = P.take j ++ prt P j :: P.drop (j + 1) := by
  conv => lhs; rw [← List.take_append_drop j P, List.drop_eq_getElem_cons h]
  simp [prt, List.getD_eq_getElem?_getD, List.getElem?_eq_getElem h]
theorem prt_mem (P : List ByteArray) (j : Nat) (h : j < P.length) : prt P j ∈ P := by
  unfold prt
  rw [List.getD_eq_getElem?_getD, List.getElem?_eq_getElem h]
  exact List.getElem_mem h
set_option maxRecDepth 100000 in
set_option maxHeartbeats 1600000 in
theorem readTextsF_any (w : World) (t : ByteArray) (hmax : t.size ≤ 1048576) (hD : Dr w) :
    Calls Tryz.prog 69 #[.string t, .int .i64 256, .func (.func 70) #[] #[]] w fun e w' => ∃ u, e = .returned u ∧ RnRes 256 w.heap.size t w' u ∧ Below w.heap.size w w' := by
  by_cases hno : t = noneT
  · subst hno
    go_enter Tryz.func69, Tryz.ntmps69
    have H0 : Hid (rn 256 noneT = some []) := Lib.hid (by unfold rn; rw [if_pos rfl])
    unfold noneT at *
    go_wp2
    go_ret2
    exact ⟨_, rfl, .inl ⟨[], _, H0.out, rfl, OwnF.nil _ _⟩, Below.refl _ _⟩
  · have hne : ¬ t.toList = [110, 111, 110, 101] := fun e => neq_bytes hno (by rw [e, ByteArray.toList_eq]; rfl)
    have hne2 : (t.toList == [110, 111, 110, 101]) = false := by rw [beq_eq_false_iff_ne]; exact hne
    have HRN := Lib.hid (rn_parts (most := 256) hno)
    obtain ⟨m, hm⟩ := hD.mxl
    have HSp := Lib.hid (Tryz.strings_Split t ⟨#[44]⟩ m w (by omega) hm (Nat.le_refl 1))
    obtain ⟨hs1, hs2⟩ := splitB_cut 44 t
    have HPs := Lib.hid (cutB_part 44 t hmax)
    have hpl := cutB_small 44 t hmax
    rw [hs1, hs2] at HSp
    have HD := Lib.hid hD
    clear hs1 hs2 hm hD hmax hno
    generalize cutB 44 t = P at *
    go_enter Tryz.func69, Tryz.ntmps69
    go_wp2_with fail
    refine HSp.out.mono ?_
    clear HSp
    rintro e w1 ⟨rfl, hw1⟩
    have hcell : ∀ j, j < P.length → w1.cell? ⟨w.heap.size, j, none⟩ = some (.string (prt P j)) := fun j hj => by
      rw [cell_of_row w1 _ j _ _ _ (by rw [hw1]; exact alloc_new _ _)]
      rw [List.getElem?_toArray, List.getElem?_map, List.getElem?_eq_getElem hj]
      simp [prt, List.getD_eq_getElem?_getD, List.getElem?_eq_getElem hj]
    have hb1 : Below w.heap.size w w1 := by rw [hw1]; exact (Below.refl _ _).alloc (Nat.le_refl _) _
    have hz1 : w1.heap.size = w.heap.size + 1 := by rw [hw1]; exact World.size_alloc _ _
    have HC := Lib.hid hcell
    have B1 := Lib.hid hb1
    clear hcell hb1 hw1
    go_wp2_with fail
    go_loopw [8, 18] (fun v i wr => ∃ (j : Nat) (L : List Nat), j ≤ P.length ∧ j ≤ 256 ∧ i = .int .i64 j ∧ L.length = j ∧ allR (P.take j) = some L ∧ OwnF wr w1.heap.size v L ∧ Below w1.heap.size w1 wr) (fun _ i _ => P.length - (intOf i).toNat)
    case atStart => exact ⟨0, [], Nat.zero_le _, by decide, rfl, rfl, rfl, OwnF.nil _ _, Below.refl _ _⟩
    case round =>
      obtain ⟨wi, rfl⟩ : ∃ wi : World, wi = wr := ⟨_, rfl⟩
      obtain ⟨j, L, hj, hj2, rfl, hl, hall, ho, hb⟩ := hrel
      have HA := Lib.hid hall
      have HL := Lib.hid hl
      have HO := Lib.hid ho
      have HB := Lib.hid hb
      have hzi := hb.size
      obtain ⟨a8, c8, rfl, -⟩ := ho.rd.opened
      by_cases hlt : j < P.length
      · have hc0 := ((bcell hb).1 _ _ (by omega)).trans (HC.out j hlt)
        have HRB := Lib.hid (readBits_any wi (prt P j) (HPs.out _ (prt_mem P j hlt)) (HD.out.mono (B1.out.trans (hb.mono (by omega)))))
        have HT := Lib.hid (prt_take P j hlt)
        have HSpl := Lib.hid (prt_split P j hlt)
        clear hall ho hb
        rw [hl] at HO ⊢
        clear hl
        generalize prt P j = p at *
        go_wp2_with fail
        refine HRB.out.mono ?_
        clear HRB
        rintro e w2 ⟨u, rfl, hu, b2⟩
        have B2 := Lib.hid b2
        have hz2 := b2.size
        clear b2
        rcases hu with ⟨n, hn, rfl⟩ | ⟨hn, r, rfl⟩
        · have HN := Lib.hid hn
          clear hn
          by_cases h256 : j = 256
          · subst h256
            have HF : Hid (rn 256 t = none) := Lib.hid (by rw [HRN.out, if_pos (by omega)])
            go_wp2
            go_ret2
            exact ⟨_, rfl, .inr ⟨HF.out, rfl⟩, B1.out.trans ((HB.out.trans (B2.out.mono hzi)).mono (by omega))⟩
          · have hd : ((j : Int) == 256) = false := by rw [beq_eq_false_iff_ne]; omega
            go_wp2_with (at_builtin; go_must (refine wpList_push rfl _ _ rfl w1.heap.size _ L rfl ((HO.out.kept B2.out).alloc _) _ _ _ n rfl (cell_new _ _ _) (rb_cls HN.out) (by rw [HL.out]; omega) (by rw [World.size_alloc]; omega) ?_); intro v9 w9 o9 g9 b9 l9)
            refine ⟨⟨j + 1, L ++ [n], by omega, by omega, by go_num, by rw [List.length_append, HL.out]; rfl, ?_, o9, ((HB.out.trans (B2.out.mono hzi)).alloc (by omega) _).trans b9⟩, by simp [intOf]; omega⟩
            rw [HT.out, allR_snoc, HA.out]
            simp only [HN.out]
        · have HN := Lib.hid hn
          clear hn
          have HF : Hid (rn 256 t = none) := Lib.hid (by
            rw [HRN.out]
            split
            · rfl
            · rw [HSpl.out]; exact allR_bad HN.out)
          go_wp2
          go_ret2
          exact ⟨_, rfl, .inr ⟨HF.out, rfl⟩, B1.out.trans ((HB.out.trans (B2.out.mono hzi)).mono (by omega))⟩
      · obtain rfl : j = P.length := by omega
        have HF : Hid (rn 256 t = some L) := Lib.hid (by
          rw [HRN.out, if_neg (by omega)]
          have := HA.out
          rwa [List.take_length] at this)
        clear hall ho hb hl
        go_wp2
        go_ret2
        exact ⟨_, rfl, .inl ⟨L, _, HF.out, rfl, HO.out.mono (by omega)⟩, B1.out.trans (HB.out.mono (by omega))⟩
end Go.Proofs.YtlpmkgcknopgoaaGreatDoor
