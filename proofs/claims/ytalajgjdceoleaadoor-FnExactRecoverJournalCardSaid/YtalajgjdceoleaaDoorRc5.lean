/- Walks: the program's RecoverJournal; marks in a list of texts. -/
import Derived.Test.YtalajgjdceoleaaDoorRc4
import Derived.Test.YtalajgjdceoleaaDoorJ5
namespace Go.Proofs.YtalajgjdceoleaaDoor
open Go Go.RowKit

set_option maxRecDepth 100000 in
set_option maxHeartbeats 800000 in
theorem implRecover_any (w : World) (t : ByteArray) (hT : Tab10 w) :
    Calls Tryd.prog 11 #[.string t] w fun e w' => recV t w.heap.size e w' ∧ Below w.heap.size w w' := by
  by_cases h : t.size ≤ 12000
  · obtain ⟨xs, z, hx⟩ := cut_ex t
    have HK := Lib.hid (recovered_any w t h xs z hx hT)
    have HX := Lib.hid hx
    clear hx hT
    go_enter Tryd.func11, Tryd.ntmps11
    go_wp2_with fail
    refine HK.out.mono ?_
    clear HK
    rintro e w1 ⟨k, v, hk, rfl, ho, hb⟩
    obtain ⟨n, hn⟩ : ∃ n, szR xs k = n := ⟨_, rfl⟩
    have HG : Hid (recV t w.heap.size (.returned (.tuple #[v, .int .i64 (n : Nat), .bool true])) w1) := Lib.hid (by unfold recV; rw [if_pos h]; exact ⟨xs, z, k, v, HX.out, hk, by rw [hn], ho⟩)
    rw [hn]
    clear hk ho hn
    go_wp2
    go_ret3
    exact ⟨HG.out, hb⟩
  · have HG : Hid (recV t w.heap.size (.returned (.tuple #[.slice none 0 0, .int .i64 0, .bool false])) w) := Lib.hid (by unfold recV; rw [if_neg h])
    have hbig : (12000 : Int) < (t.size : Int) := by omega
    clear hT
    go_enter Tryd.func11, Tryd.ntmps11
    go_wp2
    go_ret3
    exact ⟨HG.out, Below.refl _ _⟩
theorem recV_form (t : ByteArray) : ∃ (L : List ByteArray) (n : Int) (b : Bool), L.length ≤ 12000 ∧ ∀ B e w', recV t B e w' → ∃ v, e = .returned (.tuple #[v, .int .i64 n, .bool b]) ∧ OwnStr w' B v L := by
  by_cases h : t.size ≤ 12000
  · obtain ⟨xs, z, hx⟩ := cut_ex t
    have hlen : xs.length ≤ 12000 := by
      have := cutB_len 10 t
      rw [hx, List.length_append] at this
      simp at this
      omega
    by_cases hk : ∃ k, Stop xs k
    · obtain ⟨k, hk⟩ := hk
      refine ⟨recL xs k, szR xs k, true, by rw [recL_length]; exact Nat.le_trans hk.1 hlen, fun B e w' hv => ?_⟩
      unfold recV at hv
      rw [if_pos h] at hv
      obtain ⟨ys, y, l, v, h1, h2, h3, h4⟩ := hv
      rw [hx] at h1
      obtain ⟨h5, -⟩ := List.append_inj' h1 rfl
      subst h5
      have := hk.uniq h2
      subst this
      exact ⟨v, h3, h4⟩
    · refine ⟨[], 0, true, by decide, fun B e w' hv => ?_⟩
      unfold recV at hv
      rw [if_pos h] at hv
      obtain ⟨ys, y, l, v, h1, h2, h3, h4⟩ := hv
      rw [hx] at h1
      obtain ⟨h5, -⟩ := List.append_inj' h1 rfl
      subst h5
      exact absurd ⟨l, h2⟩ hk
  · refine ⟨[], 0, false, by decide, fun B e w' hv => ?_⟩
    unfold recV at hv
    rw [if_neg h] at hv
    exact ⟨_, hv, rfl, .inl ⟨rfl, rfl⟩⟩

def mT (k : Nat) : ByteArray := (⟨#[109]⟩ : ByteArray) ++ decT k
set_option maxRecDepth 100000 in
set_option maxHeartbeats 1600000 in
theorem markText_any (w : World) (n : Nat) (h1 : 1 ≤ n) (hn : n < 1000000000000) :
    Calls Tryd.prog 19 #[.int .i64 n] w fun e w' => e = .returned (.string (mT n)) ∧ Below w.heap.size w w' := by
  go_enter Tryd.func19, Tryd.ntmps19
  go_wp2_with fail
  go_loopw [0, 3] (fun rs o wr => ∃ (L : List UInt8) (m : Nat), rs = .int .i64 m ∧ o = .string ⟨L.toArray⟩ ∧ m * 10 ^ L.length ≤ n ∧ L.length ≤ 12 ∧ DecInv n m L ∧ Below w.heap.size w wr) (fun rs _ _ => (intOf rs).toNat)
  case atStart => exact ⟨[], n, rfl, rfl, by simp, by decide, .inl ⟨rfl, rfl⟩, Below.refl _ _⟩
  case round =>
    obtain ⟨wi, rfl⟩ : ∃ wi : World, wi = wr := ⟨_, rfl⟩
    obtain ⟨L, m, rfl, rfl, hP, hL12, hI, hb⟩ := hrel
    by_cases hm : m = 0
    · subst hm
      have hL : L ≠ [] := by
        rcases hI with ⟨rfl, h⟩ | ⟨h, -⟩
        · omega
        · exact h
      have hfin : mT n = (⟨#[109]⟩ : ByteArray) ++ ⟨L.toArray⟩ := by
        rcases hI with ⟨h, -⟩ | ⟨-, h⟩
        · exact absurd h hL
        · unfold mT decT; rw [h, if_pos rfl]; rfl
      have Hf := Lib.hid hfin
      have hs : (⟨L.toArray⟩ : ByteArray).size ≤ 12 := by simp [Lib.size_eq]; exact hL12
      clear hfin hI hP
      generalize (⟨L.toArray⟩ : ByteArray) = o at *
      go_wp2
      go_ret
      refine ⟨?_, hb⟩; rw [Hf.out]; rfl
    · have hw0 : wrap64 ((m : Int) / 10) = ((m / 10 : Nat) : Int) := by
        have hm' : m < 1000000000000 := Nat.lt_of_le_of_lt (Nat.le_trans (Nat.le_mul_of_pos_right m (Nat.pos_of_ne_zero (by exact Nat.pos_iff_ne_zero.1 (Nat.pow_pos (by decide))))) hP) hn
        unfold wrap64; omega
      have h100 : m / 10 * 10 ≤ m := Nat.div_mul_le_self m 10
      have hm' : m < 1000000000000 := Nat.lt_of_le_of_lt (Nat.le_trans (Nat.le_mul_of_pos_right m (Nat.pos_of_ne_zero (by exact Nat.pos_iff_ne_zero.1 (Nat.pow_pos (by decide))))) hP) hn
      have hd : 48 + m % 10 < 256 := by omega
      have hbyte : ((UInt8.ofNat (48 + m % 10)).toNat : Int) = 48 + (m : Int) % 10 := by
        rw [UInt8.toNat_ofNat_of_lt' hd]; omega
      have hP2 : m / 10 * 10 ^ (L.length + 1) ≤ n := by
        rw [Nat.pow_succ, Nat.mul_comm (10 ^ L.length), ← Nat.mul_assoc]
        exact Nat.le_trans (Nat.mul_le_mul_right _ h100) hP
      have hL11 : L.length + 1 ≤ 12 := by
        rcases Nat.lt_or_ge L.length 12 with h | h
        · exact h
        · exfalso
          have h1 : 10 ^ 12 ≤ 10 ^ L.length := Nat.pow_le_pow_right (by decide) h
          have h2 : 1 * 10 ^ L.length ≤ m * 10 ^ L.length := Nat.mul_le_mul_right _ (by omega)
          rw [Nat.one_mul] at h2
          have h3 : (10:Nat) ^ 12 = 1000000000000 := by decide
          omega
      have hcv := run_convert_bytes_back (P := Tryd.prog) (wi.alloc (.cells #[.int .u8 (48 + (m : Int) % 10)] 5)) 54 9 5 ⟨wi.heap.size, 0, none⟩ 1 [UInt8.ofNat (48 + m % 10)] Tryd.underlying54 Tryd.underlying5 Tryd.underlying9 (by
        intro j hj
        obtain rfl : j = 0 := by simpa using hj
        refine (cell_new _ _ _).trans ?_
        rw [← hbyte]; rfl)
      simp only [List.length_cons, List.length_nil, Nat.zero_add] at hcv
      have hs : (⟨L.toArray⟩ : ByteArray).size ≤ 12 := by simp [Lib.size_eq]; exact hL12
      have hs1 : (⟨[UInt8.ofNat (48 + m % 10)].toArray⟩ : ByteArray).size ≤ 1 := by simp [Lib.size_eq]
      have HA := Lib.hid (bytes_append [UInt8.ofNat (48 + m % 10)] L)
      have HI := Lib.hid (hI.step (.inr hm))
      have HP2 := Lib.hid hP2
      have hmz : ¬ (m : Int) % 10 < 0 := by omega
      have hmp : (0 : Int) < (m : Int) := by omega
      clear hI hP hP2
      generalize (⟨[UInt8.ofNat (48 + m % 10)].toArray⟩ : ByteArray) = d at *
      generalize (⟨L.toArray⟩ : ByteArray) = o at *
      go_wp2
      have hw : (m : Int) / 10 = ((m / 10 : Nat) : Int) := by omega
      refine ⟨⟨UInt8.ofNat (48 + m % 10) :: L, m / 10, by rw [hw], by rw [HA.out]; rfl, HP2.out, hL11, HI.out, hb.alloc hb.size _⟩, ?_⟩
      rw [hw]; simp only [intOf]; omega

/-- The list of marks k, k + 1, .. -/
def mS (n k : Nat) : List ByteArray := (List.range n).map fun i => mT (k + i)
theorem mS_length (n k : Nat) : (mS n k).length = n := by simp [mS]
theorem mS_at {n k j : Nat} (h : j < n) : lnAt (mS n k) j = mT (k + j) := by
  unfold lnAt mS
  rw [List.getD_eq_getElem?_getD, List.getElem?_map, List.getElem?_range h]
  rfl
/-- Marks as far as j, and the old texts from there on. -/
def mixM (k : Nat) (L : List ByteArray) (j : Nat) : List ByteArray := (List.range L.length).map fun i => if i < j then mT (k + i) else lnAt L i
theorem mixM_length (k : Nat) (L : List ByteArray) (j : Nat) : (mixM k L j).length = L.length := by simp [mixM]
theorem mixM_zero (k : Nat) (L : List ByteArray) : mixM k L 0 = L := by
  apply List.ext_getElem?
  intro j
  by_cases hj : j < L.length
  · simp [mixM, hj, lnAt]
  · simp [mixM, hj, List.getElem?_eq_none (show L.length ≤ j by omega)]
theorem mixM_all (k : Nat) (L : List ByteArray) (j : Nat) (h : L.length ≤ j) : mixM k L j = mS L.length k := by
  unfold mixM mS
  apply List.map_congr_left
  intro i hi
  rw [if_pos (by have := List.mem_range.1 hi; omega)]
theorem mixM_set (k : Nat) (L : List ByteArray) (j : Nat) : (mixM k L j).set j (mT (k + j)) = mixM k L (j + 1) := by
  apply List.ext_getElem?
  intro i
  rw [List.getElem?_set]
  by_cases hi : i < L.length
  · by_cases hji : j = i
    · subst hji
      simp [mixM, hi]
    · rw [if_neg hji]
      simp only [mixM, List.getElem?_map, List.getElem?_range hi, Option.map_some]
      by_cases h1 : i < j
      · rw [if_pos h1, if_pos (by omega)]
      · rw [if_neg h1, if_neg (by omega)]
  · rw [List.getElem?_eq_none (by rw [mixM_length]; omega), List.getElem?_eq_none (by rw [mixM_length]; omega)]
    split
    · rw [if_neg (by rw [mixM_length]; omega)]
    · rfl
set_option maxRecDepth 100000 in
set_option maxHeartbeats 1600000 in
theorem markStringS_any (w : World) (v : Value) (L : List ByteArray) (B k : Nat) (h : OwnStr w B v L) (hB : B ≤ w.heap.size) (hk : 1 ≤ k) (hmax : k + L.length ≤ 1048576) :
    Calls Tryd.prog 12 #[v, .int .i64 k] w fun e w' => e = .returned (.int .i64 ((k + L.length : Nat) : Int)) ∧ OwnStr w' B v (mS L.length k) ∧ Below B w w' := by
  rcases h.2 with ⟨rfl, hn⟩ | ⟨g, cap, cur, rfl, hBg, hg, hcap, -⟩
  · obtain rfl : L = [] := List.eq_nil_of_length_eq_zero hn
    go_enter Tryd.func12, Tryd.ntmps12
    go_wp2_with fail
    go_loopw [1, 5] (fun q i wr => q = .int .i64 k ∧ i = .int .i64 0 ∧ wr = w) (fun _ _ _ => 0)
    case atStart => exact ⟨rfl, rfl, rfl⟩
    case round =>
      obtain ⟨rfl, rfl, rfl⟩ := hrel
      go_wp2
      go_ret
      exact ⟨rfl, h, Below.refl _ _⟩
  · have hglt : g < w.heap.size := (Array.getElem?_eq_some_iff.1 hg).1
    go_enter Tryd.func12, Tryd.ntmps12
    go_wp2_with fail
    go_loopw [1, 5] (fun q i wr => ∃ j : Nat, j ≤ L.length ∧ i = .int .i64 j ∧ q = .int .i64 ((k + j : Nat) : Int) ∧ OwnStr wr B (.slice (some ⟨g, 0, none⟩) L.length cap) (mixM k L j) ∧ Below B w wr) (fun _ i _ => L.length - (intOf i).toNat)
    case atStart => exact ⟨0, Nat.zero_le _, rfl, rfl, by rw [mixM_zero]; exact h, Below.refl _ _⟩
    case round =>
      obtain ⟨wi, rfl⟩ : ∃ wi : World, wi = wr := ⟨_, rfl⟩
      obtain ⟨j, hj, rfl, rfl, ho, hb⟩ := hrel
      by_cases hlt : j < L.length
      · have HK := Lib.hid (markText_any wi (k + j) (by omega) (by omega))
        have Ho := Lib.hid ho
        have HM := Lib.hid (mixM_set k L j)
        have hml := mixM_length k L j
        clear ho
        generalize mT (k + j) = m at HK HM
        go_wp2_with fail
        refine HK.out.mono ?_
        rintro e w1 ⟨rfl, hb1⟩
        have ho1 := Ho.out.kept hb1
        unfold OwnStr at ho1
        rw [hml] at ho1
        have c3 : w1.cell? ⟨g, j, none⟩ = some (.string (lnAt (mixM k L j) j)) := by
          rw [World.ownsRow.cellAt ho1 j (by omega)]
          simp [List.getElem?_map, List.getElem?_eq_getElem (show j < (mixM k L j).length by rw [hml]; exact hlt), lnAt]
        have hfr : w1.frozen? ⟨g, j, none⟩ = false := World.ownsRow.frozenAt ho1 j
        have ho' := Lib.hid ho1
        have hbs := hb.size
        clear ho1
        go_wp2
        refine ⟨⟨j + 1, by omega, by go_num, by go_num, ?_, ((hb.trans (hb1.mono (by omega))).setCell hBg _)⟩, by simp [intOf]; omega⟩
        have h2 := (ho'.out.stored j (.string m)).1
        rw [← HM.out]
        unfold OwnStr
        rw [List.length_set, List.map_set, hml]
        exact h2
      · obtain rfl : j = L.length := by omega
        go_wp2
        go_ret
        rw [mixM_all _ _ _ (Nat.le_refl _)] at ho
        exact ⟨rfl, ho, hb⟩
set_option maxRecDepth 100000 in
set_option maxHeartbeats 1600000 in
theorem heldStringS_any (w : World) (v : Value) (n k : Nat) (h : RdStr w v (mS n k)) (hk : 1 ≤ k) (hmax : k + n ≤ 1048576) :
    Calls Tryd.prog 13 #[v, .int .i64 k] w fun e w' => e = .returned (.int .i64 ((k + n : Nat) : Int)) ∧ Below w.heap.size w w' := by
  obtain ⟨a, c, rfl, hc, -, hcell⟩ := h.opened
  rw [mS_length] at hc hcell ⊢
  go_enter Tryd.func13, Tryd.ntmps13
  go_wp2_with fail
  go_loopw [1, 5] (fun q i wr => ∃ j : Nat, j ≤ n ∧ i = .int .i64 j ∧ q = .int .i64 ((k + j : Nat) : Int) ∧ Below w.heap.size w wr) (fun _ i _ => n - (intOf i).toNat)
  case atStart => exact ⟨0, Nat.zero_le _, rfl, rfl, Below.refl _ _⟩
  case round =>
    obtain ⟨wi, rfl⟩ : ∃ wi : World, wi = wr := ⟨_, rfl⟩
    obtain ⟨j, hj, rfl, rfl, hb⟩ := hrel
    by_cases hlt : j < n
    · obtain ⟨b, o, rfl, hlb, d0⟩ := hcell j hlt
      rw [mS_at hlt] at d0
      have KD : ∀ w1 : World, Calls Tryd.prog 19 #[.int .i64 ((k + j : Nat) : Int)] w1 fun e w' => e = .returned (.string (mT (k + j))) ∧ Below w1.heap.size w1 w' := fun w1 => markText_any w1 (k + j) (by omega) (by omega)
      generalize mT (k + j) = m at d0 KD
      have HX : Hid (wi.cell? ⟨b, o + j, none⟩ = some (.string m)) := Lib.hid (((bcell hb).1 _ _ hlb).trans d0)
      have KD := Lib.hid KD
      have hbx : b < wi.heap.size := Nat.lt_of_lt_of_le hlb hb.size
      clear d0 hcell
      go_upto_region 4 with fail
      refine region_rel_all (by kernel_rfl) (by kernel_rfl) (Below wi.heap.size wi) (fun _ _ v => v = .string m) (Below.drewN (Below.refl _ _) 1) ?_
      repeat (refine wpRel_un rfl rfl (fun wq hq K hK => ?_); (have q0 := ((bcell hq).1 _ _ hbx).trans HX.out); go_wp2; clear q0)
      refine wpRel_callF #[.int .i64 ((k + j : Nat) : Int)] Tryd.func19 (by kernel_rfl) (by kernel_rfl) (by simp [go_sem]) ⟨wi, Below.refl _ _⟩ ⟨_, rfl⟩
        (fun wq hq => (KD.out wq).mono fun e w'' ⟨he, hw⟩ => ⟨_, he, rfl, hq.trans (hw.mono hq.size)⟩) ?_
      rintro v rfl
      simp only [Act.put, List.setIfInBounds_toArray, List.set_cons_succ, List.set_cons_zero]
      repeat (refine wpRel_un rfl rfl (fun wq hq K hK => ?_); (have q0 := ((bcell hq).1 _ _ hbx).trans HX.out); go_wp2; clear q0)
      refine wpRel_nil ?_
      intro wd hbd
      go_wp2
      exact ⟨⟨j + 1, by omega, by go_num, by go_num, hb.trans (hbd.mono hb.size)⟩, by simp [intOf]; omega⟩
    · obtain rfl : j = n := by omega
      clear hcell
      go_wp2
      go_ret
      exact ⟨rfl, hb⟩
end Go.Proofs.YtalajgjdceoleaaDoor
