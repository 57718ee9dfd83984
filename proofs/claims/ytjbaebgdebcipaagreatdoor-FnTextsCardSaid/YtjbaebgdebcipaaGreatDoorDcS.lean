/- Walks: decimal numerals: the reference's, of either sign. -/
import Derived.Test.YtjbaebgdebcipaaGreatDoorDcW
import Derived.Test.YtjbaebgdebcipaaGreatDoorPrim
namespace Go.Proofs.YtjbaebgdebcipaaGreatDoor
open Go Go.RowKit

theorem Tryz.infoU8 : (Tryz.prog.info? 5).map (fun i => (i.zero, i.size, i.bytes)) = some (some (.int .u8 0), 1, 1) := by kernel_rfl
theorem ByteArray.append_empty' (S : ByteArray) : S ++ (⟨#[]⟩ : ByteArray) = S := by
  apply ByteArray.ext
  simp [ByteArray.data_append]
/-- 'append' of bytes to bytes of the call's own. -/
theorem wpList_catB {ops : Array Oper} {rest : List Oper} {o : Oper} {a : Act} {w : World} {Q : Exit → Act → World → Prop} (hgd : o.guard = none) (s x : Operand)
    (ho : o.op = .call { callee := .builtin .append, args := #[s, x], argTypes := #[22, 22] }) (B : Nat) (v : Value) (A L : List UInt8) (hs : a.eval s = v) (hown : OwnB w B v A)
    (g cap : Nat) (hx : a.eval x = .slice (some ⟨g, 0, none⟩) L.length cap) (hcells : ∀ j (hj : j < L.length), w.cell? ((⟨g, 0, none⟩ : Addr).add j) = some (.int .u8 (L[j].toNat : Int))) (hlen : A.length + L.length ≤ 1048576) (hB : B ≤ w.heap.size)
    (h : ∀ v' w', OwnB w' B v' (A ++ L) → Below B w w' → wpList Tryz.prog ops Q rest (a.put o.dst v') w') : wpList Tryz.prog ops Q (o :: rest) a w := by
  obtain ⟨i0, hi, hz0, hz1, hz2⟩ := info_parts Tryz.infoU8
  refine wpList_append_own2 hgd s x 22 ho B 5 i0 (.int .u8 0) 1 1 Tryz.underlying22 hi hz0 hz1 hz2 rfl (by decide) v A.length _ hs hown ⟨g, 0, none⟩ L.length cap (L.map bv) hx (by simp) ?_ ?_ ?_ ?_ hB ?_
  · intro j y hy
    have hj : j < L.length := by simpa using (List.getElem?_eq_some_iff.1 hy).1
    rw [hcells j hj]
    rw [List.getElem?_map, List.getElem?_eq_getElem hj] at hy
    simpa [bv] using hy
  · intro y hy
    obtain ⟨b, _, rfl⟩ := List.mem_map.1 hy
    rfl
  · unfold maxLen; omega
  · omega
  · intro v' w' h1 h2 _
    refine h v' w' ?_ ((Below.refl _ _).grown h2 hB fun k hk => (hown.lt k hk).1)
    unfold OwnB
    rw [List.length_append, List.map_append]
    exact h1
def BytesAt (w : World) (u : Value) (L : List UInt8) : Prop := ∃ g cap, u = .slice (some ⟨g, 0, none⟩) L.length cap ∧ g < w.heap.size ∧ ∀ j (hj : j < L.length), w.cell? ((⟨g, 0, none⟩ : Addr).add j) = some (.int .u8 (L[j].toNat : Int))
theorem OwnB.at_ {w : World} {B : Nat} {v : Value} {L : List UInt8} (h : OwnB w B v L) (hl : L ≠ []) : BytesAt w v L := by
  obtain ⟨g, cap, rfl, hB, hc⟩ := h.form hl
  exact ⟨g, cap, rfl, (World.ownsRow.lt h g rfl).2, hc⟩
theorem OwnB.fresh (w : World) (B : Nat) (hB : B ≤ w.heap.size) (b : UInt8) : OwnB (w.alloc (.cells #[bv b] 5)) B (.slice (some ⟨w.heap.size, 0, none⟩) 1 1) [b] :=
  ⟨rfl, .inr ⟨w.heap.size, 1, #[bv b], rfl, hB, alloc_new w _, Nat.le_refl _, by decide, rfl, rfl⟩⟩
def sliceLen : Value → Nat
  | .slice _ l _ => l
  | _ => 0
def DecInv (n m : Nat) (L : List UInt8) : Prop := (L = [] ∧ m = n) ∨ (L ≠ [] ∧ Lib.decDigits n = (if m = 0 then [] else Lib.decDigits m) ++ L)
theorem decDigits_step (m : Nat) : Lib.decDigits m = (if m / 10 = 0 then [] else Lib.decDigits (m / 10)) ++ [UInt8.ofNat (48 + m % 10)] := by
  by_cases h : m < 10
  · rw [Lib.decDigits_one h, if_pos (by omega), Nat.mod_eq_of_lt h]
    rfl
  · rw [if_neg (by omega)]
    rw [Lib.decDigits, dif_neg h]
theorem DecInv.step {n m : Nat} {L : List UInt8} (h : DecInv n m L) (hm : L = [] ∨ m ≠ 0) : DecInv n (m / 10) (UInt8.ofNat (48 + m % 10) :: L) := by
  refine .inr ⟨by simp, ?_⟩
  rcases h with ⟨rfl, rfl⟩ | ⟨hne, h⟩
  · rw [decDigits_step m]
  · have hm0 : m ≠ 0 := hm.resolve_left hne
    rw [h, if_neg hm0, decDigits_step m, List.append_assoc]
    rfl

set_option maxRecDepth 100000 in
set_option maxHeartbeats 1600000 in
theorem l01DecP_any (w : World) (n : Nat) (hn : n < 10000000000000000) :
    Calls Tryz.prog 109 #[.int .i64 n] w fun e w' => e = .returned (.string ⟨(Lib.decDigits n).toArray⟩) ∧ Below w.heap.size w w' := by
  have hb0 : Below w.heap.size w (w.alloc (.cells #[] 5)) := (Below.refl _ _).alloc (Nat.le_refl _) _
  have hA0 : BytesAt (w.alloc (.cells #[] 5)) (.slice (some ⟨w.heap.size, 0, none⟩) 0 0) [] := ⟨w.heap.size, 0, rfl, by rw [World.size_alloc]; omega, fun j hj => by cases hj⟩
  have hnneg : ¬ ((n : Int) < 0) := by omega
  go_enter Tryz.func109, Tryz.ntmps109
  go_wp2_with fail
  go_loopw [3, 4, 5] (fun u rs _ wr => ∃ (L : List UInt8) (m : Nat), rs = .int .i64 m ∧ m * 10 ^ L.length ≤ n ∧ L.length ≤ 16 ∧ BytesAt wr u L ∧ DecInv n m L ∧ Below w.heap.size w wr) (fun u rs _ _ => 2 * (intOf rs).toNat + (1 - sliceLen u))
  case atStart => exact ⟨[], n, rfl, by simp, by decide, hA0, .inl ⟨rfl, rfl⟩, hb0⟩
  case round =>
    obtain ⟨wi, rfl⟩ : ∃ wi : World, wi = wr := ⟨_, rfl⟩
    obtain ⟨L, m, rfl, hP, hL16, ⟨g, cap, rfl, hg, hcells⟩, hI, hb⟩ := hrel
    clear hA0 hb0
    by_cases hgo : L = [] ∨ m ≠ 0
    · have hw0 : wrap64 ((m : Int) / 10) = ((m / 10 : Nat) : Int) := by
        have hm' : m < 10000000000000000 := Nat.lt_of_le_of_lt (Nat.le_trans (Nat.le_mul_of_pos_right m (Nat.pos_of_ne_zero (by exact Nat.pos_iff_ne_zero.1 (Nat.pow_pos (by decide))))) hP) hn
        unfold wrap64; omega
      have h100 : m / 10 * 10 ≤ m := Nat.div_mul_le_self m 10
      have hm' : m < 10000000000000000 := Nat.lt_of_le_of_lt (Nat.le_trans (Nat.le_mul_of_pos_right m (Nat.pos_of_ne_zero (by exact Nat.pos_iff_ne_zero.1 (Nat.pow_pos (by decide))))) hP) hn
      have hd : 48 + m % 10 < 256 := by omega
      have hbyte : ((UInt8.ofNat (48 + m % 10)).toNat : Int) = 48 + (m : Int) % 10 := by
        rw [UInt8.toNat_ofNat_of_lt' hd]; omega
      by_cases hL : L = []
      · subst hL
        go_wp2
        have hw : (m : Int) / 10 = ((m / 10 : Nat) : Int) := by omega
        refine ⟨⟨[UInt8.ofNat (48 + m % 10)], m / 10, by rw [hw], ?_, by simp, ⟨wi.heap.size, 1, rfl, by rw [World.size_alloc]; omega, ?_⟩, hI.step (.inl rfl), hb.alloc hb.size _⟩, ?_⟩
        · simp only [List.length_nil, Nat.pow_zero, List.length_cons] at hP ⊢; omega
        · intro j hj
          obtain rfl : j = 0 := by simpa using hj
          refine (cell_new _ _ _).trans ?_
          rw [← hbyte]; rfl
        · rw [hw]; simp only [intOf, sliceLen, List.length_nil]; omega
      · have hm : m ≠ 0 := hgo.resolve_left hL
        have hL0 : L.length ≠ 0 := fun h => hL (List.eq_nil_of_length_eq_zero h)
        have ht1 : ((L.length : Int) == 0) = false := by simp; exact hL
        have ht2 : ((m : Int) != 0) = true := by simp; exact hm
        have hmz : ¬ (m : Int) % 10 < 0 := by omega
        have hP2 : m / 10 * 10 ^ (L.length + 1) ≤ n := by
          rw [Nat.pow_succ, Nat.mul_comm (10 ^ L.length), ← Nat.mul_assoc]
          exact Nat.le_trans (Nat.mul_le_mul_right _ h100) hP
        have hL15 : L.length + 1 ≤ 16 := by
          rcases Nat.lt_or_ge L.length 16 with h | h
          · exact h
          · exfalso
            have h1 : 10 ^ 16 ≤ 10 ^ L.length := Nat.pow_le_pow_right (by decide) h
            have h2 : 1 * 10 ^ L.length ≤ m * 10 ^ L.length := Nat.mul_le_mul_right _ (by omega)
            rw [Nat.one_mul] at h2
            have h3 : (10:Nat) ^ 16 = 10000000000000000 := by decide
            omega
        have HP := Lib.hid hP
        have HI := Lib.hid hI
        have HC := Lib.hid hcells
        have HP2 := Lib.hid hP2
        clear hP hI hcells hP2
        go_wp2_with (at_builtin; refine wpList_catB rfl _ _ rfl w.heap.size _ [UInt8.ofNat (48 + m % 10)] L rfl (by have h := OwnB.fresh wi w.heap.size hb.size (UInt8.ofNat (48 + m % 10)); unfold bv at h; rw [hbyte] at h; exact h) g cap rfl (fun j hj => Lib.cell?_alloc_some _ (HC.out j hj)) (by simp; omega) (by rw [World.size_alloc]; have := hb.size; omega) ?_; intro v2 w2 h2 b2)
        have hw : (m : Int) / 10 = ((m / 10 : Nat) : Int) := by omega
        obtain ⟨g2, cap2, rfl, hg2, hc2⟩ := h2.at_ (by simp)
        refine ⟨⟨UInt8.ofNat (48 + m % 10) :: L, m / 10, by rw [hw], HP2.out, hL15, ⟨g2, cap2, rfl, hg2, hc2⟩, HI.out.step (.inr hm), (hb.alloc hb.size _).trans b2⟩, ?_⟩
        rw [hw]; simp only [intOf, sliceLen, List.length_append, List.length_cons, List.length_nil]; omega
    · have hL : L ≠ [] := fun h => hgo (.inl h)
      obtain rfl : m = 0 := by
        rcases Nat.eq_zero_or_pos m with h | h
        · exact h
        · exact absurd (.inr (by omega)) hgo
      have hL0 : L.length ≠ 0 := fun h => hL (List.eq_nil_of_length_eq_zero h)
      have ht1 : ((L.length : Int) == 0) = false := by simp; exact hL
      have hcv := run_convert_bytes_back (P := Tryz.prog) wi 22 9 5 ⟨g, 0, none⟩ cap L Tryz.underlying22 Tryz.underlying5 Tryz.underlying9 hcells
      clear hcells
      have hfin : Lib.decDigits n = L := by
        rcases hI with ⟨h, -⟩ | ⟨-, h⟩
        · exact absurd h hL
        · rw [h, if_pos rfl]; rfl
      have Hf := Lib.hid hfin
      clear hfin hI hP
      go_wp2
      go_ret
      refine ⟨?_, hb⟩; rw [Hf.out]; rfl
set_option maxRecDepth 100000 in
set_option maxHeartbeats 1600000 in
theorem l01DecN_any (w : World) (n : Nat) (hn0 : 0 < n) (hn : n < 10000000000000000) :
    Calls Tryz.prog 109 #[.int .i64 (-(n : Int))] w fun e w' => e = .returned (.string ⟨(45 :: Lib.decDigits n).toArray⟩) ∧ Below w.heap.size w w' := by
  have hb0 : Below w.heap.size w (w.alloc (.cells #[] 5)) := (Below.refl _ _).alloc (Nat.le_refl _) _
  have hA0 : BytesAt (w.alloc (.cells #[] 5)) (.slice (some ⟨w.heap.size, 0, none⟩) 0 0) [] := ⟨w.heap.size, 0, rfl, by rw [World.size_alloc]; omega, fun j hj => by cases hj⟩
  have hneg : (-(n : Int)) < 0 := by omega
  have hnneg : decide ((-(n : Int)) < 0) = true := by simp; omega
  go_enter Tryz.func109, Tryz.ntmps109
  go_wp2_with fail
  go_loopw [3, 4, 5] (fun u rs _ wr => ∃ (L : List UInt8) (m : Nat), rs = .int .i64 (-(m : Int)) ∧ m * 10 ^ L.length ≤ n ∧ L.length ≤ 16 ∧ BytesAt wr u L ∧ DecInv n m L ∧ Below w.heap.size w wr) (fun u rs _ _ => 2 * (-(intOf rs)).toNat + (1 - sliceLen u))
  case atStart => exact ⟨[], n, rfl, by simp, by decide, hA0, .inl ⟨rfl, rfl⟩, hb0⟩
  case round =>
    obtain ⟨wi, rfl⟩ : ∃ wi : World, wi = wr := ⟨_, rfl⟩
    obtain ⟨L, m, rfl, hP, hL16, ⟨g, cap, rfl, hg, hcells⟩, hI, hb⟩ := hrel
    clear hA0 hb0
    by_cases hgo : L = [] ∨ m ≠ 0
    · have hw0 : wrap64 ((m : Int) / 10) = ((m / 10 : Nat) : Int) := by
        have hm' : m < 10000000000000000 := Nat.lt_of_le_of_lt (Nat.le_trans (Nat.le_mul_of_pos_right m (Nat.pos_of_ne_zero (by exact Nat.pos_iff_ne_zero.1 (Nat.pow_pos (by decide))))) hP) hn
        unfold wrap64; omega
      have h100 : m / 10 * 10 ≤ m := Nat.div_mul_le_self m 10
      have hm' : m < 10000000000000000 := Nat.lt_of_le_of_lt (Nat.le_trans (Nat.le_mul_of_pos_right m (Nat.pos_of_ne_zero (by exact Nat.pos_iff_ne_zero.1 (Nat.pow_pos (by decide))))) hP) hn
      have hd : 48 + m % 10 < 256 := by omega
      have hbyte : ((UInt8.ofNat (48 + m % 10)).toNat : Int) = 48 + (m : Int) % 10 := by
        rw [UInt8.toNat_ofNat_of_lt' hd]; omega
      by_cases hL : L = []
      · subst hL
        by_cases hz : m % 10 = 0
        · have hzd : decide (-((m : Int) % 10) < 0) = false := by simp; omega
          have hbyte : ((UInt8.ofNat (48 + m % 10)).toNat : Int) = 48 + -((m : Int) % 10) := by rw [hbyte]; omega
          go_wp2
          have hw : (m : Int) / 10 = ((m / 10 : Nat) : Int) := by omega
          refine ⟨⟨[UInt8.ofNat (48 + m % 10)], m / 10, by rw [hw], ?_, by simp, ⟨wi.heap.size, 1, rfl, by rw [World.size_alloc]; omega, ?_⟩, hI.step (.inl rfl), hb.alloc hb.size _⟩, ?_⟩
          · simp only [List.length_nil, Nat.pow_zero, List.length_cons] at hP ⊢; omega
          · intro j hj
            obtain rfl : j = 0 := by simpa using hj
            refine (cell_new _ _ _).trans ?_
            rw [← hbyte]; rfl
          · rw [hw]; simp only [intOf, sliceLen, List.length_nil]; omega
        · have hzd : decide (-((m : Int) % 10) < 0) = true := by simp; omega
          go_wp2
          have hw : (m : Int) / 10 = ((m / 10 : Nat) : Int) := by omega
          refine ⟨⟨[UInt8.ofNat (48 + m % 10)], m / 10, by rw [hw], ?_, by simp, ⟨wi.heap.size, 1, rfl, by rw [World.size_alloc]; omega, ?_⟩, hI.step (.inl rfl), hb.alloc hb.size _⟩, ?_⟩
          · simp only [List.length_nil, Nat.pow_zero, List.length_cons] at hP ⊢; omega
          · intro j hj
            obtain rfl : j = 0 := by simpa using hj
            refine (cell_new _ _ _).trans ?_
            rw [← hbyte]; rfl
          · rw [hw]; simp only [intOf, sliceLen, List.length_nil]; omega
      · have hm : m ≠ 0 := hgo.resolve_left hL
        have hL0 : L.length ≠ 0 := fun h => hL (List.eq_nil_of_length_eq_zero h)
        have ht1 : ((L.length : Int) == 0) = false := by simp; exact hL
        have ht2 : ((m : Int) != 0) = true := by simp; exact hm
        have hmz : ¬ (m : Int) % 10 < 0 := by omega
        have hP2 : m / 10 * 10 ^ (L.length + 1) ≤ n := by
          rw [Nat.pow_succ, Nat.mul_comm (10 ^ L.length), ← Nat.mul_assoc]
          exact Nat.le_trans (Nat.mul_le_mul_right _ h100) hP
        have hL15 : L.length + 1 ≤ 16 := by
          rcases Nat.lt_or_ge L.length 16 with h | h
          · exact h
          · exfalso
            have h1 : 10 ^ 16 ≤ 10 ^ L.length := Nat.pow_le_pow_right (by decide) h
            have h2 : 1 * 10 ^ L.length ≤ m * 10 ^ L.length := Nat.mul_le_mul_right _ (by omega)
            rw [Nat.one_mul] at h2
            have h3 : (10:Nat) ^ 16 = 10000000000000000 := by decide
            omega
        have HP := Lib.hid hP
        have HI := Lib.hid hI
        have HC := Lib.hid hcells
        have HP2 := Lib.hid hP2
        clear hP hI hcells hP2
        by_cases hz : m % 10 = 0
        · have hzd : decide (-((m : Int) % 10) < 0) = false := by simp; omega
          have hbyte : ((UInt8.ofNat (48 + m % 10)).toNat : Int) = 48 + -((m : Int) % 10) := by rw [hbyte]; omega
          go_wp2_with (at_builtin; refine wpList_catB rfl _ _ rfl w.heap.size _ [UInt8.ofNat (48 + m % 10)] L rfl (by have h := OwnB.fresh wi w.heap.size hb.size (UInt8.ofNat (48 + m % 10)); unfold bv at h; rw [hbyte] at h; exact h) g cap rfl (fun j hj => Lib.cell?_alloc_some _ (HC.out j hj)) (by simp; omega) (by rw [World.size_alloc]; have := hb.size; omega) ?_; intro v2 w2 h2 b2)
          have hw : (m : Int) / 10 = ((m / 10 : Nat) : Int) := by omega
          obtain ⟨g2, cap2, rfl, hg2, hc2⟩ := h2.at_ (by simp)
          refine ⟨⟨UInt8.ofNat (48 + m % 10) :: L, m / 10, by rw [hw], HP2.out, hL15, ⟨g2, cap2, rfl, hg2, hc2⟩, HI.out.step (.inr hm), (hb.alloc hb.size _).trans b2⟩, ?_⟩
          rw [hw]; simp only [intOf, sliceLen, List.length_append, List.length_cons, List.length_nil]; omega
        · have hzd : decide (-((m : Int) % 10) < 0) = true := by simp; omega
          go_wp2_with (at_builtin; refine wpList_catB rfl _ _ rfl w.heap.size _ [UInt8.ofNat (48 + m % 10)] L rfl (by have h := OwnB.fresh wi w.heap.size hb.size (UInt8.ofNat (48 + m % 10)); unfold bv at h; rw [hbyte] at h; exact h) g cap rfl (fun j hj => Lib.cell?_alloc_some _ (HC.out j hj)) (by simp; omega) (by rw [World.size_alloc]; have := hb.size; omega) ?_; intro v2 w2 h2 b2)
          have hw : (m : Int) / 10 = ((m / 10 : Nat) : Int) := by omega
          obtain ⟨g2, cap2, rfl, hg2, hc2⟩ := h2.at_ (by simp)
          refine ⟨⟨UInt8.ofNat (48 + m % 10) :: L, m / 10, by rw [hw], HP2.out, hL15, ⟨g2, cap2, rfl, hg2, hc2⟩, HI.out.step (.inr hm), (hb.alloc hb.size _).trans b2⟩, ?_⟩
          rw [hw]; simp only [intOf, sliceLen, List.length_append, List.length_cons, List.length_nil]; omega
    · have hL : L ≠ [] := fun h => hgo (.inl h)
      obtain rfl : m = 0 := by
        rcases Nat.eq_zero_or_pos m with h | h
        · exact h
        · exact absurd (.inr (by omega)) hgo
      have hL0 : L.length ≠ 0 := fun h => hL (List.eq_nil_of_length_eq_zero h)
      have ht1 : ((L.length : Int) == 0) = false := by simp; exact hL
      have hfin : Lib.decDigits n = L := by
        rcases hI with ⟨h, -⟩ | ⟨-, h⟩
        · exact absurd h hL
        · rw [h, if_pos rfl]; rfl
      have Hf := Lib.hid hfin
      have HC := Lib.hid hcells
      have HB := Lib.hid hb
      have hbs := hb.size
      clear hfin hI hP hcells hb
      go_wp2_with (at_builtin; refine wpList_catB rfl _ _ rfl w.heap.size _ [45] L rfl (OwnB.fresh wi w.heap.size hbs 45) g cap rfl (fun j hj => Lib.cell?_alloc_some _ (HC.out j hj)) (by simp; omega) (by rw [World.size_alloc]; omega) ?_; intro v2 w2 h2 b2; obtain ⟨L2, hL2⟩ : ∃ L2 : List UInt8, [45] ++ L = L2 := ⟨_, rfl⟩; rw [hL2] at h2; have hne2 : L2 ≠ [] := (by rw [← hL2]; simp); have HL2 := Lib.hid hL2; clear hL2; obtain ⟨g2, cap2, rfl, hg2, hc2⟩ := h2.at_ hne2; have hcv := run_convert_bytes_back (P := Tryz.prog) w2 22 9 5 ⟨g2, 0, none⟩ cap2 L2 Tryz.underlying22 Tryz.underlying5 Tryz.underlying9 hc2; have B2 := Lib.hid ((HB.out.alloc hbs _).trans b2); clear hc2 h2 b2 hne2)
      go_ret
      refine ⟨?_, B2.out⟩; rw [Hf.out, ← HL2.out]; rfl
end Go.Proofs.YtjbaebgdebcipaaGreatDoor
