/- Walks: a journal that is recovered: the reference's. -/
import Derived.Test.YtalajgjdceoleaaDoorRc1
namespace Go.Proofs.YtalajgjdceoleaaDoor
open Go Go.RowKit

theorem cutL_mem (m : UInt8) : ∀ (l p : List UInt8), p ∈ cutL m l → p.length ≤ l.length ∧ m ∉ p
  | [], p, h => by simp [cutL] at h; simp [h]
  | b :: r, p, h => by
    unfold cutL at h
    split at h
    · rcases List.mem_cons.1 h with rfl | h
      · simp
      · have := cutL_mem m r p h
        exact ⟨by simp; omega, this.2⟩
    · rename_i hb
      split at h
      · rename_i h0; exact absurd h0 (cutL_ne m r)
      · rename_i x xs h0
        rcases List.mem_cons.1 h with rfl | h
        · have := cutL_mem m r x (by rw [h0]; exact List.mem_cons_self ..)
          refine ⟨by simp; exact this.1, fun e => ?_⟩
          rcases List.mem_cons.1 e with e | e
          · exact hb e.symm
          · exact this.2 e
        · have := cutL_mem m r p (by rw [h0]; exact List.mem_cons_of_mem _ h)
          exact ⟨by simp; omega, this.2⟩
theorem cutB_mem {m : UInt8} {s p : ByteArray} (h : p ∈ cutB m s) : p.size ≤ s.size ∧ m ∉ p.data.toList := by
  unfold cutB at h
  obtain ⟨l, hl, rfl⟩ := List.mem_map.1 h
  have := cutL_mem m _ l hl
  rw [mkB_size, mkB_list, Lib.size_eq]
  exact this
theorem cut_at {s z : ByteArray} {xs : List ByteArray} (h : cutB 10 s = xs ++ [z]) {j : Nat} (hj : j < xs.length) : (lnAt xs j).size ≤ s.size ∧ (10 : UInt8) ∉ (lnAt xs j).data.toList := by
  refine cutB_mem (m := 10) ?_
  rw [h]
  refine List.mem_append_left _ ?_
  unfold lnAt
  rw [List.getD_eq_getElem?_getD, List.getElem?_eq_getElem hj]
  exact List.getElem_mem hj
theorem szR_le {xs : List ByteArray} {N : Nat} (h : ∀ j, j < xs.length → (lnAt xs j).size ≤ N) (k : Nat) (hk : k ≤ xs.length) : szR xs k ≤ k * (N + 1) := by
  induction k with
  | zero => exact Nat.zero_le _
  | succ k ih =>
    have h1 := ih (by omega)
    have h2 := h k (by omega)
    have : szR xs (k + 1) = szR xs k + ((lnAt xs k).size + 1) := rfl
    rw [this, Nat.add_mul]
    omega
theorem spc_eq {x : ByteArray} {m : Nat} (h : x.data.toList[m]? = some 32) (h0 : ∀ i, i < m → x.data.toList[i]? ≠ some 32) : spc x = m := by
  unfold spc
  rcases (by omega : Lib.indexByte x.data.toList 32 < 0 ∨ 0 ≤ Lib.indexByte x.data.toList 32) with h1 | h1
  · have h2 := Lib.indexByte_ge x.data.toList 32
    exact absurd h (Lib.indexByte_none (l := x.data.toList) (c := 32) (by omega) m)
  · obtain ⟨o, ho⟩ := Int.eq_ofNat_of_zero_le h1
    obtain ⟨h2, h3⟩ := Lib.indexByte_some ho
    rw [ho]
    rcases Nat.lt_trichotomy o m with hl | hl | hl
    · exact absurd h2 (h0 o hl)
    · rw [hl]
    · exact absurd h (h3 m hl)
theorem spc_none {x : ByteArray} (h0 : ∀ i, i < x.size → x.data.toList[i]? ≠ some 32) : ¬ 0 ≤ spc x := by
  intro h
  obtain ⟨h1, h2⟩ := spc_lt h
  exact h0 _ h1 h2
theorem OwnStr.base {w : World} {B C : Nat} {v : Value} {L : List ByteArray} (h : OwnStr w B v L) (hc : C ≤ B) : OwnStr w C v L := by
  refine ⟨h.1, ?_⟩
  rcases h.2 with hn | ⟨g, cap, cur, rfl, hB, r⟩
  · exact .inl hn
  · exact .inr ⟨g, cap, cur, rfl, Nat.le_trans hc hB, r⟩
theorem neq_text {a b : ByteArray} (h : ¬ a = b) : (a.toList == b.toList) = false ∧ ¬ a.toList = b.toList := by
  have h1 : ¬ a.toList = b.toList := fun e => h (by
    rw [Lib.toList_data, Lib.toList_data] at e
    exact ByteArray.ext (Array.ext' e))
  exact ⟨by rw [beq_eq_false_iff_ne]; exact h1, h1⟩

set_option maxRecDepth 100000 in
set_option maxHeartbeats 3200000 in
theorem l08Recover_any (w : World) (t : ByteArray) (ht : t.size ≤ 12000) (xs : List ByteArray) (z : ByteArray) (hx : cutB 10 t = xs ++ [z]) :
    Calls Tryd.prog 17 #[.string t] w fun e w' => ∃ k v, Stop xs k ∧ e = .returned (.tuple #[v, .int .i64 (szR xs k : Nat)]) ∧ OwnStr w' w.heap.size v (recL xs k) ∧ Below w.heap.size w w' := by
  have hlen : xs.length ≤ 12000 := by
    have := cutB_len 10 t
    rw [hx, List.length_append] at this
    simp at this
    omega
  have hmem : ∀ j, j < xs.length → (lnAt xs j).size ≤ 12000 := fun j hj => Nat.le_trans (cut_at hx hj).1 ht
  have hszr : ∀ k, k ≤ xs.length → szR xs k ≤ 12000 * 12001 := fun k hk => Nat.le_trans (szR_le hmem k hk) (Nat.mul_le_mul_right _ (by omega))
  have HK := Lib.hid (l08Lines_any w t (by omega) xs z hx)
  clear hx
  go_enter Tryd.func17, Tryd.ntmps17
  go_wp2_with fail
  refine HK.out.mono ?_
  clear HK
  rintro e w1 ⟨v, rfl, hr, hb⟩
  obtain ⟨a, c, rfl, hc, -, hcell⟩ := hr.opened
  clear hr
  go_wp2_with fail
  go_loopw [6, 7, 8, 9] (fun o ck n i wr => ∃ j : Nat, j ≤ xs.length ∧ i = .int .i64 j ∧ ck = .int .i64 (ckR xs j) ∧ n = .int .i64 (szR xs j : Nat) ∧ (∀ i, i < j → okR xs i) ∧ OwnStr wr w1.heap.size o (recL xs j) ∧ Below w1.heap.size w1 wr) (fun _ _ _ i _ => xs.length - (intOf i).toNat)
  case atStart =>
    exact ⟨0, Nat.zero_le _, rfl, rfl, rfl, (fun i hi => by cases hi), ⟨rfl, .inr ⟨w1.heap.size, 0, #[], rfl, Nat.le_refl _, alloc_new _ _, Nat.le_refl _, by decide, rfl, rfl⟩⟩, (Below.refl _ _).alloc (Nat.le_refl _) _⟩
  case round =>
    obtain ⟨wi, rfl⟩ : ∃ wi : World, wi = wr := ⟨_, rfl⟩
    obtain ⟨j, hj, rfl, rfl, rfl, hok, ho, hb1⟩ := hrel
    have Ho := Lib.hid ho
    have HO := Lib.hid hok
    have hbw : Below w.heap.size w wi := hb.trans (hb1.mono hb.size)
    clear ho hok
    by_cases hlt : j < xs.length
    · obtain ⟨b, o, rfl, hlb, d0⟩ := hcell j hlt
      have d1 : wi.cell? ⟨b, o + j, none⟩ = some (.string (lnAt xs j)) := by rw [(bcell hb1).1 _ _ hlb]; exact d0
      have hs := hmem j hlt
      have hck := ckR_lt xs j
      have hsz := hszr (j + 1) hlt
      have HS : Hid (szR xs (j + 1) = szR xs j + ((lnAt xs j).size + 1)) := Lib.hid rfl
      have HC : Hid (ckR xs (j + 1) = chk (ckR xs j) (lnOf (lnAt xs j))) := Lib.hid rfl
      have HL := Lib.hid (recL_succ xs j)
      have HQ : Hid (okR xs j ↔ 0 ≤ spc (lnAt xs j) ∧ (lnAt xs j).extract 0 (spc (lnAt xs j)).toNat = decT (ckR xs (j + 1))) := Lib.hid Iff.rfl
      have hc1 := ckR_lt xs (j + 1)
      have hlj := recL_length xs j
      obtain ⟨R0, hR0⟩ : ∃ R0, recL xs j = R0 := ⟨_, rfl⟩
      obtain ⟨c1, hC1⟩ : ∃ c1, ckR xs (j + 1) = c1 := ⟨_, rfl⟩
      obtain ⟨c0, hC0⟩ : ∃ c0, ckR xs j = c0 := ⟨_, rfl⟩
      obtain ⟨s0, hS0⟩ : ∃ s0, szR xs j = s0 := ⟨_, rfl⟩
      obtain ⟨s1, hS1⟩ : ∃ s1, szR xs (j + 1) = s1 := ⟨_, rfl⟩
      obtain ⟨x, hX⟩ : ∃ x, lnAt xs j = x := ⟨_, rfl⟩
      have HC1 := Lib.hid hC1
      have HS1 := Lib.hid hS1
      rw [hX] at d1 hs HS HC HL HQ
      rw [hS0] at HS ⊢
      rw [hC0] at HC hck ⊢
      rw [hC1] at HC HQ hc1
      rw [hS1] at HS hsz
      rw [hR0] at Ho HL hlj
      have HStop0 : Hid (∀ (hno : ¬ okR xs j), Stop xs j) := Lib.hid fun hno => ⟨hj, HO.out, fun _ => hno⟩
      have HR0 := Lib.hid hR0
      have HS0 := Lib.hid hS0
      clear hcell d0 hX hS0 hC0 hC1 hS1 hR0 hmem hszr
      go_wp2_with fail
      go_loopw [10] (fun c wr' => ∃ m : Nat, m ≤ x.size ∧ c = .int .i64 m ∧ (∀ i, i < m → x.data.toList[i]? ≠ some 32) ∧ wr' = wi) (fun c _ => x.size - (intOf c).toNat)
      case atStart => exact ⟨0, Nat.zero_le _, rfl, (fun i hi => by cases hi), rfl⟩
      case round =>
        obtain ⟨m, hm, rfl, hno, rfl⟩ := hrel
        have HN := Lib.hid hno
        clear hno
        by_cases hm2 : m < x.size
        · by_cases h32 : (x[m]'hm2).toNat = 32
          · have hsp : spc x = m := spc_eq ((byte_at hm2 32).2 h32) HN.out
            have HLn : Hid (lnOf x = x.extract (m + 1) x.size) := Lib.hid (by unfold lnOf; rw [hsp]; rfl)
            rw [hsp, Int.toNat_natCast] at HQ
            have h32' : (((x[m]'hm2).toNat : Int) == 32) = true := by simp; omega
            have hys : (x.extract (m + 1) x.size).size ≤ 12000 := by rw [ByteArray.size_extract]; omega
            have KC : ∀ wq : World, Calls Tryd.prog 20 #[.int .i64 c0, .string (x.extract (m + 1) x.size)] wq fun e w' => e = .returned (.int .i64 c1) ∧ w' = wq := fun wq => by
              rw [HC.out, HLn.out]
              exact l01Check_any wq c0 _ hck (by omega)
            have KD : ∀ w1 : World, Calls Tryd.prog 21 #[.int .i64 c1] w1 fun e w' => e = .returned (.string (decT c1)) ∧ Below w1.heap.size w1 w' := fun w1 => l01Dec_any w1 c1 (by omega)
            have hQ : Hid (okR xs j ↔ x.extract 0 m = decT c1) := Lib.hid (by rw [HQ.out]; exact ⟨fun h => h.2, fun h => ⟨Int.natCast_nonneg _, h⟩⟩)
            rw [HLn.out] at HL
            clear HQ HC
            generalize decT c1 = D at KD hQ
            have KC := Lib.hid KC
            have KD := Lib.hid KD
            have HX := Lib.hid d1
            go_wp2_with fail
            refine (KC.out _).mono ?_
            rintro e w2 ⟨rfl, rfl⟩
            have hbx : b < w2.heap.size := Nat.lt_of_lt_of_le hlb hb1.size
            by_cases heq : x.extract 0 m = D
            · have HOK : Hid (∀ i, i < j + 1 → okR xs i) := Lib.hid (fun i hi => by
                rcases Nat.lt_or_ge i j with h1 | h1
                · exact HO.out i h1
                · obtain rfl : i = j := by omega
                  exact hQ.out.2 heq)
              clear d1 hQ HStop0
              go_upto_region 14 with fail
              refine region_rel_all (by kernel_rfl) (by kernel_rfl) (Below w2.heap.size w2) (fun _ _ v => v = .string D) (Below.drewN (Below.refl _ _) 1) ?_
              repeat (refine wpRel_un rfl rfl (fun wq hq K hK => ?_); (have q0 := ((bcell hq).1 _ _ hbx).trans HX.out); go_wp2; clear q0)
              refine wpRel_callF #[.int .i64 c1] Tryd.func21 (by kernel_rfl) (by kernel_rfl) (by simp [go_sem]) ⟨w2, Below.refl _ _⟩ ⟨_, rfl⟩
                (fun wq hq => (KD.out wq).mono fun e w'' ⟨he, hw⟩ => ⟨_, he, rfl, hq.trans (hw.mono hq.size)⟩) ?_
              rintro v rfl
              simp only [Act.put, List.setIfInBounds_toArray, List.set_cons_succ, List.set_cons_zero]
              repeat (refine wpRel_un rfl rfl (fun wq hq K hK => ?_); (have q0 := ((bcell hq).1 _ _ hbx).trans HX.out); go_wp2; clear q0)
              refine wpRel_nil ?_
              intro wd hbd
              have hbd1 := hb1.trans (hbd.mono hb1.size)
              have hdw := hbw.trans (hbd.mono hbw.size)
              have hds := hbd1.size
              have Hd : Hid (OwnStr wd w1.heap.size _ R0) := Lib.hid (Ho.out.kept hbd)
              have hcd := ((bcell hbd).1 _ _ hbx).trans HX.out
              clear KC KD HN HX
              go_wp2_with (at_builtin; refine wpList_push1 rfl _ _ 22 9 rfl (.string ⟨#[]⟩) 16 Tryd.underlying22 Tryd.infoSt rfl (by decide) w1.heap.size _ _ _ rfl (World.ownsRow.alloc Hd.out _) _ _ _ rfl (cell_new _ _ _) rfl (by omega) (by simp; omega) ?_; intro v2 w3 h2 g2 b2; have hb3 := ((Below.refl _ _).alloc hds _).trans b2; have hc3 := ((hb3.cell (p := ⟨b, o + j, none⟩) hlb).trans hcd); clear hcd)
              refine ⟨⟨j + 1, by omega, by go_num, by rw [HC1.out], (by rw [HS1.out, HS.out]; have hw : wrap64 ((s0 : Int) + ((x.size : Int) + 1)) = (s0 : Int) + ((x.size : Int) + 1) := (by have := HS.out; unfold wrap64; omega); rw [hw]; go_num), HOK.out, ?_, hbd1.trans hb3⟩, by simp [intOf]; omega⟩
              have := h2
              unfold OwnStr
              rw [HL.out, List.map_append, List.length_append]
              exact this
            · obtain ⟨hn1, hn2⟩ := neq_text heq
              have HSt : Hid (Stop xs j) := Lib.hid (HStop0.out fun h => heq (hQ.out.1 h))
              clear heq d1 hQ HStop0
              go_upto_region 14 with fail
              refine region_rel_all (by kernel_rfl) (by kernel_rfl) (Below w2.heap.size w2) (fun _ _ v => v = .string D) (Below.drewN (Below.refl _ _) 1) ?_
              repeat (refine wpRel_un rfl rfl (fun wq hq K hK => ?_); (have q0 := ((bcell hq).1 _ _ hbx).trans HX.out); go_wp2; clear q0)
              refine wpRel_callF #[.int .i64 c1] Tryd.func21 (by kernel_rfl) (by kernel_rfl) (by simp [go_sem]) ⟨w2, Below.refl _ _⟩ ⟨_, rfl⟩
                (fun wq hq => (KD.out wq).mono fun e w'' ⟨he, hw⟩ => ⟨_, he, rfl, hq.trans (hw.mono hq.size)⟩) ?_
              rintro v rfl
              simp only [Act.put, List.setIfInBounds_toArray, List.set_cons_succ, List.set_cons_zero]
              repeat (refine wpRel_un rfl rfl (fun wq hq K hK => ?_); (have q0 := ((bcell hq).1 _ _ hbx).trans HX.out); go_wp2; clear q0)
              refine wpRel_nil ?_
              intro wd hbd
              go_wp2
              go_ret2
              exact ⟨j, _, HSt.out, by rw [HS0.out]; rfl, by rw [HR0.out]; exact (Ho.out.kept hbd).base hb.size, hbw.trans (hbd.mono hbw.size)⟩
          · have h32' : (((x[m]'hm2).toNat : Int) == 32) = false := by simp; omega
            go_wp2
            refine ⟨⟨m + 1, by omega, by go_num, fun i hi => ?_, trivial⟩, by simp [intOf]; omega⟩
            by_cases e : i = m
            · subst e
              exact fun h => h32 ((byte_at hm2 32).1 h)
            · exact HN.out i (by omega)
        · obtain rfl : m = x.size := by omega
          have HSt : Hid (Stop xs j) := Lib.hid (HStop0.out fun h => spc_none HN.out (HQ.out.1 h).1)
          go_wp2
          go_ret2
          exact ⟨j, _, HSt.out, by rw [HS0.out]; rfl, by rw [HR0.out]; exact Ho.out.base hb.size, hbw⟩
    · obtain rfl : j = xs.length := by omega
      have HSt : Hid (Stop xs xs.length) := Lib.hid ⟨Nat.le_refl _, HO.out, fun h => absurd h (Nat.lt_irrefl _)⟩
      clear hcell hmem hszr
      go_wp2
      go_ret2
      exact ⟨_, _, HSt.out, rfl, Ho.out.base hb.size, hbw⟩
end Go.Proofs.YtalajgjdceoleaaDoor
