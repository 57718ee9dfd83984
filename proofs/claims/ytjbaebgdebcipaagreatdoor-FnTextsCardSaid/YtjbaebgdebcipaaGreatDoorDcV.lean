/- Walks: spec.l01Value, spec.l01Numbers. -/
import Derived.Test.YtjbaebgdebcipaaGreatDoorDcS
import Derived.Test.YtjbaebgdebcipaaGreatDoorRl
import Derived.Test.YtjbaebgdebcipaaGreatDoorCutW
import Derived.Test.YtjbaebgdebcipaaGreatDoorNr
namespace Go.Proofs.YtjbaebgdebcipaaGreatDoor
open Go Go.RowKit

theorem l01DecI_any (w : World) (n : Int) (h0 : -10000000000000000 < n) (h1 : n < 10000000000000000) :
    Calls Tryz.prog 109 #[.int .i64 n] w fun e w' => e = .returned (.string (decT n)) ∧ Below w.heap.size w w' := by
  by_cases hn : n < 0
  · have h := l01DecN_any w n.natAbs (by omega) (by omega)
    have e : (-(n.natAbs : Int)) = n := by omega
    rw [e] at h
    have e2 : decT n = ⟨(45 :: Lib.decDigits n.natAbs).toArray⟩ := by unfold decT Lib.itoa; rw [if_pos hn]
    rw [e2]
    exact h
  · have h := l01DecP_any w n.toNat (by omega)
    have e : (n.toNat : Int) = n := by omega
    rw [e] at h
    have e2 : decT n = ⟨(Lib.decDigits n.toNat).toArray⟩ := by unfold decT Lib.itoa; rw [if_neg hn]
    rw [e2]
    exact h
set_option maxRecDepth 100000 in
set_option maxHeartbeats 400000 in
theorem l00InV_any (w : World) (n : Int) :
    Calls Tryz.prog 108 #[.int .i64 n, .int .i64 (-1000000000000000), .int .i64 1000000000000000] w fun e w' => e = .returned (.bool (inV n)) ∧ w' = w := by
  by_cases h : -1000000000000000 ≤ n
  · have HG : Hid (inV n = decide (n ≤ 1000000000000000)) := Lib.hid (by unfold inV; rw [decide_eq_true h]; rfl)
    go_enter Tryz.func108, Tryz.ntmps108
    go_wp2
    go_ret
    refine ⟨?_, rfl⟩
    rw [HG.out]; rfl
  · have HG : Hid (inV n = false) := Lib.hid (by unfold inV; rw [decide_eq_false h]; rfl)
    go_enter Tryz.func108, Tryz.ntmps108
    go_wp2
    go_ret
    refine ⟨?_, rfl⟩
    rw [HG.out]; rfl
theorem take_byte (t : ByteArray) (j : Nat) (h : j < t.size) : t.data.toList.take (j + 1) = t.data.toList.take j ++ [t[j]'h] := by
  have hl : j < t.data.toList.length := by rw [← Lib.size_eq]; exact h
  rw [List.take_add_one, List.getElem?_eq_getElem hl]
  rfl
theorem specV_head (t : ByteArray) (h : 0 < t.size) : specV t.data.toList = if (t[0]'h).toNat = 45 then -(fv 0 t.data.toList : Int) else fv 0 t.data.toList := by
  unfold specV
  have hl : 0 < t.data.toList.length := by rw [← Lib.size_eq]; exact h
  have e : t.data.toList.head? = some (t[0]'h) := by
    rw [List.head?_eq_getElem?, List.getElem?_eq_getElem hl]; rfl
  rw [e]
  by_cases h2 : (t[0]'h).toNat = 45
  · have : (t[0]'h) = 45 := by rw [← UInt8.toNat_inj]; exact h2
    rw [if_pos (by rw [this]), if_pos h2]
  · rw [if_neg (fun h3 => h2 (by rw [Option.some.inj h3]; rfl)), if_neg h2]

set_option maxRecDepth 100000 in
set_option maxHeartbeats 1600000 in
theorem l01Value_any (w : World) (t : ByteArray) :
    Calls Tryz.prog 84 #[.string t] w fun e w' => ∃ u, e = .returned u ∧ RdRes t u ∧ Below w.heap.size w w' := by
  by_cases hs : t.size < 1 ∨ 17 < t.size
  · have HN : Hid (rdD t = none) := Lib.hid (rdD_none fun n hn => by have := hn.spec; omega)
    by_cases h1 : t.size < 1
    · clear hs
      go_enter Tryz.func84, Tryz.ntmps84
      go_wp2
      go_ret2
      exact ⟨_, rfl, .inr ⟨HN.out, rfl⟩, Below.refl _ _⟩
    · have h17 : 17 < t.size := hs.resolve_left h1
      clear hs
      go_enter Tryz.func84, Tryz.ntmps84
      go_wp2
      go_ret2
      exact ⟨_, rfl, .inr ⟨HN.out, rfl⟩, Below.refl _ _⟩
  · have hs0 : ¬ t.size < 1 := fun h => hs (.inl h)
    have hs1 : ¬ 17 < t.size := fun h => hs (.inr h)
    have hs2 : 0 < t.size := by omega
    have HSp : Hid (∀ n, IsD t n → specV t.data.toList = n) := Lib.hid fun n hn => hn.spec.1
    have HHd := Lib.hid (specV_head t hs2)
    clear hs
    go_enter Tryz.func84, Tryz.ntmps84
    go_wp2_with fail
    go_loop [4, 5] (fun n i => ∃ (j m : Nat), j ≤ t.size ∧ i = .int .i64 j ∧ n = .int .i64 m ∧ Hid (m = fv 0 (t.data.toList.take j)) ∧ m < 100000000000000000) (fun _ i => t.size - (intOf i).toNat)
    case atStart => exact ⟨0, 0, Nat.zero_le _, rfl, rfl, rfl, by decide⟩
    case round =>
      obtain ⟨j, m, hj, rfl, rfl, HM, hm⟩ := hrel
      by_cases hlt : j < t.size
      · have HT := Lib.hid (take_byte t j hlt)
        have hc256 : (t[j]'hlt).toNat < 256 := (t[j]'hlt).toNat_lt
        have hbd : ∀ x, x = fv 0 (t.data.toList.take (j + 1)) → x < 100000000000000000 := fun x hx => by
          rw [hx]
          have h1 := fv_le (t.data.toList.take (j + 1)) 0
          have h2 : (t.data.toList.take (j + 1)).length ≤ 17 := by rw [List.length_take]; omega
          have h3 : 10 ^ (t.data.toList.take (j + 1)).length ≤ 10 ^ 17 := Nat.pow_le_pow_right (by decide) h2
          have h4 : (10 : Nat) ^ 17 = 100000000000000000 := by decide
          omega
        by_cases hd : 48 ≤ (t[j]'hlt).toNat ∧ (t[j]'hlt).toNat ≤ 57
        · have hf : 10 * m + ((t[j]'hlt).toNat - 48) = fv 0 (t.data.toList.take (j + 1)) := by rw [HT.out, fv_snoc, if_pos hd, ← HM.out]
          have HF := Lib.hid hf
          have hb := hbd _ hf
          obtain ⟨hd0, hd1⟩ := hd
          clear hbd hf HT
          go_wp2
          all_goals exact ⟨⟨j + 1, 10 * m + ((t[j]'hlt).toNat - 48), by omega, by go_num, by congr 1; omega, HF, hb⟩, by simp [intOf]; omega⟩
        · have hf : m = fv 0 (t.data.toList.take (j + 1)) := by rw [HT.out, fv_snoc, if_neg hd, ← HM.out]
          have HF := Lib.hid hf
          clear hbd hf HT
          go_wp2
          all_goals exact ⟨⟨j + 1, m, by omega, by go_num, rfl, HF, hm⟩, by simp [intOf]; omega⟩
      · obtain rfl : j = t.size := by omega
        have hm2 : m = fv 0 t.data.toList := by rw [HM.out, List.take_of_length_le (by rw [← Lib.size_eq]; exact Nat.le_refl _)]
        rw [← hm2] at HHd
        have HV := Lib.hid (fun v => l00InV_any w v)
        have HDc := Lib.hid (fun v h0 h1 => l01DecI_any w v h0 h1)
        clear hm2 HM
        have key : ∀ v : Int, (v = if (t[0]'hs2).toNat = 45 then -(m : Int) else m) → (inV v = false → rdD t = none) ∧ (inV v = true → (decT v = t → rdD t = some v) ∧ (decT v ≠ t → rdD t = none)) := fun v hv => by
          have hv2 : specV t.data.toList = v := by rw [HHd.out, hv]
          refine ⟨fun h => rdD_none fun n hn => ?_, fun h => ⟨fun he => rdD_some ⟨(inV_true h).1, (inV_true h).2, he.symm⟩, fun he => rdD_none fun n hn => ?_⟩⟩
          · have := HSp.out n hn
            rw [hv2] at this
            subst this
            unfold inV at h
            rw [decide_eq_true hn.1, decide_eq_true hn.2.1] at h
            cases h
          · have := HSp.out n hn
            rw [hv2] at this
            subst this
            exact he hn.2.2.symm
        have KEY := Lib.hid key
        clear key
        by_cases h45 : (t[0]'hs2).toNat = 45
        · have hb45 : (((t[0]'hs2).toNat : Int) == 45) = true := by rw [beq_iff_eq]; omega
          obtain ⟨K0, K1⟩ := KEY.out (-(m : Int)) (by rw [if_pos h45])
          have HK0 := Lib.hid K0
          have HK1 := Lib.hid K1
          have HV2 := Lib.hid (HV.out (-(m : Int)))
          clear K0 K1 KEY HV h45
          cases hv : inV (-(m : Int)) with
          | false =>
            rw [hv] at HV2
            have HN : Hid (rdD t = none) := Lib.hid (HK0.out hv)
            clear hv HK0 HK1
            go_wp2_with fail
            refine HV2.out.mono ?_
            rintro e w3 ⟨rfl, hw3⟩
            obtain rfl : w = w3 := hw3.symm
            clear hw3
            go_wp2
            go_ret2
            exact ⟨_, rfl, .inr ⟨HN.out, rfl⟩, Below.refl _ _⟩
          | true =>
            rw [hv] at HV2
            obtain ⟨K2, K3⟩ := HK1.out hv
            have HK2 := Lib.hid K2
            have HK3 := Lib.hid K3
            have hvb := inV_true hv
            have HD2 := Lib.hid (HDc.out (-(m : Int)) (by omega) (by omega))
            clear hv HK0 HK1 K2 K3 HDc
            go_wp2_with fail
            refine HV2.out.mono ?_
            rintro e w3 ⟨rfl, hw3⟩
            obtain rfl : w = w3 := hw3.symm
            clear hw3
            go_wp2_with fail
            refine HD2.out.mono ?_
            rintro e w4 ⟨rfl, b4⟩
            have B4 := Lib.hid b4
            clear b4 HD2 HV2
            by_cases he : decT (-(m : Int)) = t
            · have HR : Hid (rdD t = some (-(m : Int))) := Lib.hid (HK2.out he)
              have he2 : ((decT (-(m : Int))).toList == t.toList) = true := by rw [he]; simp
              have he3 : ((decT (-(m : Int))).toList != t.toList) = false := by rw [he]; simp
              have he4 : (decT (-(m : Int))).toList = t.toList := by rw [he]
              clear HK2 HK3 he
              go_wp2
              go_ret2
              exact ⟨_, rfl, .inl ⟨_, HR.out, rfl⟩, B4.out⟩
            · have HN : Hid (rdD t = none) := Lib.hid (HK3.out he)
              have hne := neq_bytes he
              have hne2 : ((decT (-(m : Int))).toList == t.toList) = false := by rw [beq_eq_false_iff_ne]; exact hne
              clear HK2 HK3 he
              go_wp2
              go_ret2
              exact ⟨_, rfl, .inr ⟨HN.out, rfl⟩, B4.out⟩
        · have hb45 : (((t[0]'hs2).toNat : Int) == 45) = false := by rw [beq_eq_false_iff_ne]; omega
          obtain ⟨K0, K1⟩ := KEY.out ((m : Int)) (by rw [if_neg h45])
          have HK0 := Lib.hid K0
          have HK1 := Lib.hid K1
          have HV2 := Lib.hid (HV.out ((m : Int)))
          clear K0 K1 KEY HV h45
          cases hv : inV ((m : Int)) with
          | false =>
            rw [hv] at HV2
            have HN : Hid (rdD t = none) := Lib.hid (HK0.out hv)
            clear hv HK0 HK1
            go_wp2_with fail
            refine HV2.out.mono ?_
            rintro e w3 ⟨rfl, hw3⟩
            obtain rfl : w = w3 := hw3.symm
            clear hw3
            go_wp2
            go_ret2
            exact ⟨_, rfl, .inr ⟨HN.out, rfl⟩, Below.refl _ _⟩
          | true =>
            rw [hv] at HV2
            obtain ⟨K2, K3⟩ := HK1.out hv
            have HK2 := Lib.hid K2
            have HK3 := Lib.hid K3
            have hvb := inV_true hv
            have HD2 := Lib.hid (HDc.out ((m : Int)) (by omega) (by omega))
            clear hv HK0 HK1 K2 K3 HDc
            go_wp2_with fail
            refine HV2.out.mono ?_
            rintro e w3 ⟨rfl, hw3⟩
            obtain rfl : w = w3 := hw3.symm
            clear hw3
            go_wp2_with fail
            refine HD2.out.mono ?_
            rintro e w4 ⟨rfl, b4⟩
            have B4 := Lib.hid b4
            clear b4 HD2 HV2
            by_cases he : decT ((m : Int)) = t
            · have HR : Hid (rdD t = some ((m : Int))) := Lib.hid (HK2.out he)
              have he2 : ((decT ((m : Int))).toList == t.toList) = true := by rw [he]; simp
              have he3 : ((decT ((m : Int))).toList != t.toList) = false := by rw [he]; simp
              have he4 : (decT ((m : Int))).toList = t.toList := by rw [he]
              clear HK2 HK3 he
              go_wp2
              go_ret2
              exact ⟨_, rfl, .inl ⟨_, HR.out, rfl⟩, B4.out⟩
            · have HN : Hid (rdD t = none) := Lib.hid (HK3.out he)
              have hne := neq_bytes he
              have hne2 : ((decT ((m : Int))).toList == t.toList) = false := by rw [beq_eq_false_iff_ne]; exact hne
              clear HK2 HK3 he
              go_wp2
              go_ret2
              exact ⟨_, rfl, .inr ⟨HN.out, rfl⟩, B4.out⟩
end Go.Proofs.YtjbaebgdebcipaaGreatDoor
