/- Walks: the journal of lines: the reference's. -/
import Derived.Test.YtalajgjdceoleaaDoorJ3
import Derived.Lib.IndexLaws
namespace Go.Proofs.YtalajgjdceoleaaDoor
open Go Go.RowKit

section
variable {P : Program} {ops : Array Oper} {T : FuncId → Array Value → Value → Prop} {Q : Act → Prop} {a : Act} {o : Oper} {rest : List Oper}
/-- THE CLASS of the worlds that keep what W holds. -/
theorem wpRel_under {W : World} (hp : plainOp o.op = true) (hg : Region.wanted o (yielded ops a.tmps) = true)
    (h : ∀ w, Below W.heap.size W w → ∀ K : Act → World → Prop, (∀ a', wpRel P ops (Below W.heap.size W) T Q rest a' → K a' w) → o.wp P a w K (fun _ _ _ => False)) : wpRel P ops (Below W.heap.size W) T Q (o :: rest) a :=
  wpRel_op hp hg ⟨W, Below.refl _ _⟩ fun w hw K hK => h w hw K fun a' hr => hK a' w ⟨hw, hr⟩
end
theorem nlB_true {s : ByteArray} {k : Nat} (hk : k < s.size) (h : (s[k]'hk).toNat = 10) : nlB s = true := by
  unfold nlB
  rw [decide_eq_true_eq]
  rcases (by omega : Lib.indexByte s.data.toList 10 < 0 ∨ 0 ≤ Lib.indexByte s.data.toList 10) with h1 | h1
  · exfalso
    have h2 := Lib.indexByte_ge s.data.toList 10
    refine Lib.indexByte_none (l := s.data.toList) (c := 10) (by omega) k ?_
    have hk' : k < s.data.toList.length := by simpa using hk
    rw [List.getElem?_eq_getElem hk']
    congr 1
    exact UInt8.toNat_inj.1 h
  · exact h1
theorem nlB_false {s : ByteArray} (h : ∀ k (hk : k < s.size), (s[k]'hk).toNat ≠ 10) : nlB s = false := by
  unfold nlB
  rw [decide_eq_false_iff_not]
  intro h1
  obtain ⟨o, ho⟩ := Int.eq_ofNat_of_zero_le h1
  have h2 := (Lib.indexByte_some ho).1
  obtain ⟨h3, h4⟩ := List.getElem?_eq_some_iff.1 h2
  refine h o (by simpa using h3) ?_
  have : (s[o]'(by simpa using h3)) = 10 := h4
  rw [this]
  rfl
def totAt (L : List ByteArray) : Nat → Nat
  | 0 => 0
  | j + 1 => totAt L j + ((lnAt L j).size + 3)
theorem totAt_le (L : List ByteArray) (j : Nat) : totAt L j ≤ (jour L j).size := by
  induction j with
  | zero => exact Nat.zero_le _
  | succ j ih =>
    have := jour_size_succ L j
    show totAt L j + ((lnAt L j).size + 3) ≤ _
    omega
theorem jour_le (L : List ByteArray) (j : Nat) : (jour L j).size ≤ 8 * totAt L j := by
  induction j with
  | zero => exact Nat.le_refl _
  | succ j ih =>
    show (jour L j ++ lineT (ckAt L (j + 1)) (lnAt L j)).size ≤ 8 * (totAt L j + ((lnAt L j).size + 3))
    rw [ByteArray.size_append, lineT_size]
    have := decDigits_max (ckAt L (j + 1)) (ckAt_lt L (j + 1))
    omega

set_option maxRecDepth 100000 in
set_option maxHeartbeats 1600000 in
theorem l08Journal_any (w : World) (v : Value) (L : List ByteArray) (h : RdStr w v L) (hl : L.length ≤ 1048576) (hm : ∀ j, j < L.length → (lnAt L j).size ≤ 1048576) (hsz : (jour L L.length).size ≤ 1000000) :
    Calls Tryd.prog 14 #[v] w fun e w' => e = .returned (.string (jour L L.length)) ∧ Below w.heap.size w w' := by
  obtain ⟨a, c, rfl, hc, -, hcell⟩ := h.opened
  go_enter Tryd.func14, Tryd.ntmps14
  go_wp2_with fail
  go_loopw [3, 4, 5] (fun o ck i wr => ∃ j : Nat, j ≤ L.length ∧ i = .int .i64 j ∧ o = .string (jour L j) ∧ ck = .int .i64 (ckAt L j) ∧ Below w.heap.size w wr) (fun _ _ i _ => L.length - (intOf i).toNat)
  case atStart => exact ⟨0, Nat.zero_le _, rfl, rfl, rfl, Below.refl _ _⟩
  case round =>
    obtain ⟨wi, rfl⟩ : ∃ wi : World, wi = wr := ⟨_, rfl⟩
    obtain ⟨j, hj, rfl, rfl, rfl, hb⟩ := hrel
    by_cases hlt : j < L.length
    · obtain ⟨b, o, rfl, hlb, d0⟩ := hcell j hlt
      have d1 : wi.cell? ⟨b, o + j, none⟩ = some (.string (lnAt L j)) := by rw [(bcell hb).1 _ _ hlb]; exact d0
      have hs := hm j hlt
      have hck := ckAt_lt L j
      have hcl := chkN_lt (ckAt L j) (lnAt L j) (lnAt L j).size hck
      change chk (ckAt L j) (lnAt L j) < 65003 at hcl
      have HJ := Lib.hid (show jour L (j + 1) = jour L j ++ lineT (chk (ckAt L j) (lnAt L j)) (lnAt L j) from rfl)
      have HC := Lib.hid (show ckAt L (j + 1) = chk (ckAt L j) (lnAt L j) from rfl)
      have hO : (jour L j).size ≤ 1000000 := Nat.le_trans (jour_mono L (by omega)) hsz
      have hdg := decDigits_max (chk (ckAt L j) (lnAt L j)) hcl
      have HK := Lib.hid (l01Check_any wi (ckAt L j) (lnAt L j) hck hs)
      obtain ⟨O, hOe⟩ : ∃ O, jour L j = O := ⟨_, rfl⟩
      rw [hOe] at hO HJ ⊢
      obtain ⟨s, hse⟩ : ∃ s, lnAt L j = s := ⟨_, rfl⟩
      rw [hse] at d1 hs HK HC HJ hcl hdg
      obtain ⟨c1, hc1⟩ : ∃ c1, chk (ckAt L j) s = c1 := ⟨_, rfl⟩
      obtain ⟨c0, hc0⟩ : ∃ c0, ckAt L j = c0 := ⟨_, rfl⟩
      rw [hc1] at HK HC HJ hcl hdg
      rw [hc0] at HK ⊢
      have KD : ∀ w1 : World, Calls Tryd.prog 21 #[.int .i64 c1] w1 fun e w' => e = .returned (.string (decT c1)) ∧ Below w1.heap.size w1 w' := fun w1 => l01Dec_any w1 c1 (by omega)
      have hD : (decT c1).size ≤ 21 := by rw [decT_size]; exact hdg
      have HE := Lib.hid (show O ++ (decT c1 ++ (⟨#[32]⟩ : ByteArray) ++ s ++ (⟨#[10]⟩ : ByteArray)) = jour L (j + 1) from HJ.out.symm)
      generalize decT c1 = D at *
      clear hcell d0 hdg hOe hse hc1 hc0 hck hcl HJ
      go_wp2_with fail
      refine HK.out.mono ?_
      rintro e w1 ⟨rfl, rfl⟩
      clear HK
      have hlt' : (j : Int) < (L.length : Int) := by omega
      have hbw : b < w1.heap.size := Nat.lt_of_lt_of_le hlb hb.size
      have D1' := Lib.hid d1
      clear d1
      go_upto_region 7 with fail
      refine region_rel_all (by kernel_rfl) (by kernel_rfl) (Below w1.heap.size w1) (fun _ _ v => v = .string D) (Below.drewN (Below.refl _ _) 1) ?_
      repeat (refine wpRel_under rfl rfl (fun wq hq K hK => ?_); go_wp2)
      refine wpRel_callF #[.int .i64 c1] Tryd.func21 (by kernel_rfl) (by kernel_rfl) (by simp [go_sem]) ⟨w1, Below.refl _ _⟩ ⟨_, rfl⟩
        (fun wq hq => (KD wq).mono fun e w'' ⟨he, hw⟩ => ⟨_, he, rfl, hq.trans (hw.mono hq.size)⟩) ?_
      rintro v rfl
      clear KD
      simp only [Act.put, List.setIfInBounds_toArray, List.set_cons_succ, List.set_cons_zero]
      repeat (refine wpRel_under rfl rfl (fun wq hq K hK => ?_); (have q0 := ((bcell hq).1 _ _ hbw).trans D1'.out); go_wp2; clear q0)
      refine wpRel_nil ?_
      intro wd hbd
      have hbd' := hb.trans (hbd.mono hb.size)
      go_wp2
      exact ⟨⟨j + 1, by omega, by go_num, by rw [HE.out], by rw [HC.out], hbd'⟩, by simp [intOf]; omega⟩
    · obtain rfl : j = L.length := by omega
      clear hcell
      go_wp2
      go_ret
      refine ⟨?_, hb⟩
      rfl

set_option maxRecDepth 100000 in
set_option maxHeartbeats 1600000 in
theorem specJournalOf_any (w : World) (v : Value) (L : List ByteArray) (h : RdStr w v L) (hl : L.length ≤ 1048576) (hm : ∀ j, j < L.length → (lnAt L j).size ≤ 1048576) :
    Calls Tryd.prog 6 #[v] w fun e w' => e = .returned (txtIf (jourB L) (jour L L.length)) ∧ Below w.heap.size w w' := by
  have HR := Lib.hid h
  obtain ⟨a, c, rfl, hc, -, hcell⟩ := h.opened
  go_enter Tryd.func6, Tryd.ntmps6
  go_wp2_with fail
  go_loopw [4, 5] (fun t i wr => ∃ j : Nat, j ≤ L.length ∧ i = .int .i64 j ∧ t = .int .i64 (totAt L j) ∧ (∀ i, i < j → nlB (lnAt L i) = false) ∧ totAt L j ≤ 12000 ∧ wr = w) (fun _ i _ => L.length - (intOf i).toNat)
  case atStart => exact ⟨0, Nat.zero_le _, rfl, rfl, (fun i hi => by cases hi), Nat.zero_le _, rfl⟩
  case round =>
    obtain ⟨j, hj, rfl, rfl, hnl, ht, rfl⟩ := hrel
    by_cases hlt : j < L.length
    · obtain ⟨b, o, rfl, hlb, d0⟩ := hcell j hlt
      have hs := hm j hlt
      have HT := Lib.hid (show totAt L (j + 1) = totAt L j + ((lnAt L j).size + 3) from rfl)
      have HL := Lib.hid (fun h : nlB (lnAt L j) = true => jourB_nl hlt h)
      have HG := Lib.hid (fun h : 12000 < totAt L (j + 1) => jourB_long (j := j + 1) (by omega) (Nat.lt_of_lt_of_le h (totAt_le L (j + 1))))
      obtain ⟨s, hse⟩ : ∃ s, lnAt L j = s := ⟨_, rfl⟩
      obtain ⟨t, hte⟩ : ∃ t, totAt L j = t := ⟨_, rfl⟩
      rw [hse] at d0 hs HT HL
      rw [hte] at HT ht ⊢
      have HSE := Lib.hid hse
      have HN := Lib.hid hnl
      clear hcell hse hte hnl
      by_cases hbig : 12000 < t + (s.size + 3)
      · have Hf := Lib.hid (HG.out (by rw [HT.out]; exact hbig))
        have hbig' : (12000 : Int) < (t : Int) + ((s.size : Int) + 3) := by omega
        go_wp2
        go_ret2
        refine ⟨?_, Below.refl _ _⟩
        rw [Hf.out]; rfl
      · have hbig' : ¬ (12000 : Int) < (t : Int) + ((s.size : Int) + 3) := by omega
        go_wp2_with fail
        go_loopw [6] (fun k wr' => ∃ m : Nat, m ≤ s.size ∧ k = .int .i64 m ∧ (∀ i (hi : i < s.size), i < m → (s[i]'hi).toNat ≠ 10) ∧ wr' = wr) (fun k _ => s.size - (intOf k).toNat)
        case atStart => exact ⟨0, Nat.zero_le _, rfl, (fun i hi h => by cases h), rfl⟩
        case round =>
          obtain ⟨m, hmm, rfl, hno, rfl⟩ := hrel
          have HNO := Lib.hid hno
          clear hno
          by_cases hm2 : m < s.size
          · by_cases h10 : (s[m]'hm2).toNat = 10
            · have Hf := Lib.hid (HL.out (nlB_true hm2 h10))
              have h10' : (((s[m]'hm2).toNat : Int) == 10) = true := by simp; omega
              go_wp2
              go_ret2
              refine ⟨?_, Below.refl _ _⟩
              rw [Hf.out]; rfl
            · have h10' : (((s[m]'hm2).toNat : Int) == 10) = false := by simp; omega
              go_wp2
              refine ⟨⟨m + 1, by omega, by go_num, fun i hi h => ?_, trivial⟩, by simp [intOf]; omega⟩
              rcases Nat.lt_or_ge i m with h1 | h1
              · exact HNO.out i hi h1
              · obtain rfl : i = m := by omega
                exact h10
          · obtain rfl : m = s.size := by omega
            have hfin := nlB_false fun k hk => HNO.out k hk hk
            have HF := Lib.hid hfin
            clear hfin
            go_wp2
            refine ⟨⟨j + 1, by omega, by go_num, by rw [HT.out]; go_num, fun i hi => ?_, by rw [HT.out]; omega, trivial⟩, by simp [intOf]; omega⟩
            rcases Nat.lt_or_ge i j with h1 | h1
            · exact HN.out i h1
            · obtain rfl : i = j := by omega
              rw [HSE.out]; exact HF.out
    · obtain rfl : j = L.length := by omega
      clear hcell
      have hjl := jour_le L L.length
      have HN := Lib.hid hnl
      have KJ := Lib.hid (l08Journal_any wr (.slice a L.length c) L HR.out hl hm (by omega))
      obtain ⟨O, hOe⟩ : ∃ O, jour L L.length = O := ⟨_, rfl⟩
      have hO : O.size ≤ 96000 := by rw [← hOe]; omega
      have HO := Lib.hid hOe
      rw [hOe] at KJ
      clear hjl hOe hnl
      go_wp2_with fail
      refine KJ.out.mono ?_
      rintro e w1 ⟨rfl, b1⟩
      by_cases hbig : 12000 < O.size
      · have Hf := Lib.hid (jourB_long (L := L) (Nat.le_refl _) (by rw [HO.out]; exact hbig))
        go_wp2
        go_ret2
        refine ⟨?_, b1⟩
        rw [Hf.out, HO.out]; rfl
      · have Hf := Lib.hid (jourB_ok (L := L) HN.out (by rw [HO.out]; omega))
        go_wp2
        go_ret2
        refine ⟨?_, b1⟩
        rw [Hf.out, HO.out]; rfl
end Go.Proofs.YtalajgjdceoleaaDoor
