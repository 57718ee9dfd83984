/- Walks: impl.ReadNumbers, impl.exactly; spec.l01NRead. -/
import Derived.Test.YtjbaebgdebcipaaGreatDoorRn
import Derived.Test.YtjbaebgdebcipaaGreatDoorCutW
namespace Go.Proofs.YtjbaebgdebcipaaGreatDoor
open Go Go.RowKit

set_option maxRecDepth 100000 in
set_option maxHeartbeats 800000 in
theorem readNumbers_any (w : World) (t : ByteArray) (hmax : t.size ≤ 1048576) (hD : Dr w) :
    Calls Tryz.prog 40 #[.string t] w fun e w' => ∃ u, e = .returned u ∧ RnRes 256 w.heap.size t w' u ∧ Below w.heap.size w w' := by
  have HR := Lib.hid (readTextsF_any w t hmax hD)
  clear hD
  go_enter Tryz.func40, Tryz.ntmps40
  go_wp2_with fail
  refine HR.out.mono ?_
  clear HR
  rintro e w1 ⟨u, rfl, hu, b1⟩
  have B1 := Lib.hid b1
  clear b1
  rcases hu with ⟨L, v, hL, rfl, ho⟩ | ⟨hL, rfl⟩
  · have HL := Lib.hid hL
    have HO := Lib.hid ho
    clear hL ho
    go_wp2
    go_ret2
    exact ⟨_, rfl, .inl ⟨L, v, HL.out, rfl, HO.out⟩, B1.out⟩
  · have HL := Lib.hid hL
    clear hL
    go_wp2
    go_ret2
    exact ⟨_, rfl, .inr ⟨HL.out, rfl⟩, B1.out⟩
/-- A list of so many numbers, or none. -/
noncomputable def rx (n : Nat) (t : ByteArray) : Option (List Nat) := match rn 256 t with
  | none => none
  | some L => if L.length = n then some L else none
def RxRes (n B : Nat) (t : ByteArray) (w' : World) (u : Value) : Prop :=
  (∃ L v, rx n t = some L ∧ L.length = n ∧ u = .tuple #[v, .bool true] ∧ OwnF w' B v L) ∨ (rx n t = none ∧ ∃ a m c, u = .tuple #[.slice a m c, .bool false])
set_option maxRecDepth 100000 in
set_option maxHeartbeats 800000 in
theorem exactly_any (w : World) (t : ByteArray) (n : Nat) (hn : n ≤ 100) (hmax : t.size ≤ 1048576) (hD : Dr w) :
    Calls Tryz.prog 35 #[.string t, .int .i64 n] w fun e w' => ∃ u, e = .returned u ∧ RxRes n w.heap.size t w' u ∧ Below w.heap.size w w' := by
  have HR := Lib.hid (readNumbers_any w t hmax hD)
  clear hD
  go_enter Tryz.func35, Tryz.ntmps35
  go_wp2_with fail
  refine HR.out.mono ?_
  clear HR
  rintro e w1 ⟨u, rfl, hu, b1⟩
  have B1 := Lib.hid b1
  clear b1
  rcases hu with ⟨L, v, hL, rfl, ho⟩ | ⟨hL, rfl⟩
  · have HO := Lib.hid ho
    obtain ⟨a, c, rfl, -⟩ := ho.rd.opened
    have hle := rn_few hL
    by_cases hl : L.length = n
    · have HX : Hid (rx n t = some L) := Lib.hid (by unfold rx; simp only [hL]; rw [if_pos hl])
      have HLn := Lib.hid hl
      subst hl
      clear hL ho
      go_wp2
      go_ret2
      exact ⟨_, rfl, .inl ⟨L, _, HX.out, rfl, rfl, HO.out⟩, B1.out⟩
    · have HX : Hid (rx n t = none) := Lib.hid (by unfold rx; simp only [hL]; rw [if_neg hl])
      have hd : ((L.length : Int) == (n : Int)) = false := by rw [beq_eq_false_iff_ne]; omega
      clear hL ho hl
      go_wp2
      go_ret2
      exact ⟨_, rfl, .inr ⟨HX.out, _, _, _, rfl⟩, B1.out⟩
  · have HX : Hid (rx n t = none) := Lib.hid (by unfold rx; simp only [hL])
    clear hL
    go_wp2
    go_ret2
    exact ⟨_, rfl, .inr ⟨HX.out, _, _, _, rfl⟩, B1.out⟩

set_option maxRecDepth 100000 in
set_option maxHeartbeats 400000 in
theorem l01From_any (w : World) (n : Nat) (h : n < 4294967296) :
    Calls Tryz.prog 85 #[.int .i64 n] w fun e w' => e = .returned (.float .f32 n) ∧ w' = w := by
  have hfb := run_frombits w n h
  go_enter Tryz.func85, Tryz.ntmps85
  go_wp2
  go_ret
  exact ⟨rfl, rfl⟩
theorem OwnStr.cellAt {w : World} {B : Nat} {v : Value} {P : List ByteArray} (h : OwnStr w B v P) : ∃ a c, v = .slice a P.length c ∧ ∀ j, j < P.length → ∃ b o, a = some ⟨b, o, none⟩ ∧ b < w.heap.size ∧ w.cell? ⟨b, o + j, none⟩ = some (.string (prt P j)) := by
  have h0 := h
  rcases h.2 with ⟨rfl, hn⟩ | ⟨g, cap, cur, rfl, hb, hg, hn, _⟩
  · exact ⟨none, 0, by rw [hn], fun j hj => by omega⟩
  · refine ⟨some ⟨g, 0, none⟩, cap, rfl, fun j hj => ⟨g, 0, rfl, (Array.getElem?_eq_some_iff.1 hg).1, ?_⟩⟩
    rw [Nat.zero_add, World.ownsRow.cellAt h0 j (by omega), List.getElem?_map, List.getElem?_eq_getElem hj]
    simp [prt, List.getD_eq_getElem?_getD, List.getElem?_eq_getElem hj]
theorem rb_size {p : ByteArray} (h : ¬ p.size = 8) : rb p = none := rb_none fun n hn => h (by rw [hn.2.2]; exact hexT_size n)
/-- The first k bytes are the digits of n. -/
def DigTo (p : ByteArray) (k n : Nat) : Prop := n < 16 ^ k ∧ p.data.toList.take k = digs k n
theorem DigTo.step {p : ByteArray} {k n d : Nat} (h : DigTo p k n) (hk : k < p.size) (hd : d < 16) (hc : (p[k]'hk) = digH d) : DigTo p (k + 1) (16 * n + d) := by
  refine ⟨by have := h.1; rw [Nat.pow_succ]; omega, ?_⟩
  have hl : k < p.data.toList.length := by rw [← Lib.size_eq]; exact hk
  rw [digs_step k n d hd, List.take_add_one, h.2, List.getElem?_eq_getElem hl]
  have : p.data.toList[k] = digH d := hc
  rw [this]; rfl
theorem DigTo.bad {p : ByteArray} {k : Nat} (hk : k < p.size) (hc : ∀ d, d < 16 → (p[k]'hk) ≠ digH d) : rb p = none := rb_none fun n hn => by
  obtain ⟨-, -, rfl⟩ := hn
  exact hc _ (Nat.mod_lt _ (by decide)) (hexT_at n k hk)
theorem DigTo.all {p : ByteArray} {n : Nat} (h : DigTo p 8 n) (hp : p.size = 8) : n < 4294967296 ∧ p = hexT n := by
  refine ⟨h.1, ?_⟩
  have h2 := h.2
  rw [List.take_of_length_le (by rw [← Lib.size_eq, hp]; exact Nat.le_refl _)] at h2
  apply ByteArray.ext
  apply Array.toList_inj.1
  rw [h2]
  rfl
theorem digH_of {c : UInt8} {d : Nat} (hd : d < 16) (h : c.toNat = if d < 10 then 48 + d else 87 + d) : c = digH d := by
  rw [← UInt8.toNat_inj, digH_val d hd]; exact h
set_option maxRecDepth 100000 in
set_option maxHeartbeats 4000000 in
theorem l01NRead_any (w : World) (t : ByteArray) (hmax : t.size ≤ 1048576) :
    Calls Tryz.prog 51 #[.string t] w fun e w' => ∃ u, e = .returned u ∧ RnRes 256 w.heap.size t w' u ∧ Below w.heap.size w w' := by
  have hown0 : OwnF (w.alloc (.cells #[] 25)) w.heap.size (.slice (some ⟨w.heap.size, 0, none⟩) 0 0) [] := ⟨[], rfl, fun j hj => (by cases hj), World.ownsRow_lit w #[] 0 (Nat.le_refl _) (by decide) rfl⟩
  have hb0 : Below w.heap.size w (w.alloc (.cells #[] 25)) := (Below.refl _ _).alloc (Nat.le_refl _) _
  have O0 := Lib.hid hown0
  have B0 := Lib.hid hb0
  have hz0 : (w.alloc (.cells #[] 25)).heap.size = w.heap.size + 1 := World.size_alloc _ _
  clear hown0 hb0
  by_cases hno : t = noneT
  · subst hno
    go_enter Tryz.func51, Tryz.ntmps51
    have H0 : Hid (rn 256 noneT = some []) := Lib.hid (by unfold rn; rw [if_pos rfl])
    unfold noneT at *
    go_wp2
    go_ret2
    exact ⟨_, rfl, .inl ⟨[], _, H0.out, rfl, O0.out⟩, B0.out⟩
  · have hne : ¬ t.toList = [110, 111, 110, 101] := fun e => neq_bytes hno (by rw [e, ByteArray.toList_eq]; rfl)
    have hne2 : (t.toList == [110, 111, 110, 101]) = false := by rw [beq_eq_false_iff_ne]; exact hne
    have HRN := Lib.hid (rn_parts (most := 256) hno)
    have HCut := Lib.hid (fun w => l01Cut_any w t 44 hmax)
    have HPs := Lib.hid (cutB_part 44 t hmax)
    have hpl := cutB_small 44 t hmax
    clear hmax hno
    generalize cutB 44 t = P at *
    go_enter Tryz.func51, Tryz.ntmps51
    go_wp2_with fail
    refine (HCut.out _).mono ?_
    clear HCut
    rintro e w1 ⟨v1, rfl, o1, b1⟩
    obtain ⟨a1, c1, rfl, hcell⟩ := OwnStr.cellAt o1
    have hap : ∀ b, (Value.slice a1 P.length c1).ownBlock = some b → w.heap.size + 1 ≤ b ∧ b < w1.heap.size := fun b hb => by have := World.ownsRow.lt o1 b hb; omega
    have HAP := Lib.hid hap
    clear hap
    have HC := Lib.hid hcell
    have O1 := Lib.hid (O0.out.kept b1)
    have B1 := Lib.hid (B0.out.trans (b1.mono (by omega)))
    have hz1 := b1.size
    clear hcell o1 b1 O0 B0
    by_cases h256 : 256 < P.length
    · have HF : Hid (rn 256 t = none) := Lib.hid (by rw [HRN.out, if_pos h256])
      go_wp2
      go_ret2
      exact ⟨_, rfl, .inr ⟨HF.out, rfl⟩, B1.out⟩
    · go_wp2_with fail
      go_loopw [4, 6] (fun v i wr => ∃ (j : Nat) (L : List Nat), j ≤ P.length ∧ i = .int .i64 j ∧ L.length = j ∧ allR (P.take j) = some L ∧ OwnF wr w.heap.size v L ∧ Below w.heap.size w wr ∧ (∀ b, v.ownBlock = some b → (Value.slice a1 P.length c1).ownBlock ≠ some b) ∧ w1.heap.size ≤ wr.heap.size ∧ ∀ b, (Value.slice a1 P.length c1).ownBlock = some b → wr.heap[b]? = w1.heap[b]?) (fun _ i _ => P.length - (intOf i).toNat)
      case atStart => exact ⟨0, [], Nat.zero_le _, rfl, rfl, rfl, O1.out, B1.out, fun b hb e => by have h1 := (HAP.out b e).1; have h2 : w.heap.size = b := Option.some.inj hb; omega, Nat.le_refl _, fun b hb => rfl⟩
      case round =>
        obtain ⟨wi, rfl⟩ : ∃ wi : World, wi = wr := ⟨_, rfl⟩
        obtain ⟨j, L, hj, rfl, hl, hall, ho, hb, hse, hzw, hsm⟩ := hrel
        have HA := Lib.hid hall
        have HL := Lib.hid hl
        have HO := Lib.hid ho
        have HB := Lib.hid hb
        have HSE := Lib.hid hse
        have HSM := Lib.hid hsm
        have hzi := hb.size
        obtain ⟨a4, c4, rfl, -⟩ := ho.rd.opened
        by_cases hlt : j < P.length
        · obtain ⟨b, o, rfl, hbl, hc0⟩ := HC.out j hlt
          have hc1 : wi.cell? ⟨b, o + j, none⟩ = some (.string (prt P j)) := by
            have := hsm b rfl
            unfold World.cell? at hc0 ⊢
            rw [this]; exact hc0
          have HT := Lib.hid (prt_take P j hlt)
          have HSpl := Lib.hid (prt_split P j hlt)
          clear hall ho hb hse hsm hc0
          rw [hl] at HO HSE ⊢
          clear hl
          have HNone : Hid (rb (prt P j) = none → rn 256 t = none) := Lib.hid fun hn => by
            rw [HRN.out, if_neg h256, HSpl.out]
            exact allR_bad hn
          have hps : (prt P j).size ≤ 1048576 := HPs.out _ (prt_mem P j hlt)
          generalize prt P j = p at *
          by_cases hp8 : p.size = 8
          · have HP8 := Lib.hid hp8
            clear hps
            go_wp2_with fail
            go_loop [7, 8] (fun n k => ∃ (kk : Nat) (nn : Nat), kk ≤ 8 ∧ k = .int .i64 kk ∧ n = .int .i64 nn ∧ DigTo p kk nn ∧ nn < 4294967296) (fun _ k => 8 - (intOf k).toNat)
            case atStart => exact ⟨0, 0, by decide, rfl, rfl, ⟨by decide, rfl⟩, by decide⟩
            case round =>
              obtain ⟨k, n, hk, rfl, rfl, hdt, hn⟩ := hrel
              have HDT := Lib.hid hdt
              clear hdt
              by_cases hk8 : k < 8
              · have hkp : k < p.size := by rw [HP8.out]; exact hk8
                have hc256 : (p[k]'hkp).toNat < 256 := (p[k]'hkp).toNat_lt
                have hpw : 16 * n + 15 < 4294967296 := by
                  have h1 := HDT.out.1
                  have h2 : 16 ^ (k + 1) ≤ 16 ^ 8 := Nat.pow_le_pow_right (by decide) (by omega)
                  rw [Nat.pow_succ] at h2
                  omega
                by_cases hA : 48 ≤ (p[k]'hkp).toNat ∧ (p[k]'hkp).toNat ≤ 57
                · have HS : Hid (DigTo p (k + 1) (16 * n + ((p[k]'hkp).toNat - 48))) := Lib.hid (HDT.out.step hkp (by omega) (digH_of (by omega) (by rw [if_pos (by omega)]; omega)))
                  obtain ⟨hA0, hA1⟩ := hA
                  have hd0 : decide (((p[k]'hkp).toNat : Int) - 48 < 0) = false := by simp; omega
                  clear HDT
                  go_wp2
                  all_goals exact ⟨⟨k + 1, 16 * n + ((p[k]'hkp).toNat - 48), by omega, by go_num, by congr 1; omega, HS.out, by omega⟩, by simp [intOf]; omega⟩
                · by_cases hB : 97 ≤ (p[k]'hkp).toNat ∧ (p[k]'hkp).toNat ≤ 102
                  · have HS : Hid (DigTo p (k + 1) (16 * n + ((p[k]'hkp).toNat - 87))) := Lib.hid (HDT.out.step hkp (by omega) (digH_of (by omega) (by rw [if_neg (by omega)]; omega)))
                    obtain ⟨hB0, hB1⟩ := hB
                    have hd0 : decide (((p[k]'hkp).toNat : Int) - 97 + 10 < 0) = false := by simp; omega
                    have hA57 : 57 < (p[k]'hkp).toNat := by omega
                    clear HDT hA
                    go_wp2
                    all_goals exact ⟨⟨k + 1, 16 * n + ((p[k]'hkp).toNat - 87), by omega, by go_num, by congr 1; omega, HS.out, by omega⟩, by simp [intOf]; omega⟩
                  · have HF : Hid (rn 256 t = none) := Lib.hid (HNone.out (DigTo.bad hkp fun d hd e => by
                      have := digH_val d hd
                      rw [← e] at this
                      split at this <;> omega))
                    clear HDT
                    go_wp2
                    all_goals go_ret2
                    all_goals exact ⟨_, rfl, .inr ⟨HF.out, rfl⟩, HB.out⟩
              · obtain rfl : k = 8 := by omega
                obtain ⟨hn2, hpn⟩ := HDT.out.all HP8.out
                have hf : FV .f32 n (can .f32 n) := FV.can (by rw [width32]; exact hn2)
                have HBt := Lib.hid (l01Bits_any wi n (can .f32 n) hf)
                have HFr := Lib.hid (l01From_any wi n hn2)
                have HPN := Lib.hid hpn
                clear hpn HDT
                by_cases hcn : can .f32 n = n
                · have HRB : Hid (rb p = some n) := Lib.hid (rb_some ⟨hn2, hcn, HPN.out⟩)
                  rw [hcn] at HBt
                  clear hcn hf
                  go_wp2_with fail
                  refine HFr.out.mono ?_
                  rintro e w5 ⟨rfl, hw5⟩
                  obtain rfl : wi = w5 := hw5.symm
                  clear hw5
                  go_wp2_with fail
                  refine HBt.out.mono ?_
                  rintro e w6 ⟨rfl, hw6⟩
                  obtain rfl : wi = w6 := hw6.symm
                  clear hw6 hp8
                  go_wp2_with (at_builtin; go_must (refine wpList_push rfl _ _ rfl w.heap.size _ L rfl (HO.out.alloc _) _ _ _ n rfl (cell_new _ _ _) (rb_cls HRB.out) (by rw [HL.out]; omega) (by rw [World.size_alloc]; omega) ?_); intro v9 w9 o9 g9 b9 l9)
                  refine ⟨⟨j + 1, L ++ [n], by omega, by go_num, by rw [List.length_append, HL.out]; rfl, ?_, o9, (HB.out.alloc hzi _).trans b9, ?_, ?_, ?_⟩, by simp [intOf]; omega⟩
                  · rw [HT.out, allR_snoc, HA.out]
                    simp only [HRB.out]
                  · intro b' hb' e
                    have hbb : b = b' := Option.some.inj e
                    rcases l9 with h | h
                    · rw [h] at hb'; exact HSE.out _ hb' e
                    · rw [h] at hb'; have := Option.some.inj hb'; rw [World.size_alloc] at this; omega
                  · have := g9.size; rw [World.size_alloc] at this; omega
                  · intro b' hb'
                    have hbb : b = b' := Option.some.inj hb'
                    rw [g9.block b' (by rw [World.size_alloc]; omega) fun e => HSE.out b' e.symm hb']
                    have : (wi.alloc (.cells #[.float .f32 n] 25)).heap[b']? = wi.heap[b']? := ((Below.refl wi.heap.size wi).alloc (Nat.le_refl _) _).block b' (by omega)
                    exact this.trans (HSM.out b' hb')
                · have HF : Hid (rn 256 t = none) := Lib.hid (HNone.out (rb_none fun m hm => hcn (by
                    have h1 := hexT_inj hm.1 hn2 (hm.2.2.symm.trans HPN.out)
                    rw [← h1]; exact hm.2.1)))
                  have hd : ((can .f32 n : Int) != (n : Int)) = true := by rw [bne_iff_ne]; omega
                  clear hcn hf
                  go_wp2_with fail
                  refine HFr.out.mono ?_
                  rintro e w5 ⟨rfl, hw5⟩
                  obtain rfl : wi = w5 := hw5.symm
                  clear hw5
                  go_wp2_with fail
                  refine HBt.out.mono ?_
                  rintro e w6 ⟨rfl, hw6⟩
                  obtain rfl : wi = w6 := hw6.symm
                  clear hw6
                  go_wp2
                  go_ret2
                  exact ⟨_, rfl, .inr ⟨HF.out, rfl⟩, HB.out⟩
          · have HF : Hid (rn 256 t = none) := Lib.hid (HNone.out (rb_size hp8))
            have hd : ((p.size : Int) != 8) = true := by rw [bne_iff_ne]; omega
            clear hp8
            go_wp2
            go_ret2
            exact ⟨_, rfl, .inr ⟨HF.out, rfl⟩, HB.out⟩
        · obtain rfl : j = P.length := by omega
          have HF : Hid (rn 256 t = some L) := Lib.hid (by
            rw [HRN.out, if_neg h256]
            have := HA.out
            rwa [List.take_length] at this)
          clear hall ho hb hl hse hsm
          go_wp2
          go_ret2
          exact ⟨_, rfl, .inl ⟨L, _, HF.out, rfl, HO.out⟩, HB.out⟩
end Go.Proofs.YtjbaebgdebcipaaGreatDoor
