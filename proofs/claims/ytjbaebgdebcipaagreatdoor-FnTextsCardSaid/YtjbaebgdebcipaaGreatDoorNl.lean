/- Walks: spec.l01Numbers. -/
import Derived.Test.YtjbaebgdebcipaaGreatDoorDcV
namespace Go.Proofs.YtjbaebgdebcipaaGreatDoor
open Go Go.RowKit

theorem wpList_push1b {P : Program} {ops : Array Oper} {rest : List Oper} {o : Oper} {a : Act} {w : World} {Q : Exit → Act → World → Prop} (hgd : o.guard = none) (s x : Operand) (t e : TypeId)
    (ho : o.op = .call { callee := .builtin .append, args := #[s, x], argTypes := #[t, t] }) (z : Value) (bytes : Nat) (ht : P.underlying t = some (.slice e)) (hinfo : (P.info? e).map (fun i => (i.zero, i.size, i.bytes)) = some (some z, 1, bytes))
    (hzs : z.cells.size = 1) (hby : bytes ≤ 100) (B : Nat) (v : Value) (n : Nat) (xs : List Value) (hs : a.eval s = v) (hown : w.ownsRow B e 1 v n xs)
    (ad : Addr) (c : Nat) (u : Value) (hx : a.eval x = .slice (some ad) 1 c) (hcell : w.cell? ad = some u) (hu : u.oneCell' = true) (hlen : n ≤ 1048576) (hB : B ≤ w.heap.size)
    (h : ∀ v' w', w'.ownsRow B e 1 v' (n + 1) (xs ++ [u]) → w.grownBy w' v.ownBlock → Below B w w' → (v'.ownBlock = v.ownBlock ∨ v'.ownBlock = some w.heap.size) → wpList P ops Q rest (a.put o.dst v') w') : wpList P ops Q (o :: rest) a w := by
  obtain ⟨i0, hi, hz0, hz1, hz2⟩ := info_parts hinfo
  refine wpList_append_own2 hgd s x t ho B e i0 z 1 bytes ht hi hz0 hz1 hz2 hzs (by decide) v n xs hs hown ad 1 c [u] hx rfl ?_ ?_ ?_ ?_ hB ?_
  · intro j y hy
    match j, hy with
    | 0, hy =>
      simp at hy; subst hy
      have : ad.add 0 = ad := by unfold Addr.add; split <;> simp_all
      rw [this]; exact hcell
  · intro y hy; simp at hy; subst hy; exact hu
  · unfold maxLen; omega
  · exact Nat.le_trans (Nat.mul_le_mul (by omega : n + 1 ≤ 1048577) hby) (by decide)
  · intro v' w' h1 h2 h3
    exact h v' w' h1 h2 ((Below.refl _ _).grown h2 hB fun k hk => (hown.lt k hk).1) h3

set_option maxRecDepth 100000 in
set_option maxHeartbeats 4000000 in
theorem l01Numbers_any (w : World) (t : ByteArray) (hmax : t.size ≤ 1048576) :
    Calls Tryz.prog 50 #[.string t] w fun e w' => ∃ u, e = .returned u ∧ RlRes w.heap.size t w' u ∧ Below w.heap.size w w' := by
  have hown0 : OwnI (w.alloc (.cells #[] 2)) w.heap.size (.slice (some ⟨w.heap.size, 0, none⟩) 0 0) [] := World.ownsRow_lit w #[] 0 (Nat.le_refl _) (by decide) rfl
  have hb0 : Below w.heap.size w (w.alloc (.cells #[] 2)) := (Below.refl _ _).alloc (Nat.le_refl _) _
  have O0 := Lib.hid hown0
  have B0 := Lib.hid hb0
  have hz0 : (w.alloc (.cells #[] 2)).heap.size = w.heap.size + 1 := World.size_alloc _ _
  clear hown0 hb0
  by_cases hno : t = noneT
  · subst hno
    go_enter Tryz.func50, Tryz.ntmps50
    have H0 : Hid (rl noneT = some []) := Lib.hid (by unfold rl; rw [if_pos rfl])
    unfold noneT at *
    go_wp2
    go_ret2
    exact ⟨_, rfl, .inl ⟨[], _, H0.out, rfl, O0.out⟩, B0.out⟩
  · have hne : ¬ t.toList = [110, 111, 110, 101] := fun e => neq_bytes hno (by rw [e, ByteArray.toList_eq]; rfl)
    have hne2 : (t.toList == [110, 111, 110, 101]) = false := by rw [beq_eq_false_iff_ne]; exact hne
    have HRN := Lib.hid (rl_parts hno)
    have HCut := Lib.hid (fun w => l01Cut_any w t 44 hmax)
    have HPs := Lib.hid (cutB_part 44 t hmax)
    have hpl := cutB_small 44 t hmax
    clear hmax hno
    generalize cutB 44 t = P at *
    go_enter Tryz.func50, Tryz.ntmps50
    go_wp2_with fail
    refine (HCut.out _).mono ?_
    clear HCut
    rintro e w1 ⟨v1, rfl, o1, b1⟩
    obtain ⟨a1, c1, rfl, hcell⟩ := OwnStr.cellAt o1
    have hap : ∀ b, (Value.slice a1 P.length c1).ownBlock = some b → w.heap.size + 1 ≤ b ∧ b < w1.heap.size := fun b hb => by have := World.ownsRow.lt o1 b hb; omega
    have HAP := Lib.hid hap
    clear hap
    have HC := Lib.hid hcell
    have O1 := Lib.hid (ownI_kept O0.out b1)
    have B1 := Lib.hid (B0.out.trans (b1.mono (by omega)))
    have hz1 := b1.size
    clear hcell o1 b1 O0 B0
    by_cases h64 : 64 < P.length
    · have HF : Hid (rl t = none) := Lib.hid (by rw [HRN.out, if_pos h64])
      go_wp2
      go_ret2
      exact ⟨_, rfl, .inr ⟨HF.out, rfl⟩, B1.out⟩
    · go_wp2_with fail
      go_loopw [4, 6] (fun v i wr => ∃ (j : Nat) (L : List Int), j ≤ P.length ∧ i = .int .i64 j ∧ L.length = j ∧ allD (P.take j) = some L ∧ OwnI wr w.heap.size v L ∧ Below w.heap.size w wr ∧ (∀ b, v.ownBlock = some b → (Value.slice a1 P.length c1).ownBlock ≠ some b) ∧ w1.heap.size ≤ wr.heap.size ∧ ∀ b, (Value.slice a1 P.length c1).ownBlock = some b → wr.heap[b]? = w1.heap[b]?) (fun _ i _ => P.length - (intOf i).toNat)
      case atStart => exact ⟨0, [], Nat.zero_le _, rfl, rfl, rfl, O1.out, B1.out, fun b hb e => by have h1 := (HAP.out b e).1; have h2 : w.heap.size = b := Option.some.inj hb; omega, Nat.le_refl _, fun b hb => rfl⟩
      case round =>
        obtain ⟨wi, rfl⟩ : ∃ wi : World, wi = wr := ⟨_, rfl⟩
        obtain ⟨j, L, hj, rfl, hl, hall, ho, hb, hse, hzw, hsm⟩ := hrel
        have HA := Lib.hid hall
        have HL := Lib.hid hl
        have HO := Lib.hid ho
        have HB := Lib.hid hb
        have HSE := Lib.hid hse
        have HSM := Lib.hid hsm
        have hzi := hb.size
        obtain ⟨a4, c4, rfl, -⟩ := (OwnI.rd ho).opened
        by_cases hlt : j < P.length
        · obtain ⟨b, o, rfl, hbl, hc0⟩ := HC.out j hlt
          have hc1 : wi.cell? ⟨b, o + j, none⟩ = some (.string (prt P j)) := by
            have := hsm b rfl
            unfold World.cell? at hc0 ⊢
            rw [this]; exact hc0
          have HT := Lib.hid (prt_take P j hlt)
          have HSpl := Lib.hid (prt_split P j hlt)
          clear hall ho hb hse hsm hc0
          rw [hl] at HO HSE ⊢
          clear hl
          have HNone : Hid (rdD (prt P j) = none → rl t = none) := Lib.hid fun hn => by
            rw [HRN.out, if_neg h64, HSpl.out]
            exact allD_bad hn
          have HVl := Lib.hid (l01Value_any wi (prt P j))
          generalize prt P j = p at *
          go_wp2_with fail
          refine HVl.out.mono ?_
          clear HVl
          rintro e w2 ⟨u, rfl, hu, b2⟩
          have B2 := Lib.hid b2
          have hz2 := b2.size
          clear b2
          rcases hu with ⟨n, hn, rfl⟩ | ⟨hn, rfl⟩
          · have HN := Lib.hid hn
            clear hn
            go_wp2_with (at_builtin; go_must (refine wpList_push1b rfl _ _ 69 2 rfl (.int .i64 0) 8 Tryz.underlying69 Tryz.infoI64 rfl (by decide) w.heap.size _ _ _ rfl (ownI_kept (ownI_kept HO.out B2.out) ((Below.refl _ _).alloc (Nat.le_refl _) _)) _ _ _ rfl (cell_new _ _ _) rfl (by rw [HL.out]; omega) (by rw [World.size_alloc]; omega) ?_); intro v9 w9 o9 g9 b9 l9)
            have hfresh : v9.ownBlock = (Value.slice a4 j c4).ownBlock ∨ ∃ k, v9.ownBlock = some k ∧ w2.heap.size ≤ k := l9.imp id fun h => ⟨_, h, by rw [World.size_alloc]; omega⟩
            refine ⟨⟨j + 1, L ++ [n], by omega, by go_num, by rw [List.length_append, HL.out]; rfl, ?_, by unfold OwnI; rw [List.map_append, List.length_append]; exact o9, ((HB.out.trans (B2.out.mono hzi)).alloc (by omega) _).trans b9, ?_, ?_, ?_⟩, by simp [intOf]; omega⟩
            · rw [HT.out, allD_snoc, HA.out]
              simp only [HN.out]
            · intro b' hb' e
              have hbb : b = b' := Option.some.inj e
              rcases hfresh with h | ⟨k, h, hk⟩
              · rw [h] at hb'; exact HSE.out _ hb' e
              · rw [h] at hb'; have := Option.some.inj hb'; omega
            · have := b9.size; rw [World.size_alloc] at this; omega
            · intro b' hb'
              have hbb : b = b' := Option.some.inj hb'
              rw [g9.block b' (by rw [World.size_alloc]; omega) fun e => HSE.out b' e.symm hb']
              have : (w2.alloc (.cells #[.int .i64 n] 2)).heap[b']? = w2.heap[b']? := ((Below.refl w2.heap.size w2).alloc (Nat.le_refl _) _).block b' (by omega)
              exact this.trans ((B2.out.block b' (by omega)).trans (HSM.out b' hb'))
          · have HF : Hid (rl t = none) := Lib.hid (HNone.out hn)
            clear hn
            go_wp2
            go_ret2
            exact ⟨_, rfl, .inr ⟨HF.out, rfl⟩, HB.out.trans (B2.out.mono hzi)⟩
        · obtain rfl : j = P.length := by omega
          have HF : Hid (rl t = some L) := Lib.hid (by
            rw [HRN.out, if_neg h64]
            have := HA.out
            rwa [List.take_length] at this)
          clear hall ho hb hl hse hsm
          go_wp2
          go_ret2
          exact ⟨_, rfl, .inl ⟨L, _, HF.out, rfl, HO.out⟩, HB.out⟩
end Go.Proofs.YtjbaebgdebcipaaGreatDoor
