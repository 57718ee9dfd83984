/- Walks: impl.FlatGather. -/
import Derived.Test.YthacadbdncfocaaSfC
namespace Go.Proofs.Ythacadbdncfocaa
open Go Go.RowKit

theorem getD_snoc {α : Type} (l : List α) (x d : α) (j : Nat) : (l ++ [x]).getD j d = if j < l.length then l.getD j d else if j = l.length then x else d := by
  simp only [List.getD_eq_getElem?_getD]
  by_cases h : j < l.length
  · rw [if_pos h, List.getElem?_append_left h]
  · rw [if_neg h, List.getElem?_append_right (by omega)]
    by_cases h2 : j = l.length
    · rw [if_pos h2, h2, Nat.sub_self]; rfl
    · rw [if_neg h2, List.getElem?_eq_none (by simp; omega)]; rfl
/-- 'append' of one row to a row of rows of the call's own. -/
theorem wpList_pushC {P : Program} {ops : Array Oper} {rest : List Oper} {o : Oper} {a : Act} {w : World} {Q : Exit → Act → World → Prop} (hgd : o.guard = none) (s x : Operand) (t e : TypeId)
    (ho : o.op = .call { callee := .builtin .append, args := #[s, x], argTypes := #[t, t] }) (z : Value) (bytes : Nat) (ht : P.underlying t = some (.slice e)) (hinfo : (P.info? e).map (fun i => (i.zero, i.size, i.bytes)) = some (some z, 1, bytes))
    (hzs : z.cells.size = 1) (hby : bytes ≤ 100) (B X : Nat) (v : Value) (n : Nat) (ds : List D1) (hs : a.eval s = v) (hown : OwnC w (Iv B X) e 1 v n ds) (hX : X ≤ w.heap.size) (hB : B ≤ X)
    (ad : Addr) (c : Nat) (u : Value) (d : D1) (hx : a.eval x = .slice (some ad) 1 c) (hcell : w.cell? ad = some u) (hu : u.oneCell' = true) (hd : Own1 w (fun k => X ≤ k) d u) (hlen : n ≤ 1048576)
    (h : ∀ v' w', OwnC w' (Iv B w'.heap.size) e 1 v' (n + 1) (ds ++ [d]) → w.grownBy w' v.ownBlock → (v'.ownBlock = v.ownBlock ∨ v'.ownBlock = some w.heap.size) → wpList P ops Q rest (a.put o.dst v') w') : wpList P ops Q (o :: rest) a w := by
  obtain ⟨i0, hi, hz0, hz1, hz2⟩ := info_parts hinfo
  obtain ⟨us, hl, hown, hv, hu1, h3, h4⟩ := hown
  refine wpList_append_own2 hgd s x t ho 0 e i0 z 1 bytes ht hi hz0 hz1 hz2 hzs (by decide) v n us hs hown ad 1 c [u] hx rfl ?_ ?_ ?_ ?_ (Nat.zero_le _) ?_
  · intro j y hy
    match j, hy with
    | 0, hy =>
      simp at hy; subst hy
      have : ad.add 0 = ad := by unfold Addr.add; split <;> simp_all
      rw [this]; exact hcell
  · intro y hy; simp at hy; subst hy; exact hu
  · unfold maxLen; omega
  · exact Nat.le_trans (Nat.mul_le_mul (by omega : n + 1 ≤ 1048577) hby) (by decide)
  · intro v' w' r1 g1 l1
    have hz := g1.size
    have hvB : ∀ k, v.ownBlock = some k → B ≤ k ∧ k < X := fun k hk => hv k hk
    have same1 : ∀ j, j < ds.length → ∀ k, (us.getD j undef).ownBlock = some k → w'.heap[k]? = w.heap[k]? := fun j hj k hk => by
      have q := (hu1 j hj).lt k hk
      exact g1.block k q.2 fun e2 => h4 j k (by omega) hk e2.symm
    have same2 : ∀ k, u.ownBlock = some k → w'.heap[k]? = w.heap[k]? := fun k hk => by
      have q := hd.lt k hk
      exact g1.block k q.2 fun e2 => by have := (hvB k e2.symm).2; have := q.1; omega
    have hlus : us.length = n := by have := hown.1; omega
    refine h v' w' ⟨us ++ [u], by simp [hl], r1, fun k hk => ?_, fun j hj => ?_, fun i j k hi2 hj2 hki hkj => ?_, fun j k hj hk => ?_⟩ g1 l1
    · have q := (r1.lt k hk).2
      refine ⟨?_, q⟩
      rcases l1 with l1 | l1
      · rw [l1] at hk; exact (hvB k hk).1
      · rw [l1] at hk; cases hk; omega
    · rw [getD_snoc, getD_snoc]
      rw [List.length_append, List.length_singleton] at hj
      by_cases hlt : j < ds.length
      · rw [if_pos hlt, if_pos (by omega)]
        have q := (hu1 j hlt).same (same1 j hlt)
        exact q.wide fun k hk => ⟨hk.1, by have := hk.2; omega⟩
      · have hjl : j = ds.length := by omega
        subst hjl
        rw [if_neg (Nat.lt_irrefl _), if_pos rfl, if_neg (by omega), if_pos (by omega)]
        have q := hd.same same2
        refine ⟨q.1, fun k hk => ⟨by have := q.2 k hk; simp only at this; omega, by have := (hd.lt k hk).2; omega⟩⟩
    · rw [getD_snoc] at hki hkj
      rw [List.length_append, List.length_singleton] at hi2 hj2
      have old : ∀ j, j < us.length → ∀ k, (us.getD j undef).ownBlock = some k → k < X := fun j hj k hk => ((hu1 j (by omega)).lt k hk).1.2
      by_cases e1 : i < us.length
      · rw [if_pos e1] at hki
        by_cases e2 : j < us.length
        · rw [if_pos e2] at hkj
          exact h3 i j k e1 e2 hki hkj
        · rw [if_neg e2, if_pos (by omega)] at hkj
          have := (hd.lt k hkj).1
          have := old i e1 k hki
          omega
      · rw [if_neg e1, if_pos (by omega)] at hki
        by_cases e2 : j < us.length
        · rw [if_pos e2] at hkj
          have := (hd.lt k hki).1
          have := old j e2 k hkj
          omega
        · omega
    · rw [getD_snoc] at hk
      rw [List.length_append, List.length_singleton] at hj
      by_cases e1 : j < us.length
      · rw [if_pos e1] at hk
        rcases l1 with l1 | l1
        · rw [l1]; exact h4 j k e1 hk
        · rw [l1]; intro e2; cases e2
          have := ((hu1 j (by omega)).lt _ hk).2
          omega
      · rw [if_neg e1, if_pos (by omega)] at hk
        have q := hd.lt k hk
        rcases l1 with l1 | l1
        · rw [l1]; intro e2; have := (hvB k e2).2; have := q.1; omega
        · rw [l1]; intro e2; cases e2; omega

theorem Try.infoFF : (Try.prog.info? 25).map (fun i => (i.zero, i.size, i.bytes)) = some (some (.slice none 0 0), 1, 24) := by kernel_rfl
def OwnSS (w : World) (S : Nat → Prop) (v : Value) (Ls : List (List Nat)) : Prop := OwnC w S 25 1 v Ls.length (Ls.map D1.fs)
def pl3 : List Nat := [1077936128, 1065353216, 1073741824]
theorem Chg.only {a w w' : World} {S S' : Nat → Prop} (h : Chg a w S) (hc : Chg w w' S') (hS : ∀ k, S' k → k < a.heap.size → S k) : Chg a w' S :=
  ⟨hc.os.trans h.os, hc.tape.trans h.tape, hc.output.trans h.output, Nat.le_trans h.size hc.size, fun k hk hn => (hc.block k (Nat.lt_of_lt_of_le hk h.size) fun e => hn (hS k e hk)).trans (h.block k hk hn)⟩
theorem Own1.kept {w w' : World} {S : Nat → Prop} {d : D1} {u : Value} (h : Own1 w S d u) (hb : Below w.heap.size w w') : Own1 w' S d u := h.same fun k hk => hb.block k (h.lt k hk).2
set_option maxRecDepth 100000 in
set_option maxHeartbeats 3200000 in
theorem flatGather_any (w : World) (v : Value) (h : RdF w v pl3) :
    Calls Try.prog 25 #[.int .i64 16, v] w fun e w' => ∃ vp vt M, e = .returned (.tuple #[.agg #[.int .i64 16, vp, vt], .bool true]) ∧ OwnF w' w.heap.size vp pl3 ∧ (∀ k, vp.ownBlock = some k → k < M) ∧ w.heap.size ≤ M ∧ OwnSS w' (Iv M w'.heap.size) vt (List.replicate 3 (List.replicate 16 0)) ∧ Below w.heap.size w w' := by
  have HR := Lib.hid h
  obtain ⟨a, c, rfl, -⟩ := h.opened
  have e3 : pl3.length = 3 := rfl
  rw [e3] at *
  have HLF := Lib.hid (fun wq => lengthF_any wq a 3 c)
  have HW1 := Lib.hid (fun wq => within_any wq 16 1 64)
  have HW2 := Lib.hid (fun wq => within_any wq 3 1 16)
  rw [show inB 16 1 64 = true by decide] at HW1
  rw [show inB 3 1 16 = true by decide] at HW2
  have HF := Lib.hid (fun wq hq => areFinite_any wq _ pl3 (HR.out.mono hq) (by decide))
  rw [show allB (fin .f32) pl3 = true by decide +kernel] at HF
  clear h
  go_enter Try.func25, Try.ntmps25
  go_wp2_with fail
  refine (HW1.out _).mono ?_
  rintro e w1 ⟨rfl, hw1⟩
  go_wp2_with fail
  refine (HLF.out _).mono ?_
  rintro e w2 ⟨rfl, hw2⟩
  go_wp2_with fail
  refine (HW2.out _).mono ?_
  rintro e w3 ⟨rfl, hw3⟩
  go_wp2_with fail
  have x0 : Below w.heap.size w (w.alloc (.cells #[.int .i64 0, .slice none 0 0, .slice none 0 0] 44)) := (Below.refl _ _).alloc (Nat.le_refl _) _
  have z0 : (w.alloc (.cells #[.int .i64 0, .slice none 0 0, .slice none 0 0] 44)).heap.size = w.heap.size + 1 := World.size_alloc _ _
  refine (HF.out _ x0).mono ?_
  rintro e w4 ⟨rfl, n4, hw4⟩
  have h4 : w4.heap[w.heap.size]? = some (.cells #[.int .i64 0, .slice none 0 0, .slice none 0 0] 44 (0, 0)) := by rw [hw4]; exact alloc_new _ _
  have z4 : w4.heap.size = w.heap.size + 1 := by rw [hw4]; exact z0
  have b4 : Below w.heap.size w w4 := by rw [hw4]; exact Below.drewN x0 _
  have H4 := Lib.hid h4
  have B4 := Lib.hid b4
  have HC := Lib.hid (clone_any w4 _ pl3 (HR.out.mono b4) (by decide))
  clear hw4 h4 b4 x0 z0 hw1 hw2 hw3 HW1 HW2 HF HLF
  go_wp2_with fail
  refine HC.out.mono ?_
  rintro e w5 ⟨vp, rfl, o5, b5⟩
  have O5 := Lib.hid o5
  obtain ⟨gp, cp, hvp, hgp, -⟩ := o5.at_block (n := 3) rfl (by decide)
  subst hvp
  have z5 := b5.size
  have H5 : Hid (w5.heap[w.heap.size]? = some (.cells #[.int .i64 0, .slice none 0 0, .slice none 0 0] 44 (0, 0))) := Lib.hid ((b5.block w.heap.size (by omega)).trans H4.out)
  have B5 := Lib.hid (B4.out.trans (b5.mono (by omega)))
  clear o5 b5 HC H4 B4
  go_wp2_with fail
  have z6 : (w5.alloc (.cells #[.int .i64 16, .slice (some ⟨gp, 0, none⟩) 3 cp, .slice none 0 0] 44)).heap.size = w5.heap.size + 1 := World.size_alloc _ _
  have x6 : Below w5.heap.size w5 (w5.alloc (.cells #[.int .i64 16, .slice (some ⟨gp, 0, none⟩) 3 cp, .slice none 0 0] 44)) := (Below.refl _ _).alloc (Nat.le_refl _) _
  have X6 := Lib.hid x6
  clear x6
  go_loopw [28] (fun i wr => ∃ (j : Nat) (vt : Value), j ≤ 3 ∧ i = .int .i64 j ∧ OwnSS wr (Iv (w5.heap.size + 1) wr.heap.size) vt (List.replicate j (List.replicate 16 0)) ∧ wr.heap[w5.heap.size]? = some (.cells #[.int .i64 16, .slice (some ⟨gp, 0, none⟩) 3 cp, vt] 44 (0, 0)) ∧ Chg w5 wr (fun _ => False)) (fun i _ => 3 - (intOf i).toNat)
  case atStart => exact ⟨0, .slice none 0 0, by decide, rfl, ⟨[], rfl, World.ownsRow_nil _ 0 _ 1, (fun k hk => by cases hk), (fun j hj => by cases hj), (fun i j k hi => by cases hi), (fun j k hj => by cases hj)⟩, alloc_new _ _, Chg.of_below X6.out _⟩
  case round =>
    obtain ⟨wi, rfl⟩ : ∃ wi : World, wi = wr := ⟨_, rfl⟩
    obtain ⟨j, vt, hj, rfl, ho, hb, hc⟩ := hrel
    have HO := Lib.hid ho
    have HB := Lib.hid hb
    have HCg := Lib.hid hc
    have hgs : w5.heap.size < wi.heap.size := (Array.getElem?_eq_some_iff.1 hb).1
    by_cases hlt : j < 3
    · clear ho hb hc
      have FX : Hid (∀ wq, Ext wi wq → wq.cell? ⟨w5.heap.size, 2, none⟩ = some vt) := Lib.hid fun wq hq => by
        obtain ⟨-, -, k2, -, -, -⟩ := blk3 ((hq.block w5.heap.size hgs).trans HB.out)
        exact k2
      have hd : decide ((j : Int) < 3) = true := by simp; omega
      go_wp2_with fail
      refine region_grow_tail 5 (by kernel_rfl) (by kernel_rfl) (fun _ _ _ _ _ => False) ?_
      simp only [List.take_succ_cons, List.take_zero, List.drop_succ_cons, List.drop_zero]
      iterate 3 (refine wpRelK_still rfl rfl (fun wq hq K hK => ?_); (have k2 := FX.out wq ((Ext.drew wi).trans hq.1)); go_wp2; clear k2)
      refine wpRelK_op rfl rfl (fun wa ha K hK => ?_)
      have ga : wi.heap.size ≤ wa.heap.size := ha.1.size
      refine op_make _ _ 25 rfl 27 (.float .f32 0) 4 Try.underlying25 Try.infoF rfl _ _ _ _ 16 rfl rfl rfl rfl (by decide) (by decide) ?_
      intro w7 o7 x7
      refine hK _ _ x7 ?_
      clear hK K
      refine wpRelK_op rfl rfl (fun wb hb2 K hK => ?_)
      have E7b : Ext w7 wb := hb2.dep 3 (by kernel_rfl)
      have gb : wi.heap.size ≤ wb.heap.size := hb2.1.size
      go_wp2
      refine hK _ _ ((Below.refl _ _).alloc (Nat.le_refl _) _) ?_
      clear hK K
      refine wpRelK_nil ?_
      intro w8 hW hall
      have E7 : Ext w7 w8 := hall 3 (by decide)
      have E8 : Ext (wb.alloc (.cells #[.slice (some ⟨wa.heap.size, 0, none⟩) 16 16] 25)) w8 := hall 4 (by decide)
      have xW : Ext wi w8 := (Ext.drew wi).trans hW
      have OX : Hid (OwnF w8 wa.heap.size (.slice (some ⟨wa.heap.size, 0, none⟩) 16 16) (List.replicate 16 0)) := Lib.hid ((OwnF.made o7).kept E7)
      have hcell8 : w8.cell? ⟨wb.heap.size, 0, none⟩ = some (.slice (some ⟨wa.heap.size, 0, none⟩) 16 16) := cell_of_row w8 _ 0 _ _ _ ((E8.block wb.heap.size (by rw [World.size_alloc]; omega)).trans (alloc_new _ _))
      have HC8 := Lib.hid hcell8
      have XW := Lib.hid xW
      have z8 := xW.size
      have hd1 : Own1 w8 (fun k => wi.heap.size ≤ k) (.fs (List.replicate 16 0)) (.slice (some ⟨wa.heap.size, 0, none⟩) 16 16) := Own1.fs_ OX.out fun k hk => by cases hk; exact ga
      have HD1 := Lib.hid hd1
      clear hall hW E7 E8 E7b o7 x7 hb2 ha hcell8 xW hd1
      refine wpList_pushC rfl _ _ 42 25 rfl (.slice none 0 0) 24 Try.underlying42 Try.infoFF rfl (by decide) (w5.heap.size + 1) wi.heap.size _ _ _ rfl (OwnC.kept HO.out XW.out) (by omega) (by omega) _ _ _ (.fs (List.replicate 16 0)) rfl HC8.out rfl HD1.out (by simp; omega) ?_
      intro v9 w9 o9 g9 l9
      rw [List.length_replicate] at o9
      have z9 := g9.size
      obtain ⟨q9, cap9, hv9, -⟩ := (OwnC.form o9).resolve_left fun h => by have := h.2.1; omega
      subst hv9
      have hb9 : w9.heap[w5.heap.size]? = some (.cells #[.int .i64 16, .slice (some ⟨gp, 0, none⟩) 3 cp, vt] 44 (0, 0)) := by
        rw [g9.block w5.heap.size (by omega) fun e => by have := (OwnC.lt HO.out _ e.symm).1.1; omega, XW.out.block w5.heap.size hgs]
        exact HB.out
      obtain ⟨k0, k1, k2, f0, f1, f2⟩ := blk3 hb9
      have P := (Put.one hb9 2 (.slice (some ⟨q9, 0, none⟩) (j + 1) cap9)).cs (cs' := #[.int .i64 16, .slice (some ⟨gp, 0, none⟩) 3 cp, .slice (some ⟨q9, 0, none⟩) (j + 1) cap9]) (by simp)
      have HP := Lib.hid P
      have O9 := Lib.hid o9
      have C9 : Hid (Chg w5 w9 (fun _ => False)) := Lib.hid ((HCg.out.trans (Chg.of_below XW.out _)).only (Chg.of_grown (S := fun b => vt.ownBlock = some b) g9 fun b hb => hb) fun k hk hkl => by have := (OwnC.lt HO.out _ hk).1.1; omega)
      clear o9 g9 l9 hb9 P
      go_wp2
      refine ⟨⟨j + 1, _, by omega, by go_num, ?_, HP.out.heap, ?_⟩, by simp [intOf]; omega⟩
      · have := OwnC.chg O9.out HP.out.chg (fun k hk e => by have := hk.1; omega)
        rw [HP.out.size]
        unfold OwnSS
        rw [List.length_replicate]
        rw [List.replicate_succ', List.map_append]
        exact this
      · exact C9.out.only HP.out.chg fun k hk hkl => by omega
    · obtain rfl : j = 3 := by omega
      have hn3 : (List.replicate 3 (List.replicate 16 (0 : Nat))).length = 3 := rfl
      obtain ⟨q9, cap9, hv9, -⟩ := (OwnC.form ho).resolve_left fun h => by have := h.2.1; rw [hn3] at this; omega
      rw [hn3] at hv9
      subst hv9
      obtain ⟨k0, k1, k2, -, -, -⟩ := blk3 hb
      have h5 : wi.heap[w.heap.size]? = some (.cells #[.int .i64 0, .slice none 0 0, .slice none 0 0] 44 (0, 0)) := (hc.block w.heap.size (by omega) (fun h => h)).trans H5.out
      obtain ⟨m0, m1, m2, f0, f1, f2⟩ := blk3 h5
      have P := put3 h5 (.int .i64 16) (.slice (some ⟨gp, 0, none⟩) 3 cp) (.slice (some ⟨q9, 0, none⟩) 3 cap9)
      have OP : Hid (OwnF wi w4.heap.size (.slice (some ⟨gp, 0, none⟩) 3 cp) pl3) := Lib.hid (O5.out.chg hc fun k hk e => e)
      clear ho hb hc h5
      go_wp2_with fail
      generalize (((wi.setCell ⟨w.heap.size, 0, none⟩ (.int .i64 16)).setCell ⟨w.heap.size, 1, none⟩ (.slice (some ⟨gp, 0, none⟩) 3 cp)).setCell ⟨w.heap.size, 2, none⟩ (.slice (some ⟨q9, 0, none⟩) 3 cap9)) = wz at *
      obtain ⟨q0, q1, q2, -, -, -⟩ := blk3 P.heap
      refine bodyPost_ret (v := .tuple #[.agg #[.int .i64 16, .slice (some ⟨gp, 0, none⟩) 3 cp, .slice (some ⟨q9, 0, none⟩) 3 cap9], .bool true]) (by simp [results, Try.results25, go_sem, q0, q1, q2]) rfl ?_
      refine ⟨_, _, w5.heap.size + 1, rfl, ?_, ?_, by omega, ?_, ?_⟩
      · exact (OP.out.chg P.chg fun k hk e => by have := (OP.out.lt hk).1; omega).mono (by omega)
      · intro k hk
        have := (OwnF.lt O5.out hk).2
        omega
      · have := OwnC.chg HO.out P.chg (fun k hk e => by have := hk.1; omega)
        exact OwnC.wide this fun k hk => ⟨by have := hk.1; omega, by rw [P.size]; exact hk.2⟩
      · exact Below.chg (Below.chg B5.out HCg.out (fun k hk => hk.elim) (by omega)) P.chg (fun k hk => by omega) (by omega)
end Go.Proofs.Ythacadbdncfocaa
