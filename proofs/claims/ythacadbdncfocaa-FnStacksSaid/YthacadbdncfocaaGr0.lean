/- Walks on a seat of gathers: a row of rows grows by one; what the draws share. -/
import Derived.Test.YthacadbdncfocaaSfG
import Derived.Deep.RegionWith
import Derived.Deep.CutRange
import Derived.Deep.DeepCutAuto
namespace Go.Proofs.Ythacadbdncfocaa
open Go Go.RowKit

/-- 'append' of one row to a row of rows of the call's own. -/
theorem wpList_pushS {P : Program} {ops : Array Oper} {rest : List Oper} {o : Oper} {a : Act} {w : World} {Q : Exit → Act → World → Prop} (hgd : o.guard = none) (s x : Operand) (t e : TypeId)
    (ho : o.op = .call { callee := .builtin .append, args := #[s, x], argTypes := #[t, t] }) (z : Value) (bytes : Nat) (ht : P.underlying t = some (.slice e)) (hinfo : (P.info? e).map (fun i => (i.zero, i.size, i.bytes)) = some (some z, 1, bytes))
    (hzs : z.cells.size = 1) (hby : bytes ≤ 100) (S : Nat → Prop) (X : Nat) (v : Value) (n : Nat) (ds : List D1) (hs : a.eval s = v) (hown : OwnC w S e 1 v n ds) (hX : X ≤ w.heap.size) (hSX : ∀ k, S k → k < X)
    (ad : Addr) (c : Nat) (u : Value) (d : D1) (hx : a.eval x = .slice (some ad) 1 c) (hcell : w.cell? ad = some u) (hu : u.oneCell' = true) (hd : Own1 w (fun k => X ≤ k) d u) (hlen : n ≤ 1048576)
    (h : ∀ v' w', OwnC w' (fun k => S k ∨ (X ≤ k ∧ k < w'.heap.size)) e 1 v' (n + 1) (ds ++ [d]) → w.grownBy w' v.ownBlock → (v'.ownBlock = v.ownBlock ∨ v'.ownBlock = some w.heap.size) → wpList P ops Q rest (a.put o.dst v') w') : wpList P ops Q (o :: rest) a w := by
  obtain ⟨i0, hi, hz0, hz1, hz2⟩ := info_parts hinfo
  obtain ⟨us, hl, hown, hv, hu1, h3, h4⟩ := hown
  refine wpList_append_own2 hgd s x t ho 0 e i0 z 1 bytes ht hi hz0 hz1 hz2 hzs (by decide) v n us hs hown ad 1 c [u] hx rfl ?_ ?_ ?_ ?_ (Nat.zero_le _) ?_
  · intro j y hy
    match j, hy with
    | 0, hy =>
      simp at hy; subst hy
      have : ad.add 0 = ad := by unfold Addr.add; split <;> simp_all
      rw [this]; exact hcell
  · intro y hy; simp at hy; subst hy; exact hu
  · unfold maxLen; omega
  · exact Nat.le_trans (Nat.mul_le_mul (by omega : n + 1 ≤ 1048577) hby) (by decide)
  · intro v' w' r1 g1 l1
    have hz := g1.size
    have hvB : ∀ k, v.ownBlock = some k → S k ∧ k < X := fun k hk => ⟨hv k hk, hSX k (hv k hk)⟩
    have same1 : ∀ j, j < ds.length → ∀ k, (us.getD j undef).ownBlock = some k → w'.heap[k]? = w.heap[k]? := fun j hj k hk => by
      have q := (hu1 j hj).lt k hk
      exact g1.block k q.2 fun e2 => h4 j k (by omega) hk e2.symm
    have same2 : ∀ k, u.ownBlock = some k → w'.heap[k]? = w.heap[k]? := fun k hk => by
      have q := hd.lt k hk
      exact g1.block k q.2 fun e2 => by have := (hvB k e2.symm).2; have := q.1; omega
    have hlus : us.length = n := by have := hown.1; omega
    refine h v' w' ⟨us ++ [u], by simp [hl], r1, fun k hk => ?_, fun j hj => ?_, fun i j k hi2 hj2 hki hkj => ?_, fun j k hj hk => ?_⟩ g1 l1
    · have q := (r1.lt k hk).2
      rcases l1 with l1 | l1
      · rw [l1] at hk; exact .inl (hvB k hk).1
      · rw [l1] at hk; cases hk; exact .inr ⟨hX, q⟩
    · rw [getD_snoc, getD_snoc]
      rw [List.length_append, List.length_singleton] at hj
      by_cases hlt : j < ds.length
      · rw [if_pos hlt, if_pos (by omega)]
        have q := (hu1 j hlt).same (same1 j hlt)
        exact q.wide fun k hk => .inl hk
      · have hjl : j = ds.length := by omega
        subst hjl
        rw [if_neg (Nat.lt_irrefl _), if_pos rfl, if_neg (by omega), if_pos (by omega)]
        have q := hd.same same2
        refine ⟨q.1, fun k hk => .inr ⟨by have := q.2 k hk; simp only at this; omega, by have := (hd.lt k hk).2; omega⟩⟩
    · rw [getD_snoc] at hki hkj
      rw [List.length_append, List.length_singleton] at hi2 hj2
      have old : ∀ j, j < us.length → ∀ k, (us.getD j undef).ownBlock = some k → k < X := fun j hj k hk => hSX k ((hu1 j (by omega)).lt k hk).1
      by_cases e1 : i < us.length
      · rw [if_pos e1] at hki
        by_cases e2 : j < us.length
        · rw [if_pos e2] at hkj
          exact h3 i j k e1 e2 hki hkj
        · rw [if_neg e2, if_pos (by omega)] at hkj
          have := (hd.lt k hkj).1
          have := old i e1 k hki
          omega
      · rw [if_neg e1, if_pos (by omega)] at hki
        by_cases e2 : j < us.length
        · rw [if_pos e2] at hkj
          have := (hd.lt k hki).1
          have := old j e2 k hkj
          omega
        · omega
    · rw [getD_snoc] at hk
      rw [List.length_append, List.length_singleton] at hj
      by_cases e1 : j < us.length
      · rw [if_pos e1] at hk
        rcases l1 with l1 | l1
        · rw [l1]; exact h4 j k e1 hk
        · rw [l1]; intro e2; cases e2
          have := ((hu1 j (by omega)).lt _ hk).2
          omega
      · rw [if_neg e1, if_pos (by omega)] at hk
        have q := hd.lt k hk
        rcases l1 with l1 | l1
        · rw [l1]; intro e2; have := (hvB k e2).2; have := q.1; omega
        · rw [l1]; intro e2; cases e2; omega

theorem Src.kept {w w' : World} {g : Nat} {a : Option Addr} {n c : Nat} {t : Int} (h : Src w g a n c t) (hg : w'.heap[g]? = w.heap[g]?) : Src w' g a n c t := by
  obtain ⟨sd, h1, h2⟩ := h
  exact ⟨sd, hg.trans h1, h2⟩
theorem Src.lt {w : World} {g : Nat} {a : Option Addr} {n c : Nat} {t : Int} (h : Src w g a n c t) : g < w.heap.size := by
  obtain ⟨sd, h1, h2⟩ := h
  exact (Array.getElem?_eq_some_iff.1 h1).1
theorem RdY.same {w w' : World} {v : Value} {n : Nat} (h : RdY w v n) (he : w'.heap = w.heap) : RdY w' v n := by
  obtain ⟨a, c, hv, hc, hz, hr⟩ := h
  refine ⟨a, c, hv, hc, hz, fun j hj => ?_⟩
  obtain ⟨b, o, u, ha, hu, hR⟩ := hr j hj
  exact ⟨b, o, u, ha, by unfold World.cell? at *; rw [he]; exact hu, hR⟩
theorem i64_wrapR (x : Int) (h : -1000000 ≤ x) (h2 : x ≤ 1000000) : IntKind.i64.wrap x = x := by
  simp [IntKind.wrap, IntKind.signed, IntKind.bits]
  omega
theorem cellR_same {w w' : World} {b o : Nat} (h : w'.heap[b]? = w.heap[b]?) : w'.cell? ⟨b, o, none⟩ = w.cell? ⟨b, o, none⟩ := by unfold World.cell?; rw [h]
theorem frozenR_same {w w' : World} {b o : Nat} (h : w'.heap[b]? = w.heap[b]?) : w'.frozen? ⟨b, o, none⟩ = w.frozen? ⟨b, o, none⟩ := by unfold World.frozen?; rw [h]
section
variable {P : Program} {md : Region.Mode} {ops : Array Oper}
theorem wpAny_tail {Q' : Exit → Act → World → Prop} {fuel : Nat} {listed : Array Bool} {a : Act} {w : World} (n : Nat) (hf : ops.size = n + fuel) (hB : Region.seqB md ops fuel n listed = true) (h : wpList P ops Q' (ops.toList.drop n) a w) : wpAny P md ops Q' fuel listed a w := by
  have hl : (ops.toList.drop n).length = fuel := by simp [hf]
  have := wpAny_of_seq (md := md) (P := P) (ops := ops) (Q' := Q') (ops.toList.drop n) n listed a w (fun j => by simp [List.getElem?_drop]) (by rw [hl]; exact hB) h
  rwa [hl] at this
end

/-- Halves of integers: places. -/
def hV (z : Int) : Nat := fop .quo .f32 (floatOfInt .f32 z) 1073741824
theorem h2_all : ((List.range 17).all fun k => fxB 1 (hV ((k : Int) - 4)) ((k : Int) - 4)) = true := by decide +kernel
theorem hV_fx (z : Int) (h0 : -4 ≤ z) (h1 : z ≤ 12) : Fx 1 (hV z) z := by
  have := List.all_eq_true.1 h2_all (z + 4).toNat (List.mem_range.2 (by omega))
  rw [show (((z + 4).toNat : Nat) : Int) - 4 = z by omega] at this
  exact Fx.of this
theorem quo_p (d : Nat) (z : Int) (hf : (Ieee.single.read (fop .quo .f32 (floatOfInt .f32 z) d)).isNaN = false) (w : World) : fres .quo .f32 (floatOfInt .f32 z) d w = fop .quo .f32 (floatOfInt .f32 z) d ∧ w.drewN (fcnt .quo .f32 (floatOfInt .f32 z) d) = w := by
  have h : floatBits .quo .f32 (floatOfInt .f32 z) d = some (fop .quo .f32 (floatOfInt .f32 z) d) := by
    unfold fop at hf ⊢
    cases hq : floatBits .quo .f32 (floatOfInt .f32 z) d with
    | some r => rfl
    | none =>
      rw [hq] at hf
      have := isN_nanC .f32
      unfold isN FloatKind.decode at this
      rw [Option.getD_none] at hf
      exact absurd (this.symm.trans hf) (by decide)
  unfold fres fcnt
  rw [h]
  exact ⟨rfl, rfl⟩
theorem hV_fv (z : Int) : FV .f32 (hV z) (hV z) := fop_cls
theorem qv_fv (z : Int) : FV .f32 (qv z) (qv z) := fop_cls
end Go.Proofs.Ythacadbdncfocaa
