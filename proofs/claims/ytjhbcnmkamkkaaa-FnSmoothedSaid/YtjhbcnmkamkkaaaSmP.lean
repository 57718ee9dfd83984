/- Plain: what FnSmoothed asks of quarters. -/
import Derived.Test.YtjhbcnmkamkkaaaSmV
import Derived.Test.YtjhbcnmkamkkaaaSmB
namespace Go.Proofs.Ytjhbcnmkamkkaaa
open Go Go.RowKit

theorem qT_sum1 (x y : Int) (h0 : -8 ≤ x) (h1 : x ≤ 8) (g0 : -8 ≤ y) (g1 : y ≤ 8) : fop .add .f32 (qT x) (qT y) = qT (x + y) := by
  have key : ∀ i j : Fin 17, fop .add .f32 (qT ((i.1 : Int) - 8)) (qT ((j.1 : Int) - 8)) = qT ((i.1 : Int) - 8 + ((j.1 : Int) - 8)) := by decide +kernel
  have := key ⟨(x + 8).toNat, by omega⟩ ⟨(y + 8).toNat, by omega⟩
  simp only [show (((x + 8).toNat : Nat) : Int) = x + 8 by omega, show (((y + 8).toNat : Nat) : Int) = y + 8 by omega] at this
  rwa [show x + 8 - 8 = x by omega, show y + 8 - 8 = y by omega] at this
theorem qT_sum2 (x y : Int) (h0 : -16 ≤ x) (h1 : x ≤ 16) (g0 : -8 ≤ y) (g1 : y ≤ 8) : fop .add .f32 (qT x) (qT y) = qT (x + y) := by
  have key : ∀ (i : Fin 33) (j : Fin 17), fop .add .f32 (qT ((i.1 : Int) - 16)) (qT ((j.1 : Int) - 8)) = qT ((i.1 : Int) - 16 + ((j.1 : Int) - 8)) := by decide +kernel
  have := key ⟨(x + 16).toNat, by omega⟩ ⟨(y + 8).toNat, by omega⟩
  simp only [show (((x + 16).toNat : Nat) : Int) = x + 16 by omega, show (((y + 8).toNat : Nat) : Int) = y + 8 by omega] at this
  rwa [show x + 16 - 16 = x by omega, show y + 8 - 8 = y by omega] at this
theorem qT_sum3 (x y : Int) (h0 : -24 ≤ x) (h1 : x ≤ 24) (g0 : -8 ≤ y) (g1 : y ≤ 8) : fop .add .f32 (qT x) (qT y) = qT (x + y) := by
  have key : ∀ (i : Fin 49) (j : Fin 17), fop .add .f32 (qT ((i.1 : Int) - 24)) (qT ((j.1 : Int) - 8)) = qT ((i.1 : Int) - 24 + ((j.1 : Int) - 8)) := by decide +kernel
  have := key ⟨(x + 24).toNat, by omega⟩ ⟨(y + 8).toNat, by omega⟩
  simp only [show (((x + 24).toNat : Nat) : Int) = x + 24 by omega, show (((y + 8).toNat : Nat) : Int) = y + 8 by omega] at this
  rwa [show x + 24 - 24 = x by omega, show y + 8 - 8 = y by omega] at this
theorem keep_one (x y : Int) (h0 : -8 ≤ x) (h1 : x ≤ 8) (g0 : -32 ≤ y) (g1 : y ≤ 32) : fop .add .f32 (fop .mul .f32 (fop .sub .f32 1065353216 0) (qT x)) (fop .mul .f32 0 (fop .mul .f32 1048576000 (qT y))) = qT x := by
  have key : ∀ (i : Fin 17) (j : Fin 65), fop .add .f32 (fop .mul .f32 (fop .sub .f32 1065353216 0) (qT ((i.1 : Int) - 8))) (fop .mul .f32 0 (fop .mul .f32 1048576000 (qT ((j.1 : Int) - 32)))) = qT ((i.1 : Int) - 8) := by decide +kernel
  have := key ⟨(x + 8).toNat, by omega⟩ ⟨(y + 32).toNat, by omega⟩
  simp only [show (((x + 8).toNat : Nat) : Int) = x + 8 by omega, show (((y + 32).toNat : Nat) : Int) = y + 32 by omega] at this
  rwa [show x + 8 - 8 = x by omega, show y + 32 - 32 = y by omega] at this
theorem qT_notNan (z : Int) (h0 : -8 ≤ z) (h1 : z ≤ 8) : isN .f32 (qT z) = false ∧ absC (qT z) = qT z.natAbs := by
  have key : ∀ i : Fin 17, isN .f32 (qT ((i.1 : Int) - 8)) = false ∧ absC (qT ((i.1 : Int) - 8)) = qT (((i.1 : Int) - 8).natAbs : Int) := by decide +kernel
  have := key ⟨(z + 8).toNat, by omega⟩
  simp only [show (((z + 8).toNat : Nat) : Int) = z + 8 by omega] at this
  rwa [show z + 8 - 8 = z by omega] at this
theorem qT_order (i j : Nat) (h : i ≤ 36) (g : j ≤ 36) : (FloatKind.f32.format.order (qT i) (qT j) == some Ordering.gt) = decide (j < i) ∧ (FloatKind.f32.format.order (qT i) (qT i) == some Ordering.eq) = true := by
  have key : ∀ (i : Fin 37) (j : Fin 37), (FloatKind.f32.format.order (qT (i.1 : Int)) (qT (j.1 : Int)) == some Ordering.gt) = decide (j.1 < i.1) ∧ (FloatKind.f32.format.order (qT (i.1 : Int)) (qT (i.1 : Int)) == some Ordering.eq) = true := by decide +kernel
  exact key ⟨i, by omega⟩ ⟨j, by omega⟩
theorem getD_mapq (f : Int → Nat) (hf : f 0 = 0) (zs : List Int) (i : Nat) : (zs.map f).getD i 0 = f (zs.getD i 0) := by
  simp only [List.getD_eq_getElem?_getD, List.getElem?_map]
  cases zs[i]? <;> simp [hf]
/-- The best of quarters that are no less than nothing. -/
theorem best_q (ys : List Nat) (hy : ∀ y ∈ ys, y ≤ 36) (L : List Nat) (hL : ∀ j, j < ys.length → L.getD j 0 = qT (ys.getD j 0 : Nat)) : ∀ n, 1 ≤ n → n ≤ ys.length → ∃ o, bestF L n = some o ∧ o < n ∧ ∀ k, k < n → ys.getD k 0 ≤ ys.getD o 0 := by
  have hb : ∀ j, ys.getD j 0 ≤ 36 := fun j => by
    rw [List.getD_eq_getElem?_getD]
    cases h : ys[j]? with
    | none => simp
    | some u => simpa using hy u (List.mem_of_getElem? h)
  intro n
  induction n with
  | zero => intro h; omega
  | succ n ih =>
    intro _ hn
    rcases Nat.eq_zero_or_pos n with rfl | hp
    · refine ⟨0, ?_, by omega, fun k hk => ?_⟩
      rotate_left
      · obtain rfl : k = 0 := by omega
        exact Nat.le_refl _
      have e0 : bestF L 0 = none := rfl
      rw [bestF, e0]
      simp only []
      rw [hL 0 (by omega), (qT_order _ _ (hb 0) (hb 0)).2, if_pos rfl]
    · obtain ⟨o, h1, h2, h3⟩ := ih hp (by omega)
      have hgt := (qT_order (ys.getD n 0) (ys.getD o 0) (hb n) (hb o)).1
      rw [bestF, h1]
      simp only []
      rw [hL n (by omega), hL o (by omega), hgt]
      by_cases hlt : ys.getD o 0 < ys.getD n 0
      · rw [decide_eq_true hlt, if_pos rfl]
        refine ⟨n, rfl, by omega, fun k hk => ?_⟩
        rcases Nat.lt_succ_iff_lt_or_eq.1 hk with h | rfl
        · have := h3 k h; omega
        · exact Nat.le_refl _
      · rw [decide_eq_false hlt, if_neg (by decide)]
        refine ⟨o, rfl, by omega, fun k hk => ?_⟩
        rcases Nat.lt_succ_iff_lt_or_eq.1 hk with h | rfl
        · exact h3 k h
        · omega
theorem strong_zs (zs : List Int) (hz : ∀ z ∈ zs, -8 ≤ z ∧ z ≤ 8) (h1 : 1 ≤ zs.length) :
    ∃ o, bestF ((zs.map qT).map absC) (zs.map qT).length = some o ∧ o < zs.length ∧ (∀ k, k < zs.length → (zs.getD k 0).natAbs ≤ (zs.getD o 0).natAbs) ∧ bestF (((zs.map qT).set o 1091567616).map absC) ((zs.map qT).set o 1091567616).length = some o := by
  have hq0 : qT 0 = 0 := by decide +kernel
  have hzb : ∀ j, -8 ≤ zs.getD j 0 ∧ zs.getD j 0 ≤ 8 := fun j => by
    rw [List.getD_eq_getElem?_getD]
    cases h : zs[j]? with
    | none => simp
    | some u => simpa using hz u (List.mem_of_getElem? h)
  have e1 : ∀ j, j < zs.length → ((zs.map qT).map absC).getD j 0 = qT ((zs.map Int.natAbs).getD j 0 : Nat) := fun j hj => by
    have e : ((zs.map qT).map absC).getD j 0 = absC (qT (zs.getD j 0)) := by
      simp [List.getD_eq_getElem?_getD, List.getElem?_map, List.getElem?_eq_getElem hj]
    rw [e, (qT_notNan _ (hzb j).1 (hzb j).2).2]
    congr 1
    simp [List.getD_eq_getElem?_getD, List.getElem?_map, List.getElem?_eq_getElem hj]
  have en : ∀ j, j < zs.length → (zs.map Int.natAbs).getD j 0 = (zs.getD j 0).natAbs := fun j hj => by
    simp [List.getD_eq_getElem?_getD, List.getElem?_map, List.getElem?_eq_getElem hj]
  obtain ⟨o, ho1, ho2, ho3⟩ := best_q (zs.map Int.natAbs) (fun y hy => by
    obtain ⟨z, hz1, rfl⟩ := List.mem_map.1 hy
    have := hz z hz1
    omega) ((zs.map qT).map absC) (fun j hj => e1 j (by simpa using hj)) zs.length h1 (by simp)
  refine ⟨o, by rw [List.length_map]; exact ho1, ho2, fun k hk => by rw [← en k hk, ← en o ho2]; exact ho3 k hk, ?_⟩
  have h9 : absC 1091567616 = qT (36 : Nat) := by decide +kernel
  obtain ⟨p, hp1, hp2, hp3⟩ := best_q ((zs.map Int.natAbs).set o 36) (fun y hy => by
    rcases List.mem_or_eq_of_mem_set hy with h | rfl
    · obtain ⟨z, hz1, rfl⟩ := List.mem_map.1 h
      have := hz z hz1
      omega
    · exact Nat.le_refl _) (((zs.map qT).set o 1091567616).map absC) (fun j hj => by
      have hj2 : j < zs.length := by simpa using hj
      rw [List.map_set, getD_set _ _ _ _ (by simp; exact hj2), getD_set _ _ _ _ (by simp; exact hj2)]
      by_cases hjo : j = o
      · rw [if_pos hjo, if_pos hjo]; exact h9
      · rw [if_neg hjo, if_neg hjo]; exact e1 j hj2) zs.length h1 (by simp)
  have hpo : p = o := by
    have h5 := hp3 o ho2
    rw [getD_set _ _ _ _ (by simp; exact ho2), if_pos rfl, getD_set _ _ _ _ (by simp; exact hp2)] at h5
    by_cases hpo : p = o
    · exact hpo
    · rw [if_neg hpo, en p hp2] at h5
      have := hzb p
      omega
  rw [hpo] at hp1
  rw [List.length_set, List.length_map]
  exact hp1
theorem eachTo_eq (G : Nat → Nat → Nat) (a b : Nat) (L : List Nat) (hl : L.length = a * b) (hG : ∀ x z, x < a → z < b → G x z = L.getD (x + a * z) 0) : eachTo G a (a * b) = L := by
  refine ext_getD (by rw [eachTo_length, hl]) fun k hk => ?_
  rw [eachTo_length] at hk
  have ha : 0 < a := by
    rcases Nat.eq_zero_or_pos a with rfl | h
    · rw [Nat.zero_mul] at hk; omega
    · exact h
  rw [eachTo_getD _ _ _ _ hk, hG _ _ (Nat.mod_lt _ ha) ((Nat.div_lt_iff_lt_mul ha).2 (by rw [Nat.mul_comm]; exact hk)), Nat.mod_add_div]
theorem near_rep (X : Nat) {a b : Nat} (ha : 1 ≤ a) (hb : 1 ≤ b) (x z : Int) : nearF (List.replicate (a * b) X) a b x z = X := by
  have h := near_lt x z ha hb
  unfold nearF
  rw [List.getD_eq_getElem?_getD, List.getElem?_replicate, if_pos h]
  rfl
theorem rep_at (X n k : Nat) (h : k < n) : (List.replicate n X).getD k 0 = X := by
  rw [List.getD_eq_getElem?_getD, List.getElem?_replicate, if_pos h]
  rfl
theorem place_lt {a b x z : Nat} (hx : x < a) (hz : z < b) : x + a * z < a * b := by
  have h3 : a * (z + 1) ≤ a * b := Nat.mul_le_mul (Nat.le_refl _) hz
  rw [Nat.mul_add] at h3
  omega
theorem smooth_flat {a b : Nat} (ha : 1 ≤ a) (hb : 1 ≤ b) : eachTo (smoothF (List.replicate (a * b) 1069547520) a b 1048576000) a (a * b) = List.replicate (a * b) 1069547520 := by
  refine eachTo_eq _ _ _ _ (by simp) fun x z hx hz => ?_
  rw [rep_at _ _ _ (place_lt hx hz)]
  unfold smoothF aroundF
  simp only [near_rep _ ha hb]
  decide +kernel
theorem edge_flat {a b : Nat} (ha : 1 ≤ a) (hb : 1 ≤ b) : eachTo (edgeF (List.replicate (a * b) 1069547520) a b) a (a * b) = List.replicate (a * b) 0 := by
  refine eachTo_eq _ _ _ _ (by simp) fun x z hx hz => ?_
  rw [rep_at _ _ _ (place_lt hx hz)]
  unfold edgeF
  simp only [near_rep _ ha hb]
  decide +kernel
theorem keep_all {a b : Nat} (ha : 1 ≤ a) (hb : 1 ≤ b) (zs : List Int) (hz : ∀ z ∈ zs, -8 ≤ z ∧ z ≤ 8) (hl : zs.length = a * b) : eachTo (smoothF (zs.map qT) a b 0) a (a * b) = zs.map qT := by
  have hq0 : qT 0 = 0 := by decide +kernel
  have hzb : ∀ j, -8 ≤ zs.getD j 0 ∧ zs.getD j 0 ≤ 8 := fun j => by
    rw [List.getD_eq_getElem?_getD]
    cases h : zs[j]? with
    | none => simp
    | some u => simpa using hz u (List.mem_of_getElem? h)
  have hnear : ∀ x z : Int, ∃ t : Int, nearF (zs.map qT) a b x z = qT t ∧ -8 ≤ t ∧ t ≤ 8 := fun x z => ⟨_, by unfold nearF; exact getD_mapq qT hq0 zs _, hzb _⟩
  refine eachTo_eq _ _ _ _ (by simp [hl]) fun x z hx hz => ?_
  obtain ⟨t1, e1, a1, b1⟩ := hnear ((x : Int) - 1) z
  obtain ⟨t2, e2, a2, b2⟩ := hnear ((x : Int) + 1) z
  obtain ⟨t3, e3, a3, b3⟩ := hnear x ((z : Int) - 1)
  obtain ⟨t4, e4, a4, b4⟩ := hnear x ((z : Int) + 1)
  have e5 : nearF (zs.map qT) a b x z = qT (zs.getD (x + a * z) 0) := by
    unfold nearF
    rw [cl_in (by omega) (by omega), cl_in (by omega) (by omega), Int.toNat_natCast, Int.toNat_natCast]
    exact getD_mapq qT hq0 zs _
  unfold smoothF aroundF
  rw [e1, e2, e3, e4, e5, qT_sum1 _ _ a1 b1 a2 b2, qT_sum2 _ _ (by omega) (by omega) a3 b3, qT_sum3 _ _ (by omega) (by omega) a4 b4, keep_one _ _ (hzb _).1 (hzb _).2 (by omega) (by omega), getD_mapq qT hq0]
/-- What 'max' of a number and of its opposite is. -/
def MaxOf (t m : Nat) : Prop := (FloatKind.f32.format.order t (t ^^^ 2147483648) = some .lt ∧ m = t ^^^ 2147483648) ∨ (FloatKind.f32.format.order t (t ^^^ 2147483648) = some .gt ∧ m = t) ∨ (FloatKind.f32.format.order t (t ^^^ 2147483648) = some .eq ∧ (FloatKind.f32.decode t).neg = false ∧ m = t)
instance (t m : Nat) : Decidable (MaxOf t m) := by unfold MaxOf; infer_instance
theorem max_qT (z : Int) (h0 : -8 ≤ z) (h1 : z ≤ 8) : MaxOf (qT z) (qT z.natAbs) := by
  have key : ∀ i : Fin 17, MaxOf (qT ((i.1 : Int) - 8)) (qT (((i.1 : Int) - 8).natAbs : Int)) := by decide +kernel
  have := key ⟨(z + 8).toNat, by omega⟩
  simp only [show (((z + 8).toNat : Nat) : Int) = z + 8 by omega] at this
  rwa [show z + 8 - 8 = z by omega] at this
end Go.Proofs.Ytjhbcnmkamkkaaa
