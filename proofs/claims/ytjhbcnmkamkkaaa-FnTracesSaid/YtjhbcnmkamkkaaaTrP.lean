/- Plain: what FnTraces asks of quarters and of wavelets. -/
import Derived.Test.YtjhbcnmkamkkaaaTrD
import Derived.Test.YtjhbcnmkamkkaaaPkQ
namespace Go.Proofs.Ytjhbcnmkamkkaaa
open Go Go.RowKit

theorem back_eq (z y : Int) (h0 : -8 ≤ z) (h1 : z ≤ 8) (g0 : -8 ≤ y) (g1 : y ≤ 8) : FloatKind.f32.format.order (fop .sub .f32 (fop .add .f32 (qv z) (qv y)) (qv y)) (qv z) = some .eq := by
  have key : ∀ i j : Fin 17, FloatKind.f32.format.order (fop .sub .f32 (fop .add .f32 (qv ((i.1 : Int) - 8)) (qv ((j.1 : Int) - 8))) (qv ((j.1 : Int) - 8))) (qv ((i.1 : Int) - 8)) = some .eq := by decide +kernel
  have e1 : z = (((z + 8).toNat : Nat) : Int) - 8 := by omega
  have e2 : y = (((y + 8).toNat : Nat) : Int) - 8 := by omega
  rw [e1, e2]
  exact key ⟨(z + 8).toNat, by omega⟩ ⟨(y + 8).toNat, by omega⟩
def sumI (f : Nat → Int) : Nat → Int
  | 0 => 0
  | n + 1 => sumI f n + f n
theorem sumI_congr {f g : Nat → Int} : ∀ n, (∀ j, j < n → f j = g j) → sumI f n = sumI g n
  | 0, _ => rfl
  | n + 1, h => by rw [sumI, sumI, sumI_congr n fun j hj => h j (by omega), h n (by omega)]
theorem sumI_front (f : Nat → Int) : ∀ n, sumI f (n + 1) = f 0 + sumI (fun j => f (j + 1)) n
  | 0 => by simp [sumI]
  | n + 1 => by rw [sumI, sumI_front f n, sumI]; omega
theorem sumI_rev (f : Nat → Int) : ∀ n, sumI (fun j => f (n - 1 - j)) n = sumI f n
  | 0 => rfl
  | n + 1 => by
    rw [sumI_front, sumI, ← sumI_rev f n, Int.add_comm]
    congr 1
    exact sumI_congr n fun j hj => by congr 1; omega
theorem sum_fx (f : Nat → Nat) (g : Nat → Int) (n : Nat) (hn : n ≤ 200) (h : ∀ j, j < n → Fx 4 (f j) (g j) ∧ -64 ≤ g j ∧ g j ≤ 64) : Fx 4 (sumTo .f32 f n) (sumI g n) ∧ -(64 * (n : Int)) ≤ sumI g n ∧ sumI g n ≤ 64 * (n : Int) := by
  induction n with
  | zero => exact ⟨Fx.zero 4, by simp [sumI], by simp [sumI]⟩
  | succ n ih =>
    obtain ⟨a1, a2, a3⟩ := ih (by omega) fun j hj => h j (by omega)
    obtain ⟨b1, b2, b3⟩ := h n (by omega)
    refine ⟨Fx.fopAdd a1 b1 (by decide) (by omega), ?_, ?_⟩ <;> (rw [sumI]; omega)
theorem at_fx (zs : List Int) (hz : ∀ z ∈ zs, -8 ≤ z ∧ z ≤ 8) (i : Nat) : Fx 2 ((zs.map qv).getD i 0) (zs.getD i 0) ∧ -8 ≤ zs.getD i 0 ∧ zs.getD i 0 ≤ 8 := by
  by_cases h : i < zs.length
  · have e1 : (zs.map qv).getD i 0 = qv zs[i] := by simp [List.getD_eq_getElem?_getD, List.getElem?_map, List.getElem?_eq_getElem h]
    have e2 : zs.getD i 0 = zs[i] := by simp [List.getD_eq_getElem?_getD, List.getElem?_eq_getElem h]
    obtain ⟨a, b⟩ := hz _ (List.getElem_mem h)
    rw [e1, e2]
    exact ⟨(qv_fx _ a b).1, a, b⟩
  · have e1 : (zs.map qv).getD i 0 = 0 := by rw [List.getD_eq_getElem?_getD, List.getElem?_eq_none (by simp; omega)]; rfl
    have e2 : zs.getD i 0 = 0 := by rw [List.getD_eq_getElem?_getD, List.getElem?_eq_none (by omega)]; rfl
    rw [e1, e2]
    exact ⟨Fx.zero 2, by decide, by decide⟩
theorem prod_le (a b : Int) (h0 : -8 ≤ a) (h1 : a ≤ 8) (g0 : -8 ≤ b) (g1 : b ≤ 8) : -64 ≤ a * b ∧ a * b ≤ 64 := by
  have key : ∀ i j : Fin 17, -64 ≤ ((i.1 : Int) - 8) * ((j.1 : Int) - 8) ∧ ((i.1 : Int) - 8) * ((j.1 : Int) - 8) ≤ 64 := by decide
  have e1 : a = (((a + 8).toNat : Nat) : Int) - 8 := by omega
  have e2 : b = (((b + 8).toNat : Nat) : Int) - 8 := by omega
  rw [e1, e2]
  exact key ⟨(a + 8).toNat, by omega⟩ ⟨(b + 8).toNat, by omega⟩
theorem mul_fx (zs ys : List Int) (hz : ∀ z ∈ zs, -8 ≤ z ∧ z ≤ 8) (hy : ∀ z ∈ ys, -8 ≤ z ∧ z ≤ 8) (i j : Nat) :
    Fx 4 (fop .mul .f32 ((zs.map qv).getD i 0) ((ys.map qv).getD j 0)) (zs.getD i 0 * ys.getD j 0) ∧ -64 ≤ zs.getD i 0 * ys.getD j 0 ∧ zs.getD i 0 * ys.getD j 0 ≤ 64 := by
  obtain ⟨a1, a2, a3⟩ := at_fx zs hz i
  obtain ⟨b1, b2, b3⟩ := at_fx ys hy j
  obtain ⟨c1, c2⟩ := prod_le _ _ a2 a3 b2 b3
  exact ⟨Fx.fopMul a1 b1 (by decide) (by omega), c1, c2⟩
def foldI (zs ys : List Int) (k : Nat) : Int := sumI (fun j => zs.getD (k + 1 - ys.length + j) 0 * ys.getD (k - (k + 1 - ys.length + j)) 0) (min k (zs.length - 1) + 1 - (k + 1 - ys.length))
theorem foldS_fx (zs ys : List Int) (hz : ∀ z ∈ zs, -8 ≤ z ∧ z ≤ 8) (hy : ∀ z ∈ ys, -8 ≤ z ∧ z ≤ 8) (hl : zs.length ≤ 100) (k : Nat) : Fx 4 (foldS (zs.map qv) (ys.map qv) k) (foldI zs ys k) := by
  unfold foldS foldI
  rw [List.length_map, List.length_map]
  refine (sum_fx _ _ _ (by omega) fun j hj => ?_).1
  unfold foldAt
  rw [List.length_map]
  exact mul_fx zs ys hz hy _ _
theorem foldI_comm (zs ys : List Int) (hl : ys.length = zs.length) (h1 : 1 ≤ zs.length) (k : Nat) (hk : k < 2 * zs.length - 1) : foldI zs ys k = foldI ys zs k := by
  unfold foldI
  rw [hl]
  obtain ⟨lo, hlo⟩ : ∃ lo, k + 1 - zs.length = lo := ⟨_, rfl⟩
  obtain ⟨hi, hhi⟩ : ∃ hi, min k (zs.length - 1) = hi := ⟨_, rfl⟩
  rw [hlo, hhi]
  have e : hi = k - lo := by omega
  rw [← sumI_rev]
  refine sumI_congr _ fun j hj => ?_
  have i1 : lo + (hi + 1 - lo - 1 - j) = k - (lo + j) := by omega
  have i2 : k - (k - (lo + j)) = lo + j := by omega
  simp only [i1, i2]
  exact Int.mul_comm _ _
theorem fx_eq {k x y : Nat} {a : Int} (hx : Fx k x a) (hy : Fx k y a) : FloatKind.f32.format.order x y = some .eq := by
  have := hx.order hy
  rw [show compare a a = Ordering.eq from by simp [compare, compareOfLessAndEq]] at this
  exact this
theorem fold_eq (zs ys : List Int) (hz : ∀ z ∈ zs, -8 ≤ z ∧ z ≤ 8) (hy : ∀ z ∈ ys, -8 ≤ z ∧ z ≤ 8) (hl : ys.length = zs.length) (h1 : 1 ≤ zs.length) (h2 : zs.length ≤ 100) (k : Nat) (hk : k < 2 * zs.length - 1) :
    FloatKind.f32.format.order ((foldM (zs.map qv) (ys.map qv)).getD k 0) ((foldM (ys.map qv) (zs.map qv)).getD k 0) = some .eq := by
  unfold foldM
  rw [tab_getD _ _ _ (by simp only [List.length_map]; omega), tab_getD _ _ _ (by simp only [List.length_map]; omega)]
  refine fx_eq (foldS_fx zs ys hz hy h2 k) ?_
  rw [foldI_comm zs ys hl h1 k hk]
  exact foldS_fx ys zs hy hz (by omega) k
theorem enS_sum (L : List Nat) : ∀ n, enS L n = sumTo .f32 (crossAt L L 0) n
  | 0 => rfl
  | n + 1 => by rw [enS, sumTo, enS_sum L n]; rfl
theorem en_auto (L : List Nat) : (crossM L L 1).getD 0 0 = enS L L.length := by
  rw [crossM_at L L 1 0 (by decide), enS_sum, Nat.sub_zero, Nat.min_self]
theorem en_eq (zs : List Int) (hz : ∀ z ∈ zs, -8 ≤ z ∧ z ≤ 8) (hl : zs.length ≤ 100) : FloatKind.f32.format.order (enS (zs.map qv) (zs.map qv).length) ((crossM (zs.map qv) (zs.map qv) 1).getD 0 0) = some .eq := by
  rw [en_auto, enS_sum]
  have h := (sum_fx (crossAt (zs.map qv) (zs.map qv) 0) (fun j => zs.getD (j + 0) 0 * zs.getD j 0) (zs.map qv).length (by rw [List.length_map]; omega) fun j _ => mul_fx zs zs hz hz _ _).1
  exact fx_eq h h
theorem back_at (zs ys : List Int) (hz : ∀ z ∈ zs, -8 ≤ z ∧ z ≤ 8) (hy : ∀ z ∈ ys, -8 ≤ z ∧ z ≤ 8) (hl : ys.length = zs.length) (i : Nat) (hi : i < zs.length) :
    FloatKind.f32.format.order ((subL (addL (zs.map qv) (ys.map qv)) (ys.map qv)).getD i 0) ((zs.map qv).getD i 0) = some .eq := by
  unfold subL
  rw [tab_getD _ _ _ (by rw [addL_length, List.length_map]; exact hi)]
  unfold addL
  rw [tab_getD _ _ _ (by rw [List.length_map]; exact hi)]
  have e1 : (zs.map qv).getD i 0 = qv zs[i] := by simp [List.getD_eq_getElem?_getD, List.getElem?_map, List.getElem?_eq_getElem hi]
  have hi2 : i < ys.length := by omega
  have e2 : (ys.map qv).getD i 0 = qv ys[i] := by simp [List.getD_eq_getElem?_getD, List.getElem?_map, List.getElem?_eq_getElem hi2]
  rw [e1, e2]
  obtain ⟨a, b⟩ := hz _ (List.getElem_mem hi)
  obtain ⟨c, d⟩ := hy _ (List.getElem_mem hi2)
  exact back_eq _ _ a b c d
/-- Wavelets. -/
theorem wav_peak (r : Nat) (h1 : 1 ≤ r) (h2 : r ≤ 8) : bestF ((wavL r).map absC) (wavL r).length = some r ∧ (wavL r).getD r 0 = 1065353216 ∧ (∀ j, j < 2 * r + 1 → fin .f32 ((wavL r).getD j 0) = true) := by
  have key : ∀ i : Fin 8, bestF ((wavL (i.1 + 1)).map absC) (wavL (i.1 + 1)).length = some (i.1 + 1) ∧ (wavL (i.1 + 1)).getD (i.1 + 1) 0 = 1065353216 ∧ ((List.range (2 * (i.1 + 1) + 1)).all fun j => fin .f32 ((wavL (i.1 + 1)).getD j 0)) = true := by decide +kernel
  have hk := key ⟨r - 1, by omega⟩
  simp only [show r - 1 + 1 = r by omega] at hk
  refine ⟨hk.1, hk.2.1, fun j hj => ?_⟩
  exact List.all_eq_true.1 hk.2.2 j (List.mem_range.2 hj)
theorem wav_told (r : Nat) (h1 : 1 ≤ r) (h2 : r ≤ 8) : abtM ((List.replicate (2 * r + 1) 0).set r 1065353216) (wavL r) r = wavL r := by
  have key : ∀ i : Fin 8, ((List.range (2 * (i.1 + 1) + 1)).all fun j => foldS ((List.replicate (2 * (i.1 + 1) + 1) 0).set (i.1 + 1) 1065353216) (wavL (i.1 + 1)) (i.1 + 1 + j) == wavF (i.1 + 1) j) = true := by decide +kernel
  have hk := key ⟨r - 1, by omega⟩
  simp only [show r - 1 + 1 = r by omega] at hk
  unfold abtM wavL
  rw [show ((List.replicate (2 * r + 1) 0).set r 1065353216).length = 2 * r + 1 by simp]
  refine tab_congr fun j hj => ?_
  have h3 := List.all_eq_true.1 hk j (List.mem_range.2 hj)
  rw [beq_iff_eq] at h3
  rw [← h3]
  unfold foldM
  rw [tab_getD _ _ _ (by simp only [List.length_set, List.length_replicate]; rw [show (tab (wavF r) (2 * r + 1)).length = 2 * r + 1 from tab_length _ _]; omega)]
  rfl
end Go.Proofs.Ytjhbcnmkamkkaaa
