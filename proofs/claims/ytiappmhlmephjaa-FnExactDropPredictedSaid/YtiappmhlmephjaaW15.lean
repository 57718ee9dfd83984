/- Walks: DropPredicted, of the program and of the reference. -/
import Derived.Test.YtiappmhlmephjaaW12
import Derived.Test.YtiappmhlmephjaaW14
namespace Go.Proofs.Ytiappmhlmephjaa
open Go Go.RowKit

def dropM (A : List Nat) (g n : Int) (x : Nat) : Option (List Nat) := (predM A g n x).map fun F => appM A (errM F g.toNat)
theorem predM_some {A : List Nat} {g n : Int} {x : Nat} {F : List Nat} (h : predM A g n x = some F) : F.length ≤ 25 ∧ 1 ≤ g ∧ g ≤ 24 ∧ A.length ≤ 128 := by
  have h1 := predM_length A g n x
  rw [h] at h1
  refine ⟨h1, ?_⟩
  unfold predM at h
  split at h
  · omega
  · cases h
theorem dropM_length (A : List Nat) (g n : Int) (x : Nat) : ((dropM A g n x).getD []).length ≤ 128 := by
  unfold dropM
  cases h : predM A g n x with
  | none => simp
  | some F => have := predM_some h; simp [appM_length]; omega
theorem errM_length (F : List Nat) (g : Nat) : (errM F g).length = g - 1 + 1 + F.length := errTo_length F g _

set_option maxRecDepth 100000 in
set_option maxHeartbeats 1000000 in
theorem implDropPredicted_any (w : World) (va : Value) (A : List Nat) (g n : Int) (r x : Nat) (hA : RdF w va A) (hr : FV .f32 r x) (hmA : A.length ≤ 1048576) :
    Calls Try.prog 25 #[va, .int .i64 g, .int .i64 n, .float .f32 r] w (RetF w (dropM A g n x)) := by
  go_enter Try.func25, Try.ntmps25
  go_wp2_with fail
  refine (implPredictionOf_any w _ A g n _ x hA hr hmA).mono ?_
  rintro e1 w1 ⟨v1, ok, rfl, h1, b1⟩
  cases hp : predM A g n x with
  | none =>
    have hd : dropM A g n x = none := by unfold dropM; rw [hp]; rfl
    rw [hp] at h1
    obtain ⟨rfl, rfl⟩ := h1
    clear hp
    go_wp2
    go_ret2
    rw [hd]
    exact RetF.none b1
  | some F =>
    rw [hp] at h1
    obtain ⟨rfl, o1⟩ := h1
    obtain ⟨l1, l2, l3, l4⟩ := predM_some hp
    obtain ⟨k, rfl⟩ : ∃ k : Nat, g = k := ⟨g.toNat, by omega⟩
    have hd : dropM A k n x = some (appM A (errM F k)) := by unfold dropM; rw [hp]; rfl
    have hA1 := hA.mono b1
    have s1 := b1.size
    clear hp
    go_wp2_with fail
    refine (errorFilter_any w1 _ F k o1.rd (by omega) (by omega) (by omega)).mono ?_
    rintro e2 w2 ⟨v2, rfl, o2, b2⟩
    have hA2 := hA1.mono b2
    have c2 := b1.trans (b2.mono s1)
    have s2 := c2.size
    clear b2
    go_wp2_with fail
    refine (applied_any w2 _ _ A (errM F k) hA2 o2.rd (by omega) (by rw [errM_length]; omega)).mono ?_
    rintro e3 w3 ⟨v3, rfl, o3, b3⟩
    go_wp2
    go_ret2
    rw [hd]
    exact RetF.mk ⟨rfl, o3.mono s2⟩ (c2.trans (b3.mono s2))

set_option maxRecDepth 100000 in
set_option maxHeartbeats 1000000 in
theorem specDropPredicted_any (w : World) (va : Value) (A : List Nat) (g n : Int) (r x : Nat) (hA : RdF w va A) (hr : FV .f32 r x) (hmA : A.length ≤ 1048576) :
    Calls Try.prog 24 #[va, .int .i64 g, .int .i64 n, .float .f32 r] w (RetF w (dropM A g n x)) := by
  go_enter Try.func24, Try.ntmps24
  go_wp2_with fail
  refine (l05Predict_any w _ A g n _ x hA hr hmA).mono ?_
  rintro e1 w1 ⟨v1, ok, rfl, h1, b1⟩
  cases hp : predM A g n x with
  | none =>
    have hd : dropM A g n x = none := by unfold dropM; rw [hp]; rfl
    rw [hp] at h1
    obtain ⟨rfl, rfl⟩ := h1
    clear hp
    go_wp2
    go_ret2
    rw [hd]
    exact RetF.none b1
  | some F =>
    rw [hp] at h1
    obtain ⟨rfl, o1⟩ := h1
    obtain ⟨l1, l2, l3, l4⟩ := predM_some hp
    obtain ⟨k, rfl⟩ : ∃ k : Nat, g = k := ⟨g.toNat, by omega⟩
    have hd : dropM A k n x = some (appM A (errM F k)) := by unfold dropM; rw [hp]; rfl
    have hA1 := hA.mono b1
    have s1 := b1.size
    clear hp
    go_wp2_with fail
    refine (l05Error_any w1 _ F k o1.rd (by omega) (by omega) (by omega)).mono ?_
    rintro e2 w2 ⟨v2, rfl, o2, b2⟩
    have hA2 := hA1.mono b2
    have c2 := b1.trans (b2.mono s1)
    have s2 := c2.size
    clear b2
    go_wp2_with fail
    refine (l05Apply_any w2 _ _ A (errM F k) hA2 o2.rd (by omega) (by rw [errM_length]; omega)).mono ?_
    rintro e3 w3 ⟨v3, rfl, o3, b3⟩
    go_wp2
    go_ret2
    rw [hd]
    exact RetF.mk ⟨rfl, o3.mono s2⟩ (c2.trans (b3.mono s2))
end Go.Proofs.Ytiappmhlmephjaa
