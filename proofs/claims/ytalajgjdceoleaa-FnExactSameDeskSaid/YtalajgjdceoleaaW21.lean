/- Walks: EqualFunc over layers, SameGround of the program. -/
import Derived.Test.YtalajgjdceoleaaW20
namespace Go.Proofs.Ytalajgjdceoleaa
open Go Go.RowKit

def sameLTo (A B : List Nat) (j : Nat) : Bool := (List.range j).all (lay4 A B)
def sameLL (n : Nat) (A : List Nat) (m : Nat) (B : List Nat) : Bool := n == m && sameLTo A B n
theorem sameLTo_succ (A B : List Nat) (j : Nat) : sameLTo A B (j + 1) = (sameLTo A B j && lay4 A B j) := by simp [sameLTo, List.range_succ]
theorem sameLTo_false {A B : List Nat} {j n : Nat} (hj : j < n) (h : lay4 A B j = false) : sameLTo A B n = false := by
  rw [Bool.eq_false_iff]
  intro hc
  have := List.all_eq_true.1 hc j (List.mem_range.2 hj)
  rw [h] at this
  cases this
theorem sameLL_len {n m : Nat} {A B : List Nat} (h : n ≠ m) : sameLL n A m B = false := by simp [sameLL, h]

set_option maxRecDepth 100000 in
set_option maxHeartbeats 800000 in
theorem equalLay_any (w : World) (v1 v2 : Value) (n m : Nat) (A B : List Nat) (h1 : RdLay w v1 n A) (h2 : RdLay w v2 m B) (hm : n ≤ 1048576) (hm2 : m ≤ 1048576) :
    Calls Try.prog 64 #[v1, v2, .func (.func 65) #[] #[]] w fun e w' => e = .returned (.bool (sameLL n A m B)) ∧ Below w.heap.size w w' := by
  have hst := run_store_float (P := Try.prog)
  obtain ⟨a1, c1, rfl, hc1, -, hcell1⟩ := h1.opened
  obtain ⟨a2, c2, rfl, hc2, -, hcell2⟩ := h2.opened
  clear h1 h2
  by_cases hl : n = m
  · have hne : ((n : Int) != (m : Int)) = false := by rw [hl]; simp
    have Hl := Lib.hid hl
    clear hl
    go_enter Try.func64, Try.ntmps64
    go_wp2
    go_loopw [17] (fun i wr => ∃ k : Nat, k ≤ n ∧ i = .int .i64 k ∧ sameLTo A B k = true ∧ Below w.heap.size w wr) (fun i _ => n - (intOf i).toNat)
    case atStart => exact ⟨0, Nat.zero_le _, rfl, rfl, Below.refl _ _⟩
    case round =>
      obtain ⟨wi, rfl⟩ : ∃ wi : World, wi = wr := ⟨_, rfl⟩
      obtain ⟨k, hk, rfl, hsk, hb⟩ := hrel
      have Hsk := Lib.hid hsk
      have hs := hb.size
      by_cases hlt : k < n
      · have hlt2 : k < m := by have := Hl.out; omega
        obtain ⟨b, o, r0, r1, r2, r3, rfl, hlb, d0, d1, d2, d3, f0, f1, f2, f3⟩ := hcell1 k hlt
        obtain ⟨b', o', s0, s1, s2, s3, rfl, hlb', g0, g1, g2, g3, e0, e1, e2, e3⟩ := hcell2 k hlt2
        rw [← (bcell hb).1 _ _ hlb] at d0 d1 d2 d3
        rw [← (bcell hb).1 _ _ hlb'] at g0 g1 g2 g3
        have aw : ∀ (ob : Obj) (j : Nat), (wi.alloc ob).cell? ⟨b', j, none⟩ = wi.cell? ⟨b', j, none⟩ := fun ob j => World.cell?_alloc_lt wi ob ⟨b', j, none⟩ (show b' < wi.heap.size by omega)
        have G0 : ∀ ob, (wi.alloc ob).cell? ⟨b', o' + k * 4, none⟩ = some (.float .f32 s0) := fun ob => (aw ob _).trans g0
        have G1 : ∀ ob, (wi.alloc ob).cell? ⟨b', o' + k * 4 + 1, none⟩ = some (.float .f32 s1) := fun ob => (aw ob _).trans g1
        have G2 : ∀ ob, (wi.alloc ob).cell? ⟨b', o' + k * 4 + 2, none⟩ = some (.float .f32 s2) := fun ob => (aw ob _).trans g2
        have G3 : ∀ ob, (wi.alloc ob).cell? ⟨b', o' + k * 4 + 3, none⟩ = some (.float .f32 s3) := fun ob => (aw ob _).trans g3
        clear aw
        clear hcell1 hcell2 hsk
        go_wp2_with fail
        have hb0 : Below wi.heap.size wi ((wi.alloc (.cells #[.float .f32 r0, .float .f32 r1, .float .f32 r2, .float .f32 r3] 57)).alloc (.cells #[.float .f32 s0, .float .f32 s1, .float .f32 s2, .float .f32 s3] 57)) := by (repeat (first | exact Below.refl _ _ | (refine Below.drewN ?_ _) | (refine Below.alloc ?_ (by first | exact Nat.le_refl _ | (simp; done) | (simp; omega)) _)))
        refine (sameLay_any _ r0 r1 r2 r3 s0 s1 s2 s3 _ _ _ _ _ _ _ _ f0 f1 f2 f3 e0 e1 e2 e3).mono ?_
        rintro q1 w1 ⟨rfl, b1⟩
        have hb1 := hb.trans ((hb0.trans (b1.mono hb0.size)).mono hs)
        clear G0 G1 G2 G3
        cases hxy : lay4 A B k with
        | true =>
          have Hxy := Lib.hid hxy
          unfold lay4 at hxy
          rw [hxy]
          clear hxy
          go_wp2
          exact ⟨⟨k + 1, by omega, by go_num, by rw [sameLTo_succ, Hsk.out, Hxy.out]; rfl, hb1⟩, by simp [intOf]; omega⟩
        | false =>
          have Hxy := Lib.hid hxy
          unfold lay4 at hxy
          rw [hxy]
          clear hxy
          go_wp2
          go_ret
          exact ⟨by unfold sameLL; rw [sameLTo_false hlt Hxy.out, Bool.and_false]; rfl, hb1⟩
      · clear hsk
        go_wp2
        go_ret
        obtain rfl : k = n := by omega
        exact ⟨by unfold sameLL; rw [Hsk.out, Hl.out]; simp, hb⟩
  · have hne : ((n : Int) != (m : Int)) = true := by simp; omega
    have hs := sameLL_len (A := A) (B := B) hl
    rw [hs]
    clear hs
    go_enter Try.func64, Try.ntmps64
    go_wp2
    go_ret
    exact ⟨rfl, Below.refl _ _⟩
end Go.Proofs.Ytalajgjdceoleaa
