/- Walks: SameGather, of the program and of the reference. -/
import Derived.Test.YtalajgjdceoleaaW18
namespace Go.Proofs.Ytalajgjdceoleaa
open Go Go.RowKit

def sameSTo (A B : List (List Nat)) (j : Nat) : Bool := (List.range j).all fun i => sameL (rowAt A i) (rowAt B i)
def sameSS (A B : List (List Nat)) : Bool := A.length == B.length && sameSTo A B A.length
theorem sameSTo_succ (A B : List (List Nat)) (j : Nat) : sameSTo A B (j + 1) = (sameSTo A B j && sameL (rowAt A j) (rowAt B j)) := by simp [sameSTo, List.range_succ]
theorem sameSTo_false {A B : List (List Nat)} {j n : Nat} (hj : j < n) (h : sameL (rowAt A j) (rowAt B j) = false) : sameSTo A B n = false := by
  rw [Bool.eq_false_iff]
  intro hc
  have := List.all_eq_true.1 hc j (List.mem_range.2 hj)
  rw [h] at this
  cases this
theorem sameSS_len {A B : List (List Nat)} (h : A.length ≠ B.length) : sameSS A B = false := by simp [sameSS, h]

set_option maxRecDepth 100000 in
set_option maxHeartbeats 800000 in
theorem equalSS_any (w : World) (v1 v2 : Value) (A B : List (List Nat)) (h1 : RdSS w v1 A) (h2 : RdSS w v2 B) (hm : A.length ≤ 1048576) (hm2 : B.length ≤ 1048576) (ha : ∀ j, j < A.length → (rowAt A j).length ≤ 1048576) (hb : ∀ j, j < B.length → (rowAt B j).length ≤ 1048576) :
    Calls Try.prog 67 #[v1, v2, .func (.func 66) #[] #[]] w fun e w' => e = .returned (.bool (sameSS A B)) ∧ w' = w := by
  obtain ⟨a1, c1, rfl, hc1, -, hcell1⟩ := h1.opened
  obtain ⟨a2, c2, rfl, hc2, -, hcell2⟩ := h2.opened
  clear h1 h2
  by_cases hl : A.length = B.length
  · have hne : ((A.length : Int) != (B.length : Int)) = false := by rw [hl]; simp
    have Hl := Lib.hid hl
    clear hl
    go_enter Try.func67, Try.ntmps67
    go_wp2
    go_loop [17] (fun i => ∃ k : Nat, k ≤ A.length ∧ i = .int .i64 k ∧ sameSTo A B k = true) (fun i => A.length - (intOf i).toNat)
    case atStart => exact ⟨0, Nat.zero_le _, rfl, rfl⟩
    case round =>
      obtain ⟨k, hk, rfl, hsk⟩ := hrel
      have Hsk := Lib.hid hsk
      by_cases hlt : k < A.length
      · have hlt2 : k < B.length := by have := Hl.out; omega
        obtain ⟨b, o, a', c', rfl, hlb, d0, R0⟩ := hcell1 k hlt
        obtain ⟨b', o', a'', c'', rfl, hlb', g0, S0⟩ := hcell2 k hlt2
        have hak := ha k hlt
        have hbk := hb k hlt2
        clear hcell1 hcell2 hsk ha hb
        go_wp2_with fail
        refine (sameList_any w _ _ (rowAt A k) (rowAt B k) R0 S0 hak hbk).mono ?_
        rintro e1 w1 ⟨rfl, hw1⟩
        subst hw1
        cases hxy : sameL (rowAt A k) (rowAt B k) with
        | true =>
          have Hxy := Lib.hid hxy
          clear hxy
          go_wp2
          exact ⟨⟨k + 1, by omega, by go_num, by rw [sameSTo_succ, Hsk.out, Hxy.out]; rfl⟩, by simp [intOf]; omega⟩
        | false =>
          have Hxy := Lib.hid hxy
          clear hxy
          go_wp2
          go_ret
          exact ⟨by unfold sameSS; rw [sameSTo_false hlt Hxy.out, Bool.and_false]; rfl, rfl⟩
      · clear hsk
        go_wp2
        go_ret
        obtain rfl : k = A.length := by omega
        exact ⟨by unfold sameSS; rw [Hsk.out, Hl.out]; simp, rfl⟩
  · have hne : ((A.length : Int) != (B.length : Int)) = true := by simp; omega
    have hs := sameSS_len hl
    rw [hs]
    clear hs
    go_enter Try.func67, Try.ntmps67
    go_wp2
    go_ret
    exact ⟨rfl, rfl⟩

def sameT (S T : TM) : Bool := S.t == T.t && (sameL S.P T.P && sameSS S.Ls T.Ls)
set_option maxRecDepth 100000 in
set_option maxHeartbeats 800000 in
theorem implSameGather_any (w : World) (u1 u2 : Value) (S T : TM) (h1 : RdT w u1 S) (h2 : RdT w u2 T) (hs : S.small) (ht : T.small) :
    Calls Try.prog 37 #[u1, u2] w fun e w' => e = .returned (.bool (sameT S T)) ∧ Below w.heap.size w w' := by
  obtain ⟨vp, vt, rfl, p1, t1⟩ := h1
  obtain ⟨vp', vt', rfl, p2, t2⟩ := h2
  obtain ⟨t, P, Ls⟩ := S
  obtain ⟨t', P', Ls'⟩ := T
  obtain ⟨m1, m2, m3⟩ := hs
  obtain ⟨n1, n2, n3⟩ := ht
  simp only at *
  have hb0 : Below w.heap.size w ((w.alloc (.cells #[.int .i64 t, vp, vt] 32)).alloc (.cells #[.int .i64 t', vp', vt'] 32)) := by (repeat (first | exact Below.refl _ _ | (refine Below.drewN ?_ _) | (refine Below.alloc ?_ (by first | exact Nat.le_refl _ | (simp; done) | (simp; omega)) _)))
  by_cases e1 : t = t'
  · subst e1
    cases e2 : sameL P P' with
    | true =>
      have hr : sameT ⟨t, P, Ls⟩ ⟨t, P', Ls'⟩ = sameSS Ls Ls' := by simp [sameT, e2]
      rw [hr]
      have E2 := Lib.hid e2
      clear hr e2
      go_enter Try.func37, Try.ntmps37
      go_wp2_with fail
      refine (sameList_any _ _ _ P P' (p1.mono hb0) (p2.mono hb0) m1 n1).mono ?_
      rintro e1 w1 ⟨rfl, rfl⟩
      rw [E2.out]
      go_wp2_with fail
      refine (equalSS_any _ _ _ Ls Ls' (t1.mono hb0) (t2.mono hb0) m2 n2 m3 n3).mono ?_
      rintro e3 w3 ⟨rfl, rfl⟩
      go_wp2
      go_ret
      exact ⟨rfl, hb0⟩
    | false =>
      have hr : sameT ⟨t, P, Ls⟩ ⟨t, P', Ls'⟩ = false := by simp [sameT, e2]
      rw [hr]
      have E2 := Lib.hid e2
      clear hr e2
      go_enter Try.func37, Try.ntmps37
      go_wp2_with fail
      refine (sameList_any _ _ _ P P' (p1.mono hb0) (p2.mono hb0) m1 n1).mono ?_
      rintro e1 w1 ⟨rfl, rfl⟩
      rw [E2.out]
      go_wp2
      go_ret
      exact ⟨rfl, hb0⟩
  · have hr : sameT ⟨t, P, Ls⟩ ⟨t', P', Ls'⟩ = false := by simp [sameT, e1]
    rw [hr]
    have e3 : (t == t') = false := by simpa using e1
    clear hr
    go_enter Try.func37, Try.ntmps37
    go_wp2
    go_ret
    exact ⟨rfl, hb0⟩
end Go.Proofs.Ytalajgjdceoleaa
