/- Walks: decimal numerals: the program's. -/
import Derived.Test.YtjbaebgdebcipaaGreatDoorRb
import Derived.Test.YtjbaebgdebcipaaGreatDoorDcP
import Derived.Lib.ItoaMem
import Derived.Lib.ItoaLen
namespace Go.Proofs.YtjbaebgdebcipaaGreatDoor
open Go Go.RowKit

def Tab10 (w : World) : Prop := Lib.TabIs Tryz.prog w "internal/strconv.uint64pow10" .u64 Lib.pow10Tab
theorem Tab10.mono {w w' : World} (h : Tab10 w) (hb : Below w.heap.size w w') : Tab10 w' := by
  unfold Tab10 Lib.TabIs World.var? at *
  cases hg : Tryz.prog.globalNamed "internal/strconv.uint64pow10" with
  | none => simp [hg] at h
  | some g =>
    simp only [hg, Option.bind_some] at h ⊢
    have hlt : g < w.heap.size := by
      rcases Nat.lt_or_ge g w.heap.size with h' | h'
      · exact h'
      · rw [Array.getElem?_eq_none h'] at h; simp at h
    rw [hb.block g hlt]
    exact h
theorem below_grow (w : World) (k : Nat) (os : Array Obj) : Below w.heap.size w (Go.Sort.grow (w.drewN k) os) :=
  ⟨rfl, rfl, rfl, by show w.heap.size ≤ (w.heap ++ os).size; simp, fun j hj => by show (w.heap ++ os)[j]? = _; rw [Array.getElem?_append_left hj]⟩
set_option maxRecDepth 100000 in
set_option maxHeartbeats 800000 in
theorem decimal_any (w : World) (n : Int) (h0 : -1000000000000000 ≤ n) (h1 : n ≤ 1000000000000000) (hT : Tab10 w) :
    Calls Tryz.prog 37 #[.int .i64 n] w fun e w' => e = .returned (.string (decT n)) ∧ Below w.heap.size w w' := by
  have H := Lib.hid (Tryz.strconv_FormatInt_10 n (by omega) (by omega) w hT)
  go_enter Tryz.func37, Tryz.ntmps37
  go_wp2_with fail
  refine H.out.mono ?_
  rintro e w1 ⟨rfl, k, os, rfl⟩
  have hb := below_grow w k os
  go_wp2
  go_ret
  exact ⟨rfl, hb⟩
set_option maxRecDepth 100000 in
set_option maxHeartbeats 400000 in
theorem withinV_any (w : World) (n lo hi : Int) :
    Calls Tryz.prog 78 #[.int .i64 n, .int .i64 lo, .int .i64 hi] w fun e w' => e = .returned (.bool (decide (lo ≤ n) && decide (n ≤ hi))) ∧ w' = w := by
  by_cases h : lo ≤ n
  · have HG : Hid ((decide (lo ≤ n) && decide (n ≤ hi)) = decide (n ≤ hi)) := Lib.hid (by rw [decide_eq_true h]; rfl)
    go_enter Tryz.func78, Tryz.ntmps78
    go_wp2
    go_ret
    refine ⟨?_, rfl⟩
    rw [HG.out]; rfl
  · have HG : Hid ((decide (lo ≤ n) && decide (n ≤ hi)) = false) := Lib.hid (by rw [decide_eq_false h]; rfl)
    go_enter Tryz.func78, Tryz.ntmps78
    go_wp2
    go_ret
    refine ⟨?_, rfl⟩
    rw [HG.out]; rfl
def inV (n : Int) : Bool := decide (-1000000000000000 ≤ n) && decide (n ≤ 1000000000000000)
set_option maxRecDepth 100000 in
set_option maxHeartbeats 400000 in
theorem isValue_any (w : World) (n : Int) :
    Calls Tryz.prog 90 #[.int .i64 n] w fun e w' => e = .returned (.bool (inV n)) ∧ w' = w := by
  have H := Lib.hid (withinV_any w n (-1000000000000000) 1000000000000000)
  have HG : Hid ((decide (-1000000000000000 ≤ n) && decide (n ≤ 1000000000000000)) = inV n) := Lib.hid rfl
  rw [HG.out] at H
  generalize inV n = q at *
  go_enter Tryz.func90, Tryz.ntmps90
  go_wp2_with fail
  refine H.out.mono ?_
  rintro e w1 ⟨rfl, rfl⟩
  go_wp2
  go_ret
  exact ⟨rfl, rfl⟩
theorem inV_true {n : Int} (h : inV n = true) : -1000000000000000 ≤ n ∧ n ≤ 1000000000000000 := by
  unfold inV at h
  simp at h
  exact h
/-- The result of a reading of an integer. -/
def RdRes (t : ByteArray) (u : Value) : Prop := (∃ n, rdD t = some n ∧ u = .tuple #[.int .i64 n, .bool true]) ∨ (rdD t = none ∧ u = .tuple #[.int .i64 0, .bool false])
set_option maxRecDepth 100000 in
set_option maxHeartbeats 1600000 in
theorem readDecimal_any (w : World) (t : ByteArray) (hmax : t.size ≤ 1048576) (hD : Dr w) (hT : Tab10 w) :
    Calls Tryz.prog 57 #[.string t] w fun e w' => ∃ u, e = .returned u ∧ RdRes t u ∧ Below w.heap.size w w' := by
  have HT := Lib.hid hT
  obtain ⟨te, pe, hs⟩ := hD.syn
  obtain ⟨te2, pe2, hr⟩ := hD.rng
  cases hp : Lib.parseIntB 64 t.data.toList with
  | «syntax» =>
    have HP := Lib.hid (Tryz.strconv_ParseInt_10_at64_syntax t (by omega) hp _ w hs (.inr ⟨te, pe, rfl⟩))
    have HN : Hid (rdD t = none) := Lib.hid (rdD_none fun n hn => by have := hn.parse; rw [hp] at this; cases this)
    clear hp hs hr hD hT
    go_enter Tryz.func57, Tryz.ntmps57
    go_wp2_with fail
    refine HP.out.mono ?_
    rintro e w2 ⟨N, rfl, hN, hX, b2⟩
    have B2 := Lib.hid b2
    clear b2 hX hN HP
    go_wp2
    go_ret2
    exact ⟨_, rfl, .inr ⟨HN.out, rfl⟩, B2.out⟩
  | range =>
    have HP := Lib.hid (Tryz.strconv_ParseInt_10_at64_range t (by omega) hp _ w hr (.inr ⟨te2, pe2, rfl⟩))
    have HN : Hid (rdD t = none) := Lib.hid (rdD_none fun n hn => by have := hn.parse; rw [hp] at this; cases this)
    clear hp hs hr hD hT
    go_enter Tryz.func57, Tryz.ntmps57
    go_wp2_with fail
    refine HP.out.mono ?_
    rintro e w2 ⟨N, rfl, hN, hX, b2⟩
    have B2 := Lib.hid b2
    clear b2 hX hN HP
    go_wp2
    go_ret2
    exact ⟨_, rfl, .inr ⟨HN.out, rfl⟩, B2.out⟩
  | ok v =>
    have HP := Lib.hid (Tryz.strconv_ParseInt_10_at64_ok t (by omega) v hp w)
    have HX : Hid (∀ n, IsD t n → n = v) := Lib.hid fun n hn => by have := hn.parse; rw [hp] at this; cases this; rfl
    clear hp hs hr hD hT
    go_enter Tryz.func57, Tryz.ntmps57
    go_wp2_with fail
    refine HP.out.mono ?_
    rintro e w2 ⟨rfl, hw2⟩
    have b2 : Below w.heap.size w w2 := by
      rcases hw2 with h | ⟨s, h⟩
      · rw [h]; exact Below.refl _ _
      · rw [h]; exact Lib.bytesWorld_below w _ s
    have B2 := Lib.hid b2
    clear hw2 HP b2
    have HV := Lib.hid (isValue_any w2 v)
    cases hv : inV v with
    | false =>
      rw [hv] at HV
      have HN : Hid (rdD t = none) := Lib.hid (rdD_none fun n hn => by
        have := HX.out n hn
        subst this
        unfold inV at hv
        rw [decide_eq_true hn.1, decide_eq_true hn.2.1] at hv
        cases hv)
      clear hv HX
      go_wp2_with fail
      refine HV.out.mono ?_
      rintro e w3 ⟨rfl, hw3⟩
      obtain rfl : w2 = w3 := hw3.symm
      clear hw3
      go_wp2
      go_ret2
      exact ⟨_, rfl, .inr ⟨HN.out, rfl⟩, B2.out⟩
    | true =>
      rw [hv] at HV
      obtain ⟨v0, v1⟩ := inV_true hv
      have HDc := Lib.hid (decimal_any w2 v v0 v1 (HT.out.mono B2.out))
      clear hv
      go_wp2_with fail
      refine HV.out.mono ?_
      rintro e w3 ⟨rfl, hw3⟩
      obtain rfl : w2 = w3 := hw3.symm
      clear hw3 HV
      go_wp2_with fail
      refine HDc.out.mono ?_
      rintro e w4 ⟨rfl, b4⟩
      have B4 := Lib.hid (B2.out.trans (b4.mono B2.out.size))
      clear b4 HDc
      by_cases he : decT v = t
      · have HR : Hid (rdD t = some v) := Lib.hid (rdD_some ⟨v0, v1, he.symm⟩)
        subst he
        clear HX
        go_wp2
        go_ret2
        exact ⟨_, rfl, .inl ⟨v, HR.out, rfl⟩, B4.out⟩
      · have HN : Hid (rdD t = none) := Lib.hid (rdD_none fun n hn => by
          have := HX.out n hn
          subst this
          exact he hn.2.2.symm)
        have hne := neq_bytes he
        have hne2 : ((decT v).toList != t.toList) = true := by rw [bne_iff_ne]; exact hne
        have hne3 : ((decT v).toList == t.toList) = false := by rw [beq_eq_false_iff_ne]; exact hne
        clear HX he
        go_wp2
        go_ret2
        exact ⟨_, rfl, .inr ⟨HN.out, rfl⟩, B4.out⟩
end Go.Proofs.YtjbaebgdebcipaaGreatDoor
