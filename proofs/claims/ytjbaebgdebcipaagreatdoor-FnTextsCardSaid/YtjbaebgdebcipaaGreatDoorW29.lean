/- Walks: a gather is valid: the program's. -/
import Derived.Test.YtjbaebgdebcipaaGreatDoorW28
namespace Go.Proofs.YtjbaebgdebcipaaGreatDoor
open Go Go.RowKit

def rowsTo (Ls : List (List Nat)) (t : Int) (j : Nat) : Bool := (List.range j).all fun i => ((rowAt Ls i).length : Int) == t
theorem rowsTo_succ (Ls : List (List Nat)) (t : Int) (j : Nat) : rowsTo Ls t (j + 1) = (rowsTo Ls t j && (((rowAt Ls j).length : Int) == t)) := by simp [rowsTo, List.range_succ]
theorem rowsTo_false {Ls : List (List Nat)} {t : Int} {j n : Nat} (hj : j < n) (h : (((rowAt Ls j).length : Int) == t) = false) : rowsTo Ls t n = false := by
  rw [Bool.eq_false_iff]
  intro ha
  have this : (((rowAt Ls j).length : Int) == t) = true := List.all_eq_true.1 ha j (List.mem_range.2 hj)
  rw [h] at this
  cases this
def placesB (P : List Nat) : Bool := decide (1 ≤ P.length) && (decide (P.length ≤ 16) && allB (fin .f32) P)
def validT (T : TM) : Bool := decide (1 ≤ T.t) && (decide (T.t ≤ 64) && (placesB T.P && (decide (T.Ls.length = T.P.length) && rowsTo T.Ls T.t T.Ls.length)))

set_option maxRecDepth 100000 in
set_option maxHeartbeats 800000 in
theorem lengthF_any (w : World) (a : Option Addr) (n c : Nat) :
    Calls Tryz.prog 68 #[.slice a n c] w fun e w' => e = .returned (.int .i64 n) ∧ w' = w := by
  go_enter Tryz.func68, Tryz.ntmps68
  go_wp2
  go_ret
  exact ⟨rfl, rfl⟩

set_option maxRecDepth 100000 in
set_option maxHeartbeats 800000 in
theorem badRow_any (w : World) (g : Nat) (t : Int) (a : Option Addr) (n c : Nat) (c0 : w.cell? ⟨g, 0, none⟩ = some (.int .i64 t)) :
    Calls Tryz.prog 93 #[.slice a n c, .pointer (some ⟨g, 0, none⟩)] w fun e w' => e = .returned (.bool ((n : Int) != t)) ∧ ∃ m, w' = w.drewN m := by
  go_enter Tryz.func93, Tryz.ntmps93
  go_wp2_with fail
  refine region_rel_all (by kernel_rfl) (by kernel_rfl) (Drawn w) (fun _ _ v => v = .int .i64 n) ⟨1, rfl⟩ ?_
  repeat (refine wpRel_draw rfl rfl (fun nq K hK => ?_); go_wp2)
  refine wpRel_callF #[.slice a n c] Tryz.func68 (by kernel_rfl) (by kernel_rfl) (by simp [go_sem]) ⟨w, 0, rfl⟩ ⟨_, rfl⟩ ?_ ?_
  · rintro wd ⟨nd, rfl⟩
    refine (lengthF_any (w.drewN nd) a n c).mono ?_
    rintro e w'' ⟨rfl, rfl⟩
    exact ⟨_, rfl, rfl, nd, rfl⟩
  · rintro v rfl
    simp only [Act.put, List.setIfInBounds_toArray, List.set_cons_succ, List.set_cons_zero]
    repeat (refine wpRel_draw rfl rfl (fun nq K hK => ?_); go_wp2)
    refine wpRel_nil ?_
    rintro wd ⟨nd, rfl⟩
    go_wp2
    go_ret
    exact ⟨rfl, nd, rfl⟩

set_option maxRecDepth 100000 in
set_option maxHeartbeats 800000 in
theorem indexSS_any (w : World) (v : Value) (Ls : List (List Nat)) (g : Nat) (t : Int) (h : RdSS w v Ls) (c0 : w.cell? ⟨g, 0, none⟩ = some (.int .i64 t)) (hm : Ls.length ≤ 1048576) :
    Calls Tryz.prog 116 #[v, .func (.func 93) #[] #[.pointer (some ⟨g, 0, none⟩)]] w fun e w' => ∃ i : Int, e = .returned (.int .i64 i) ∧ (0 ≤ i ↔ rowsTo Ls t Ls.length = false) ∧ ∃ m, w' = w.drewN m := by
  obtain ⟨a, c, rfl, hc, -, hcell⟩ := h.opened
  clear h
  go_enter Tryz.func116, Tryz.ntmps116
  go_wp2
  go_loopw [8] (fun i wr => ∃ k q : Nat, k ≤ Ls.length ∧ i = .int .i64 k ∧ rowsTo Ls t k = true ∧ wr = w.drewN q) (fun i _ => Ls.length - (intOf i).toNat)
  case atStart => exact ⟨0, 0, Nat.zero_le _, rfl, rfl, rfl⟩
  case round =>
    obtain ⟨wi, rfl⟩ : ∃ wi : World, wi = wr := ⟨_, rfl⟩
    obtain ⟨k, q, hk, rfl, hsk, hq⟩ := hrel
    have Hsk := Lib.hid hsk
    by_cases hlt : k < Ls.length
    · obtain ⟨b, o, a', c', rfl, hlb, d0, R0⟩ := hcell k hlt
      have d1 : wi.cell? ⟨b, o + k, none⟩ = some (.slice a' (rowAt Ls k).length c') := by rw [hq]; exact d0
      have c1 : wi.cell? ⟨g, 0, none⟩ = some (.int .i64 t) := by rw [hq]; exact c0
      have Hq := Lib.hid hq
      have C1 := Lib.hid c1
      clear hcell hsk hq d0 R0 c1
      go_wp2_with fail
      refine (badRow_any wi g t a' _ c' C1.out).mono ?_
      rintro e1 w1 ⟨rfl, n, hw1⟩
      have Hw1 := Lib.hid hw1
      clear hw1 d1
      cases hx : (((rowAt Ls k).length : Int) == t) with
      | true =>
        have hx2 : (((rowAt Ls k).length : Int) != t) = false := by simp only [bne, hx]; rfl
        have Hx := Lib.hid hx
        clear hx
        rw [hx2]
        clear hx2
        go_wp2
        exact ⟨⟨k + 1, q + n, by omega, by go_num, by rw [rowsTo_succ, Hsk.out, Hx.out]; rfl, by rw [Hw1.out, Hq.out, World.drewN_drewN]⟩, by simp [intOf]; omega⟩
      | false =>
        have hx2 : (((rowAt Ls k).length : Int) != t) = true := by simp only [bne, hx]; rfl
        have Hx := Lib.hid hx
        clear hx
        rw [hx2]
        clear hx2
        go_wp2
        go_ret
        exact ⟨_, rfl, ⟨fun _ => rowsTo_false hlt Hx.out, fun _ => by omega⟩, q + n, by rw [Hw1.out, Hq.out, World.drewN_drewN]⟩
    · have Hq := Lib.hid hq
      clear hsk hq
      go_wp2
      go_ret
      obtain rfl : k = Ls.length := by omega
      exact ⟨_, rfl, ⟨fun h => by omega, fun h => by rw [Hsk.out] at h; cases h⟩, q, Hq.out⟩

set_option maxRecDepth 100000 in
set_option maxHeartbeats 800000 in
theorem containsSS_any (w : World) (v : Value) (Ls : List (List Nat)) (g : Nat) (t : Int) (h : RdSS w v Ls) (c0 : w.cell? ⟨g, 0, none⟩ = some (.int .i64 t)) (hm : Ls.length ≤ 1048576) :
    Calls Tryz.prog 92 #[v, .func (.func 93) #[] #[.pointer (some ⟨g, 0, none⟩)]] w fun e w' => e = .returned (.bool (!rowsTo Ls t Ls.length)) ∧ ∃ m, w' = w.drewN m := by
  have C0 := Lib.hid c0
  clear c0
  go_enter Tryz.func92, Tryz.ntmps92
  go_wp2_with fail
  refine (indexSS_any w v Ls g t h C0.out hm).mono ?_
  rintro e w1 ⟨i, rfl, hi, m, rfl⟩
  cases hb : rowsTo Ls t Ls.length with
  | false =>
    have : 0 ≤ i := hi.2 hb
    clear hi
    go_wp2
    go_ret
    exact ⟨by simp [this, hb], m, rfl⟩
  | true =>
    have : ¬ 0 ≤ i := fun h => by rw [hi.1 h] at hb; cases hb
    clear hi
    go_wp2
    go_ret
    exact ⟨by simp [hb]; omega, m, rfl⟩

set_option maxRecDepth 100000 in
set_option maxHeartbeats 800000 in
theorem implValidGather_any (w : World) (u : Value) (T : TM) (h : RdT w u T) (hs : T.small) :
    Calls Tryz.prog 58 #[u] w fun e w' => e = .returned (.bool (validT T)) ∧ Below w.heap.size w w' := by
  obtain ⟨vp, vt, rfl, h1, h2⟩ := h
  obtain ⟨t, P, Ls⟩ := T
  obtain ⟨m1, m2, m3⟩ := hs
  simp only at *
  obtain ⟨a, c, rfl, -⟩ := h1.opened
  obtain ⟨a', c', rfl, -⟩ := h2.opened
  have hb0 : Below w.heap.size w (w.alloc (.cells #[.int .i64 t, .slice a P.length c, .slice a' Ls.length c'] 52)) := by (repeat (first | exact Below.refl _ _ | (refine Below.drewN ?_ _) | (refine Below.alloc ?_ (by first | exact Nat.le_refl _ | (simp; done) | (simp; omega)) _)))
  have hh := alloc_new w (.cells #[.int .i64 t, .slice a P.length c, .slice a' Ls.length c'] 52)
  by_cases t1 : 1 ≤ t
  · by_cases t2 : t ≤ 64
    · by_cases p1 : 1 ≤ P.length
      · by_cases p2 : P.length ≤ 16
        · have hv : validT ⟨t, P, Ls⟩ = (allB (fin .f32) P && (decide (Ls.length = P.length) && rowsTo Ls t Ls.length)) := by simp [validT, placesB, t1, t2, p1, p2]
          rw [hv]
          clear hv
          have g1 : (1 : Int) ≤ P.length := by omega
          have g2 : (P.length : Int) ≤ 16 := by omega
          go_enter Tryz.func58, Tryz.ntmps58
          go_wp2_with (first | (go_at_call 68; go_in) | (go_at_call 78; go_in))
          refine (areFinite_any _ _ P (h1.mono hb0) m1).mono ?_
          rintro e w1 ⟨rfl, m, hw1⟩
          obtain ⟨-, k1, k2, -, -, -⟩ := blk3 hh
          have k0 : w1.cell? ⟨w.heap.size, 0, none⟩ = some (.int .i64 t) := by rw [hw1]; exact (blk3 hh).1
          replace k1 : w1.cell? ⟨w.heap.size, 1, none⟩ = some (.slice a P.length c) := by rw [hw1]; exact k1
          replace k2 : w1.cell? ⟨w.heap.size, 2, none⟩ = some (.slice a' Ls.length c') := by rw [hw1]; exact k2
          have hb1 := Below.drewN hb0 m
          rw [← hw1] at hb1
          clear hw1 hh hb0
          cases hf : allB (fin .f32) P with
          | false =>
            go_wp2
            go_ret
            exact ⟨by simp [hf], hb1⟩
          | true =>
            by_cases hl : Ls.length = P.length
            · have hne : ((Ls.length : Int) != (P.length : Int)) = false := by rw [hl]; simp
              have Hl := Lib.hid hl
              have K0 := Lib.hid k0
              clear hl
              go_wp2_with fail
              refine (containsSS_any w1 _ Ls w.heap.size t (h2.mono hb1) K0.out m2).mono ?_
              rintro e w2 ⟨rfl, m', rfl⟩
              clear hne
              go_wp2
              go_ret
              exact ⟨by simp [hf, Hl.out], Below.drewN hb1 m'⟩
            · have hne : ((Ls.length : Int) != (P.length : Int)) = true := by simp; omega
              go_wp2
              go_ret
              exact ⟨by simp [hl], hb1⟩
        · have hv : validT ⟨t, P, Ls⟩ = false := by simp [validT, placesB, p2]
          rw [hv]
          have g1 : (1 : Int) ≤ P.length := by omega
          have g2 : ¬ ((P.length : Int) ≤ 16) := by omega
          go_enter Tryz.func58, Tryz.ntmps58
          go_wp2
          go_ret
          exact ⟨rfl, hb0⟩
      · have hv : validT ⟨t, P, Ls⟩ = false := by simp [validT, placesB, p1]
        rw [hv]
        have g1 : ¬ ((1 : Int) ≤ P.length) := by omega
        go_enter Tryz.func58, Tryz.ntmps58
        go_wp2
        go_ret
        exact ⟨rfl, hb0⟩
    · have hv : validT ⟨t, P, Ls⟩ = false := by simp [validT, t2]
      rw [hv]
      go_enter Tryz.func58, Tryz.ntmps58
      go_wp2
      go_ret
      exact ⟨rfl, hb0⟩
  · have hv : validT ⟨t, P, Ls⟩ = false := by simp [validT, t1]
    rw [hv]
    go_enter Tryz.func58, Tryz.ntmps58
    go_wp2
    go_ret
    exact ⟨rfl, hb0⟩
end Go.Proofs.YtjbaebgdebcipaaGreatDoor
