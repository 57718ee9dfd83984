/- Walks: a gather is valid: the program's, on a seat without desks. -/
import Derived.Test.YthacadbdncfocaaSh
namespace Go.Proofs.Ythacadbdncfocaa
open Go Go.RowKit

def rowAt (Ls : List (List Nat)) (j : Nat) : List Nat := Ls.getD j []
/-- A list of lists of floats. -/
def RdSS (w : World) (v : Value) (Ls : List (List Nat)) : Prop := RdC w v Ls.length (Ls.map D1.fs)
theorem RdSS.mono {w w' : World} {v : Value} {Ls : List (List Nat)} (h : RdSS w v Ls) (hb : Below w.heap.size w w') : RdSS w' v Ls := RdC.mono h hb
theorem RdSS.opened {w : World} {v : Value} {Ls : List (List Nat)} (h : RdSS w v Ls) :
    ∃ a c, v = .slice a Ls.length c ∧ Ls.length ≤ c ∧ (a = none → c = 0) ∧ ∀ j, j < Ls.length → ∃ b o a' c', a = some ⟨b, o, none⟩ ∧ b < w.heap.size ∧ w.cell? ⟨b, o + j, none⟩ = some (.slice a' (rowAt Ls j).length c') ∧ RdF w (.slice a' (rowAt Ls j).length c') (rowAt Ls j) := by
  obtain ⟨a, c, hv, hc, hz, hr⟩ := h
  refine ⟨a, c, hv, hc, hz, fun j hj => ?_⟩
  obtain ⟨b, o, u, ha, hu, hR⟩ := hr j (by simpa using hj)
  have e : (Ls.map D1.fs).getD j default = .fs (rowAt Ls j) := by simp [rowAt, List.getD_eq_getElem?_getD, List.getElem?_map, List.getElem?_eq_getElem hj]
  rw [e] at hR
  obtain ⟨a', c', rfl, _⟩ := RdF.opened hR
  exact ⟨b, o, a', c', ha, block_lt hu, hu, hR⟩

/-- A gather: ticks, places, traces. -/
structure TM where
  t : Int
  P : List Nat
  Ls : List (List Nat)
def RdT (w : World) (u : Value) (T : TM) : Prop := ∃ vp vt, u = .agg #[.int .i64 T.t, vp, vt] ∧ RdF w vp T.P ∧ RdSS w vt T.Ls
def TM.small (T : TM) : Prop := T.P.length ≤ 1048576 ∧ T.Ls.length ≤ 1048576 ∧ ∀ j, j < T.Ls.length → (rowAt T.Ls j).length ≤ 1048576
def allTo (p : Nat → Bool) (L : List Nat) (j : Nat) : Bool := (List.range j).all fun i => p (L.getD i 0)
def allB (p : Nat → Bool) (L : List Nat) : Bool := allTo p L L.length
theorem allTo_succ (p : Nat → Bool) (L : List Nat) (j : Nat) : allTo p L (j + 1) = (allTo p L j && p (L.getD j 0)) := by simp [allTo, List.range_succ]
theorem allTo_false {p : Nat → Bool} {L : List Nat} {j n : Nat} (hj : j < n) (h : p (L.getD j 0) = false) : allTo p L n = false := by
  rw [Bool.eq_false_iff]
  intro ha
  have this : p (L.getD j 0) = true := List.all_eq_true.1 ha j (List.mem_range.2 hj)
  rw [h] at this
  cases this
theorem allTo_and (p q : Nat → Bool) (L : List Nat) (j : Nat) : (allTo p L j && allTo q L j) = allTo (fun x => p x && q x) L j := by
  induction j with
  | zero => rfl
  | succ j ih =>
    rw [allTo_succ, allTo_succ, allTo_succ, ← ih]
    cases allTo p L j <;> cases allTo q L j <;> cases p (L.getD j 0) <;> cases q (L.getD j 0) <;> rfl
theorem allTo_congr {p q : Nat → Bool} {L : List Nat} {j : Nat} (h : ∀ i, i < j → p (L.getD i 0) = q (L.getD i 0)) : allTo p L j = allTo q L j := by
  induction j with
  | zero => rfl
  | succ j ih => rw [allTo_succ, allTo_succ, ih fun i hi => h i (by omega), h j (by omega)]

set_option maxRecDepth 100000 in
set_option maxHeartbeats 400000 in
theorem isFinite_any (w : World) (r x : Nat) (hr : FV .f32 r x) :
    Calls Try.prog 47 #[.float .f32 r] w fun e w' => e = .returned (.bool (fin .f32 x)) ∧ ∃ n, w' = w.drewN n := by
  have hsub := run_fsub (P := Try.prog)
  have hcv := run_widen (P := Try.prog) 27 40 (by kernel_rfl) (by kernel_rfl)
  have hs : ∀ w1 w2 : World, (FloatKind.f64.format.order (fres .sub .f64 (cres r w1) (cres r w1) w2) 0 == some Ordering.eq) = fin .f32 x := fun w1 w2 => by
    rw [(FV.op (hr.wide w1) (hr.wide w1) w2).order (fv0 _), self_less, fin_wide]
  go_enter Try.func47, Try.ntmps47
  go_wp2
  go_ret
  exact ⟨rfl, _, rfl⟩

set_option maxRecDepth 100000 in
set_option maxHeartbeats 800000 in
theorem areFinite_any (w : World) (v : Value) (L : List Nat) (h : RdF w v L) (hm : L.length ≤ 1048576) :
    Calls Try.prog 60 #[v] w fun e w' => e = .returned (.bool (allB (fin .f32) L)) ∧ ∃ n, w' = w.drewN n := by
  obtain ⟨a, c, rfl, hc, -, hcell⟩ := h.opened
  clear h
  go_enter Try.func60, Try.ntmps60
  go_wp2
  go_loopw [7] (fun i wr => ∃ k q : Nat, k ≤ L.length ∧ i = .int .i64 k ∧ allTo (fin .f32) L k = true ∧ wr = w.drewN q) (fun i _ => L.length - (intOf i).toNat)
  case atStart => exact ⟨0, 0, Nat.zero_le _, rfl, rfl, rfl⟩
  case round =>
    obtain ⟨wi, rfl⟩ : ∃ wi : World, wi = wr := ⟨_, rfl⟩
    obtain ⟨k, q, hk, rfl, hsk, hq⟩ := hrel
    have Hsk := Lib.hid hsk
    have Hq := Lib.hid hq
    by_cases hlt : k < L.length
    · obtain ⟨b, o, r, rfl, d0, f0⟩ := hcell k hlt
      have d1 : wi.cell? ⟨b, o + k, none⟩ = some (.float .f32 r) := by rw [hq]; exact d0
      clear hcell hsk hq d0
      go_wp2_with fail
      refine (isFinite_any wi r _ f0).mono ?_
      rintro e1 w1 ⟨rfl, n, hw1⟩
      have Hw1 := Lib.hid hw1
      clear hw1 d1
      cases hx : fin .f32 (L.getD k 0) with
      | true =>
        have Hx := Lib.hid hx
        clear hx
        go_wp2
        exact ⟨⟨k + 1, q + n, by omega, by go_num, by rw [allTo_succ, Hsk.out, Hx.out]; rfl, by rw [Hw1.out, Hq.out, World.drewN_drewN]⟩, by simp [intOf]; omega⟩
      | false =>
        have Hx := Lib.hid hx
        clear hx
        go_wp2
        go_ret
        exact ⟨by unfold allB; rw [allTo_false hlt Hx.out]; rfl, q + n, by rw [Hw1.out, Hq.out, World.drewN_drewN]⟩
    · clear hsk hq
      go_wp2
      go_ret
      obtain rfl : k = L.length := by omega
      exact ⟨by unfold allB; rw [Hsk.out]; rfl, q, Hq.out⟩

def rowsTo (Ls : List (List Nat)) (t : Int) (j : Nat) : Bool := (List.range j).all fun i => ((rowAt Ls i).length : Int) == t
theorem rowsTo_succ (Ls : List (List Nat)) (t : Int) (j : Nat) : rowsTo Ls t (j + 1) = (rowsTo Ls t j && (((rowAt Ls j).length : Int) == t)) := by simp [rowsTo, List.range_succ]
theorem rowsTo_false {Ls : List (List Nat)} {t : Int} {j n : Nat} (hj : j < n) (h : (((rowAt Ls j).length : Int) == t) = false) : rowsTo Ls t n = false := by
  rw [Bool.eq_false_iff]
  intro ha
  have this : (((rowAt Ls j).length : Int) == t) = true := List.all_eq_true.1 ha j (List.mem_range.2 hj)
  rw [h] at this
  cases this
def placesB (P : List Nat) : Bool := decide (1 ≤ P.length) && (decide (P.length ≤ 16) && allB (fin .f32) P)
def validT (T : TM) : Bool := decide (1 ≤ T.t) && (decide (T.t ≤ 64) && (placesB T.P && (decide (T.Ls.length = T.P.length) && rowsTo T.Ls T.t T.Ls.length)))

set_option maxRecDepth 100000 in
set_option maxHeartbeats 800000 in
theorem badRow_any (w : World) (g : Nat) (t : Int) (a : Option Addr) (n c : Nat) (c0 : w.cell? ⟨g, 0, none⟩ = some (.int .i64 t)) :
    Calls Try.prog 87 #[.slice a n c, .pointer (some ⟨g, 0, none⟩)] w fun e w' => e = .returned (.bool ((n : Int) != t)) ∧ ∃ m, w' = w.drewN m := by
  go_enter Try.func87, Try.ntmps87
  go_wp2_with fail
  refine region_rel_all (by kernel_rfl) (by kernel_rfl) (Drawn w) (fun _ _ v => v = .int .i64 n) ⟨1, rfl⟩ ?_
  repeat (refine wpRel_draw rfl rfl (fun nq K hK => ?_); go_wp2)
  refine wpRel_callF #[.slice a n c] Try.func45 (by kernel_rfl) (by kernel_rfl) (by simp [go_sem]) ⟨w, 0, rfl⟩ ⟨_, rfl⟩ ?_ ?_
  · rintro wd ⟨nd, rfl⟩
    refine (lengthF_any (w.drewN nd) a n c).mono ?_
    rintro e w'' ⟨rfl, rfl⟩
    exact ⟨_, rfl, rfl, nd, rfl⟩
  · rintro v rfl
    simp only [Act.put, List.setIfInBounds_toArray, List.set_cons_succ, List.set_cons_zero]
    repeat (refine wpRel_draw rfl rfl (fun nq K hK => ?_); go_wp2)
    refine wpRel_nil ?_
    rintro wd ⟨nd, rfl⟩
    go_wp2
    go_ret
    exact ⟨rfl, nd, rfl⟩

set_option maxRecDepth 100000 in
set_option maxHeartbeats 800000 in
theorem indexSS_any (w : World) (v : Value) (Ls : List (List Nat)) (g : Nat) (t : Int) (h : RdSS w v Ls) (c0 : w.cell? ⟨g, 0, none⟩ = some (.int .i64 t)) (hm : Ls.length ≤ 1048576) :
    Calls Try.prog 98 #[v, .func (.func 87) #[] #[.pointer (some ⟨g, 0, none⟩)]] w fun e w' => ∃ i : Int, e = .returned (.int .i64 i) ∧ (0 ≤ i ↔ rowsTo Ls t Ls.length = false) ∧ ∃ m, w' = w.drewN m := by
  obtain ⟨a, c, rfl, hc, -, hcell⟩ := h.opened
  clear h
  go_enter Try.func98, Try.ntmps98
  go_wp2
  go_loopw [8] (fun i wr => ∃ k q : Nat, k ≤ Ls.length ∧ i = .int .i64 k ∧ rowsTo Ls t k = true ∧ wr = w.drewN q) (fun i _ => Ls.length - (intOf i).toNat)
  case atStart => exact ⟨0, 0, Nat.zero_le _, rfl, rfl, rfl⟩
  case round =>
    obtain ⟨wi, rfl⟩ : ∃ wi : World, wi = wr := ⟨_, rfl⟩
    obtain ⟨k, q, hk, rfl, hsk, hq⟩ := hrel
    have Hsk := Lib.hid hsk
    by_cases hlt : k < Ls.length
    · obtain ⟨b, o, a', c', rfl, hlb, d0, R0⟩ := hcell k hlt
      have d1 : wi.cell? ⟨b, o + k, none⟩ = some (.slice a' (rowAt Ls k).length c') := by rw [hq]; exact d0
      have c1 : wi.cell? ⟨g, 0, none⟩ = some (.int .i64 t) := by rw [hq]; exact c0
      have Hq := Lib.hid hq
      have C1 := Lib.hid c1
      clear hcell hsk hq d0 R0 c1
      go_wp2_with fail
      refine (badRow_any wi g t a' _ c' C1.out).mono ?_
      rintro e1 w1 ⟨rfl, n, hw1⟩
      have Hw1 := Lib.hid hw1
      clear hw1 d1
      cases hx : (((rowAt Ls k).length : Int) == t) with
      | true =>
        have hx2 : (((rowAt Ls k).length : Int) != t) = false := by simp only [bne, hx]; rfl
        have Hx := Lib.hid hx
        clear hx
        rw [hx2]
        clear hx2
        go_wp2
        exact ⟨⟨k + 1, q + n, by omega, by go_num, by rw [rowsTo_succ, Hsk.out, Hx.out]; rfl, by rw [Hw1.out, Hq.out, World.drewN_drewN]⟩, by simp [intOf]; omega⟩
      | false =>
        have hx2 : (((rowAt Ls k).length : Int) != t) = true := by simp only [bne, hx]; rfl
        have Hx := Lib.hid hx
        clear hx
        rw [hx2]
        clear hx2
        go_wp2
        go_ret
        exact ⟨_, rfl, ⟨fun _ => rowsTo_false hlt Hx.out, fun _ => by omega⟩, q + n, by rw [Hw1.out, Hq.out, World.drewN_drewN]⟩
    · have Hq := Lib.hid hq
      clear hsk hq
      go_wp2
      go_ret
      obtain rfl : k = Ls.length := by omega
      exact ⟨_, rfl, ⟨fun h => by omega, fun h => by rw [Hsk.out] at h; cases h⟩, q, Hq.out⟩

set_option maxRecDepth 100000 in
set_option maxHeartbeats 800000 in
theorem containsSS_any (w : World) (v : Value) (Ls : List (List Nat)) (g : Nat) (t : Int) (h : RdSS w v Ls) (c0 : w.cell? ⟨g, 0, none⟩ = some (.int .i64 t)) (hm : Ls.length ≤ 1048576) :
    Calls Try.prog 86 #[v, .func (.func 87) #[] #[.pointer (some ⟨g, 0, none⟩)]] w fun e w' => e = .returned (.bool (!rowsTo Ls t Ls.length)) ∧ ∃ m, w' = w.drewN m := by
  have C0 := Lib.hid c0
  clear c0
  go_enter Try.func86, Try.ntmps86
  go_wp2_with fail
  refine (indexSS_any w v Ls g t h C0.out hm).mono ?_
  rintro e w1 ⟨i, rfl, hi, m, rfl⟩
  cases hb : rowsTo Ls t Ls.length with
  | false =>
    have : 0 ≤ i := hi.2 hb
    clear hi
    go_wp2
    go_ret
    exact ⟨by simp [this, hb], m, rfl⟩
  | true =>
    have : ¬ 0 ≤ i := fun h => by rw [hi.1 h] at hb; cases hb
    clear hi
    go_wp2
    go_ret
    exact ⟨by simp [hb]; omega, m, rfl⟩

set_option maxRecDepth 100000 in
set_option maxHeartbeats 800000 in
theorem implValidGather_any (w : World) (u : Value) (T : TM) (h : RdT w u T) (hs : T.small) :
    Calls Try.prog 53 #[u] w fun e w' => e = .returned (.bool (validT T)) ∧ Below w.heap.size w w' := by
  obtain ⟨vp, vt, rfl, h1, h2⟩ := h
  obtain ⟨t, P, Ls⟩ := T
  obtain ⟨m1, m2, m3⟩ := hs
  simp only at *
  obtain ⟨a, c, rfl, -⟩ := h1.opened
  obtain ⟨a', c', rfl, -⟩ := h2.opened
  have hb0 : Below w.heap.size w (w.alloc (.cells #[.int .i64 t, .slice a P.length c, .slice a' Ls.length c'] 44)) := by (repeat (first | exact Below.refl _ _ | (refine Below.drewN ?_ _) | (refine Below.alloc ?_ (by first | exact Nat.le_refl _ | (simp; done) | (simp; omega)) _)))
  have hh := alloc_new w (.cells #[.int .i64 t, .slice a P.length c, .slice a' Ls.length c'] 44)
  by_cases t1 : 1 ≤ t
  · by_cases t2 : t ≤ 64
    · by_cases p1 : 1 ≤ P.length
      · by_cases p2 : P.length ≤ 16
        · have hv : validT ⟨t, P, Ls⟩ = (allB (fin .f32) P && (decide (Ls.length = P.length) && rowsTo Ls t Ls.length)) := by simp [validT, placesB, t1, t2, p1, p2]
          rw [hv]
          clear hv
          have g1 : (1 : Int) ≤ P.length := by omega
          have g2 : (P.length : Int) ≤ 16 := by omega
          go_enter Try.func53, Try.ntmps53
          go_wp2_with (first | (go_at_call 45; go_in) | (go_at_call 51; go_in))
          refine (areFinite_any _ _ P (h1.mono hb0) m1).mono ?_
          rintro e w1 ⟨rfl, m, hw1⟩
          obtain ⟨-, k1, k2, -, -, -⟩ := blk3 hh
          have k0 : w1.cell? ⟨w.heap.size, 0, none⟩ = some (.int .i64 t) := by rw [hw1]; exact (blk3 hh).1
          replace k1 : w1.cell? ⟨w.heap.size, 1, none⟩ = some (.slice a P.length c) := by rw [hw1]; exact k1
          replace k2 : w1.cell? ⟨w.heap.size, 2, none⟩ = some (.slice a' Ls.length c') := by rw [hw1]; exact k2
          have hb1 := Below.drewN hb0 m
          rw [← hw1] at hb1
          clear hw1 hh hb0
          cases hf : allB (fin .f32) P with
          | false =>
            go_wp2
            go_ret
            exact ⟨by simp [hf], hb1⟩
          | true =>
            by_cases hl : Ls.length = P.length
            · have hne : ((Ls.length : Int) != (P.length : Int)) = false := by rw [hl]; simp
              have Hl := Lib.hid hl
              have K0 := Lib.hid k0
              clear hl
              go_wp2_with fail
              refine (containsSS_any w1 _ Ls w.heap.size t (h2.mono hb1) K0.out m2).mono ?_
              rintro e w2 ⟨rfl, m', rfl⟩
              clear hne
              go_wp2
              go_ret
              exact ⟨by simp [hf, Hl.out], Below.drewN hb1 m'⟩
            · have hne : ((Ls.length : Int) != (P.length : Int)) = true := by simp; omega
              go_wp2
              go_ret
              exact ⟨by simp [hl], hb1⟩
        · have hv : validT ⟨t, P, Ls⟩ = false := by simp [validT, placesB, p2]
          rw [hv]
          have g1 : (1 : Int) ≤ P.length := by omega
          have g2 : ¬ ((P.length : Int) ≤ 16) := by omega
          go_enter Try.func53, Try.ntmps53
          go_wp2
          go_ret
          exact ⟨rfl, hb0⟩
      · have hv : validT ⟨t, P, Ls⟩ = false := by simp [validT, placesB, p1]
        rw [hv]
        have g1 : ¬ ((1 : Int) ≤ P.length) := by omega
        go_enter Try.func53, Try.ntmps53
        go_wp2
        go_ret
        exact ⟨rfl, hb0⟩
    · have hv : validT ⟨t, P, Ls⟩ = false := by simp [validT, t2]
      rw [hv]
      go_enter Try.func53, Try.ntmps53
      go_wp2
      go_ret
      exact ⟨rfl, hb0⟩
  · have hv : validT ⟨t, P, Ls⟩ = false := by simp [validT, t1]
    rw [hv]
    go_enter Try.func53, Try.ntmps53
    go_wp2
    go_ret
    exact ⟨rfl, hb0⟩
end Go.Proofs.Ythacadbdncfocaa
