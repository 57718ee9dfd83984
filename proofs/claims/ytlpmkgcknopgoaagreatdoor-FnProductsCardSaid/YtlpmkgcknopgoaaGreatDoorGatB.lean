/- Walks: a gather is valid: the program's, on a seat without desks. -/
import Derived.Test.YtlpmkgcknopgoaaGreatDoorSh
namespace Go.Proofs.YtlpmkgcknopgoaaGreatDoor
open Go Go.RowKit

def rowAt (Ls : List (List Nat)) (j : Nat) : List Nat := Ls.getD j []
/-- A list of lists of floats. -/
def RdSS (w : World) (v : Value) (Ls : List (List Nat)) : Prop := RdC w v Ls.length (Ls.map D1.fs)
theorem RdSS.mono {w w' : World} {v : Value} {Ls : List (List Nat)} (h : RdSS w v Ls) (hb : Below w.heap.size w w') : RdSS w' v Ls := RdC.mono h hb
theorem RdSS.opened {w : World} {v : Value} {Ls : List (List Nat)} (h : RdSS w v Ls) :
    ∃ a c, v = .slice a Ls.length c ∧ Ls.length ≤ c ∧ (a = none → c = 0) ∧ ∀ j, j < Ls.length → ∃ b o a' c', a = some ⟨b, o, none⟩ ∧ b < w.heap.size ∧ w.cell? ⟨b, o + j, none⟩ = some (.slice a' (rowAt Ls j).length c') ∧ RdF w (.slice a' (rowAt Ls j).length c') (rowAt Ls j) := by
  obtain ⟨a, c, hv, hc, hz, hr⟩ := h
  refine ⟨a, c, hv, hc, hz, fun j hj => ?_⟩
  obtain ⟨b, o, u, ha, hu, hR⟩ := hr j (by simpa using hj)
  have e : (Ls.map D1.fs).getD j default = .fs (rowAt Ls j) := by simp [rowAt, List.getD_eq_getElem?_getD, List.getElem?_map, List.getElem?_eq_getElem hj]
  rw [e] at hR
  obtain ⟨a', c', rfl, _⟩ := RdF.opened hR
  exact ⟨b, o, a', c', ha, block_lt hu, hu, hR⟩

/-- A gather: ticks, places, traces. -/
structure TM where
  t : Int
  P : List Nat
  Ls : List (List Nat)
def RdT (w : World) (u : Value) (T : TM) : Prop := ∃ vp vt, u = .agg #[.int .i64 T.t, vp, vt] ∧ RdF w vp T.P ∧ RdSS w vt T.Ls
def TM.small (T : TM) : Prop := T.P.length ≤ 1048576 ∧ T.Ls.length ≤ 1048576 ∧ ∀ j, j < T.Ls.length → (rowAt T.Ls j).length ≤ 1048576
def allTo (p : Nat → Bool) (L : List Nat) (j : Nat) : Bool := (List.range j).all fun i => p (L.getD i 0)
def allB (p : Nat → Bool) (L : List Nat) : Bool := allTo p L L.length
theorem allTo_succ (p : Nat → Bool) (L : List Nat) (j : Nat) : allTo p L (j + 1) = (allTo p L j && p (L.getD j 0)) := by simp [allTo, List.range_succ]
theorem allTo_false {p : Nat → Bool} {L : List Nat} {j n : Nat} (hj : j < n) (h : p (L.getD j 0) = false) : allTo p L n = false := by
  rw [Bool.eq_false_iff]
  intro ha
  have this : p (L.getD j 0) = true := List.all_eq_true.1 ha j (List.mem_range.2 hj)
  rw [h] at this
  cases this
theorem allTo_and (p q : Nat → Bool) (L : List Nat) (j : Nat) : (allTo p L j && allTo q L j) = allTo (fun x => p x && q x) L j := by
  induction j with
  | zero => rfl
  | succ j ih =>
    rw [allTo_succ, allTo_succ, allTo_succ, ← ih]
    cases allTo p L j <;> cases allTo q L j <;> cases p (L.getD j 0) <;> cases q (L.getD j 0) <;> rfl
theorem allTo_congr {p q : Nat → Bool} {L : List Nat} {j : Nat} (h : ∀ i, i < j → p (L.getD i 0) = q (L.getD i 0)) : allTo p L j = allTo q L j := by
  induction j with
  | zero => rfl
  | succ j ih => rw [allTo_succ, allTo_succ, ih fun i hi => h i (by omega), h j (by omega)]

set_option maxRecDepth 100000 in
set_option maxHeartbeats 400000 in
theorem isFinite_any (w : World) (r x : Nat) (hr : FV .f32 r x) :
    Calls Tryz.prog 61 #[.float .f32 r] w fun e w' => e = .returned (.bool (fin .f32 x)) ∧ ∃ n, w' = w.drewN n := by
  have hsub := run_fsub (P := Tryz.prog)
  have hcv := run_widen (P := Tryz.prog) 28 46 (by kernel_rfl) (by kernel_rfl)
  have hs : ∀ w1 w2 : World, (FloatKind.f64.format.order (fres .sub .f64 (cres r w1) (cres r w1) w2) 0 == some Ordering.eq) = fin .f32 x := fun w1 w2 => by
    rw [(FV.op (hr.wide w1) (hr.wide w1) w2).order (fv0 _), self_less, fin_wide]
  go_enter Tryz.func61, Tryz.ntmps61
  go_wp2
  go_ret
  exact ⟨rfl, _, rfl⟩

set_option maxRecDepth 100000 in
set_option maxHeartbeats 800000 in
theorem areFinite_any (w : World) (v : Value) (L : List Nat) (h : RdF w v L) (hm : L.length ≤ 1048576) :
    Calls Tryz.prog 72 #[v] w fun e w' => e = .returned (.bool (allB (fin .f32) L)) ∧ ∃ n, w' = w.drewN n := by
  obtain ⟨a, c, rfl, hc, -, hcell⟩ := h.opened
  clear h
  go_enter Tryz.func72, Tryz.ntmps72
  go_wp2
  go_loopw [7] (fun i wr => ∃ k q : Nat, k ≤ L.length ∧ i = .int .i64 k ∧ allTo (fin .f32) L k = true ∧ wr = w.drewN q) (fun i _ => L.length - (intOf i).toNat)
  case atStart => exact ⟨0, 0, Nat.zero_le _, rfl, rfl, rfl⟩
  case round =>
    obtain ⟨wi, rfl⟩ : ∃ wi : World, wi = wr := ⟨_, rfl⟩
    obtain ⟨k, q, hk, rfl, hsk, hq⟩ := hrel
    have Hsk := Lib.hid hsk
    have Hq := Lib.hid hq
    by_cases hlt : k < L.length
    · obtain ⟨b, o, r, rfl, d0, f0⟩ := hcell k hlt
      have d1 : wi.cell? ⟨b, o + k, none⟩ = some (.float .f32 r) := by rw [hq]; exact d0
      clear hcell hsk hq d0
      go_wp2_with fail
      refine (isFinite_any wi r _ f0).mono ?_
      rintro e1 w1 ⟨rfl, n, hw1⟩
      have Hw1 := Lib.hid hw1
      clear hw1 d1
      cases hx : fin .f32 (L.getD k 0) with
      | true =>
        have Hx := Lib.hid hx
        clear hx
        go_wp2
        exact ⟨⟨k + 1, q + n, by omega, by go_num, by rw [allTo_succ, Hsk.out, Hx.out]; rfl, by rw [Hw1.out, Hq.out, World.drewN_drewN]⟩, by simp [intOf]; omega⟩
      | false =>
        have Hx := Lib.hid hx
        clear hx
        go_wp2
        go_ret
        exact ⟨by unfold allB; rw [allTo_false hlt Hx.out]; rfl, q + n, by rw [Hw1.out, Hq.out, World.drewN_drewN]⟩
    · clear hsk hq
      go_wp2
      go_ret
      obtain rfl : k = L.length := by omega
      exact ⟨by unfold allB; rw [Hsk.out]; rfl, q, Hq.out⟩

def rowsTo (Ls : List (List Nat)) (t : Int) (j : Nat) : Bool := (List.range j).all fun i => ((rowAt Ls i).length : Int) == t
theorem rowsTo_succ (Ls : List (List Nat)) (t : Int) (j : Nat) : rowsTo Ls t (j + 1) = (rowsTo Ls t j && (((rowAt Ls j).length : Int) == t)) := by simp [rowsTo, List.range_succ]
theorem rowsTo_false {Ls : List (List Nat)} {t : Int} {j n : Nat} (hj : j < n) (h : (((rowAt Ls j).length : Int) == t) = false) : rowsTo Ls t n = false := by
  rw [Bool.eq_false_iff]
  intro ha
  have this : (((rowAt Ls j).length : Int) == t) = true := List.all_eq_true.1 ha j (List.mem_range.2 hj)
  rw [h] at this
  cases this
def placesB (P : List Nat) : Bool := decide (1 ≤ P.length) && (decide (P.length ≤ 16) && allB (fin .f32) P)
def validT (T : TM) : Bool := decide (1 ≤ T.t) && (decide (T.t ≤ 64) && (placesB T.P && (decide (T.Ls.length = T.P.length) && rowsTo T.Ls T.t T.Ls.length)))

end Go.Proofs.YtlpmkgcknopgoaaGreatDoor
