/- Walks: tests of numbers and lists: finite, positive. -/
import Derived.Test.YtjbaebgdebcipaaGreatDoorL7
namespace Go.Proofs.YtjbaebgdebcipaaGreatDoor
open Go Go.RowKit

/-- The number is finite, and greater than 0. -/
def posB (x : Nat) : Bool := fin .f32 x && FloatKind.f32.format.order x 0 == some .gt
def allTo (p : Nat → Bool) (L : List Nat) (j : Nat) : Bool := (List.range j).all fun i => p (L.getD i 0)
def allB (p : Nat → Bool) (L : List Nat) : Bool := allTo p L L.length
theorem allTo_succ (p : Nat → Bool) (L : List Nat) (j : Nat) : allTo p L (j + 1) = (allTo p L j && p (L.getD j 0)) := by simp [allTo, List.range_succ]
theorem allTo_false {p : Nat → Bool} {L : List Nat} {j n : Nat} (hj : j < n) (h : p (L.getD j 0) = false) : allTo p L n = false := by
  rw [Bool.eq_false_iff]
  intro ha
  have this : p (L.getD j 0) = true := List.all_eq_true.1 ha j (List.mem_range.2 hj)
  rw [h] at this
  cases this
theorem allTo_and (p q : Nat → Bool) (L : List Nat) (j : Nat) : (allTo p L j && allTo q L j) = allTo (fun x => p x && q x) L j := by
  induction j with
  | zero => rfl
  | succ j ih =>
    rw [allTo_succ, allTo_succ, allTo_succ, ← ih]
    cases allTo p L j <;> cases allTo q L j <;> cases p (L.getD j 0) <;> cases q (L.getD j 0) <;> rfl
theorem allTo_congr {p q : Nat → Bool} {L : List Nat} {j : Nat} (h : ∀ i, i < j → p (L.getD i 0) = q (L.getD i 0)) : allTo p L j = allTo q L j := by
  induction j with
  | zero => rfl
  | succ j ih => rw [allTo_succ, allTo_succ, ih fun i hi => h i (by omega), h j (by omega)]

set_option maxRecDepth 100000 in
set_option maxHeartbeats 400000 in
theorem l01Finite_any (w : World) (r x : Nat) (hr : FV .f32 r x) :
    Calls Tryz.prog 132 #[.float .f32 r] w fun e w' => e = .returned (.bool (fin .f32 x)) ∧ ∃ n, w' = w.drewN n := by
  have hsub := run_fsub (P := Tryz.prog)
  have hs : ∀ w2 : World, (FloatKind.f32.format.order (fres .sub .f32 r r w2) 0 == some Ordering.eq) = fin .f32 x := fun w2 => by
    rw [(FV.op hr hr w2).order (fv0 _), self_less]
  go_enter Tryz.func132, Tryz.ntmps132
  go_wp2
  go_ret
  exact ⟨rfl, _, rfl⟩

set_option maxRecDepth 100000 in
set_option maxHeartbeats 400000 in
theorem isFinite_any (w : World) (r x : Nat) (hr : FV .f32 r x) :
    Calls Tryz.prog 115 #[.float .f32 r] w fun e w' => e = .returned (.bool (fin .f32 x)) ∧ ∃ n, w' = w.drewN n := by
  have hsub := run_fsub (P := Tryz.prog)
  have hcv := run_widen (P := Tryz.prog) 25 81 (by kernel_rfl) (by kernel_rfl)
  have hs : ∀ w1 w2 : World, (FloatKind.f64.format.order (fres .sub .f64 (cres r w1) (cres r w1) w2) 0 == some Ordering.eq) = fin .f32 x := fun w1 w2 => by
    rw [(FV.op (hr.wide w1) (hr.wide w1) w2).order (fv0 _), self_less, fin_wide]
  go_enter Tryz.func115, Tryz.ntmps115
  go_wp2
  go_ret
  exact ⟨rfl, _, rfl⟩

set_option maxRecDepth 100000 in
set_option maxHeartbeats 400000 in
theorem l02Above_any (w : World) (r x : Nat) (hr : FV .f32 r x) :
    Calls Tryz.prog 102 #[.float .f32 r] w fun e w' => e = .returned (.bool (posB x)) ∧ ∃ n, w' = w.drewN n := by
  have hg : FloatKind.f32.format.order r 0 = FloatKind.f32.format.order x 0 := hr.order (fv0 _)
  unfold posB
  cases hf : fin .f32 x with
  | false =>
    go_enter Tryz.func102, Tryz.ntmps102
    go_wp2_with fail
    refine (l01Finite_any w r x hr).mono ?_
    rintro e w1 ⟨rfl, n, rfl⟩
    rw [hf]
    go_wp2
    go_ret
    exact ⟨rfl, _, rfl⟩
  | true =>
    have Hg := Lib.hid hg
    clear hg
    go_enter Tryz.func102, Tryz.ntmps102
    go_wp2_with fail
    refine (l01Finite_any w r x hr).mono ?_
    rintro e w1 ⟨rfl, n, rfl⟩
    rw [hf]
    go_wp2
    go_ret
    exact ⟨by rw [← Hg.out]; rfl, _, rfl⟩

set_option maxRecDepth 100000 in
set_option maxHeartbeats 800000 in
theorem areFinite_any (w : World) (v : Value) (L : List Nat) (h : RdF w v L) (hm : L.length ≤ 1048576) :
    Calls Tryz.prog 91 #[v] w fun e w' => e = .returned (.bool (allB (fin .f32) L)) ∧ ∃ n, w' = w.drewN n := by
  obtain ⟨a, c, rfl, hc, -, hcell⟩ := h.opened
  clear h
  go_enter Tryz.func91, Tryz.ntmps91
  go_wp2
  go_loopw [7] (fun i wr => ∃ k q : Nat, k ≤ L.length ∧ i = .int .i64 k ∧ allTo (fin .f32) L k = true ∧ wr = w.drewN q) (fun i _ => L.length - (intOf i).toNat)
  case atStart => exact ⟨0, 0, Nat.zero_le _, rfl, rfl, rfl⟩
  case round =>
    obtain ⟨wi, rfl⟩ : ∃ wi : World, wi = wr := ⟨_, rfl⟩
    obtain ⟨k, q, hk, rfl, hsk, hq⟩ := hrel
    have Hsk := Lib.hid hsk
    have Hq := Lib.hid hq
    by_cases hlt : k < L.length
    · obtain ⟨b, o, r, rfl, d0, f0⟩ := hcell k hlt
      have d1 : wi.cell? ⟨b, o + k, none⟩ = some (.float .f32 r) := by rw [hq]; exact d0
      clear hcell hsk hq d0
      go_wp2_with fail
      refine (isFinite_any wi r _ f0).mono ?_
      rintro e1 w1 ⟨rfl, n, hw1⟩
      have Hw1 := Lib.hid hw1
      clear hw1 d1
      cases hx : fin .f32 (L.getD k 0) with
      | true =>
        have Hx := Lib.hid hx
        clear hx
        go_wp2
        exact ⟨⟨k + 1, q + n, by omega, by go_num, by rw [allTo_succ, Hsk.out, Hx.out]; rfl, by rw [Hw1.out, Hq.out, World.drewN_drewN]⟩, by simp [intOf]; omega⟩
      | false =>
        have Hx := Lib.hid hx
        clear hx
        go_wp2
        go_ret
        exact ⟨by unfold allB; rw [allTo_false hlt Hx.out]; rfl, q + n, by rw [Hw1.out, Hq.out, World.drewN_drewN]⟩
    · clear hsk hq
      go_wp2
      go_ret
      obtain rfl : k = L.length := by omega
      exact ⟨by unfold allB; rw [Hsk.out]; rfl, q, Hq.out⟩

set_option maxRecDepth 100000 in
set_option maxHeartbeats 800000 in
theorem l04Places_any (w : World) (v : Value) (L : List Nat) (h : RdF w v L) (hm : L.length ≤ 1048576) :
    Calls Tryz.prog 112 #[v] w fun e w' => e = .returned (.bool (decide (1 ≤ L.length) && (decide (L.length ≤ 16) && allB (fin .f32) L))) ∧ ∃ n, w' = w.drewN n := by
  obtain ⟨a, c, rfl, hc, -, hcell⟩ := h.opened
  clear h
  by_cases h1 : 1 ≤ L.length
  · by_cases h2 : L.length ≤ 16
    · rw [decide_eq_true h1, decide_eq_true h2]
      have g1 : ¬ ((L.length : Int) < 1) := by omega
      have g2 : ¬ ((L.length : Int) > 16) := by omega
      go_enter Tryz.func112, Tryz.ntmps112
      go_wp2
      go_loopw [3] (fun i wr => ∃ k q : Nat, k ≤ L.length ∧ i = .int .i64 k ∧ allTo (fin .f32) L k = true ∧ wr = w.drewN q) (fun i _ => L.length - (intOf i).toNat)
      case atStart => exact ⟨0, 0, Nat.zero_le _, rfl, rfl, rfl⟩
      case round =>
        obtain ⟨wi, rfl⟩ : ∃ wi : World, wi = wr := ⟨_, rfl⟩
        obtain ⟨k, q, hk, rfl, hsk, hq⟩ := hrel
        have Hsk := Lib.hid hsk
        have Hq := Lib.hid hq
        by_cases hlt : k < L.length
        · obtain ⟨b, o, r, rfl, d0, f0⟩ := hcell k hlt
          have d1 : wi.cell? ⟨b, o + k, none⟩ = some (.float .f32 r) := by rw [hq]; exact d0
          clear hcell hsk hq d0
          go_wp2_with fail
          refine (l01Finite_any wi r _ f0).mono ?_
          rintro e1 w1 ⟨rfl, n, hw1⟩
          have Hw1 := Lib.hid hw1
          clear hw1 d1
          cases hx : fin .f32 (L.getD k 0) with
          | true =>
            have Hx := Lib.hid hx
            clear hx
            go_wp2
            exact ⟨⟨k + 1, q + n, by omega, by go_num, by rw [allTo_succ, Hsk.out, Hx.out]; rfl, by rw [Hw1.out, Hq.out, World.drewN_drewN]⟩, by simp [intOf]; omega⟩
          | false =>
            have Hx := Lib.hid hx
            clear hx
            go_wp2
            go_ret
            exact ⟨by unfold allB; rw [allTo_false hlt Hx.out]; rfl, q + n, by rw [Hw1.out, Hq.out, World.drewN_drewN]⟩
        · clear hsk hq
          go_wp2
          go_ret
          obtain rfl : k = L.length := by omega
          exact ⟨by unfold allB; rw [Hsk.out]; rfl, q, Hq.out⟩
    · rw [decide_eq_false h2]
      have g2 : (L.length : Int) > 16 := by omega
      have g1 : ¬ ((L.length : Int) < 1) := by omega
      go_enter Tryz.func112, Tryz.ntmps112
      go_wp2
      go_ret
      exact ⟨by simp, 0, rfl⟩
  · rw [decide_eq_false h1]
    have g1 : (L.length : Int) < 1 := by omega
    go_enter Tryz.func112, Tryz.ntmps112
    go_wp2
    go_ret
    exact ⟨by simp, 0, rfl⟩

/-- The number is not greater than 0. -/
def leqB (x : Nat) : Bool := FloatKind.f32.format.order x 0 == some .lt || FloatKind.f32.format.order x 0 == some .eq
theorem fin_leq (x : Nat) (h : fin .f32 x = true) : leqB x = !(FloatKind.f32.format.order x 0 == some .gt) := by
  have : FloatKind.f32.format.order x 0 ≠ none := by
    obtain ⟨s0, m0, e0, h0⟩ : ∃ s m e, Ieee.single.read 0 = .number s m e := by
      have hm : (match Ieee.single.read 0 with | .number .. => true | _ => false) = true := by decide +kernel
      cases hr : Ieee.single.read 0 with
      | number s m e => exact ⟨_, _, _, rfl⟩
      | infinity s => rw [hr] at hm; cases hm
      | nan s t => rw [hr] at hm; cases hm
    show Ieee.single.order x 0 ≠ none
    unfold Ieee.Format.order
    rw [h0]
    unfold fin FloatKind.decode at h
    change (match Ieee.single.read x with | .number .. => true | _ => false) = true at h
    cases hr : Ieee.single.read x with
    | number s m e => simp [Ieee.Datum.order]
    | infinity s => rw [hr] at h; cases h
    | nan s t => rw [hr] at h; cases h
  unfold leqB
  cases ho : FloatKind.f32.format.order x 0 with
  | none => exact absurd ho this
  | some o => cases o <;> rfl

set_option maxRecDepth 100000 in
set_option maxHeartbeats 800000 in
theorem indexF_any (w : World) (v : Value) (L : List Nat) (h : RdF w v L) (hm : L.length ≤ 1048576) :
    Calls Tryz.prog 94 #[v, .func (.func 106) #[] #[]] w fun e w' => ∃ i : Int, e = .returned (.int .i64 i) ∧ (0 ≤ i ↔ allB (fun x => !leqB x) L = false) ∧ w' = w := by
  obtain ⟨a, c, rfl, hc, -, hcell⟩ := h.opened
  clear h
  go_enter Tryz.func94, Tryz.ntmps94
  go_wp2
  go_loop [8] (fun i => ∃ k : Nat, k ≤ L.length ∧ i = .int .i64 k ∧ allTo (fun x => !leqB x) L k = true) (fun i => L.length - (intOf i).toNat)
  case atStart => exact ⟨0, Nat.zero_le _, rfl, rfl⟩
  case round =>
    obtain ⟨k, hk, rfl, hsk⟩ := hrel
    have Hsk := Lib.hid hsk
    by_cases hlt : k < L.length
    · obtain ⟨b, o, r, rfl, d0, f0⟩ := hcell k hlt
      have hg : FloatKind.f32.format.order r 0 = FloatKind.f32.format.order (L.getD k 0) 0 := f0.order (fv0 _)
      have hle : (FloatKind.f32.format.order r 0 == some Ordering.lt || FloatKind.f32.format.order r 0 == some Ordering.eq) = leqB (L.getD k 0) := by rw [hg]; rfl
      clear hcell hsk hg
      cases hx : leqB (L.getD k 0) with
      | true =>
        rw [hx] at hle
        have Hx := Lib.hid hx
        clear hx
        go_wp2
        go_ret
        exact ⟨_, rfl, ⟨fun _ => by unfold allB; exact allTo_false hlt (by rw [Hx.out]; rfl), fun _ => by omega⟩, rfl⟩
      | false =>
        rw [hx] at hle
        have Hx := Lib.hid hx
        clear hx
        go_wp2
        exact ⟨⟨k + 1, by omega, by go_num, by rw [allTo_succ, Hsk.out, Hx.out]; rfl⟩, by simp [intOf]; omega⟩
    · clear hsk
      go_wp2
      go_ret
      obtain rfl : k = L.length := by omega
      exact ⟨_, rfl, ⟨fun h => by omega, fun h => by unfold allB at h; rw [Hsk.out] at h; cases h⟩, rfl⟩
end Go.Proofs.YtjbaebgdebcipaaGreatDoor
