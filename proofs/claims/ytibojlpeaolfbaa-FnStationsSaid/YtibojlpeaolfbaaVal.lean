/- Walks: valid frames. -/
import Derived.Test.YtibojlpeaolfbaaNum2
import Derived.Test.YtibojlpeaolfbaaFr1
namespace Go.Proofs.Ytibojlpeaolfbaa
open Go Go.RowKit

def allTo (p : Nat → Bool) (L : List Nat) (j : Nat) : Bool := (List.range j).all fun i => p (L.getD i 0)
def allB (p : Nat → Bool) (L : List Nat) : Bool := allTo p L L.length
theorem allTo_succ (p : Nat → Bool) (L : List Nat) (j : Nat) : allTo p L (j + 1) = (allTo p L j && p (L.getD j 0)) := by simp [allTo, List.range_succ]
theorem allTo_false {p : Nat → Bool} {L : List Nat} {j n : Nat} (hj : j < n) (h : p (L.getD j 0) = false) : allTo p L n = false := by
  rw [Bool.eq_false_iff]
  intro ha
  have this : p (L.getD j 0) = true := List.all_eq_true.1 ha j (List.mem_range.2 hj)
  rw [h] at this
  cases this
theorem allTo_and (p q : Nat → Bool) (L : List Nat) (j : Nat) : (allTo p L j && allTo q L j) = allTo (fun x => p x && q x) L j := by
  induction j with
  | zero => rfl
  | succ j ih =>
    rw [allTo_succ, allTo_succ, allTo_succ, ← ih]
    cases allTo p L j <;> cases allTo q L j <;> cases p (L.getD j 0) <;> cases q (L.getD j 0) <;> rfl
theorem allTo_congr {p q : Nat → Bool} {L : List Nat} {j : Nat} (h : ∀ i, i < j → p (L.getD i 0) = q (L.getD i 0)) : allTo p L j = allTo q L j := by
  induction j with
  | zero => rfl
  | succ j ih => rw [allTo_succ, allTo_succ, ih fun i hi => h i (by omega), h j (by omega)]


set_option maxRecDepth 100000 in
set_option maxHeartbeats 800000 in
theorem indexN_any (w : World) (v : Value) (L : List Nat) (h : RdF w v L) (hm : L.length ≤ 1048576) :
    Calls Try.prog 120 #[v, .func (.func 94) #[] #[]] w fun e w' => ∃ i : Int, e = .returned (.int .i64 i) ∧ (0 ≤ i ↔ allB numB L = false) ∧ ∃ n, w' = w.drewN n := by
  obtain ⟨a, c, rfl, hc, -, hcell⟩ := h.opened
  clear h
  go_enter Try.func120, Try.ntmps120
  go_wp2
  go_loopw [8] (fun i wr => ∃ k n : Nat, k ≤ L.length ∧ i = .int .i64 k ∧ allTo numB L k = true ∧ wr = w.drewN n) (fun i _ => L.length - (intOf i).toNat)
  case atStart => exact ⟨0, 0, Nat.zero_le _, rfl, rfl, rfl⟩
  case round =>
    obtain ⟨wi, rfl⟩ : ∃ wi : World, wi = wr := ⟨_, rfl⟩
    obtain ⟨k, n, hk, rfl, hsk, hq⟩ := hrel
    have Hsk := Lib.hid hsk
    by_cases hlt : k < L.length
    · obtain ⟨b, o, r, rfl, d0, f0⟩ := hcell k hlt
      have D0 : wi.cell? ⟨b, o + k, none⟩ = some (.float .f32 r) := by rw [hq]; exact d0
      have HK := Lib.hid (notNumber_any wi r _ f0)
      have Hq := Lib.hid hq
      have HA := Lib.hid (allTo_succ numB L k)
      have HF : Hid (numB (L.getD k 0) = false → allB numB L = false) := Lib.hid (fun hx => by unfold allB; exact allTo_false hlt hx)
      generalize numB (L.getD k 0) = q at HK HA HF
      clear hcell hsk hq d0
      go_wp2_with fail
      refine HK.out.mono ?_
      rintro e w1 ⟨rfl, n1, hw1⟩
      have Hw := Lib.hid hw1
      clear hw1 HK
      cases q with
      | false =>
        have HF2 := Lib.hid (HF.out rfl)
        clear HF
        go_wp2
        go_ret
        exact ⟨_, rfl, ⟨fun _ => HF2.out, fun _ => by omega⟩, _, by rw [Hw.out, Hq.out, World.drewN_drewN]⟩
      | true =>
        go_wp2
        exact ⟨⟨k + 1, _, by omega, by go_num, by rw [HA.out, Hsk.out]; rfl, by rw [Hw.out, Hq.out, World.drewN_drewN]⟩, by simp [intOf]; omega⟩
    · have Hq := Lib.hid hq
      clear hsk hq
      go_wp2
      go_ret
      obtain rfl : k = L.length := by omega
      exact ⟨_, rfl, ⟨fun h => by omega, fun h => by unfold allB at h; rw [Hsk.out] at h; cases h⟩, _, Hq.out⟩
set_option maxRecDepth 100000 in
set_option maxHeartbeats 800000 in
theorem containsN_any (w : World) (v : Value) (L : List Nat) (h : RdF w v L) (hm : L.length ≤ 1048576) :
    Calls Try.prog 93 #[v, .func (.func 94) #[] #[]] w fun e w' => e = .returned (.bool (!allB numB L)) ∧ ∃ n, w' = w.drewN n := by
  go_enter Try.func93, Try.ntmps93
  go_wp2_with fail
  refine (indexN_any w v L h hm).mono ?_
  rintro e w1 ⟨i, rfl, hi, n, rfl⟩
  cases hb : allB numB L with
  | false =>
    have : 0 ≤ i := hi.2 hb
    have hd : decide (i ≥ 0) = true := by simpa using this
    clear hi
    go_wp2
    go_ret
    exact ⟨by simp [this, hb], n, rfl⟩
  | true =>
    have : ¬ 0 ≤ i := fun h => by rw [hi.1 h] at hb; cases hb
    clear hi
    go_wp2
    go_ret
    exact ⟨by simp [hb]; omega, n, rfl⟩
set_option maxRecDepth 100000 in
set_option maxHeartbeats 400000 in
theorem areNumbers_any (w : World) (v : Value) (L : List Nat) (h : RdF w v L) (hm : L.length ≤ 1048576) :
    Calls Try.prog 56 #[v] w fun e w' => e = .returned (.bool (allB numB L)) ∧ ∃ n, w' = w.drewN n := by
  have HK := Lib.hid (containsN_any w v L h hm)
  generalize allB numB L = q at HK
  go_enter Try.func56, Try.ntmps56
  go_wp2_with fail
  refine HK.out.mono ?_
  rintro e w1 ⟨rfl, n, rfl⟩
  go_wp2
  go_ret
  exact ⟨by simp, n, rfl⟩
/-- A number lies between two. -/
def inB (n lo hi : Int) : Bool := decide (lo ≤ n) && decide (n ≤ hi)
set_option maxRecDepth 100000 in
set_option maxHeartbeats 400000 in
theorem within_any (w : World) (n lo hi : Int) :
    Calls Try.prog 54 #[.int .i64 n, .int .i64 lo, .int .i64 hi] w fun e w' => e = .returned (.bool (inB n lo hi)) ∧ w' = w := by
  by_cases h : lo ≤ n
  · have HG : Hid (inB n lo hi = decide (n ≤ hi)) := Lib.hid (by unfold inB; rw [decide_eq_true h]; rfl)
    go_enter Try.func54, Try.ntmps54
    go_wp2
    go_ret
    refine ⟨?_, rfl⟩
    rw [HG.out]; rfl
  · have HG : Hid (inB n lo hi = false) := Lib.hid (by unfold inB; rw [decide_eq_false h]; rfl)
    go_enter Try.func54, Try.ntmps54
    go_wp2
    go_ret
    refine ⟨?_, rfl⟩
    rw [HG.out]; rfl
set_option maxRecDepth 100000 in
set_option maxHeartbeats 400000 in
theorem l00In_any (w : World) (n lo hi : Int) :
    Calls Try.prog 144 #[.int .i64 n, .int .i64 lo, .int .i64 hi] w fun e w' => e = .returned (.bool (inB n lo hi)) ∧ w' = w := by
  by_cases h : lo ≤ n
  · have HG : Hid (inB n lo hi = decide (n ≤ hi)) := Lib.hid (by unfold inB; rw [decide_eq_true h]; rfl)
    go_enter Try.func144, Try.ntmps144
    go_wp2
    go_ret
    refine ⟨?_, rfl⟩
    rw [HG.out]; rfl
  · have HG : Hid (inB n lo hi = false) := Lib.hid (by unfold inB; rw [decide_eq_false h]; rfl)
    go_enter Try.func144, Try.ntmps144
    go_wp2
    go_ret
    refine ⟨?_, rfl⟩
    rw [HG.out]; rfl
set_option maxRecDepth 100000 in
set_option maxHeartbeats 400000 in
theorem lengthF_any (w : World) (a : Option Addr) (n c : Nat) :
    Calls Try.prog 83 #[.slice a n c] w fun e w' => e = .returned (.int .i64 (n : Int)) ∧ w' = w := by
  go_enter Try.func83, Try.ntmps83
  go_wp2
  go_ret
  exact ⟨rfl, rfl⟩
set_option maxRecDepth 100000 in
set_option maxHeartbeats 400000 in
theorem isCount_any (w : World) (n : Int) :
    Calls Try.prog 92 #[.int .i64 n] w fun e w' => e = .returned (.bool (inB n 1 128)) ∧ w' = w := by
  have K := within_any w n 1 128
  generalize inB n 1 128 = q at K
  go_enter Try.func92, Try.ntmps92
  go_wp2_with fail
  refine K.mono ?_
  rintro e w1 ⟨rfl, rfl⟩
  go_wp2
  go_ret
  exact ⟨rfl, rfl⟩
set_option maxRecDepth 100000 in
set_option maxHeartbeats 400000 in
theorem isTrace_any (w : World) (a : Option Addr) (n c : Nat) (hn : n ≤ 1048576) :
    Calls Try.prog 55 #[.slice a n c] w fun e w' => e = .returned (.bool (inB n 1 128)) ∧ w' = w := by
  have K := isCount_any w n
  generalize inB n 1 128 = q at K
  go_enter Try.func55, Try.ntmps55
  go_wp2_with fail
  refine (lengthF_any w a n c).mono ?_
  rintro e w0 ⟨rfl, rfl⟩
  go_wp2_with fail
  refine K.mono ?_
  rintro e w1 ⟨rfl, rfl⟩
  go_wp2
  go_ret
  exact ⟨rfl, rfl⟩
set_option maxRecDepth 100000 in
set_option maxHeartbeats 400000 in
theorem l03Is_any (w : World) (a : Option Addr) (n c : Nat) (hn : n ≤ 1048576) :
    Calls Try.prog 143 #[.slice a n c] w fun e w' => e = .returned (.bool (inB n 1 128)) ∧ w' = w := by
  by_cases h : (1 : Int) ≤ n
  · have HG : Hid (inB n 1 128 = decide ((n : Int) ≤ 128)) := Lib.hid (by unfold inB; rw [decide_eq_true h]; rfl)
    go_enter Try.func143, Try.ntmps143
    go_wp2
    go_ret
    refine ⟨?_, rfl⟩
    rw [HG.out]; rfl
  · have HG : Hid (inB n 1 128 = false) := Lib.hid (by unfold inB; rw [decide_eq_false h]; rfl)
    go_enter Try.func143, Try.ntmps143
    go_wp2
    go_ret
    refine ⟨?_, rfl⟩
    rw [HG.out]; rfl

def okF (f : FM) : Bool := inB f.st 0 200 && (inB f.sa 0 100000 && (inB f.L.length 1 128 && allB numB f.L))
theorem okF_num {f : FM} (h : allB numB f.L = false) : okF f = false := by unfold okF; rw [h]; simp
set_option maxRecDepth 100000 in
set_option maxHeartbeats 1600000 in
theorem l07Is_any (w : World) (b k : Nat) (f : FM) (a' : Option Addr) (c' : Nat) (c0 : w.cell? ⟨b, k, none⟩ = some (.int .i64 f.st)) (c1 : w.cell? ⟨b, k + 1, none⟩ = some (.int .i64 f.sa))
    (c2 : w.cell? ⟨b, k + 2, none⟩ = some (.slice a' f.L.length c')) (hR : RdF w (.slice a' f.L.length c') f.L) (hm : f.L.length ≤ 1048576) :
    Calls Try.prog 132 #[.pointer (some ⟨b, k, none⟩)] w fun e w' => e = .returned (.bool (okF f)) ∧ w' = w := by
  obtain ⟨a2, cc, hv, hc, -, hcell⟩ := hR.opened
  cases hv
  clear hR
  go_enter Try.func132, Try.ntmps132
  go_wp2
  go_loopw [9] (fun i wr => ∃ j : Nat, j ≤ f.L.length ∧ i = .int .i64 j ∧ allTo numB f.L j = true ∧ wr = w) (fun i _ => f.L.length - (intOf i).toNat)
  case atStart => exact ⟨0, Nat.zero_le _, rfl, rfl, rfl⟩
  case round =>
    obtain ⟨j, hj, rfl, hsk, rfl⟩ := hrel
    have Hsk := Lib.hid hsk
    by_cases hlt : j < f.L.length
    · obtain ⟨b1, o1, r, rfl, d0, f0⟩ := hcell j hlt
      have HK := Lib.hid (fun wq => l07Number_any wq r _ f0)
      have HA := Lib.hid (allTo_succ numB f.L j)
      have HF : Hid (numB (f.L.getD j 0) = false → okF f = false) := Lib.hid (fun hx => okF_num (by unfold allB; exact allTo_false hlt hx))
      generalize numB (f.L.getD j 0) = q at HK HA HF
      clear hcell hsk f0
      go_wp2_with fail
      refine (HK.out _).mono ?_
      rintro e w1 ⟨rfl, rfl⟩
      clear HK
      cases q with
      | false =>
        have HF2 := Lib.hid (HF.out rfl)
        clear HF
        go_wp2
        go_ret
        refine ⟨?_, rfl⟩
        rw [HF2.out]; rfl
      | true =>
        go_wp2
        exact ⟨⟨j + 1, by omega, by go_num, by rw [HA.out, Hsk.out]; rfl, trivial⟩, by simp [intOf]; omega⟩
    · have hjl : j = f.L.length := by omega
      have hall : allB numB f.L = true := by unfold allB; rw [← hjl]; exact hsk
      have HO : Hid (okF f = (inB f.L.length 1 128 && (inB f.st 0 200 && inB f.sa 0 100000))) := Lib.hid (by unfold okF; rw [hall]; cases inB f.st 0 200 <;> cases inB f.sa 0 100000 <;> cases inB f.L.length 1 128 <;> rfl)
      have K1 := Lib.hid (fun wq => l03Is_any wq a' f.L.length c' hm)
      have K2 := Lib.hid (fun wq => l00In_any wq f.st 0 200)
      have K3 := Lib.hid (fun wq => l00In_any wq f.sa 0 100000)
      generalize inB f.L.length 1 128 = q1 at K1 HO
      generalize inB f.st 0 200 = q2 at K2 HO
      generalize inB f.sa 0 100000 = q3 at K3 HO
      clear hcell hsk hall
      cases q1 with
      | false =>
        go_wp2_with fail
        refine (K1.out _).mono ?_
        rintro e w1 ⟨rfl, rfl⟩
        go_wp2
        go_ret
        refine ⟨?_, rfl⟩
        rw [HO.out]; rfl
      | true =>
        cases q2 with
        | false =>
          go_wp2_with fail
          refine (K1.out _).mono ?_
          rintro e w1 ⟨rfl, rfl⟩
          go_wp2_with fail
          refine (K2.out _).mono ?_
          rintro e w2 ⟨rfl, rfl⟩
          go_wp2
          go_ret
          refine ⟨?_, rfl⟩
          rw [HO.out]; rfl
        | true =>
          go_wp2_with fail
          refine (K1.out _).mono ?_
          rintro e w1 ⟨rfl, rfl⟩
          go_wp2_with fail
          refine (K2.out _).mono ?_
          rintro e w2 ⟨rfl, rfl⟩
          go_wp2_with fail
          refine (K3.out _).mono ?_
          rintro e w3 ⟨rfl, rfl⟩
          go_wp2
          go_ret
          refine ⟨?_, rfl⟩
          rw [HO.out]; rfl
/-- All frames ahead of j are valid. -/
def okTo (Fs : List FM) (j : Nat) : Bool := (List.range j).all fun i => okF (frAt Fs i)
theorem okTo_succ (Fs : List FM) (j : Nat) : okTo Fs (j + 1) = (okTo Fs j && okF (frAt Fs j)) := by simp [okTo, List.range_succ]
theorem okTo_false {Fs : List FM} {j n : Nat} (hj : j < n) (h : okF (frAt Fs j) = false) : okTo Fs n = false := by
  rw [Bool.eq_false_iff]
  intro ha
  have this : okF (frAt Fs j) = true := List.all_eq_true.1 ha j (List.mem_range.2 hj)
  rw [h] at this
  cases this
def areF (Fs : List FM) : Bool := decide (Fs.length ≤ 12) && okTo Fs Fs.length
end Go.Proofs.Ytibojlpeaolfbaa
