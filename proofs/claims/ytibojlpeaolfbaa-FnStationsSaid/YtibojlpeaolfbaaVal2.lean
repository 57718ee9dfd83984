/- Walks: valid frames: the program's. -/
import Derived.Test.YtibojlpeaolfbaaVal
namespace Go.Proofs.Ytibojlpeaolfbaa
open Go Go.RowKit

theorem cellA (w : World) (cs : Array Value) (t : TypeId) (i : Nat) : (w.alloc (.cells cs t)).cell? ⟨w.heap.size, i, none⟩ = cs[i]? := by
  rw [World.cell?_alloc_at _ _ _ _ rfl]
set_option maxRecDepth 100000 in
set_option maxHeartbeats 1600000 in
theorem validFrame_any (w : World) (f : FM) (a' : Option Addr) (c' : Nat) (hR : RdF w (.slice a' f.L.length c') f.L) (hm : f.L.length ≤ 1048576) :
    Calls Try.prog 13 #[.agg #[.int .i64 f.st, .int .i64 f.sa, .slice a' f.L.length c']] w fun e w' => e = .returned (.bool (okF f)) ∧ Below w.heap.size w w' := by
  have hb0 : Below w.heap.size w (w.alloc (.cells #[.int .i64 f.st, .int .i64 f.sa, .slice a' f.L.length c'] 31)) := (Below.refl _ _).alloc (Nat.le_refl _) _
  have k0 := cellA w #[.int .i64 f.st, .int .i64 f.sa, .slice a' f.L.length c'] 31 0
  have k1 := cellA w #[.int .i64 f.st, .int .i64 f.sa, .slice a' f.L.length c'] 31 1
  have k2 := cellA w #[.int .i64 f.st, .int .i64 f.sa, .slice a' f.L.length c'] 31 2
  have HO : Hid (okF f = (inB f.st 0 200 && (inB f.sa 0 100000 && (inB f.L.length 1 128 && allB numB f.L)))) := Lib.hid rfl
  have K1 := Lib.hid (fun wq => within_any wq f.st 0 200)
  have K2 := Lib.hid (fun wq => within_any wq f.sa 0 100000)
  have K3 := Lib.hid (fun wq => isTrace_any wq a' f.L.length c' hm)
  have K4 := Lib.hid (areNumbers_any _ _ f.L (hR.mono hb0) hm)
  generalize inB f.st 0 200 = q1 at K1 HO
  generalize inB f.sa 0 100000 = q2 at K2 HO
  generalize inB f.L.length 1 128 = q3 at K3 HO
  generalize allB numB f.L = q4 at K4 HO
  clear hR
  simp at k0 k1 k2
  cases q1 with
  | false =>
    go_enter Try.func13, Try.ntmps13
    go_wp2_with fail
    refine (K1.out _).mono ?_
    rintro e w1 ⟨rfl, rfl⟩
    go_wp2
    go_ret
    refine ⟨?_, hb0⟩
    rw [HO.out]; rfl
  | true =>
    cases q2 with
    | false =>
      go_enter Try.func13, Try.ntmps13
      go_wp2_with fail
      refine (K1.out _).mono ?_
      rintro e w1 ⟨rfl, rfl⟩
      go_wp2_with fail
      refine (K2.out _).mono ?_
      rintro e w2 ⟨rfl, rfl⟩
      go_wp2
      go_ret
      refine ⟨?_, hb0⟩
      rw [HO.out]; rfl
    | true =>
      cases q3 with
      | false =>
        go_enter Try.func13, Try.ntmps13
        go_wp2_with fail
        refine (K1.out _).mono ?_
        rintro e w1 ⟨rfl, rfl⟩
        go_wp2_with fail
        refine (K2.out _).mono ?_
        rintro e w2 ⟨rfl, rfl⟩
        go_wp2_with fail
        refine (K3.out _).mono ?_
        rintro e w3 ⟨rfl, rfl⟩
        go_wp2
        go_ret
        refine ⟨?_, hb0⟩
        rw [HO.out]; rfl
      | true =>
        go_enter Try.func13, Try.ntmps13
        go_wp2_with fail
        refine (K1.out _).mono ?_
        rintro e w1 ⟨rfl, rfl⟩
        go_wp2_with fail
        refine (K2.out _).mono ?_
        rintro e w2 ⟨rfl, rfl⟩
        go_wp2_with fail
        refine (K3.out _).mono ?_
        rintro e w3 ⟨rfl, rfl⟩
        go_wp2_with fail
        refine K4.out.mono ?_
        rintro e w4 ⟨rfl, n, rfl⟩
        go_wp2
        go_ret
        refine ⟨?_, Below.drewN hb0 n⟩
        rw [HO.out]; rfl
set_option maxRecDepth 100000 in
set_option maxHeartbeats 1600000 in
theorem notFrame_any (w : World) (f : FM) (a' : Option Addr) (c' : Nat) (hR : RdF w (.slice a' f.L.length c') f.L) (hm : f.L.length ≤ 1048576) :
    Calls Try.prog 60 #[.agg #[.int .i64 f.st, .int .i64 f.sa, .slice a' f.L.length c']] w fun e w' => e = .returned (.bool (!okF f)) ∧ Below w.heap.size w w' := by
  have hb0 : Below w.heap.size w (w.alloc (.cells #[.int .i64 f.st, .int .i64 f.sa, .slice a' f.L.length c'] 31)) := (Below.refl _ _).alloc (Nat.le_refl _) _
  have HK := Lib.hid (validFrame_any _ f a' c' (hR.mono hb0) hm)
  generalize okF f = q at HK
  clear hR
  go_enter Try.func60, Try.ntmps60
  go_wp2_with fail
  refine HK.out.mono ?_
  rintro e w1 ⟨rfl, b1⟩
  go_wp2
  go_ret
  exact ⟨rfl, hb0.trans (b1.mono hb0.size)⟩
set_option maxRecDepth 100000 in
set_option maxHeartbeats 1600000 in
theorem indexFr_any (w : World) (v : Value) (Fs : List FM) (h : RdFr w v Fs) (hs : Fsmall Fs) :
    Calls Try.prog 97 #[v, .func (.func 60) #[] #[]] w fun e w' => ∃ i : Int, e = .returned (.int .i64 i) ∧ (0 ≤ i ↔ okTo Fs Fs.length = false) ∧ Below w.heap.size w w' := by
  obtain ⟨a, c, rfl, hc, -, hcell⟩ := h.opened
  obtain ⟨hs1, hs2⟩ := hs
  clear h
  go_enter Try.func97, Try.ntmps97
  go_wp2
  go_loopw [8] (fun i wr => ∃ k : Nat, k ≤ Fs.length ∧ i = .int .i64 k ∧ okTo Fs k = true ∧ Below w.heap.size w wr) (fun i _ => Fs.length - (intOf i).toNat)
  case atStart => exact ⟨0, Nat.zero_le _, rfl, rfl, Below.refl _ _⟩
  case round =>
    obtain ⟨wi, rfl⟩ : ∃ wi : World, wi = wr := ⟨_, rfl⟩
    obtain ⟨k, hk, rfl, hsk, hb⟩ := hrel
    have Hsk := Lib.hid hsk
    by_cases hlt : k < Fs.length
    · obtain ⟨b, o, a', c', rfl, hlb, d0, d1, d2, R0⟩ := hcell k hlt
      have e0 := ((bcell hb).1 _ _ hlb).trans d0
      have e1 := ((bcell hb).1 _ _ hlb).trans d1
      have e2 := ((bcell hb).1 _ _ hlb).trans d2
      have HK := Lib.hid (notFrame_any wi (frAt Fs k) a' c' (R0.mono hb) (hs2 k hlt))
      have HA := Lib.hid (okTo_succ Fs k)
      have HF : Hid (okF (frAt Fs k) = false → okTo Fs Fs.length = false) := Lib.hid (fun hx => okTo_false hlt hx)
      generalize okF (frAt Fs k) = q at HK HA HF
      clear hcell hsk d0 d1 d2 R0 hs2
      go_wp2_with fail
      refine HK.out.mono ?_
      rintro e w1 ⟨rfl, b1⟩
      have hb1 := hb.trans (b1.mono hb.size)
      clear HK
      cases q with
      | false =>
        have HF2 := Lib.hid (HF.out rfl)
        clear HF
        go_wp2
        go_ret
        exact ⟨_, rfl, ⟨fun _ => HF2.out, fun _ => by omega⟩, hb1⟩
      | true =>
        go_wp2
        exact ⟨⟨k + 1, by omega, by go_num, by rw [HA.out, Hsk.out]; rfl, hb1⟩, by simp [intOf]; omega⟩
    · clear hsk
      go_wp2
      go_ret
      obtain rfl : k = Fs.length := by omega
      exact ⟨_, rfl, ⟨fun h => by omega, fun h => by rw [Hsk.out] at h; cases h⟩, hb⟩
set_option maxRecDepth 100000 in
set_option maxHeartbeats 800000 in
theorem containsFr_any (w : World) (v : Value) (Fs : List FM) (h : RdFr w v Fs) (hs : Fsmall Fs) :
    Calls Try.prog 59 #[v, .func (.func 60) #[] #[]] w fun e w' => e = .returned (.bool (!okTo Fs Fs.length)) ∧ Below w.heap.size w w' := by
  go_enter Try.func59, Try.ntmps59
  go_wp2_with fail
  refine (indexFr_any w v Fs h hs).mono ?_
  rintro e w1 ⟨i, rfl, hi, b1⟩
  cases hb : okTo Fs Fs.length with
  | false =>
    have : 0 ≤ i := hi.2 hb
    have hd : decide (i ≥ 0) = true := by simpa using this
    clear hi
    go_wp2
    go_ret
    exact ⟨by simp [this, hb], b1⟩
  | true =>
    have : ¬ 0 ≤ i := fun h => by rw [hi.1 h] at hb; cases hb
    clear hi
    go_wp2
    go_ret
    exact ⟨by simp [hb]; omega, b1⟩
set_option maxRecDepth 100000 in
set_option maxHeartbeats 800000 in
theorem areFrames_any (w : World) (v : Value) (Fs : List FM) (h : RdFr w v Fs) (hs : Fsmall Fs) :
    Calls Try.prog 17 #[v] w fun e w' => e = .returned (.bool (areF Fs)) ∧ Below w.heap.size w w' := by
  have HK := Lib.hid (containsFr_any w v Fs h hs)
  have hs1 := hs.1
  obtain ⟨a, c, rfl, -⟩ := h.opened
  by_cases hl : Fs.length ≤ 12
  · have HO : Hid (areF Fs = okTo Fs Fs.length) := Lib.hid (by unfold areF; rw [decide_eq_true hl]; rfl)
    generalize okTo Fs Fs.length = q at HK HO
    clear h hs
    go_enter Try.func17, Try.ntmps17
    go_wp2_with fail
    refine HK.out.mono ?_
    rintro e w1 ⟨rfl, b1⟩
    go_wp2
    go_ret
    refine ⟨?_, b1⟩
    rw [HO.out]; simp
  · have HO : Hid (areF Fs = false) := Lib.hid (by unfold areF; rw [decide_eq_false hl]; rfl)
    have hl' : ¬ ((Fs.length : Int) ≤ 12) := by omega
    clear h hs HK
    go_enter Try.func17, Try.ntmps17
    go_wp2
    go_ret
    refine ⟨?_, Below.refl _ _⟩
    rw [HO.out]; rfl
end Go.Proofs.Ytibojlpeaolfbaa
