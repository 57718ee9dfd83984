/- Walks: the absolute value of a float32; the program's test of a frame's number. -/
import Derived.Test.YtibojlpeaolfbaaNum
namespace Go.Proofs.Ytibojlpeaolfbaa
open Go Go.RowKit

theorem enc_inf32 : FloatKind.f32.encode (.infinity false) = 2139095040 := by decide +kernel
theorem fv_inf32 : FV .f32 2139095040 2139095040 := ⟨by decide, by decide +kernel⟩
theorem narrow_nan {P : Program} (b : Nat) (w1 : World) (h : ∃ s t, FloatKind.f64.decode b = .nan s t) : (Conv.floatToFloat .f64 b .f32).run P w1 = .ok (.float .f32 (nanOf .f32 (w1.tape w1.drawn (.nanConv .f32 b)))) (w1.drewN 1) := by
  obtain ⟨s, t, h⟩ := h
  unfold Conv.floatToFloat
  rw [if_neg (by decide), h]
  simp [choose, Sem.run, Question.forced, cut_nanConv]; rfl
theorem narrow_inf {P : Program} (b : Nat) (w1 : World) (h : FloatKind.f64.decode b = .infinity false) : (Conv.floatToFloat .f64 b .f32).run P w1 = .ok (.float .f32 2139095040) (w1.drewN 0) := by
  unfold Conv.floatToFloat
  rw [if_neg (by decide), h]
  dsimp only
  rw [enc_inf32]
  rfl
theorem narrow_num {P : Program} (b q : Nat) (w1 : World) (M : Nat) (E : Int) (h : FloatKind.f64.decode b = .number false M E) (hq : FloatKind.f32.encode (.number false M E) = q) (hi : (FloatKind.f32.decode q).isInfinity = false) : (Conv.floatToFloat .f64 b .f32).run P w1 = .ok (.float .f32 q) (w1.drewN 0) := by
  unfold Conv.floatToFloat
  rw [if_neg (by decide), h]
  dsimp only
  rw [hq, hi]
  rfl
theorem run_narrow_abs {P : Program} (src dst : TypeId) (hs : (P.underlying src).isSome = true) (hd : P.underlying dst = some (.float .f32)) (r x : Nat) (hr : FV .f32 r x) (w w1 : World) :
    ∃ q n, (convert src dst (.float .f64 (absW (cres r w)))).run P w1 = .ok (.float .f32 q) (w1.drewN n) ∧ FV .f32 q (absC x) := by
  obtain ⟨u, hs'⟩ := Option.isSome_iff_exists.1 hs
  have key : ∃ q n, (Conv.floatToFloat .f64 (absW (cres r w)) .f32).run P w1 = .ok (.float .f32 q) (w1.drewN n) ∧ FV .f32 q (absC x) := by
    have ha := absC_can hr
    cases hd : Ieee.single.read r with
    | nan s t =>
      have hn : isN .f32 r = true := by show (Ieee.single.read r).isNaN = true; rw [hd]; rfl
      rw [ha, if_pos hn]
      exact ⟨_, _, narrow_nan _ _ (abs_nan r x hr w hn), nanOf_fv _ _⟩
    | infinity s =>
      have hn : isN .f32 r = false := by show (Ieee.single.read r).isNaN = false; rw [hd]; rfl
      rw [ha, hn, if_neg (by decide), inf_rung32 r hd]
      exact ⟨_, _, narrow_inf _ _ (abs_inf r w s hd), fv_inf32⟩
    | number s m e =>
      have hn : isN .f32 r = false := by show (Ieee.single.read r).isNaN = false; rw [hd]; rfl
      have h32r := read_abs32 r
      rw [hd] at h32r
      obtain ⟨M, E, h1, h2⟩ := abs_number r w s m e hd
      rw [ha, hn, if_neg (by decide)]
      refine ⟨_, _, narrow_num _ (r % 2147483648) w1 M E h1 h2 ?_, Nat.lt_of_le_of_lt (Nat.mod_le _ _) hr.1, can_of_not ?_⟩
      · show (Ieee.single.read (r % 2147483648)).isInfinity = false
        rw [h32r]; rfl
      · show (Ieee.single.read (r % 2147483648)).isNaN = false
        rw [h32r]; rfl
  obtain ⟨q, n, h1, h2⟩ := key
  refine ⟨q, n, ?_, h2⟩
  cases u <;> simp [convert, run_underlying hs', run_underlying hd, h1]
set_option maxRecDepth 100000 in
set_option maxHeartbeats 800000 in
theorem absolute_any (w : World) (r x : Nat) (hr : FV .f32 r x) :
    Calls Try.prog 69 #[.float .f32 r] w fun e w' => ∃ q n, e = .returned (.float .f32 q) ∧ FV .f32 q (absC x) ∧ w' = w.drewN n := by
  have hcv := run_widen (P := Try.prog) 53 51 (by kernel_rfl) (by kernel_rfl)
  have hw : cres r w < 18446744073709551616 := (hr.wide w).1
  obtain ⟨q, n, h1, h2⟩ := run_narrow_abs (P := Try.prog) 51 53 (by kernel_rfl) (by kernel_rfl) r x hr w (w.drewN (ccnt r))
  have HK := Lib.hid (mathAbs_any (w.drewN (ccnt r)) (cres r w) hw)
  go_enter Try.func69, Try.ntmps69
  go_wp2_with fail
  refine HK.out.mono ?_
  rintro e w1 ⟨rfl, rfl⟩
  go_wp2
  go_ret
  exact ⟨q, _, rfl, h2, rfl⟩
set_option maxRecDepth 100000 in
set_option maxHeartbeats 800000 in
theorem notNumber_any (w : World) (r x : Nat) (hr : FV .f32 r x) :
    Calls Try.prog 94 #[.float .f32 r] w fun e w' => e = .returned (.bool (!numB x)) ∧ ∃ n, w' = w.drewN n := by
  have HK := Lib.hid (absolute_any w r x hr)
  go_enter Try.func94, Try.ntmps94
  go_wp2_with fail
  refine HK.out.mono ?_
  rintro e w1 ⟨q, n, rfl, hq, rfl⟩
  have ho : (FloatKind.f32.format.order q 1895825408 == some Ordering.lt) = numB x := by unfold numB; rw [hq.order fvC]
  clear hq
  go_wp2
  go_ret
  exact ⟨rfl, n, rfl⟩
end Go.Proofs.Ytibojlpeaolfbaa
