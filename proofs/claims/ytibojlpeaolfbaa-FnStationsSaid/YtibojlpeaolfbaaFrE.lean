/- Walks: what the laws do with frames and lists of integers: are they alike. -/
import Derived.Test.YtibojlpeaolfbaaFr1
import Derived.Test.YtibojlpeaolfbaaSt1
namespace Go.Proofs.Ytibojlpeaolfbaa
open Go Go.RowKit

set_option maxRecDepth 100000 in
set_option maxHeartbeats 800000 in
theorem eqFrame_any (w : World) (f : FM) (v1 v2 : Value) (h1 : RdF w v1 f.L) (h2 : RdF w v2 f.L) (hn : f.L.length ≤ 1048576) :
    Calls Try.prog 72 #[.agg #[.int .i64 f.st, .int .i64 f.sa, v1], .agg #[.int .i64 f.st, .int .i64 f.sa, v2]] w fun e w' => e = .returned (.bool true) ∧ Below w.heap.size w w' := by
  have R1 := Lib.hid h1
  have R2 := Lib.hid h2
  obtain ⟨a1, c1, rfl, -, -, -⟩ := h1.opened
  obtain ⟨a2, c2, rfl, -, -, -⟩ := h2.opened
  clear h1 h2
  go_enter Try.func72, Try.ntmps72
  go_wp2_with fail
  refine (eqFloat32S_any _ _ _ f.L (R1.out.mono (by (repeat (first | exact Below.refl _ _ | (refine Below.drewN ?_ _) | (refine Below.alloc ?_ (by first | exact Nat.le_refl _ | (simp; done) | (simp; omega)) _))))) (R2.out.mono (by (repeat (first | exact Below.refl _ _ | (refine Below.drewN ?_ _) | (refine Below.alloc ?_ (by first | exact Nat.le_refl _ | (simp; done) | (simp; omega)) _))))) hn).mono ?_
  rintro e w1 ⟨rfl, n, rfl⟩
  go_wp2
  go_ret
  refine ⟨rfl, ?_⟩
  (repeat (first | exact Below.refl _ _ | (refine Below.drewN ?_ _) | (refine Below.alloc ?_ (by first | exact Nat.le_refl _ | (simp; done) | (simp; omega)) _)))
set_option maxRecDepth 100000 in
set_option maxHeartbeats 1600000 in
theorem eqFrameS_any (w : World) (v1 v2 : Value) (Fs : List FM) (h1 : RdFr w v1 Fs) (h2 : RdFr w v2 Fs) (hs : Fsmall Fs) :
    Calls Try.prog 33 #[v1, v2] w fun e w' => e = .returned (.bool true) ∧ Below w.heap.size w w' := by
  obtain ⟨hmax, hm⟩ := hs
  obtain ⟨a1, c1, rfl, hc1, hz1, hcell1⟩ := h1.opened
  obtain ⟨a2, c2, rfl, hc2, hz2, hcell2⟩ := h2.opened
  clear hz1 hz2 h1 h2
  go_enter Try.func33, Try.ntmps33
  go_wp2
  go_loopw [5] (fun i wr => ∃ k : Nat, k ≤ Fs.length ∧ i = .int .i64 k ∧ Below w.heap.size w wr) (fun i _ => Fs.length - (intOf i).toNat)
  case atStart => exact ⟨0, Nat.zero_le _, rfl, Below.refl _ _⟩
  case round =>
    obtain ⟨wi, rfl⟩ : ∃ wi : World, wi = wr := ⟨_, rfl⟩
    obtain ⟨k, hk, rfl, hb⟩ := hrel
    by_cases hlt : k < Fs.length
    · obtain ⟨b, o, a', c', rfl, hlb, d0, d1, d2, R0⟩ := hcell1 k hlt
      obtain ⟨b', o', a'', c'', rfl, hlb', g0, g1, g2, S0⟩ := hcell2 k hlt
      have hmk := hm k hlt
      clear hcell1 hcell2 hm
      go_wp2
      refine region_rel_all (by kernel_rfl) (by kernel_rfl) (Below wi.heap.size wi) (fun _ _ v => v = .bool true) (Below.drewN (Below.refl _ _) 1) ?_
      have hs := hb.size
      have lw : ∀ wq, Below wi.heap.size wi wq → ∀ b o u, b < w.heap.size → w.cell? ⟨b, o, none⟩ = some u → wq.cell? ⟨b, o, none⟩ = some u := fun wq hq b o u hbl hu => by
        rw [(bcell hq).1 _ _ (by omega), (bcell hb).1 _ _ hbl]; exact hu
      have D0 := Lib.hid d0
      have D1' := Lib.hid d1
      have D2 := Lib.hid d2
      have G0 := Lib.hid g0
      have G1 := Lib.hid g1
      have G2 := Lib.hid g2
      have R1 := Lib.hid (R0.mono hb)
      have S1 := Lib.hid (S0.mono hb)
      clear d0 d1 d2 g0 g1 g2 R0 S0
      repeat (refine wpRel_under rfl rfl (fun wq hq K hK => ?_); (have q0 := lw wq hq _ _ _ hlb D0.out); (have q1 := lw wq hq _ _ _ hlb D1'.out); (have q2 := lw wq hq _ _ _ hlb D2.out); (have q3 := lw wq hq _ _ _ hlb' G0.out); (have q4 := lw wq hq _ _ _ hlb' G1.out); (have q5 := lw wq hq _ _ _ hlb' G2.out); go_wp2; clear q0 q1 q2 q3 q4 q5)
      refine wpRel_callF #[.agg #[.int .i64 (frAt Fs k).st, .int .i64 (frAt Fs k).sa, .slice a' (frAt Fs k).L.length c'], .agg #[.int .i64 (frAt Fs k).st, .int .i64 (frAt Fs k).sa, .slice a'' (frAt Fs k).L.length c'']] Try.func72 (by kernel_rfl) (by kernel_rfl) (by simp [go_sem]) ⟨wi, Below.refl _ _⟩ ⟨_, rfl⟩
        (fun wq hq => (eqFrame_any wq (frAt Fs k) _ _ (R1.out.mono hq) (S1.out.mono hq) hmk).mono fun e w'' ⟨he, hb2⟩ => ⟨_, he, rfl, hq.trans (hb2.mono hq.size)⟩) ?_
      rintro v rfl
      simp only [Act.put, List.setIfInBounds_toArray, List.set_cons_succ, List.set_cons_zero]
      repeat (refine wpRel_under rfl rfl (fun wq hq K hK => ?_); go_wp2)
      refine wpRel_nil ?_
      intro wd hbd
      have hbd' := hb.trans (hbd.mono hs)
      go_wp2
      exact ⟨⟨k + 1, by omega, by go_num, hbd'⟩, by simp [intOf]; omega⟩
    · go_wp2
      go_ret
      exact ⟨rfl, hb⟩
end Go.Proofs.Ytibojlpeaolfbaa
