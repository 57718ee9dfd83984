/- Walks: a value that is put into a section. -/
import Derived.Test.YtjhbcnmkamkkaaaSmC
namespace Go.Proofs.Ytjhbcnmkamkkaaa
open Go Go.RowKit

set_option maxRecDepth 100000 in
set_option maxHeartbeats 1600000 in
theorem putValue_any (w : World) (v : Value) (A : List Nat) (a b x z X : Nat) (h : RdF w v A) (hl : A.length = a * b) (ha : 1 ≤ a) (ha2 : a ≤ 16) (hb : 1 ≤ b) (hb2 : b ≤ 16) (hx : x < a) (hz : z < b) (hX : FV .f32 X X) :
    Calls Try.prog 14 #[.agg #[.int .i64 a, .int .i64 b, v], .int .i64 x, .int .i64 z, .float .f32 X] w fun e w' => ∃ v', e = .returned (.tuple #[.agg #[.int .i64 a, .int .i64 b, v'], .bool true]) ∧ OwnF w' w.heap.size v' (A.set (x + a * z) X) ∧ Below w.heap.size w w' := by
  have hst := run_store_float (P := Try.prog)
  have hab : a * b ≤ 256 := Nat.mul_le_mul ha2 hb2
  have hidx : x + a * z < a * b := by
    have h3 : a * (z + 1) ≤ a * b := Nat.mul_le_mul (Nat.le_refl _) hz
    rw [Nat.mul_add] at h3
    omega
  obtain ⟨q, hq⟩ : ∃ q, a * z = q := ⟨_, rfl⟩
  have hqi : (a : Int) * (z : Int) = (q : Int) := by rw [← hq, Int.natCast_mul]
  have HQ := Lib.hid hq
  have HV := Lib.hid (valid_true hl ha ha2 hb hb2)
  have HX := Lib.hid hX
  have H := Lib.hid h
  obtain ⟨ad, c, rfl, -⟩ := h.opened
  obtain ⟨W, hW⟩ : ∃ W, (w.alloc (.cells #[.int .i64 a, .int .i64 b, .slice ad A.length c] 27)).alloc (.cells #[.int .i64 0, .int .i64 0, .slice none 0 0] 27) = W := ⟨_, rfl⟩
  have X0 : Hid (Below w.heap.size w W) := Lib.hid (by rw [← hW]; exact ((Below.refl _ _).alloc (Nat.le_refl _) _).alloc (by rw [World.size_alloc]; omega) _)
  obtain ⟨g0, g1⟩ := heap2 w (.cells #[.int .i64 a, .int .i64 b, .slice ad A.length c] 27) (.cells #[.int .i64 0, .int .i64 0, .slice none 0 0] 27)
  rw [hW] at g0 g1
  have hWs : W.heap.size = w.heap.size + 2 := by rw [← hW]; simp only [World.size_alloc]
  obtain ⟨n, hn⟩ : ∃ n, A.length = n := ⟨_, rfl⟩
  have HG0 := Lib.hid g0
  have HG1 := Lib.hid g1
  have KV := Lib.hid (validSection_any W (.agg #[.int .i64 a, .int .i64 b, .slice ad A.length c]) ⟨a, b, A⟩ ⟨_, rfl, H.out.mono X0.out⟩)
  rw [HV.out] at KV
  have hN2 : n ≤ 256 := by rw [← hn, hl]; exact hab
  have hin : x + q < n := by rw [← hn, hl, ← hq]; exact hidx
  rw [hn] at HG0 hW KV ⊢
  have HLN := Lib.hid hn
  obtain ⟨k0, k1, k2, -, -, -⟩ := blk3 HG0.out
  have KW1 := fun wq => within_any wq x 0 ((a : Int) - 1)
  rw [show inB (x : Int) 0 ((a : Int) - 1) = true by unfold inB; simp; omega] at KW1
  have KW2 := fun wq => within_any wq z 0 ((b : Int) - 1)
  rw [show inB (z : Int) 0 ((b : Int) - 1) = true by unfold inB; simp; omega] at KW2
  have HW1 := Lib.hid KW1
  have HW2 := Lib.hid KW2
  clear g0 g1 h hl hX hn hq hidx KW1 KW2 HV
  go_enter Try.func14, Try.ntmps14
  go_wp2_with fail
  refine KV.out.mono ?_
  rintro e w3 ⟨rfl, b3⟩
  have z3 := b3.size
  have HB3 := Lib.hid (X0.out.trans (b3.mono (by omega)))
  have NG0 := Lib.hid ((b3.block _ (by omega)).trans HG0.out)
  have NG1 := Lib.hid ((b3.block _ (by omega)).trans HG1.out)
  clear KV b3 X0 HG0 HG1 k0 k1 k2 hW
  obtain ⟨k0, k1, k2, -, -, -⟩ := blk3 NG0.out
  go_wp2_with fail
  refine (HW1.out w3).mono ?_
  rintro e w0 ⟨rfl, hw0⟩
  obtain rfl : w3 = w0 := hw0.symm
  clear HW1 hw0
  go_wp2_with fail
  refine (HW2.out w3).mono ?_
  rintro e w0 ⟨rfl, hw0⟩
  obtain rfl : w3 = w0 := hw0.symm
  clear HW2 hw0
  have HC := Lib.hid (secClone_any w3 a b (.slice ad n c) A (by have := H.out.mono HB3.out; rwa [HLN.out] at this) (by rw [HLN.out]; omega))
  go_wp2_with fail
  refine HC.out.mono ?_
  rintro e w4 ⟨v4, rfl, o4, b4⟩
  obtain ⟨g, cap, rfl, hg1, hg2, hcap, hcl, hfr⟩ := o4.at_block HLN.out (by omega)
  have O4 := Lib.hid o4
  have z4 := b4.size
  have HB4 := Lib.hid (HB3.out.trans (b4.mono (by omega)))
  have MG0 := Lib.hid ((b4.block _ (by omega)).trans NG0.out)
  have MG1 := Lib.hid ((b4.block _ (by omega)).trans NG1.out)
  clear HC o4 b4 HB3 NG0 NG1 k0 k1 k2 hcl hfr hcap
  obtain ⟨wa, hwa⟩ : ∃ wa, w4.alloc (.cells #[.int .i64 0, .int .i64 0, .slice none 0 0] 27) = wa := ⟨_, rfl⟩
  have xa : Below w4.heap.size w4 wa := by rw [← hwa]; exact (Below.refl _ _).alloc (Nat.le_refl _) _
  have h9 : wa.heap[w4.heap.size]? = some (.cells #[.int .i64 0, .int .i64 0, .slice none 0 0] 27 (0, 0)) := by rw [← hwa]; exact alloc_new _ _
  have za : wa.heap.size = w4.heap.size + 1 := by rw [← hwa]; exact World.size_alloc _ _
  obtain ⟨g8, hg8⟩ : ∃ g8, w4.heap.size = g8 := ⟨_, rfl⟩
  rw [hg8] at h9
  have P := put3 h9 (.int .i64 a) (.int .i64 b) (.slice (some ⟨g, 0, none⟩) n cap)
  obtain ⟨m0, m1, m2, f0, f1, f2⟩ := blk3 h9
  obtain ⟨wz, hwz⟩ : ∃ wz, ((wa.setCell ⟨g8, 0, none⟩ (.int .i64 a)).setCell ⟨g8, 1, none⟩ (.int .i64 b)).setCell ⟨g8, 2, none⟩ (.slice (some ⟨g, 0, none⟩) n cap) = wz := ⟨_, rfl⟩
  rw [hwz] at P
  have OZ := Lib.hid ((O4.out.kept xa).chg P.chg fun k hk e => by have hk9 : g = k := Option.some.inj hk; omega)
  have BZ := Lib.hid (Below.chg (HB4.out.trans (xa.mono (by omega))) P.chg (fun k hk => by omega) (by omega))
  have NG0 := Lib.hid ((P.chg.block _ (by omega) (by omega)).trans ((xa.block _ (by omega)).trans MG0.out))
  have NG1 := Lib.hid ((P.chg.block _ (by omega) (by omega)).trans ((xa.block _ (by omega)).trans MG1.out))
  have NG8 := Lib.hid P.heap
  obtain ⟨u0, c0, f3⟩ : ∃ u0, wz.cell? ⟨g, x + q, none⟩ = some u0 ∧ wz.frozen? ⟨g, x + q, none⟩ = false := by
    obtain ⟨g', cap', hv, -, -, -, hcl, hf⟩ := OZ.out.at_block HLN.out (by omega)
    cases hv
    obtain ⟨r, hr, -⟩ := hcl (x + q) (by rw [HLN.out]; exact hin)
    exact ⟨_, hr, hf _⟩
  obtain ⟨k0, k1, k2, -, -, -⟩ := blk3 NG0.out
  obtain ⟨e0, e1, e2, -, -, -⟩ := blk3 NG8.out
  have zz := BZ.out.size
  have hg8z := (Array.getElem?_eq_some_iff.1 NG8.out).1
  obtain ⟨wy, hwy⟩ : ∃ wy, wz.setCell ⟨g, x + q, none⟩ (.float .f32 X) = wy := ⟨_, rfl⟩
  have CY : Chg wz wy (fun k => k = g) := by rw [← hwy]; exact Chg.setCell (S := fun k => k = g) (Chg.refl _ _) rfl _ _
  have OY := Lib.hid (show OwnF wy w3.heap.size (.slice (some ⟨g, 0, none⟩) n cap) (A.set (x + q) X) from by rw [← hwy]; exact OZ.out.storedN HLN.out HX.out)
  have BY := Lib.hid (Below.chg BZ.out CY (fun k hk => by omega) BZ.out.size)
  have YG8 := Lib.hid ((CY.block g8 hg8z (by omega)).trans NG8.out)
  have YG1 := Lib.hid ((CY.block (w.heap.size + 1) (by have := (Array.getElem?_eq_some_iff.1 NG1.out).1; omega) (by omega)).trans NG1.out)
  obtain ⟨i0, i1, i2, -, -, -⟩ := blk3 YG8.out
  obtain ⟨t0, t1, t2, s0, s1, s2⟩ := blk3 YG1.out
  have PZ := Lib.hid (put3 YG1.out (.int .i64 a) (.int .i64 b) (.slice (some ⟨g, 0, none⟩) n cap))
  clear P xa h9 CY O4 HB4 MG0 MG1
  go_wp2_with fail
  have PY := PZ.out
  clear PZ
  generalize (((wy.setCell ⟨w.heap.size + 1, 0, none⟩ (.int .i64 a)).setCell ⟨w.heap.size + 1, 1, none⟩ (.int .i64 b)).setCell ⟨w.heap.size + 1, 2, none⟩ (.slice (some ⟨g, 0, none⟩) n cap)) = wx at *
  obtain ⟨q0, q1, q2, -, -, -⟩ := blk3 PY.heap
  refine bodyPost_ret (v := .tuple #[.agg #[.int .i64 a, .int .i64 b, .slice (some ⟨g, 0, none⟩) n cap], .bool true]) (by simp [results, Try.results14, go_sem, q0, q1, q2]) rfl ?_
  refine ⟨_, rfl, ?_, Below.chg BY.out PY.chg (fun k hk => by omega) (by have := BY.out.size; omega)⟩
  rw [HQ.out]
  exact (OY.out.chg PY.chg fun k hk e => by have hk9 : g = k := Option.some.inj hk; omega).mono (B' := w.heap.size) (by omega)
end Go.Proofs.Ytjhbcnmkamkkaaa
