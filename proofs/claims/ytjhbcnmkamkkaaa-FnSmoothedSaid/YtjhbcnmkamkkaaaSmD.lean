/- Walks: sections that are smoothed, edged. -/
import Derived.Test.YtjhbcnmkamkkaaaSmE
namespace Go.Proofs.Ytjhbcnmkamkkaaa
open Go Go.RowKit

theorem valid_true {a b : Nat} {A : List Nat} (hl : A.length = a * b) (ha : 1 ≤ a) (ha2 : a ≤ 16) (hb : 1 ≤ b) (hb2 : b ≤ 16) : validS ⟨a, b, A⟩ = true := by
  have e : ((A.length : Int) == (a : Int) * (b : Int)) = true := by rw [hl, Int.natCast_mul]; simp
  simp [validS, sizeB, in16, e]
  omega
theorem near_fv {w : World} {v : Value} {A : List Nat} {a b : Nat} (h : RdF w v A) (hl : A.length = a * b) (hN : ∀ j, isN .f32 (A.getD j 0) = false) (ha : 1 ≤ a) (hb : 1 ≤ b) (x z : Int) : FV .f32 (nearF A a b x z) (nearF A a b x z) := by
  obtain ⟨_, _, _, _, _, hcell⟩ := h.opened
  obtain ⟨_, _, r, _, _, hf⟩ := hcell (cl x a + a * cl z b) (by rw [hl]; exact near_lt x z ha hb)
  have e : r = nearF A a b x z := fv_wordS hf (hN _)
  rw [e] at hf
  exact hf
set_option maxRecDepth 100000 in
set_option maxHeartbeats 3200000 in
theorem smoothSection_any (w : World) (v : Value) (A : List Nat) (a b s : Nat) (h : RdF w v A) (hl : A.length = a * b) (hN : ∀ j, isN .f32 (A.getD j 0) = false) (ha : 1 ≤ a) (ha2 : a ≤ 16) (hb : 1 ≤ b) (hb2 : b ≤ 16) (hs : FV .f32 s s) :
    Calls Try.prog 11 #[.agg #[.int .i64 a, .int .i64 b, v], .float .f32 s] w fun e w' => ∃ v', e = .returned (.tuple #[.agg #[.int .i64 a, .int .i64 b, v'], .bool true]) ∧ OwnF w' w.heap.size v' (eachTo (smoothF A a b s) a (a * b)) ∧ Below w.heap.size w w' := by
  obtain ⟨ad, c, rfl, -⟩ := h.opened
  obtain ⟨n, hn⟩ : ∃ n, A.length = n := ⟨_, rfl⟩
  have H := Lib.hid h
  rw [hn] at H ⊢
  obtain ⟨w1, hw1⟩ : ∃ w1, w.alloc (.cells #[.int .i64 a, .int .i64 b, .slice ad n c] 27) = w1 := ⟨_, rfl⟩
  have b1 : Below w.heap.size w w1 := by rw [← hw1]; exact (Below.refl _ _).alloc (Nat.le_refl _) _
  have g1 : w1.heap[w.heap.size]? = some (.cells #[.int .i64 a, .int .i64 b, .slice ad n c] 27 (0, 0)) := by rw [← hw1]; exact alloc_new _ _
  have z1 : w1.heap.size = w.heap.size + 1 := by rw [← hw1]; exact World.size_alloc _ _
  obtain ⟨w2, hw2⟩ : ∃ w2, w1.alloc (.cells #[.float .f32 s] 31) = w2 := ⟨_, rfl⟩
  have b2 : Below w1.heap.size w1 w2 := by rw [← hw2]; exact (Below.refl _ _).alloc (Nat.le_refl _) _
  have g2 : w2.heap[w1.heap.size]? = some (.cells #[.float .f32 s] 31 (0, 0)) := by rw [← hw2]; exact alloc_new _ _
  have z2 : w2.heap.size = w.heap.size + 2 := by rw [← hw2, World.size_alloc, z1]
  rw [z1] at g2 b2
  obtain ⟨w3, hw3⟩ : ∃ w3, w2.alloc (.cells #[.int .i64 0, .int .i64 0, .slice none 0 0] 27) = w3 := ⟨_, rfl⟩
  have b3 : Below w2.heap.size w2 w3 := by rw [← hw3]; exact (Below.refl _ _).alloc (Nat.le_refl _) _
  have g3 : w3.heap[w2.heap.size]? = some (.cells #[.int .i64 0, .int .i64 0, .slice none 0 0] 27 (0, 0)) := by rw [← hw3]; exact alloc_new _ _
  have z3 : w3.heap.size = w.heap.size + 3 := by rw [← hw3, World.size_alloc]; omega
  rw [z2] at g3 b3
  have x13 : Below (w.heap.size + 1) w1 w3 := b2.trans (b3.mono (by omega))
  have HB := Lib.hid (b1.trans (x13.mono (by omega)))
  have HG1 := Lib.hid ((x13.block _ (by omega)).trans g1)
  have HG2 := Lib.hid ((b3.block _ (by omega)).trans g2)
  have HG3 := Lib.hid g3
  obtain ⟨k0, k1, k2, -, -, -⟩ := blk3 HG1.out
  have HV := Lib.hid (validSection_any w3 (.agg #[.int .i64 a, .int .i64 b, .slice ad n c]) ⟨a, b, A⟩ ⟨_, rfl, H.out.mono HB.out⟩)
  rw [valid_true hl ha ha2 hb hb2] at HV
  clear g1 g3 b1 b3 x13 h hn g2 b2
  go_enter Try.func11, Try.ntmps11
  go_wp2_with fail
  refine HV.out.mono ?_
  rintro e w4 ⟨rfl, b4⟩
  have HB4 := Lib.hid (HB.out.trans (b4.mono (by omega)))
  have NG1 := Lib.hid ((b4.block _ (by omega)).trans HG1.out)
  have NG2 := Lib.hid ((b4.block _ (by omega)).trans HG2.out)
  have NG3 := Lib.hid ((b4.block _ (by omega)).trans HG3.out)
  have z4 := b4.size
  obtain ⟨j0, j1, j2, -, -, -⟩ := blk3 NG1.out
  clear HV b4 HB HG1 HG3 HG2 k0 k1 k2 hw1 hw3 hw2
  go_wp2_with fail
  refine (each2_any w4 ad n c a b w.heap.size (w.heap.size + 1) (smoothF A a b s) ha ha2 hb hb2 (fun x z => ⟨_, FV.op (op := .add) (FV.op (op := .mul) (FV.op (op := .sub) (fv_const 1065353216 (by decide) (by decide +kernel)) hs w) (near_fv H.out hl hN ha hb _ _) w) (FV.op (op := .mul) hs (FV.op (op := .mul) (fv_const 1048576000 (by decide) (by decide +kernel)) (FV.op (op := .add) (FV.op (op := .add) (FV.op (op := .add) (near_fv H.out hl hN ha hb _ _) (near_fv H.out hl hN ha hb _ _) w) (near_fv H.out hl hN ha hb _ _) w) (near_fv H.out hl hN ha hb _ _) w) w) w) w⟩) (fun wq hq x z hx hz => ?_)).mono ?_
  · exact smooth1_any wq _ A a b s x z w.heap.size (w.heap.size + 1) (H.out.mono (HB4.out.trans (hq.mono (by omega)))) hl hN ha ha2 hb hb2 hx hz ((hq.block _ (by omega)).trans NG1.out) ((hq.block _ (by omega)).trans NG2.out) hs
  rintro e w5 ⟨v', rfl, o5, b5⟩
  obtain ⟨av, cv, rfl, -⟩ := o5.rd.opened
  rw [eachTo_length] at o5 ⊢
  have O5 := Lib.hid o5
  have HB5 := Lib.hid (HB4.out.trans (b5.mono (by omega)))
  have z5 := b5.size
  have h5 := (b5.block _ (by omega)).trans NG3.out
  obtain ⟨m, hm⟩ : ∃ m, a * b = m := ⟨_, rfl⟩
  rw [hm] at O5 ⊢
  have P := put3 h5 (.int .i64 a) (.int .i64 b) (.slice av m cv)
  have HP := Lib.hid P
  have HM := Lib.hid hm
  obtain ⟨m0, m1, m2, f0, f1, f2⟩ := blk3 h5
  clear P o5 b5 h5 hm j0 j1 j2
  go_wp2_with fail
  have P := HP.out
  clear HP
  generalize (((w5.setCell ⟨w.heap.size + 2, 0, none⟩ (.int .i64 a)).setCell ⟨w.heap.size + 2, 1, none⟩ (.int .i64 b)).setCell ⟨w.heap.size + 2, 2, none⟩ (.slice av m cv)) = wy at *
  obtain ⟨q0, q1, q2, -, -, -⟩ := blk3 P.heap
  refine bodyPost_ret (v := .tuple #[.agg #[.int .i64 a, .int .i64 b, .slice av m cv], .bool true]) (by simp [results, Try.results11, go_sem, q0, q1, q2]) rfl ?_
  refine ⟨_, rfl, ?_, Below.chg HB5.out P.chg (fun q hq => by omega) (by omega)⟩
  rw [HM.out]
  exact (O5.out.chg P.chg fun q hq e => by have := (O5.out.lt hq).1; omega).mono (B' := w.heap.size) (by omega)
set_option maxRecDepth 100000 in
set_option maxHeartbeats 3200000 in
theorem edgeSection_any (w : World) (v : Value) (A : List Nat) (a b : Nat) (h : RdF w v A) (hl : A.length = a * b) (hN : ∀ j, isN .f32 (A.getD j 0) = false) (ha : 1 ≤ a) (ha2 : a ≤ 16) (hb : 1 ≤ b) (hb2 : b ≤ 16) :
    Calls Try.prog 12 #[.agg #[.int .i64 a, .int .i64 b, v]] w fun e w' => ∃ v', e = .returned (.tuple #[.agg #[.int .i64 a, .int .i64 b, v'], .bool true]) ∧ OwnF w' w.heap.size v' (eachTo (edgeF A a b) a (a * b)) ∧ Below w.heap.size w w' := by
  obtain ⟨ad, c, rfl, -⟩ := h.opened
  obtain ⟨n, hn⟩ : ∃ n, A.length = n := ⟨_, rfl⟩
  have H := Lib.hid h
  rw [hn] at H ⊢
  obtain ⟨w1, hw1⟩ : ∃ w1, w.alloc (.cells #[.int .i64 a, .int .i64 b, .slice ad n c] 27) = w1 := ⟨_, rfl⟩
  have b1 : Below w.heap.size w w1 := by rw [← hw1]; exact (Below.refl _ _).alloc (Nat.le_refl _) _
  have g1 : w1.heap[w.heap.size]? = some (.cells #[.int .i64 a, .int .i64 b, .slice ad n c] 27 (0, 0)) := by rw [← hw1]; exact alloc_new _ _
  have z1 : w1.heap.size = w.heap.size + 1 := by rw [← hw1]; exact World.size_alloc _ _
  obtain ⟨w3, hw3⟩ : ∃ w3, w1.alloc (.cells #[.int .i64 0, .int .i64 0, .slice none 0 0] 27) = w3 := ⟨_, rfl⟩
  have b3 : Below w1.heap.size w1 w3 := by rw [← hw3]; exact (Below.refl _ _).alloc (Nat.le_refl _) _
  have g3 : w3.heap[w1.heap.size]? = some (.cells #[.int .i64 0, .int .i64 0, .slice none 0 0] 27 (0, 0)) := by rw [← hw3]; exact alloc_new _ _
  have z3 : w3.heap.size = w.heap.size + 2 := by rw [← hw3, World.size_alloc]; omega
  rw [z1] at g3 b3
  have x13 : Below (w.heap.size + 1) w1 w3 := b3
  have HB := Lib.hid (b1.trans (x13.mono (by omega)))
  have HG1 := Lib.hid ((x13.block _ (by omega)).trans g1)
  have HG3 := Lib.hid g3
  obtain ⟨k0, k1, k2, -, -, -⟩ := blk3 HG1.out
  have HV := Lib.hid (validSection_any w3 (.agg #[.int .i64 a, .int .i64 b, .slice ad n c]) ⟨a, b, A⟩ ⟨_, rfl, H.out.mono HB.out⟩)
  rw [valid_true hl ha ha2 hb hb2] at HV
  clear g1 g3 b1 b3 x13 h hn
  go_enter Try.func12, Try.ntmps12
  go_wp2_with fail
  refine HV.out.mono ?_
  rintro e w4 ⟨rfl, b4⟩
  have HB4 := Lib.hid (HB.out.trans (b4.mono (by omega)))
  have NG1 := Lib.hid ((b4.block _ (by omega)).trans HG1.out)
  have NG3 := Lib.hid ((b4.block _ (by omega)).trans HG3.out)
  have z4 := b4.size
  obtain ⟨j0, j1, j2, -, -, -⟩ := blk3 NG1.out
  clear HV b4 HB HG1 HG3 k0 k1 k2 hw1 hw3
  go_wp2_with fail
  refine (each1_any w4 ad n c a b w.heap.size (edgeF A a b) ha ha2 hb hb2 (fun x z => ⟨_, FV.op (op := .mul) (fv_const 1056964608 (by decide) (by decide +kernel)) (FV.op (op := .sub) (near_fv H.out hl hN ha hb _ _) (near_fv H.out hl hN ha hb _ _) w) w⟩) (fun wq hq x z hx hz => ?_)).mono ?_
  · exact edge1_any wq _ A a b x z w.heap.size (H.out.mono (HB4.out.trans (hq.mono (by omega)))) hl hN ha ha2 hb hb2 hx hz ((hq.block _ (by omega)).trans NG1.out)
  rintro e w5 ⟨v', rfl, o5, b5⟩
  obtain ⟨av, cv, rfl, -⟩ := o5.rd.opened
  rw [eachTo_length] at o5 ⊢
  have O5 := Lib.hid o5
  have HB5 := Lib.hid (HB4.out.trans (b5.mono (by omega)))
  have z5 := b5.size
  have h5 := (b5.block _ (by omega)).trans NG3.out
  obtain ⟨m, hm⟩ : ∃ m, a * b = m := ⟨_, rfl⟩
  rw [hm] at O5 ⊢
  have P := put3 h5 (.int .i64 a) (.int .i64 b) (.slice av m cv)
  have HP := Lib.hid P
  have HM := Lib.hid hm
  obtain ⟨m0, m1, m2, f0, f1, f2⟩ := blk3 h5
  clear P o5 b5 h5 hm j0 j1 j2
  go_wp2_with fail
  have P := HP.out
  clear HP
  generalize (((w5.setCell ⟨w.heap.size + 1, 0, none⟩ (.int .i64 a)).setCell ⟨w.heap.size + 1, 1, none⟩ (.int .i64 b)).setCell ⟨w.heap.size + 1, 2, none⟩ (.slice av m cv)) = wy at *
  obtain ⟨q0, q1, q2, -, -, -⟩ := blk3 P.heap
  refine bodyPost_ret (v := .tuple #[.agg #[.int .i64 a, .int .i64 b, .slice av m cv], .bool true]) (by simp [results, Try.results12, go_sem, q0, q1, q2]) rfl ?_
  refine ⟨_, rfl, ?_, Below.chg HB5.out P.chg (fun q hq => by omega) (by omega)⟩
  rw [HM.out]
  exact (O5.out.chg P.chg fun q hq e => by have := (O5.out.lt hq).1; omega).mono (B' := w.heap.size) (by omega)
end Go.Proofs.Ytjhbcnmkamkkaaa
