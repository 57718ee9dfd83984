/- FnSmoothed: the walk of the law. -/
import Derived.Test.YtjhbcnmkamkkaaaSmP
import Derived.Test.YtjhbcnmkamkkaaaTru
namespace Go.Proofs.Ytjhbcnmkamkkaaa
open Go Go.RowKit

theorem sameL_self (A : List Nat) : sameL A A = true := by
  unfold sameL sameTo
  simp
theorem run_negF {P : Program} (w : World) (x : Nat) : (Op.unary .neg (.float .f32 x)).run P w = .ok (.float .f32 (x ^^^ 2147483648)) w := rfl
theorem run_maxOf {P : Program} (w : World) {ats : Array TypeId} {ty : TypeId} {t m : Nat} (h : MaxOf t m) : (Builtin.max_ ats ty #[.float .f32 t, .float .f32 (t ^^^ 2147483648)]).run P w = .ok (.float .f32 m) w := by
  have e : Builtin.max_ ats ty #[.float .f32 t, .float .f32 (t ^^^ 2147483648)] = Builtin.max2 (.float .f32 t) (.float .f32 (t ^^^ 2147483648)) := by simp [Builtin.max_]
  rw [e]
  unfold Builtin.max2
  rcases h with ⟨h, rfl⟩ | ⟨h, rfl⟩ | ⟨h, h2, rfl⟩
  · simp only [h]; rfl
  · simp only [h]; rfl
  · simp only [h, h2]; rfl
theorem rep_notNan (n : Nat) : ∀ j, isN .f32 ((List.replicate n 1069547520).getD j 0) = false := fun j => by
  rw [List.getD_eq_getElem?_getD, List.getElem?_replicate]
  split
  · decide +kernel
  · decide +kernel
set_option maxRecDepth 100000 in
set_option maxHeartbeats 25600000 in
theorem lawSmoothed_any (w : World) (v1 v2 : Value) (n1 n2 : Nat) (h1 : RdY w v1 n1) (h2 : RdY w v2 n2) (m1 : n1 ≤ maxLen) (m2 : n2 ≤ maxLen) :
    Calls Try.prog 3 #[v1, v2] w (TrueB w) := by
  have H1 := Lib.hid h1
  have H2 := Lib.hid h2
  obtain ⟨a1, c1, rfl, -, -⟩ := h1.opened
  obtain ⟨a2, c2, rfl, -, -⟩ := h2.opened
  have HL := Lib.hid (r8Long_any w a1 a2 n1 n2 c1 c2 m1 m2)
  clear h1 h2 m1 m2
  cases hq : (decide (48 < n1) || decide (48 < n2)) with
  | true =>
    rw [hq] at HL
    clear hq
    go_enter Try.func3, Try.ntmps3
    go_wp2_with fail
    refine HL.out.mono ?_
    rintro e w1 ⟨rfl, hw1⟩
    obtain rfl : w = w1 := hw1.symm
    go_wp2
    go_ret
    exact TrueB.mk (Below.refl _ _)
  | false =>
    rw [hq] at HL
    have l1 : n1 ≤ 48 := by simp at hq; omega
    have l2 : n2 ≤ 48 := by simp at hq; omega
    clear hq
    have HA0 := Lib.hid (r8At_any w _ n2 0 5 H2.out (by omega) (by decide) (by decide) (by decide) (by decide))
    have HA1 := Lib.hid (r8At_any w _ n2 1 5 H2.out (by omega) (by decide) (by decide) (by decide) (by decide))
    go_enter Try.func3, Try.ntmps3
    go_wp2_with fail
    refine HL.out.mono ?_
    rintro e w0 ⟨rfl, hw0⟩
    obtain rfl : w = w0 := hw0.symm
    clear HL hw0
    go_wp2_with fail
    refine HA0.out.mono ?_
    rintro e w0 ⟨ra, rfl, hra0, hra1, hw0⟩
    obtain rfl : w = w0 := hw0.symm
    clear HA0 hw0
    obtain ⟨a, ha, ha1, ha2⟩ : ∃ a : Nat, 1 + ra = a ∧ 1 ≤ a ∧ a ≤ 5 := ⟨(1 + ra).toNat, by omega, by omega, by omega⟩
    go_wp2_with fail
    refine HA1.out.mono ?_
    rintro e w0 ⟨rb', rfl, hrb0, hrb1, hw0⟩
    obtain rfl : w = w0 := hw0.symm
    clear HA1 hw0
    obtain ⟨b, hb, hb1, hb2⟩ : ∃ b : Nat, 1 + rb' = b ∧ 1 ≤ b ∧ b ≤ 5 := ⟨(1 + rb').toNat, by omega, by omega, by omega⟩
    go_wp2_with fail
    clear ha hb
    refine (r8Section_any w _ n1 a b H1.out (by omega) ha1 ha2 hb1 hb2).mono ?_
    rintro e w2 ⟨vq, zs, rfl, hzl, hzr, oq, b2⟩
    have hab1 : 1 ≤ a * b := Nat.mul_le_mul ha1 hb1
    have hab2 : a * b ≤ 25 := Nat.mul_le_mul ha2 hb2
    have hq0 : qT 0 = 0 := by decide +kernel
    have hzb : ∀ j, -8 ≤ zs.getD j 0 ∧ zs.getD j 0 ≤ 8 := fun j => by
      rw [List.getD_eq_getElem?_getD]
      cases h : zs[j]? with
      | none => simp
      | some u => simpa using hzr u (List.mem_of_getElem? h)
    obtain ⟨o, ho1, ho2, ho3, ho4⟩ := strong_zs zs hzr (by omega)
    have HBest1 := Lib.hid ho1
    have HBest2 := Lib.hid ho4
    have HKeep := Lib.hid (keep_all ha1 hb1 zs hzr hzl)
    have HLA : Hid ((zs.map qT).length = a * b) := Lib.hid (by rw [List.length_map]; exact hzl)
    have HNN : Hid (∀ j, isN .f32 ((zs.map qT).getD j 0) = false) := Lib.hid fun j => by rw [getD_mapq qT hq0]; exact (qT_notNan _ (hzb j).1 (hzb j).2).1
    have HMax : Hid (∀ k, k < a * b → ∃ m1 m2, MaxOf ((zs.map qT).getD k 0) m1 ∧ MaxOf ((zs.map qT).getD o 0) m2 ∧ (FloatKind.f32.format.order m1 m2 == some Ordering.gt) = false) := Lib.hid fun k hk => by
      rw [getD_mapq qT hq0, getD_mapq qT hq0]
      refine ⟨_, _, max_qT _ (hzb k).1 (hzb k).2, max_qT _ (hzb o).1 (hzb o).2, ?_⟩
      rw [(qT_order _ _ (by have := hzb k; omega) (by have := hzb o; omega)).1]
      exact decide_eq_false (by have := ho3 k (by omega); omega)
    have HO : Hid (o < a * b) := Lib.hid (by omega)
    clear ho1 ho3 ho4 hzb hq0 hzr
    generalize zs.map qT = A at *
    have HNC : Hid (∀ j, isN .f32 ((A.set o 1091567616).getD j 0) = false) := Lib.hid fun j => by
      by_cases hj : j < A.length
      · rw [getD_set _ _ _ _ hj]
        split
        · decide +kernel
        · exact HNN.out j
      · rw [List.getD_eq_getElem?_getD, List.getElem?_eq_none (by rw [List.length_set]; omega)]
        decide +kernel
    obtain ⟨x, hx'⟩ : ∃ x, o % a = x := ⟨_, rfl⟩
    obtain ⟨z, hz'⟩ : ∃ z, o / a = z := ⟨_, rfl⟩
    have hx : x < a := by rw [← hx']; exact Nat.mod_lt _ ha1
    have hz : z < b := by rw [← hz']; exact (Nat.div_lt_iff_lt_mul ha1).2 (by rw [Nat.mul_comm]; exact HO.out)
    have hxz : x + a * z = o := by rw [← hx', ← hz']; exact Nat.mod_add_div o a
    obtain ⟨q, hq⟩ : ∃ q, a * z = q := ⟨_, rfl⟩
    obtain ⟨mo, hmo⟩ : ∃ mo, A.getD o 0 = mo := ⟨_, rfl⟩
    obtain ⟨n, hn⟩ : ∃ n, a * b = n := ⟨_, rfl⟩
    have HQI : Hid ((a : Int) * (z : Int) = (q : Int)) := Lib.hid (by rw [← hq, Int.natCast_mul])
    have HXQ2 : Hid (x + q = o) := Lib.hid (by rw [← hq]; exact hxz)
    have HXQ : Hid (x + q < n) := Lib.hid (by rw [HXQ2.out, ← hn]; exact HO.out)
    have HMM : Hid (FloatKind.f32.format.order mo mo = some .eq) := Lib.hid (by rw [← hmo]; exact order_self (HNN.out o))
    have HX := Lib.hid hx'
    have HZ := Lib.hid hz'
    have HXZ := Lib.hid hxz
    have HMO := Lib.hid hmo
    have HN := Lib.hid hn
    have hn1 : 1 ≤ n := by omega
    have hn2 : n ≤ 25 := by omega
    have hq25 : q ≤ 25 := by have := HXQ.out; omega
    obtain ⟨aq, cq, rfl, -⟩ := oq.rd.opened
    rw [show A.length = n from HLA.out.trans hn] at oq ⊢
    have OQ := Lib.hid oq
    clear oq hx' hz' hxz hq hmo hn hzl ho2 hab1 hab2
    have HB := Lib.hid b2
    clear b2
    obtain ⟨wa1, hwa1⟩ : ∃ wa, w2.alloc (.cells #[.int .i64 0, .int .i64 0, .slice none 0 0] 27) = wa := ⟨_, rfl⟩
    have h9 : wa1.heap[w2.heap.size]? = some (.cells #[.int .i64 0, .int .i64 0, .slice none 0 0] 27 (0, 0)) := by rw [← hwa1]; exact alloc_new _ _
    have xa : Below w2.heap.size w2 wa1 := by rw [← hwa1]; exact (Below.refl _ _).alloc (Nat.le_refl _) _
    obtain ⟨g7, hg7⟩ : ∃ g, w2.heap.size = g := ⟨_, rfl⟩
    have zg := (Array.getElem?_eq_some_iff.1 h9).1
    rw [hg7] at h9
    have P1 := put3 h9 (.int .i64 a) (.int .i64 b) (.slice aq n cq)
    obtain ⟨m0, m1, m2, f0, f1, f2⟩ := blk3 h9
    obtain ⟨wz1, hwz1⟩ : ∃ wz, (((wa1.setCell ⟨g7, 0, none⟩ (.int .i64 a)).setCell ⟨g7, 1, none⟩ (.int .i64 b)).setCell ⟨g7, 2, none⟩ (.slice aq n cq)) = wz := ⟨_, rfl⟩
    rw [hwz1] at P1
    have BZ := Lib.hid (Below.chg (HB.out.trans (xa.mono HB.out.size)) P1.chg (fun k hk => by have := HB.out.size; omega) (by have := HB.out.size; omega))
    have NOQ := Lib.hid ((OQ.out.kept xa).chg P1.chg fun k hk e => by have := (OQ.out.lt hk).2; omega)
    have Hg7 := Lib.hid P1.heap
    clear OQ
    have OQ := NOQ
    clear NOQ
    clear HB
    have HB := BZ
    clear BZ xa h9 zg P1
    go_wp2_with fail
    clear hwa1 hwz1 hg7 m0 m1 m2 f0 f1 f2
    refine (flatSection_any wz1 a b 1069547520 (fv_const 1069547520 (by decide) (by decide +kernel)) ha1 ha2 hb1 hb2).mono ?_
    rintro e w4 ⟨v4, rfl, o4, b4⟩
    obtain ⟨a4, c4, rfl, -⟩ := o4.rd.opened
    rw [show (List.replicate (a * b) 1069547520).length = n from by rw [List.length_replicate]; exact HN.out] at o4 ⊢
    have OF := Lib.hid (o4.mono (B' := w.heap.size) HB.out.size)
    clear o4
    have NB := Lib.hid (HB.out.trans (b4.mono HB.out.size))
    have Ng7 := Lib.hid ((b4.block _ (Array.getElem?_eq_some_iff.1 Hg7.out).1).trans Hg7.out)
    have NOQ := Lib.hid (OQ.out.kept b4)
    clear Hg7
    have Hg7 := Ng7
    clear Ng7
    clear OQ
    have OQ := NOQ
    clear NOQ
    clear HB b4
    have HB := NB
    clear NB
    obtain ⟨wa2, hwa2⟩ : ∃ wa, w4.alloc (.cells #[.int .i64 0, .int .i64 0, .slice none 0 0] 27) = wa := ⟨_, rfl⟩
    have h9 : wa2.heap[w4.heap.size]? = some (.cells #[.int .i64 0, .int .i64 0, .slice none 0 0] 27 (0, 0)) := by rw [← hwa2]; exact alloc_new _ _
    have xa : Below w4.heap.size w4 wa2 := by rw [← hwa2]; exact (Below.refl _ _).alloc (Nat.le_refl _) _
    obtain ⟨g8, hg8⟩ : ∃ g, w4.heap.size = g := ⟨_, rfl⟩
    have zg := (Array.getElem?_eq_some_iff.1 h9).1
    rw [hg8] at h9
    have P2 := put3 h9 (.int .i64 a) (.int .i64 b) (.slice a4 n c4)
    obtain ⟨m0, m1, m2, f0, f1, f2⟩ := blk3 h9
    obtain ⟨wz2, hwz2⟩ : ∃ wz, (((wa2.setCell ⟨g8, 0, none⟩ (.int .i64 a)).setCell ⟨g8, 1, none⟩ (.int .i64 b)).setCell ⟨g8, 2, none⟩ (.slice a4 n c4)) = wz := ⟨_, rfl⟩
    rw [hwz2] at P2
    have BZ := Lib.hid (Below.chg (HB.out.trans (xa.mono HB.out.size)) P2.chg (fun k hk => by have := HB.out.size; omega) (by have := HB.out.size; omega))
    have Ng7 := Lib.hid ((P2.chg.block g7 (by have := (Array.getElem?_eq_some_iff.1 Hg7.out).1; omega) (by have := (Array.getElem?_eq_some_iff.1 Hg7.out).1; omega)).trans ((xa.block g7 (Array.getElem?_eq_some_iff.1 Hg7.out).1).trans Hg7.out))
    have NOQ := Lib.hid ((OQ.out.kept xa).chg P2.chg fun k hk e => by have := (OQ.out.lt hk).2; omega)
    have NOF := Lib.hid ((OF.out.kept xa).chg P2.chg fun k hk e => by have := (OF.out.lt hk).2; omega)
    have Hg8 := Lib.hid P2.heap
    clear Hg7
    have Hg7 := Ng7
    clear Ng7
    clear OQ OF
    have OQ := NOQ
    clear NOQ
    have OF := NOF
    clear NOF
    clear HB
    have HB := BZ
    clear BZ xa h9 zg P2
    obtain ⟨k0, k1, k2, -, -, -⟩ := blk3 Hg8.out
    go_wp2_with fail
    clear hwa2 hwz2 hg8 m0 m1 m2 f0 f1 f2 k0 k1 k2
    refine (smoothSection_any wz2 _ (List.replicate (a * b) 1069547520) a b 1048576000 OF.out.rd (List.length_replicate) (rep_notNan _) ha1 (by omega) hb1 (by omega) (fv_const 1048576000 (by decide) (by decide +kernel))).mono ?_
    rintro e w5 ⟨v5, rfl, o5, b5⟩
    rw [smooth_flat ha1 hb1] at o5
    obtain ⟨a5, c5, rfl, -⟩ := o5.rd.opened
    rw [show (List.replicate (a * b) 1069547520).length = n from by rw [List.length_replicate]; exact HN.out] at o5 ⊢
    have OS := Lib.hid (o5.mono (B' := w.heap.size) HB.out.size)
    clear o5
    have NB := Lib.hid (HB.out.trans (b5.mono HB.out.size))
    have Ng7 := Lib.hid ((b5.block _ (Array.getElem?_eq_some_iff.1 Hg7.out).1).trans Hg7.out)
    have Ng8 := Lib.hid ((b5.block _ (Array.getElem?_eq_some_iff.1 Hg8.out).1).trans Hg8.out)
    have NOQ := Lib.hid (OQ.out.kept b5)
    have NOF := Lib.hid (OF.out.kept b5)
    clear Hg7 Hg8
    have Hg7 := Ng7
    clear Ng7
    have Hg8 := Ng8
    clear Ng8
    clear OQ OF
    have OQ := NOQ
    clear NOQ
    have OF := NOF
    clear NOF
    clear HB b5
    have HB := NB
    clear NB
    obtain ⟨wa3, hwa3⟩ : ∃ wa, w5.alloc (.cells #[.int .i64 0, .int .i64 0, .slice none 0 0] 27) = wa := ⟨_, rfl⟩
    have h9 : wa3.heap[w5.heap.size]? = some (.cells #[.int .i64 0, .int .i64 0, .slice none 0 0] 27 (0, 0)) := by rw [← hwa3]; exact alloc_new _ _
    have xa : Below w5.heap.size w5 wa3 := by rw [← hwa3]; exact (Below.refl _ _).alloc (Nat.le_refl _) _
    obtain ⟨g10, hg10⟩ : ∃ g, w5.heap.size = g := ⟨_, rfl⟩
    have zg := (Array.getElem?_eq_some_iff.1 h9).1
    rw [hg10] at h9
    have P3 := put3 h9 (.int .i64 a) (.int .i64 b) (.slice a5 n c5)
    obtain ⟨m0, m1, m2, f0, f1, f2⟩ := blk3 h9
    obtain ⟨wz3, hwz3⟩ : ∃ wz, (((wa3.setCell ⟨g10, 0, none⟩ (.int .i64 a)).setCell ⟨g10, 1, none⟩ (.int .i64 b)).setCell ⟨g10, 2, none⟩ (.slice a5 n c5)) = wz := ⟨_, rfl⟩
    rw [hwz3] at P3
    have BZ := Lib.hid (Below.chg (HB.out.trans (xa.mono HB.out.size)) P3.chg (fun k hk => by have := HB.out.size; omega) (by have := HB.out.size; omega))
    have Ng7 := Lib.hid ((P3.chg.block g7 (by have := (Array.getElem?_eq_some_iff.1 Hg7.out).1; omega) (by have := (Array.getElem?_eq_some_iff.1 Hg7.out).1; omega)).trans ((xa.block g7 (Array.getElem?_eq_some_iff.1 Hg7.out).1).trans Hg7.out))
    have Ng8 := Lib.hid ((P3.chg.block g8 (by have := (Array.getElem?_eq_some_iff.1 Hg8.out).1; omega) (by have := (Array.getElem?_eq_some_iff.1 Hg8.out).1; omega)).trans ((xa.block g8 (Array.getElem?_eq_some_iff.1 Hg8.out).1).trans Hg8.out))
    have NOQ := Lib.hid ((OQ.out.kept xa).chg P3.chg fun k hk e => by have := (OQ.out.lt hk).2; omega)
    have NOF := Lib.hid ((OF.out.kept xa).chg P3.chg fun k hk e => by have := (OF.out.lt hk).2; omega)
    have NOS := Lib.hid ((OS.out.kept xa).chg P3.chg fun k hk e => by have := (OS.out.lt hk).2; omega)
    have Hg10 := Lib.hid P3.heap
    clear Hg7 Hg8
    have Hg7 := Ng7
    clear Ng7
    have Hg8 := Ng8
    clear Ng8
    clear OQ OF OS
    have OQ := NOQ
    clear NOQ
    have OF := NOF
    clear NOF
    have OS := NOS
    clear NOS
    clear HB
    have HB := BZ
    clear BZ xa h9 zg P3
    obtain ⟨k0, k1, k2, -, -, -⟩ := blk3 Hg8.out
    go_wp2_with fail
    clear hwa3 hwz3 hg10 m0 m1 m2 f0 f1 f2 k0 k1 k2
    refine (edgeSection_any wz3 _ (List.replicate (a * b) 1069547520) a b OF.out.rd (List.length_replicate) (rep_notNan _) ha1 (by omega) hb1 (by omega)).mono ?_
    rintro e w6 ⟨v6, rfl, o6, b6⟩
    rw [edge_flat ha1 hb1] at o6
    obtain ⟨a6, c6, rfl, -⟩ := o6.rd.opened
    rw [show (List.replicate (a * b) 0).length = n from by rw [List.length_replicate]; exact HN.out] at o6 ⊢
    have OE := Lib.hid (o6.mono (B' := w.heap.size) HB.out.size)
    clear o6
    have NB := Lib.hid (HB.out.trans (b6.mono HB.out.size))
    have Ng7 := Lib.hid ((b6.block _ (Array.getElem?_eq_some_iff.1 Hg7.out).1).trans Hg7.out)
    have Ng8 := Lib.hid ((b6.block _ (Array.getElem?_eq_some_iff.1 Hg8.out).1).trans Hg8.out)
    have Ng10 := Lib.hid ((b6.block _ (Array.getElem?_eq_some_iff.1 Hg10.out).1).trans Hg10.out)
    have NOQ := Lib.hid (OQ.out.kept b6)
    have NOF := Lib.hid (OF.out.kept b6)
    have NOS := Lib.hid (OS.out.kept b6)
    clear Hg7 Hg8 Hg10
    have Hg7 := Ng7
    clear Ng7
    have Hg8 := Ng8
    clear Ng8
    have Hg10 := Ng10
    clear Ng10
    clear OQ OF OS
    have OQ := NOQ
    clear NOQ
    have OF := NOF
    clear NOF
    have OS := NOS
    clear NOS
    clear HB b6
    have HB := NB
    clear NB
    obtain ⟨wa4, hwa4⟩ : ∃ wa, w6.alloc (.cells #[.int .i64 0, .int .i64 0, .slice none 0 0] 27) = wa := ⟨_, rfl⟩
    have h9 : wa4.heap[w6.heap.size]? = some (.cells #[.int .i64 0, .int .i64 0, .slice none 0 0] 27 (0, 0)) := by rw [← hwa4]; exact alloc_new _ _
    have xa : Below w6.heap.size w6 wa4 := by rw [← hwa4]; exact (Below.refl _ _).alloc (Nat.le_refl _) _
    obtain ⟨g12, hg12⟩ : ∃ g, w6.heap.size = g := ⟨_, rfl⟩
    have zg := (Array.getElem?_eq_some_iff.1 h9).1
    rw [hg12] at h9
    have P4 := put3 h9 (.int .i64 a) (.int .i64 b) (.slice a6 n c6)
    obtain ⟨m0, m1, m2, f0, f1, f2⟩ := blk3 h9
    obtain ⟨wz4, hwz4⟩ : ∃ wz, (((wa4.setCell ⟨g12, 0, none⟩ (.int .i64 a)).setCell ⟨g12, 1, none⟩ (.int .i64 b)).setCell ⟨g12, 2, none⟩ (.slice a6 n c6)) = wz := ⟨_, rfl⟩
    rw [hwz4] at P4
    have BZ := Lib.hid (Below.chg (HB.out.trans (xa.mono HB.out.size)) P4.chg (fun k hk => by have := HB.out.size; omega) (by have := HB.out.size; omega))
    have Ng7 := Lib.hid ((P4.chg.block g7 (by have := (Array.getElem?_eq_some_iff.1 Hg7.out).1; omega) (by have := (Array.getElem?_eq_some_iff.1 Hg7.out).1; omega)).trans ((xa.block g7 (Array.getElem?_eq_some_iff.1 Hg7.out).1).trans Hg7.out))
    have Ng8 := Lib.hid ((P4.chg.block g8 (by have := (Array.getElem?_eq_some_iff.1 Hg8.out).1; omega) (by have := (Array.getElem?_eq_some_iff.1 Hg8.out).1; omega)).trans ((xa.block g8 (Array.getElem?_eq_some_iff.1 Hg8.out).1).trans Hg8.out))
    have Ng10 := Lib.hid ((P4.chg.block g10 (by have := (Array.getElem?_eq_some_iff.1 Hg10.out).1; omega) (by have := (Array.getElem?_eq_some_iff.1 Hg10.out).1; omega)).trans ((xa.block g10 (Array.getElem?_eq_some_iff.1 Hg10.out).1).trans Hg10.out))
    have NOQ := Lib.hid ((OQ.out.kept xa).chg P4.chg fun k hk e => by have := (OQ.out.lt hk).2; omega)
    have NOF := Lib.hid ((OF.out.kept xa).chg P4.chg fun k hk e => by have := (OF.out.lt hk).2; omega)
    have NOS := Lib.hid ((OS.out.kept xa).chg P4.chg fun k hk e => by have := (OS.out.lt hk).2; omega)
    have NOE := Lib.hid ((OE.out.kept xa).chg P4.chg fun k hk e => by have := (OE.out.lt hk).2; omega)
    have Hg12 := Lib.hid P4.heap
    clear Hg7 Hg8 Hg10
    have Hg7 := Ng7
    clear Ng7
    have Hg8 := Ng8
    clear Ng8
    have Hg10 := Ng10
    clear Ng10
    clear OQ OF OS OE
    have OQ := NOQ
    clear NOQ
    have OF := NOF
    clear NOF
    have OS := NOS
    clear NOS
    have OE := NOE
    clear NOE
    clear HB
    have HB := BZ
    clear BZ xa h9 zg P4
    obtain ⟨k0, k1, k2, -, -, -⟩ := blk3 Hg7.out
    go_wp2_with fail
    clear hwa4 hwz4 hg12 m0 m1 m2 f0 f1 f2 k0 k1 k2
    refine (smoothSection_any wz4 _ A a b 0 OQ.out.rd HLA.out HNN.out ha1 (by omega) hb1 (by omega) (fv0 .f32)).mono ?_
    rintro e w7 ⟨v7, rfl, o7, b7⟩
    rw [HKeep.out] at o7
    obtain ⟨a7, c7, rfl, -⟩ := o7.rd.opened
    rw [show (A).length = n from by rw [HLA.out]; exact HN.out] at o7 ⊢
    have OKp := Lib.hid (o7.mono (B' := w.heap.size) HB.out.size)
    clear o7
    have NB := Lib.hid (HB.out.trans (b7.mono HB.out.size))
    have Ng7 := Lib.hid ((b7.block _ (Array.getElem?_eq_some_iff.1 Hg7.out).1).trans Hg7.out)
    have Ng8 := Lib.hid ((b7.block _ (Array.getElem?_eq_some_iff.1 Hg8.out).1).trans Hg8.out)
    have Ng10 := Lib.hid ((b7.block _ (Array.getElem?_eq_some_iff.1 Hg10.out).1).trans Hg10.out)
    have Ng12 := Lib.hid ((b7.block _ (Array.getElem?_eq_some_iff.1 Hg12.out).1).trans Hg12.out)
    have NOQ := Lib.hid (OQ.out.kept b7)
    have NOF := Lib.hid (OF.out.kept b7)
    have NOS := Lib.hid (OS.out.kept b7)
    have NOE := Lib.hid (OE.out.kept b7)
    clear Hg7 Hg8 Hg10 Hg12
    have Hg7 := Ng7
    clear Ng7
    have Hg8 := Ng8
    clear Ng8
    have Hg10 := Ng10
    clear Ng10
    have Hg12 := Ng12
    clear Ng12
    clear OQ OF OS OE
    have OQ := NOQ
    clear NOQ
    have OF := NOF
    clear NOF
    have OS := NOS
    clear NOS
    have OE := NOE
    clear NOE
    clear HB b7
    have HB := NB
    clear NB
    obtain ⟨wa5, hwa5⟩ : ∃ wa, w7.alloc (.cells #[.int .i64 0, .int .i64 0, .slice none 0 0] 27) = wa := ⟨_, rfl⟩
    have h9 : wa5.heap[w7.heap.size]? = some (.cells #[.int .i64 0, .int .i64 0, .slice none 0 0] 27 (0, 0)) := by rw [← hwa5]; exact alloc_new _ _
    have xa : Below w7.heap.size w7 wa5 := by rw [← hwa5]; exact (Below.refl _ _).alloc (Nat.le_refl _) _
    obtain ⟨g14, hg14⟩ : ∃ g, w7.heap.size = g := ⟨_, rfl⟩
    have zg := (Array.getElem?_eq_some_iff.1 h9).1
    rw [hg14] at h9
    have P5 := put3 h9 (.int .i64 a) (.int .i64 b) (.slice a7 n c7)
    obtain ⟨m0, m1, m2, f0, f1, f2⟩ := blk3 h9
    obtain ⟨wz5, hwz5⟩ : ∃ wz, (((wa5.setCell ⟨g14, 0, none⟩ (.int .i64 a)).setCell ⟨g14, 1, none⟩ (.int .i64 b)).setCell ⟨g14, 2, none⟩ (.slice a7 n c7)) = wz := ⟨_, rfl⟩
    rw [hwz5] at P5
    have BZ := Lib.hid (Below.chg (HB.out.trans (xa.mono HB.out.size)) P5.chg (fun k hk => by have := HB.out.size; omega) (by have := HB.out.size; omega))
    have Ng7 := Lib.hid ((P5.chg.block g7 (by have := (Array.getElem?_eq_some_iff.1 Hg7.out).1; omega) (by have := (Array.getElem?_eq_some_iff.1 Hg7.out).1; omega)).trans ((xa.block g7 (Array.getElem?_eq_some_iff.1 Hg7.out).1).trans Hg7.out))
    have Ng8 := Lib.hid ((P5.chg.block g8 (by have := (Array.getElem?_eq_some_iff.1 Hg8.out).1; omega) (by have := (Array.getElem?_eq_some_iff.1 Hg8.out).1; omega)).trans ((xa.block g8 (Array.getElem?_eq_some_iff.1 Hg8.out).1).trans Hg8.out))
    have Ng10 := Lib.hid ((P5.chg.block g10 (by have := (Array.getElem?_eq_some_iff.1 Hg10.out).1; omega) (by have := (Array.getElem?_eq_some_iff.1 Hg10.out).1; omega)).trans ((xa.block g10 (Array.getElem?_eq_some_iff.1 Hg10.out).1).trans Hg10.out))
    have Ng12 := Lib.hid ((P5.chg.block g12 (by have := (Array.getElem?_eq_some_iff.1 Hg12.out).1; omega) (by have := (Array.getElem?_eq_some_iff.1 Hg12.out).1; omega)).trans ((xa.block g12 (Array.getElem?_eq_some_iff.1 Hg12.out).1).trans Hg12.out))
    have NOQ := Lib.hid ((OQ.out.kept xa).chg P5.chg fun k hk e => by have := (OQ.out.lt hk).2; omega)
    have NOF := Lib.hid ((OF.out.kept xa).chg P5.chg fun k hk e => by have := (OF.out.lt hk).2; omega)
    have NOS := Lib.hid ((OS.out.kept xa).chg P5.chg fun k hk e => by have := (OS.out.lt hk).2; omega)
    have NOE := Lib.hid ((OE.out.kept xa).chg P5.chg fun k hk e => by have := (OE.out.lt hk).2; omega)
    have NOKp := Lib.hid ((OKp.out.kept xa).chg P5.chg fun k hk e => by have := (OKp.out.lt hk).2; omega)
    have Hg14 := Lib.hid P5.heap
    clear Hg7 Hg8 Hg10 Hg12
    have Hg7 := Ng7
    clear Ng7
    have Hg8 := Ng8
    clear Ng8
    have Hg10 := Ng10
    clear Ng10
    have Hg12 := Ng12
    clear Ng12
    clear OQ OF OS OE OKp
    have OQ := NOQ
    clear NOQ
    have OF := NOF
    clear NOF
    have OS := NOS
    clear NOS
    have OE := NOE
    clear NOE
    have OKp := NOKp
    clear NOKp
    clear HB
    have HB := BZ
    clear BZ xa h9 zg P5
    obtain ⟨k0, k1, k2, -, -, -⟩ := blk3 Hg7.out
    go_wp2_with fail
    clear hwa5 hwz5 hg14 m0 m1 m2 f0 f1 f2 k0 k1 k2
    have HSt := Lib.hid (strong_any wz5 _ A a b o OQ.out.rd HLA.out HNN.out ha1 (by omega) hb1 (by omega) HBest1.out)
    rw [HX.out, HZ.out, HMO.out] at HSt
    refine HSt.out.mono ?_
    rintro e w8 ⟨rfl, b8⟩
    clear HSt
    have NB := Lib.hid (HB.out.trans (b8.mono HB.out.size))
    have Ng7 := Lib.hid ((b8.block _ (Array.getElem?_eq_some_iff.1 Hg7.out).1).trans Hg7.out)
    have Ng8 := Lib.hid ((b8.block _ (Array.getElem?_eq_some_iff.1 Hg8.out).1).trans Hg8.out)
    have Ng10 := Lib.hid ((b8.block _ (Array.getElem?_eq_some_iff.1 Hg10.out).1).trans Hg10.out)
    have Ng12 := Lib.hid ((b8.block _ (Array.getElem?_eq_some_iff.1 Hg12.out).1).trans Hg12.out)
    have Ng14 := Lib.hid ((b8.block _ (Array.getElem?_eq_some_iff.1 Hg14.out).1).trans Hg14.out)
    have NOQ := Lib.hid (OQ.out.kept b8)
    have NOF := Lib.hid (OF.out.kept b8)
    have NOS := Lib.hid (OS.out.kept b8)
    have NOE := Lib.hid (OE.out.kept b8)
    have NOKp := Lib.hid (OKp.out.kept b8)
    clear Hg7 Hg8 Hg10 Hg12 Hg14
    have Hg7 := Ng7
    clear Ng7
    have Hg8 := Ng8
    clear Ng8
    have Hg10 := Ng10
    clear Ng10
    have Hg12 := Ng12
    clear Ng12
    have Hg14 := Ng14
    clear Ng14
    clear OQ OF OS OE OKp
    have OQ := NOQ
    clear NOQ
    have OF := NOF
    clear NOF
    have OS := NOS
    clear NOS
    have OE := NOE
    clear NOE
    have OKp := NOKp
    clear NOKp
    clear HB b8
    have HB := NB
    clear NB
    obtain ⟨k0, k1, k2, -, -, -⟩ := blk3 Hg7.out
    go_wp2_with fail
    clear k0 k1 k2
    refine (putValue_any w8 _ A a b x z 1091567616 OQ.out.rd HLA.out ha1 (by omega) hb1 (by omega) hx hz (fv_const 1091567616 (by decide) (by decide +kernel))).mono ?_
    rintro e w9 ⟨v9, rfl, o9, b9⟩
    rw [HXZ.out] at o9
    obtain ⟨a9, c9, rfl, -⟩ := o9.rd.opened
    rw [show (A.set o 1091567616).length = n from by rw [List.length_set, HLA.out]; exact HN.out] at o9 ⊢
    have OC := Lib.hid (o9.mono (B' := w.heap.size) HB.out.size)
    clear o9
    have NB := Lib.hid (HB.out.trans (b9.mono HB.out.size))
    have Ng7 := Lib.hid ((b9.block _ (Array.getElem?_eq_some_iff.1 Hg7.out).1).trans Hg7.out)
    have Ng8 := Lib.hid ((b9.block _ (Array.getElem?_eq_some_iff.1 Hg8.out).1).trans Hg8.out)
    have Ng10 := Lib.hid ((b9.block _ (Array.getElem?_eq_some_iff.1 Hg10.out).1).trans Hg10.out)
    have Ng12 := Lib.hid ((b9.block _ (Array.getElem?_eq_some_iff.1 Hg12.out).1).trans Hg12.out)
    have Ng14 := Lib.hid ((b9.block _ (Array.getElem?_eq_some_iff.1 Hg14.out).1).trans Hg14.out)
    have NOQ := Lib.hid (OQ.out.kept b9)
    have NOF := Lib.hid (OF.out.kept b9)
    have NOS := Lib.hid (OS.out.kept b9)
    have NOE := Lib.hid (OE.out.kept b9)
    have NOKp := Lib.hid (OKp.out.kept b9)
    clear Hg7 Hg8 Hg10 Hg12 Hg14
    have Hg7 := Ng7
    clear Ng7
    have Hg8 := Ng8
    clear Ng8
    have Hg10 := Ng10
    clear Ng10
    have Hg12 := Ng12
    clear Ng12
    have Hg14 := Ng14
    clear Ng14
    clear OQ OF OS OE OKp
    have OQ := NOQ
    clear NOQ
    have OF := NOF
    clear NOF
    have OS := NOS
    clear NOS
    have OE := NOE
    clear NOE
    have OKp := NOKp
    clear NOKp
    clear HB b9
    have HB := NB
    clear NB
    obtain ⟨wa6, hwa6⟩ : ∃ wa, w9.alloc (.cells #[.int .i64 0, .int .i64 0, .slice none 0 0] 27) = wa := ⟨_, rfl⟩
    have h9 : wa6.heap[w9.heap.size]? = some (.cells #[.int .i64 0, .int .i64 0, .slice none 0 0] 27 (0, 0)) := by rw [← hwa6]; exact alloc_new _ _
    have xa : Below w9.heap.size w9 wa6 := by rw [← hwa6]; exact (Below.refl _ _).alloc (Nat.le_refl _) _
    obtain ⟨g20, hg20⟩ : ∃ g, w9.heap.size = g := ⟨_, rfl⟩
    have zg := (Array.getElem?_eq_some_iff.1 h9).1
    rw [hg20] at h9
    have P6 := put3 h9 (.int .i64 a) (.int .i64 b) (.slice a9 n c9)
    obtain ⟨m0, m1, m2, f0, f1, f2⟩ := blk3 h9
    obtain ⟨wz6, hwz6⟩ : ∃ wz, (((wa6.setCell ⟨g20, 0, none⟩ (.int .i64 a)).setCell ⟨g20, 1, none⟩ (.int .i64 b)).setCell ⟨g20, 2, none⟩ (.slice a9 n c9)) = wz := ⟨_, rfl⟩
    rw [hwz6] at P6
    have BZ := Lib.hid (Below.chg (HB.out.trans (xa.mono HB.out.size)) P6.chg (fun k hk => by have := HB.out.size; omega) (by have := HB.out.size; omega))
    have Ng7 := Lib.hid ((P6.chg.block g7 (by have := (Array.getElem?_eq_some_iff.1 Hg7.out).1; omega) (by have := (Array.getElem?_eq_some_iff.1 Hg7.out).1; omega)).trans ((xa.block g7 (Array.getElem?_eq_some_iff.1 Hg7.out).1).trans Hg7.out))
    have Ng8 := Lib.hid ((P6.chg.block g8 (by have := (Array.getElem?_eq_some_iff.1 Hg8.out).1; omega) (by have := (Array.getElem?_eq_some_iff.1 Hg8.out).1; omega)).trans ((xa.block g8 (Array.getElem?_eq_some_iff.1 Hg8.out).1).trans Hg8.out))
    have Ng10 := Lib.hid ((P6.chg.block g10 (by have := (Array.getElem?_eq_some_iff.1 Hg10.out).1; omega) (by have := (Array.getElem?_eq_some_iff.1 Hg10.out).1; omega)).trans ((xa.block g10 (Array.getElem?_eq_some_iff.1 Hg10.out).1).trans Hg10.out))
    have Ng12 := Lib.hid ((P6.chg.block g12 (by have := (Array.getElem?_eq_some_iff.1 Hg12.out).1; omega) (by have := (Array.getElem?_eq_some_iff.1 Hg12.out).1; omega)).trans ((xa.block g12 (Array.getElem?_eq_some_iff.1 Hg12.out).1).trans Hg12.out))
    have Ng14 := Lib.hid ((P6.chg.block g14 (by have := (Array.getElem?_eq_some_iff.1 Hg14.out).1; omega) (by have := (Array.getElem?_eq_some_iff.1 Hg14.out).1; omega)).trans ((xa.block g14 (Array.getElem?_eq_some_iff.1 Hg14.out).1).trans Hg14.out))
    have NOQ := Lib.hid ((OQ.out.kept xa).chg P6.chg fun k hk e => by have := (OQ.out.lt hk).2; omega)
    have NOF := Lib.hid ((OF.out.kept xa).chg P6.chg fun k hk e => by have := (OF.out.lt hk).2; omega)
    have NOS := Lib.hid ((OS.out.kept xa).chg P6.chg fun k hk e => by have := (OS.out.lt hk).2; omega)
    have NOE := Lib.hid ((OE.out.kept xa).chg P6.chg fun k hk e => by have := (OE.out.lt hk).2; omega)
    have NOKp := Lib.hid ((OKp.out.kept xa).chg P6.chg fun k hk e => by have := (OKp.out.lt hk).2; omega)
    have NOC := Lib.hid ((OC.out.kept xa).chg P6.chg fun k hk e => by have := (OC.out.lt hk).2; omega)
    have Hg20 := Lib.hid P6.heap
    clear Hg7 Hg8 Hg10 Hg12 Hg14
    have Hg7 := Ng7
    clear Ng7
    have Hg8 := Ng8
    clear Ng8
    have Hg10 := Ng10
    clear Ng10
    have Hg12 := Ng12
    clear Ng12
    have Hg14 := Ng14
    clear Ng14
    clear OQ OF OS OE OKp OC
    have OQ := NOQ
    clear NOQ
    have OF := NOF
    clear NOF
    have OS := NOS
    clear NOS
    have OE := NOE
    clear NOE
    have OKp := NOKp
    clear NOKp
    have OC := NOC
    clear NOC
    clear HB
    have HB := BZ
    clear BZ xa h9 zg P6
    obtain ⟨k0, k1, k2, -, -, -⟩ := blk3 Hg20.out
    go_wp2_with fail
    clear hwa6 hwz6 hg20 m0 m1 m2 f0 f1 f2 k0 k1 k2
    have HSt := Lib.hid (strong_any wz6 _ (A.set o 1091567616) a b o OC.out.rd (by rw [List.length_set]; exact HLA.out) HNC.out ha1 (by omega) hb1 (by omega) HBest2.out)
    obtain ⟨r9, hr9⟩ : ∃ r9, (A.set o 1091567616).getD o 0 = r9 := ⟨_, rfl⟩
    rw [HX.out, HZ.out, hr9] at HSt
    have HR9 : Hid (FloatKind.f32.format.order r9 1091567616 = some .eq) := Lib.hid (by rw [← hr9, getD_set _ _ _ _ (by rw [HLA.out]; exact HO.out), if_pos rfl]; decide +kernel)
    clear hr9
    refine HSt.out.mono ?_
    rintro e w10 ⟨rfl, b10⟩
    clear HSt
    have NB := Lib.hid (HB.out.trans (b10.mono HB.out.size))
    have Ng7 := Lib.hid ((b10.block _ (Array.getElem?_eq_some_iff.1 Hg7.out).1).trans Hg7.out)
    have Ng8 := Lib.hid ((b10.block _ (Array.getElem?_eq_some_iff.1 Hg8.out).1).trans Hg8.out)
    have Ng10 := Lib.hid ((b10.block _ (Array.getElem?_eq_some_iff.1 Hg10.out).1).trans Hg10.out)
    have Ng12 := Lib.hid ((b10.block _ (Array.getElem?_eq_some_iff.1 Hg12.out).1).trans Hg12.out)
    have Ng14 := Lib.hid ((b10.block _ (Array.getElem?_eq_some_iff.1 Hg14.out).1).trans Hg14.out)
    have Ng20 := Lib.hid ((b10.block _ (Array.getElem?_eq_some_iff.1 Hg20.out).1).trans Hg20.out)
    have NOQ := Lib.hid (OQ.out.kept b10)
    have NOF := Lib.hid (OF.out.kept b10)
    have NOS := Lib.hid (OS.out.kept b10)
    have NOE := Lib.hid (OE.out.kept b10)
    have NOKp := Lib.hid (OKp.out.kept b10)
    have NOC := Lib.hid (OC.out.kept b10)
    clear Hg7 Hg8 Hg10 Hg12 Hg14 Hg20
    have Hg7 := Ng7
    clear Ng7
    have Hg8 := Ng8
    clear Ng8
    have Hg10 := Ng10
    clear Ng10
    have Hg12 := Ng12
    clear Ng12
    have Hg14 := Ng14
    clear Ng14
    have Hg20 := Ng20
    clear Ng20
    clear OQ OF OS OE OKp OC
    have OQ := NOQ
    clear NOQ
    have OF := NOF
    clear NOF
    have OS := NOS
    clear NOS
    have OE := NOE
    clear NOE
    have OKp := NOKp
    clear NOKp
    have OC := NOC
    clear NOC
    clear HB b10
    have HB := NB
    clear NB
    have HKg7 : Hid (∀ wq, Below w10.heap.size w10 wq → wq.cell? ⟨g7, 0, none⟩ = some (.int .i64 a) ∧ wq.cell? ⟨g7, 1, none⟩ = some (.int .i64 b) ∧ wq.cell? ⟨g7, 2, none⟩ = some (.slice aq n cq)) := Lib.hid fun wq hq => by
      obtain ⟨k0, k1, k2, -, -, -⟩ := blk3 ((hq.block _ (Array.getElem?_eq_some_iff.1 Hg7.out).1).trans Hg7.out)
      exact ⟨k0, k1, k2⟩
    have HKg8 : Hid (∀ wq, Below w10.heap.size w10 wq → wq.cell? ⟨g8, 0, none⟩ = some (.int .i64 a) ∧ wq.cell? ⟨g8, 1, none⟩ = some (.int .i64 b) ∧ wq.cell? ⟨g8, 2, none⟩ = some (.slice a4 n c4)) := Lib.hid fun wq hq => by
      obtain ⟨k0, k1, k2, -, -, -⟩ := blk3 ((hq.block _ (Array.getElem?_eq_some_iff.1 Hg8.out).1).trans Hg8.out)
      exact ⟨k0, k1, k2⟩
    have HKg10 : Hid (∀ wq, Below w10.heap.size w10 wq → wq.cell? ⟨g10, 0, none⟩ = some (.int .i64 a) ∧ wq.cell? ⟨g10, 1, none⟩ = some (.int .i64 b) ∧ wq.cell? ⟨g10, 2, none⟩ = some (.slice a5 n c5)) := Lib.hid fun wq hq => by
      obtain ⟨k0, k1, k2, -, -, -⟩ := blk3 ((hq.block _ (Array.getElem?_eq_some_iff.1 Hg10.out).1).trans Hg10.out)
      exact ⟨k0, k1, k2⟩
    have HKg12 : Hid (∀ wq, Below w10.heap.size w10 wq → wq.cell? ⟨g12, 0, none⟩ = some (.int .i64 a) ∧ wq.cell? ⟨g12, 1, none⟩ = some (.int .i64 b) ∧ wq.cell? ⟨g12, 2, none⟩ = some (.slice a6 n c6)) := Lib.hid fun wq hq => by
      obtain ⟨k0, k1, k2, -, -, -⟩ := blk3 ((hq.block _ (Array.getElem?_eq_some_iff.1 Hg12.out).1).trans Hg12.out)
      exact ⟨k0, k1, k2⟩
    have HKg14 : Hid (∀ wq, Below w10.heap.size w10 wq → wq.cell? ⟨g14, 0, none⟩ = some (.int .i64 a) ∧ wq.cell? ⟨g14, 1, none⟩ = some (.int .i64 b) ∧ wq.cell? ⟨g14, 2, none⟩ = some (.slice a7 n c7)) := Lib.hid fun wq hq => by
      obtain ⟨k0, k1, k2, -, -, -⟩ := blk3 ((hq.block _ (Array.getElem?_eq_some_iff.1 Hg14.out).1).trans Hg14.out)
      exact ⟨k0, k1, k2⟩
    obtain ⟨bq, oq, cq', hvq, -, hbq, hcq⟩ := OQ.out.rd.at_block (by rw [HLA.out, HN.out]; omega)
    obtain ⟨rfl, rfl⟩ : aq = some ⟨bq, oq, none⟩ ∧ cq = cq' := by injection hvq with e1 e2 e3; exact ⟨e1, e3⟩
    have HCQ : Hid (∀ k, k < n → w10.cell? ⟨bq, oq + k, none⟩ = some (.float .f32 (A.getD k 0))) := Lib.hid fun k hk => by
      obtain ⟨r, hr, hf⟩ := hcq k (by rw [HLA.out, HN.out]; exact hk)
      rw [← fv_wordS hf (HNN.out k)]
      exact hr
    obtain ⟨be, oe, ce', hve, -, hbe, hce⟩ := OE.out.rd.at_block (by rw [List.length_replicate, HN.out]; omega)
    obtain ⟨rfl, rfl⟩ : a6 = some ⟨be, oe, none⟩ ∧ c6 = ce' := by injection hve with e1 e2 e3; exact ⟨e1, e3⟩
    have HCE : Hid (∀ k, k < n → w10.cell? ⟨be, oe + k, none⟩ = some (.float .f32 0)) := Lib.hid fun k hk => by
      obtain ⟨r, hr, hf⟩ := hce k (by rw [List.length_replicate, HN.out]; exact hk)
      rw [rep_at _ _ _ (by rw [HN.out]; exact hk)] at hf
      rw [← fv_wordS hf (by decide +kernel)]
      exact hr
    clear hvq hcq hve hce
    have hqi := HQI.out
    go_wp2_with fail
    clear hqi
    refine region_rel_all (by kernel_rfl) (by kernel_rfl) (Below w10.heap.size w10) (fun f _ v => v = (if f = 17 then .int .i64 (o : Int) else .bool true)) (Below.drewN (Below.refl _ _) 1) ?_
    iterate 27 (refine wpRel_under rfl rfl (fun wq hq K hK => ?_); go_wp2)
    refine wpRel_under rfl rfl (fun wq hq K hK => ?_); obtain ⟨k0, k1, k2⟩ := HKg10.out wq hq; go_wp2; clear k0 k1 k2
    refine wpRel_under rfl rfl (fun wq hq K hK => ?_); obtain ⟨k0, k1, k2⟩ := HKg8.out wq hq; go_wp2; clear k0 k1 k2
    refine wpRel_callG #[.agg #[.int .i64 a, .int .i64 b, .slice a5 n c5], .agg #[.int .i64 a, .int .i64 b, .slice a4 n c4]] rfl Try.func15 (by kernel_rfl) (by kernel_rfl) (by simp [go_sem]) ⟨w10, Below.refl _ _⟩ ⟨_, rfl⟩
      (fun wq hq => (sameSection_any wq a b _ _ (List.replicate (a * b) 1069547520) (List.replicate (a * b) 1069547520) (OS.out.rd.mono hq) (OF.out.rd.mono hq) (by rw [List.length_replicate, HN.out]; omega) (by rw [List.length_replicate, HN.out]; omega)).mono fun e w'' ⟨he, hb⟩ => ⟨_, he, by rw [sameL_self, if_neg (show ¬ 15 = 17 by decide)], hq.trans (hb.mono hq.size)⟩) ?_
    rintro u rfl
    rw [if_neg (show ¬ 15 = 17 by decide)]
    simp only [Act.put, List.setIfInBounds_toArray, List.set_cons_succ, List.set_cons_zero]
    iterate 3 (refine wpRel_under rfl rfl (fun wq hq K hK => ?_); go_wp2)
    refine wpRel_under rfl rfl (fun wq hq K hK => ?_); have k0 := HKg14.out wq hq; go_wp2
    refine wpRel_under rfl rfl (fun wq hq K hK => ?_); obtain ⟨k0, k1, k2⟩ := HKg14.out wq hq; go_wp2; clear k0 k1 k2
    refine wpRel_under rfl rfl (fun wq hq K hK => ?_); have k0 := HKg7.out wq hq; go_wp2
    refine wpRel_under rfl rfl (fun wq hq K hK => ?_); obtain ⟨k0, k1, k2⟩ := HKg7.out wq hq; go_wp2; clear k0 k1 k2
    refine wpRel_callG #[.slice a7 n c7, .slice (some ⟨bq, oq, none⟩) n cq] rfl Try.func16 (by kernel_rfl) (by kernel_rfl) (by simp [go_sem]) ⟨w10, Below.refl _ _⟩ ⟨_, rfl⟩
      (fun wq hq => (r8Equal_any wq _ _ A (OKp.out.rd.mono hq) (OQ.out.rd.mono hq) (by rw [HLA.out, HN.out]; omega) (fun j _ => HNN.out j)).mono fun e w'' ⟨he, m, hm⟩ => ⟨_, he, by rw [if_neg (show ¬ 16 = 17 by decide)], hq.trans (by rw [hm]; exact Below.drewN (Below.mono (Below.refl _ _) hq.size) m)⟩) ?_
    rintro u rfl
    rw [if_neg (show ¬ 16 = 17 by decide)]
    simp only [Act.put, List.setIfInBounds_toArray, List.set_cons_succ, List.set_cons_zero]
    iterate 3 (refine wpRel_under rfl rfl (fun wq hq K hK => ?_); go_wp2)
    refine wpRel_under rfl rfl (fun wq hq K hK => ?_); go_wp2
    refine wpRel_under rfl rfl (fun wq hq K hK => ?_); obtain ⟨k0, k1, k2⟩ := HKg12.out wq hq; go_wp2; clear k0 k1 k2
    refine wpRel_under rfl rfl (fun wq hq K hK => ?_); go_wp2
    refine wpRel_under rfl rfl (fun wq hq K hK => ?_); go_wp2
    refine wpRel_under rfl rfl (fun wq hq K hK => ?_); obtain ⟨k0, k1, k2⟩ := HKg8.out wq hq; go_wp2; clear k0 k1 k2
    iterate 4 (refine wpRel_under rfl rfl (fun wq hq K hK => ?_); go_wp2)
    iterate 10 (refine wpRel_under rfl rfl (fun wq hq K hK => ?_); go_wp2)
    refine wpRel_under rfl rfl (fun wq hq K hK => ?_); go_wp2
    refine wpRel_under rfl rfl (fun wq hq K hK => ?_); have hone := HR9.out; go_wp2
    iterate 2 (refine wpRel_under rfl rfl (fun wq hq K hK => ?_); go_wp2)
    refine wpRel_under rfl rfl (fun wq hq K hK => ?_); go_wp2
    refine wpRel_under rfl rfl (fun wq hq K hK => ?_); obtain ⟨k0, k1, k2⟩ := HKg7.out wq hq; go_wp2; clear k0 k1 k2
    iterate 3 (refine wpRel_under rfl rfl (fun wq hq K hK => ?_); go_wp2)
    refine wpRel_under rfl rfl (fun wq hq K hK => ?_); have hqi := HQI.out; go_wp2
    iterate 2 (refine wpRel_under rfl rfl (fun wq hq K hK => ?_); go_wp2)
    refine wpRel_under rfl rfl (fun wq hq K hK => ?_); obtain ⟨k0, k1, k2⟩ := HKg7.out wq hq; go_wp2; clear k0 k1 k2
    iterate 1 (refine wpRel_under rfl rfl (fun wq hq K hK => ?_); go_wp2)
    refine wpRel_callG #[.int .i64 ((x + q : Nat) : Int), .int .i64 n] rfl Try.func17 (by kernel_rfl) (by kernel_rfl) (by simp [go_sem]) ⟨w10, Below.refl _ _⟩ ⟨_, rfl⟩
      (fun wq hq => (r8In_any wq (x + q) n HXQ.out).mono fun e w'' ⟨he, hw⟩ => ⟨_, he, by rw [if_pos rfl, HXQ2.out], by rw [hw]; exact hq⟩) ?_
    rintro u rfl
    rw [if_pos rfl]
    simp only [Act.put, List.setIfInBounds_toArray, List.set_cons_succ, List.set_cons_zero]
    refine wpRel_under rfl rfl (fun wq hq K hK => ?_); have hxq : o < n := (by rw [← HXQ2.out]; exact HXQ.out); go_wp2
    refine wpRel_under rfl rfl (fun wq hq K hK => ?_); have k0 : wq.cell? ⟨bq, oq + o, none⟩ = some (.float .f32 mo) := (by rw [← HMO.out]; exact ((bcell hq).1 bq (oq + o) hbq).trans (HCQ.out _ (by rw [← HXQ2.out]; exact HXQ.out))); go_wp2
    refine wpRel_under rfl rfl (fun wq hq K hK => ?_); go_wp2
    refine wpRel_under rfl rfl (fun wq hq K hK => ?_); have hmm := HMM.out; go_wp2
    refine wpRel_under rfl rfl (fun wq hq K hK => ?_); go_wp2
    refine wpRel_nil ?_
    intro wd hbd
    have HBD := Lib.hid (HB.out.trans (hbd.mono HB.out.size))
    have HKS : Hid (∀ q : Nat, (wd.drewN q).cell? ⟨g7, 2, none⟩ = some (.slice (some ⟨bq, oq, none⟩) n cq) ∧ (wd.drewN q).cell? ⟨g12, 2, none⟩ = some (.slice (some ⟨be, oe, none⟩) n c6)) := Lib.hid fun q => ⟨(HKg7.out wd hbd).2.2, (HKg12.out wd hbd).2.2⟩
    have HCS : Hid (∀ q k : Nat, k < n → (wd.drewN q).cell? ⟨bq, oq + k, none⟩ = some (.float .f32 (A.getD k 0)) ∧ (wd.drewN q).cell? ⟨be, oe + k, none⟩ = some (.float .f32 0)) := Lib.hid fun q k hk => ⟨((bcell hbd).1 bq (oq + k) hbq).trans (HCQ.out k hk), ((bcell hbd).1 be (oe + k) hbe).trans (HCE.out k hk)⟩
    clear hbd HB HKg7 HKg8 HKg10 HKg12 HKg14 HCQ HCE OQ OF OS OE OKp OC
    go_wp2_with fail
    go_loopw [26] (fun i wr => ∃ k q : Nat, k ≤ n ∧ i = .int .i64 k ∧ wr = wd.drewN q) (fun i _ => n - (intOf i).toNat)
    case atStart => exact ⟨0, 0, Nat.zero_le _, rfl, rfl⟩
    case round =>
      obtain ⟨wi, rfl⟩ : ∃ wi : World, wi = wr := ⟨_, rfl⟩
      obtain ⟨k, q5, hk, rfl, hq5⟩ := hrel
      obtain ⟨k0, k1⟩ : wi.cell? ⟨g7, 2, none⟩ = some (.slice (some ⟨bq, oq, none⟩) n cq) ∧ wi.cell? ⟨g12, 2, none⟩ = some (.slice (some ⟨be, oe, none⟩) n c6) := by rw [hq5]; exact HKS.out q5
      have Hq := Lib.hid hq5
      by_cases hlt : k < n
      · obtain ⟨k2, ez, k3, h00⟩ : wi.cell? ⟨bq, oq + k, none⟩ = some (.float .f32 (A.getD k 0)) ∧ ∃ ez, wi.cell? ⟨be, oe + k, none⟩ = some (.float .f32 ez) ∧ FloatKind.f32.format.order ez 0 = some .eq := by rw [hq5]; exact ⟨(HCS.out q5 k hlt).1, 0, (HCS.out q5 k hlt).2, by decide +kernel⟩
        obtain ⟨m1, m2, M1, M2, hgt⟩ := HMax.out k (by rw [HN.out]; exact hlt)
        rw [HMO.out] at M2
        clear hq5
        generalize A.getD k 0 = s at *
        have hns : ∀ wq : World, (Op.unary .neg (.float .f32 s)).run Try.prog wq = .ok (.float .f32 (s ^^^ 2147483648)) wq := fun wq => run_negF wq s
        have hnm : ∀ wq : World, (Op.unary .neg (.float .f32 mo)).run Try.prog wq = .ok (.float .f32 (mo ^^^ 2147483648)) wq := fun wq => run_negF wq mo
        have hx1 : ∀ wq : World, (Builtin.max_ #[31, 31] 31 #[.float .f32 s, .float .f32 (s ^^^ 2147483648)]).run Try.prog wq = .ok (.float .f32 m1) wq := fun wq => run_maxOf wq M1
        have hx2 : ∀ wq : World, (Builtin.max_ #[31, 31] 31 #[.float .f32 mo, .float .f32 (mo ^^^ 2147483648)]).run Try.prog wq = .ok (.float .f32 m2) wq := fun wq => run_maxOf wq M2
        clear M1 M2
        generalize s ^^^ 2147483648 = ns at *
        generalize mo ^^^ 2147483648 = nm at *
        all_goals
          go_wp2
          refine region_rel_all (by kernel_rfl) (by kernel_rfl) (Drawn wi) (fun _ _ _ => False) ⟨1, rfl⟩ ?_
          repeat (refine wpRel_draw rfl rfl (fun nq K hK => ?_); go_wp2)
          refine wpRel_nil ?_
          rintro wd' ⟨nd, hwd⟩
          have Hwd := Lib.hid hwd
          clear hwd k0 k1 k2 k3
          go_wp2
          exact ⟨⟨k + 1, q5 + nd, by omega, by go_num, by rw [Hwd.out, Hq.out, World.drewN_drewN]⟩, by simp [intOf]; omega⟩
      · have HF := Lib.hid (show Below w.heap.size w wi from by rw [hq5]; exact Below.drewN HBD.out q5)
        clear hq5
        go_wp2
        go_ret
        exact TrueB.mk HF.out
end Go.Proofs.Ytjhbcnmkamkkaaa
