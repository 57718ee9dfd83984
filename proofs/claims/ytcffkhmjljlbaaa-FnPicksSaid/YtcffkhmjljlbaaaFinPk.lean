/- FnPicks: the walk of the law. -/
import Derived.Test.YtcffkhmjljlbaaaBs
import Derived.Test.YtcffkhmjljlbaaaPf
import Derived.Test.YtcffkhmjljlbaaaTru
namespace Go.Proofs.Ytcffkhmjljlbaaa
open Go Go.RowKit

theorem rd_zeros {w : World} {g : Nat} (h : w.heap[g]? = some (.cells #[.float .f32 0, .float .f32 0, .float .f32 0, .float .f32 0] 27 (0, 0))) : RdF w (.slice (some ⟨g, 0, none⟩) 4 4) [0, 0, 0, 0] := by
  refine ⟨some ⟨g, 0, none⟩, 4, rfl, Nat.le_refl _, (fun h => by cases h), fun j hj => ?_⟩
  have hj4 : j < 4 := by simpa using hj
  refine ⟨g, 0, .float .f32 0, rfl, ?_, 0, rfl, ?_⟩
  · rw [Nat.zero_add, cell_of_row w g j _ _ _ h]
    match j, hj4 with
    | 0, _ => rfl
    | 1, _ => rfl
    | 2, _ => rfl
    | 3, _ => rfl
  · match j, hj4 with
    | 0, _ => exact fv0 _
    | 1, _ => exact fv0 _
    | 2, _ => exact fv0 _
    | 3, _ => exact fv0 _
theorem fv_two : FV .f32 1073741824 1073741824 := ⟨by decide, by decide +kernel⟩
theorem fv_quarter : FV .f32 1048576000 1048576000 := ⟨by decide, by decide +kernel⟩
theorem rd_twos {w : World} {g : Nat} (h : w.heap[g]? = some (.cells #[.float .f32 1073741824, .float .f32 1073741824, .float .f32 1073741824] 27 (0, 0))) : RdF w (.slice (some ⟨g, 0, none⟩) 3 3) [1073741824, 1073741824, 1073741824] := by
  refine ⟨some ⟨g, 0, none⟩, 3, rfl, Nat.le_refl _, (fun h => by cases h), fun j hj => ?_⟩
  have hj4 : j < 3 := by simpa using hj
  refine ⟨g, 0, .float .f32 1073741824, rfl, ?_, 1073741824, rfl, ?_⟩
  · rw [Nat.zero_add, cell_of_row w g j _ _ _ h]
    match j, hj4 with
    | 0, _ => rfl
    | 1, _ => rfl
    | 2, _ => rfl
  · match j, hj4 with
    | 0, _ => exact fv_two
    | 1, _ => exact fv_two
    | 2, _ => exact fv_two
theorem Ln_snoc (j : Nat) : Ln j false ++ [1048576000] = Ln (j + 1) false := by
  unfold Ln
  simp [List.replicate_succ']
theorem Ln_full (q : Nat) : Ln q false ++ [1073741824, 1073741824, 1073741824] = Ln q true := by
  unfold Ln
  simp

set_option maxRecDepth 100000 in
set_option maxHeartbeats 4000000 in
theorem lawPicks_any (w : World) (v1 v2 : Value) (n1 n2 : Nat) (h1 : RdY w v1 n1) (h2 : RdY w v2 n2) (m1 : n1 ≤ maxLen) (m2 : n2 ≤ maxLen) :
    Calls Try.prog 3 #[v1, v2] w (TrueB w) := by
  have H1 := Lib.hid h1
  have H2 := Lib.hid h2
  obtain ⟨a1, c1, rfl, -, -⟩ := h1.opened
  obtain ⟨a2, c2, rfl, -, -⟩ := h2.opened
  have HL := Lib.hid (b10Long_any w a1 a2 n1 n2 c1 c2 m1 m2)
  clear h1 h2 m1 m2
  cases hq : decide (1048576 < n1) || decide (1048576 < n2) with
  | true =>
    rw [hq] at HL
    clear hq
    go_enter Try.func3, Try.ntmps3
    go_wp2_with fail
    refine HL.out.mono ?_
    rintro e w1 ⟨rfl, hw1⟩
    obtain rfl : w = w1 := hw1.symm
    go_wp2
    go_ret
    exact TrueB.mk (Below.refl _ _)
  | false =>
    rw [hq] at HL
    have l1 : n1 ≤ 1048576 := by simp at hq; omega
    have l2 : n2 ≤ 1048576 := by simp at hq; omega
    clear hq
    go_enter Try.func3, Try.ntmps3
    go_wp2_with fail
    refine HL.out.mono ?_
    rintro e w0 ⟨rfl, hw0⟩
    obtain rfl : w = w0 := hw0.symm
    clear HL hw0
    go_wp2_with fail
    refine (b10Trace_any w _ n1 H1.out l1).mono ?_
    rintro e w1 ⟨va, s, rfl, hs, oa, b1⟩
    have HS := Lib.hid hs
    have OA := Lib.hid oa
    have z1 := b1.size
    have C1 := Lib.hid b1
    have hsl : s.F.length = 6 := rfl
    obtain ⟨ga, ca, hva, -, -, -⟩ := oa.at_block (n := 6) rfl (by decide)
    subst hva
    clear hs oa b1
    go_wp2_with fail
    refine (b10At_any w1 _ n2 0 5 (H2.out.mono C1.out) l2 (by decide) (by decide) (by decide) (by decide)).mono ?_
    rintro e w2 ⟨t', rfl, ht0, ht1, hw2⟩
    obtain rfl : w1 = w2 := hw2.symm
    obtain ⟨t, rfl⟩ : ∃ t : Nat, t' = t := ⟨t'.toNat, by omega⟩
    clear hw2
    have x2 : Below w1.heap.size w1 (w1.alloc (.cells #[] 27)) := (Below.refl _ _).alloc (Nat.le_refl _) _
    have OE : Hid (OwnF (w1.alloc (.cells #[] 27)) w1.heap.size (.slice (some ⟨w1.heap.size, 0, none⟩) 0 0) []) := Lib.hid ⟨[], rfl, fun j hj => (by cases hj), World.ownsRow_lit w1 #[] 0 (Nat.le_refl _) (by decide) rfl⟩
    have RA := Lib.hid (OA.out.rd.mono x2)
    have X2 := Lib.hid x2
    clear x2
    go_wp2_with (first | (at_builtin; refine wpList_pushAll rfl _ _ rfl w1.heap.size _ [] rfl OE.out _ s.F rfl RA.out (by decide) (by rw [hsl]; decide) (by rw [World.size_alloc]; omega) ?_; intro v3 w3 o3 g3 b3 l3; have O3 := Lib.hid o3; have X3 := Lib.hid (Below.trans X2.out b3); clear o3 g3 b3 l3) |
      (at_builtin; go_must (refine wpList_pushAll rfl _ _ rfl w1.heap.size _ ([] ++ s.F) rfl (O3.out.kept ((Below.refl _ _).alloc (Nat.le_refl _) _)) _ [0, 0, 0, 0] rfl (rd_zeros (alloc_new _ _)) (by rw [List.nil_append, hsl]; decide) (by decide) (by have := X3.out.size; rw [World.size_alloc]; omega) ?_); intro v4 w4 o4 g4 b4 l4))
    have O4 : Hid (OwnF w4 w1.heap.size v4 s.P) := Lib.hid o4
    have X4 : Hid (Below w1.heap.size w1 w4) := Lib.hid ((X3.out.trans (((Below.refl _ _).alloc (Nat.le_refl _) _).mono X3.out.size)).trans b4)
    have C4 := Lib.hid (C1.out.trans (X4.out.mono z1))
    have hPl : s.P.length = 10 := rfl
    replace OA := Lib.hid (OA.out.kept X4.out)
    clear o4 g4 b4 l4 OE RA X2 O3 X3
    obtain ⟨o, hb1, hb2, hb3, hb4⟩ := best_is s HS.out t (by omega)
    have HB3 := Lib.hid hb3
    have HB4 := Lib.hid hb4
    have HB1 := Lib.hid hb1
    clear hb1 hb3 hb4
    have z4 := X4.out.size
    go_wp2_with fail
    refine (shiftTrace_any w4 v4 s.P t O4.out.rd (by rw [hPl]; decide) (by omega) (by omega)).mono ?_
    rintro e w5 ⟨v5, rfl, o5, b5⟩
    have O5 := Lib.hid o5
    replace O4 := Lib.hid (O4.out.kept b5)
    replace OA := Lib.hid (OA.out.kept b5)
    have C5 := Lib.hid (C4.out.trans (b5.mono C4.out.size))
    have hLl : (latF s.P (-(t : Int))).length = 10 := by unfold latF; rw [tab_length]; rfl
    clear o5 b5
    go_wp2_with fail
    refine (bestShift_any w5 v4 v5 s.P (latF s.P (-(t : Int))) 6 o O4.out.rd O5.out.rd (by rw [hPl]; decide) (by rw [hLl]; decide) (by decide) HB1.out).mono ?_
    rintro e w6 ⟨r, rfl, hr, b6⟩
    have HR : Hid (Fx 4 r s.en) := Lib.hid (HB3.out.fv hr)
    replace OA := Lib.hid (OA.out.kept b6)
    have C6 := Lib.hid (C5.out.trans (b6.mono C5.out.size))
    clear hr b6 HB3 HB1 O4 O5
    go_wp2_with fail
    refine (energyOf_any w6 _ s.F OA.out.rd (by rw [hsl]; decide)).mono ?_
    rintro e w7 ⟨x, rfl, hx, b7⟩
    have HX : Hid (Fx 4 x s.en) := Lib.hid ((s.enF HS.out).fv hx)
    have C7 := Lib.hid (C6.out.trans (b7.mono C6.out.size))
    have t1 : (FloatKind.f32.format.order r x == some Ordering.lt) = false := by
      have e : FloatKind.f32.format.order r x = some (compare s.en s.en) := Fx.order HR.out HX.out
      rw [e]; simp
    have t2 : (FloatKind.f32.format.order r x != some Ordering.eq) = false := by
      have e : FloatKind.f32.format.order r x = some (compare s.en s.en) := Fx.order HR.out HX.out
      rw [e]; simp
    have t3 : FloatKind.f32.format.order x 0 = some (compare s.en 0) := Fx.order HX.out (Fx.zero 4)
    clear hx b7 HR HX OA
    by_cases hE : 0 < s.en
    · have hsh : (o : Int) - 6 = (t : Int) := by have := HB4.out hE; omega
      have t4 : (FloatKind.f32.format.order x 0 == some Ordering.gt) = true := by rw [t3, Int.compare_eq_gt.2 hE]; rfl
      rw [hsh]
      clear hsh HB4 t3 hE
      go_wp2_with fail
      refine (b10At_any w7 _ n2 1 8 (H2.out.mono C7.out) l2 (by decide) (by decide) (by decide) (by decide)).mono ?_
      rintro e w8 ⟨p', rfl, hp0, hp1, hw8⟩
      obtain rfl : w7 = w8 := hw8.symm
      obtain ⟨p, rfl⟩ : ∃ p : Nat, p' = p := ⟨p'.toNat, by omega⟩
      clear hw8
      have z7 := C7.out.size
      have OL : Hid (OwnF (w7.alloc (.cells #[] 27)) w.heap.size (.slice (some ⟨w7.heap.size, 0, none⟩) 0 0) (Ln 0 false)) := Lib.hid ⟨[], rfl, fun j hj => (by cases hj), World.ownsRow_lit w7 #[] 0 z7 (by decide) rfl⟩
      have C8 : Hid (Below w.heap.size w (w7.alloc (.cells #[] 27))) := Lib.hid (C7.out.alloc z7 _)
      go_wp2_with fail
      go_loopw [16, 17] (fun u i wr => ∃ j : Nat, j ≤ 4 + p ∧ i = .int .i64 j ∧ OwnF wr w.heap.size u (Ln j false) ∧ Below w.heap.size w wr) (fun _ i _ => (4 + p) - (intOf i).toNat)
      case atStart => exact ⟨0, Nat.zero_le _, rfl, OL.out, C8.out⟩
      case round =>
        clear OL C8
        obtain ⟨wi, rfl⟩ : ∃ wi : World, wi = wr := ⟨_, rfl⟩
        obtain ⟨j, hj, rfl, ho, hb⟩ := hrel
        have HO := Lib.hid ho
        have HB := Lib.hid hb
        have hzi := hb.size
        clear ho hb
        by_cases hlt : j < 4 + p
        · have hlj : (Ln j false).length = j := by rw [Ln_length]; simp
          have HLJ := Lib.hid hlj
          clear hlj
          go_wp2_with (at_builtin; go_must (refine wpList_push rfl _ _ rfl w.heap.size _ (Ln j false) rfl (HO.out.kept ((Below.refl _ _).alloc (Nat.le_refl _) _)) _ _ _ 1048576000 rfl (cell_new _ _ _) fv_quarter (by rw [HLJ.out]; omega) (by rw [World.size_alloc]; omega) ?_); intro v9 w9 o9 g9 b9 _)
          refine ⟨⟨j + 1, by omega, by go_num, by rw [← Ln_snoc]; exact o9, (HB.out.alloc hzi _).trans b9⟩, by simp [intOf]; omega⟩
        · obtain rfl : j = 4 + p := by omega
          have hlj : (Ln (4 + p) false).length = 4 + p := by rw [Ln_length]; simp
          have HLJ := Lib.hid hlj
          clear hlj
          go_wp2_with (at_builtin; go_must (refine wpList_pushAll rfl _ _ rfl w.heap.size _ (Ln (4 + p) false) rfl (HO.out.kept ((Below.refl _ _).alloc (Nat.le_refl _) _)) _ [1073741824, 1073741824, 1073741824] rfl (rd_twos (alloc_new _ _)) (by rw [HLJ.out]; omega) (by decide) (by rw [World.size_alloc]; omega) ?_); intro v9 w9 o9 g9 b9 l9)
          have O9 : Hid (OwnF w9 w.heap.size v9 (Ln (4 + p) true)) := Lib.hid (by rw [← Ln_full]; exact o9)
          have C9 : Hid (Below w.heap.size w w9) := Lib.hid ((HB.out.alloc hzi _).trans b9)
          have hlt2 : (Ln (4 + p) true).length = 4 + p + 3 := by rw [Ln_length]; simp
          obtain ⟨g, cg, hv9, -, -, hcg, -, -⟩ := O9.out.at_block hlt2 (by omega)
          subst hv9
          clear o9 g9 b9 l9 HO HB
          go_wp2_with fail
          refine (pickFirst_any w9 _ (4 + p) true O9.out.rd (by omega) (by omega)).mono ?_
          rintro e w10 ⟨rfl, b10⟩
          have O10 := Lib.hid (O9.out.kept b10)
          have C10 := Lib.hid (C9.out.trans (b10.mono C9.out.size))
          have RP : Hid (RdF w10 (.slice (some ⟨g, 0, none⟩) (4 + p) cg) (Ln (4 + p) false)) := Lib.hid (by
            have := rd_part (M := Ln (4 + p) false) O10.out hlt2 0 (by rw [HLJ.out]; omega) (fun j hj => by rw [HLJ.out] at hj; rw [Nat.zero_add, Ln_q _ _ _ hj, Ln_q _ _ _ hj]) cg (by rw [HLJ.out]; omega)
            rw [HLJ.out] at this
            exact this)
          clear b10 O9 C9 hlt2
          go_wp2_with fail
          refine (pickFirst_any w10 _ (4 + p) false RP.out (by omega) (by omega)).mono ?_
          rintro e w11 ⟨rfl, b11⟩
          have C11 := Lib.hid (C10.out.trans (b11.mono C10.out.size))
          clear b11 O10 C10 RP
          go_wp2_with fail
          go_ret
          exact TrueB.mk C11.out
    · have t4 : (FloatKind.f32.format.order x 0 == some Ordering.gt) = false := by
        rw [t3]
        rcases Int.lt_or_eq_of_le (Int.not_lt.1 hE) with h | h
        · rw [Int.compare_eq_lt.2 h]; rfl
        · rw [h]; simp
      clear HB4 t3 hE
      go_wp2_with fail
      refine (b10At_any w7 _ n2 1 8 (H2.out.mono C7.out) l2 (by decide) (by decide) (by decide) (by decide)).mono ?_
      rintro e w8 ⟨p', rfl, hp0, hp1, hw8⟩
      obtain rfl : w7 = w8 := hw8.symm
      obtain ⟨p, rfl⟩ : ∃ p : Nat, p' = p := ⟨p'.toNat, by omega⟩
      clear hw8
      have z7 := C7.out.size
      have OL : Hid (OwnF (w7.alloc (.cells #[] 27)) w.heap.size (.slice (some ⟨w7.heap.size, 0, none⟩) 0 0) (Ln 0 false)) := Lib.hid ⟨[], rfl, fun j hj => (by cases hj), World.ownsRow_lit w7 #[] 0 z7 (by decide) rfl⟩
      have C8 : Hid (Below w.heap.size w (w7.alloc (.cells #[] 27))) := Lib.hid (C7.out.alloc z7 _)
      go_wp2_with fail
      go_loopw [16, 17] (fun u i wr => ∃ j : Nat, j ≤ 4 + p ∧ i = .int .i64 j ∧ OwnF wr w.heap.size u (Ln j false) ∧ Below w.heap.size w wr) (fun _ i _ => (4 + p) - (intOf i).toNat)
      case atStart => exact ⟨0, Nat.zero_le _, rfl, OL.out, C8.out⟩
      case round =>
        clear OL C8
        obtain ⟨wi, rfl⟩ : ∃ wi : World, wi = wr := ⟨_, rfl⟩
        obtain ⟨j, hj, rfl, ho, hb⟩ := hrel
        have HO := Lib.hid ho
        have HB := Lib.hid hb
        have hzi := hb.size
        clear ho hb
        by_cases hlt : j < 4 + p
        · have hlj : (Ln j false).length = j := by rw [Ln_length]; simp
          have HLJ := Lib.hid hlj
          clear hlj
          go_wp2_with (at_builtin; go_must (refine wpList_push rfl _ _ rfl w.heap.size _ (Ln j false) rfl (HO.out.kept ((Below.refl _ _).alloc (Nat.le_refl _) _)) _ _ _ 1048576000 rfl (cell_new _ _ _) fv_quarter (by rw [HLJ.out]; omega) (by rw [World.size_alloc]; omega) ?_); intro v9 w9 o9 g9 b9 _)
          refine ⟨⟨j + 1, by omega, by go_num, by rw [← Ln_snoc]; exact o9, (HB.out.alloc hzi _).trans b9⟩, by simp [intOf]; omega⟩
        · obtain rfl : j = 4 + p := by omega
          have hlj : (Ln (4 + p) false).length = 4 + p := by rw [Ln_length]; simp
          have HLJ := Lib.hid hlj
          clear hlj
          go_wp2_with (at_builtin; go_must (refine wpList_pushAll rfl _ _ rfl w.heap.size _ (Ln (4 + p) false) rfl (HO.out.kept ((Below.refl _ _).alloc (Nat.le_refl _) _)) _ [1073741824, 1073741824, 1073741824] rfl (rd_twos (alloc_new _ _)) (by rw [HLJ.out]; omega) (by decide) (by rw [World.size_alloc]; omega) ?_); intro v9 w9 o9 g9 b9 l9)
          have O9 : Hid (OwnF w9 w.heap.size v9 (Ln (4 + p) true)) := Lib.hid (by rw [← Ln_full]; exact o9)
          have C9 : Hid (Below w.heap.size w w9) := Lib.hid ((HB.out.alloc hzi _).trans b9)
          have hlt2 : (Ln (4 + p) true).length = 4 + p + 3 := by rw [Ln_length]; simp
          obtain ⟨g, cg, hv9, -, -, hcg, -, -⟩ := O9.out.at_block hlt2 (by omega)
          subst hv9
          clear o9 g9 b9 l9 HO HB
          go_wp2_with fail
          refine (pickFirst_any w9 _ (4 + p) true O9.out.rd (by omega) (by omega)).mono ?_
          rintro e w10 ⟨rfl, b10⟩
          have O10 := Lib.hid (O9.out.kept b10)
          have C10 := Lib.hid (C9.out.trans (b10.mono C9.out.size))
          have RP : Hid (RdF w10 (.slice (some ⟨g, 0, none⟩) (4 + p) cg) (Ln (4 + p) false)) := Lib.hid (by
            have := rd_part (M := Ln (4 + p) false) O10.out hlt2 0 (by rw [HLJ.out]; omega) (fun j hj => by rw [HLJ.out] at hj; rw [Nat.zero_add, Ln_q _ _ _ hj, Ln_q _ _ _ hj]) cg (by rw [HLJ.out]; omega)
            rw [HLJ.out] at this
            exact this)
          clear b10 O9 C9 hlt2
          go_wp2_with fail
          refine (pickFirst_any w10 _ (4 + p) false RP.out (by omega) (by omega)).mono ?_
          rintro e w11 ⟨rfl, b11⟩
          have C11 := Lib.hid (C10.out.trans (b11.mono C10.out.size))
          clear b11 O10 C10 RP
          go_wp2_with fail
          go_ret
          exact TrueB.mk C11.out
end Go.Proofs.Ytcffkhmjljlbaaa
