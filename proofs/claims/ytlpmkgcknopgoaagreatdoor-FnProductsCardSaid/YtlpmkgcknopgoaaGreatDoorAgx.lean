/- Walks: the program's angle of a point, as a class. -/
import Derived.Test.YtlpmkgcknopgoaaGreatDoorAgw
namespace Go.Proofs.YtlpmkgcknopgoaaGreatDoor
open Go Go.RowKit

theorem cwide_lt (x : Nat) : cwide x < 18446744073709551616 := by
  unfold cwide
  split
  · decide
  · exact Ieee.double.write_lt _
theorem rd_pair {w : World} {g r s x y : Nat} (hg : w.heap[g]? = some (.cells #[.float .f32 r, .float .f32 s] 28 (0, 0))) (hr : FV .f32 r x) (hs : FV .f32 s y) : RdF w (.slice (some ⟨g, 0, none⟩) 2 2) [x, y] := by
  refine ⟨some ⟨g, 0, none⟩, 2, rfl, Nat.le_refl _, (fun h => by cases h), fun j hj => ?_⟩
  have hj4 : j < 2 := by simpa using hj
  match j, hj4 with
  | 0, _ => exact ⟨g, 0, .float .f32 r, rfl, by rw [cell_of_row w g 0 _ _ _ hg]; rfl, r, rfl, hr⟩
  | 1, _ => exact ⟨g, 0, .float .f32 s, rfl, by rw [cell_of_row w g 1 _ _ _ hg]; rfl, s, rfl, hs⟩
set_option maxRecDepth 100000 in
set_option maxHeartbeats 6400000 in
theorem angle_fine (w : World) (a b : Nat) (h : AngOk a b) (ca : FV .f32 a a) (cb : FV .f32 b b) (hfin : allB (fin .f32) [b, a] = true)
    (hz : (FloatKind.f32.format.order b 0 == some Ordering.eq && FloatKind.f32.format.order a 0 == some Ordering.eq) = false) :
    Calls Tryz.prog 34 #[.float .f32 a, .float .f32 b] w fun e w' => e = .returned (.float .f32 (nrw (angZ a b))) ∧ Below w.heap.size w w' := by
  obtain ⟨na, nb, q, t⟩ := h
  have hwa := fun wq => run_wideF (P := Tryz.prog) 28 46 (by kernel_rfl) (by kernel_rfl) wq a na
  have hwb := fun wq => run_wideF (P := Tryz.prog) 28 46 (by kernel_rfl) (by kernel_rfl) wq b nb
  have HA := Lib.hid (fun wq => mathAbs_any wq (cwide a) (cwide_lt a))
  have HB := Lib.hid (fun wq => mathAbs_any wq (cwide b) (cwide_lt b))
  obtain ⟨-, -, -, f3, o0, o1, o2⟩ := agI_fd t
  have HE := Lib.hid (ag_end f3)
  have hq := fun wq ty => run_fineK (P := Tryz.prog) .f64 .quo (by simp) wq ty (absW (cwide a)) (absW (cwide b)) q
  have HT : Hid (agT (absW (cwide a)) (absW (cwide b)) = if gtB (absW (cwide a)) (absW (cwide b)) then fop .quo .f64 (absW (cwide b)) (absW (cwide a)) else fop .quo .f64 (absW (cwide a)) (absW (cwide b))) := Lib.hid rfl
  have HN := Lib.hid t.notNan
  have hHZ : Hid (angZ a b = agQ3 (FloatKind.f32.format.order a 0 == some .lt) (agQ2 (FloatKind.f32.format.order b 0 == some .lt) (agQ1 (gtB (absW (cwide a)) (absW (cwide b))) (agZ (agI (agT (absW (cwide a)) (absW (cwide b))) 3))))) := Lib.hid rfl
  have hgt : (FloatKind.f64.format.order (absW (cwide a)) (absW (cwide b)) == some Ordering.gt) = gtB (absW (cwide a)) (absW (cwide b)) := rfl
  have HO0 := Lib.hid o0
  have HO1 := Lib.hid o1
  have HO2 := Lib.hid o2
  have CA := Lib.hid ca
  have CB := Lib.hid cb
  clear f3 o0 o1 o2 q t na nb ca cb
  generalize absW (cwide a) = X at *
  generalize absW (cwide b) = Y at *
  generalize cwide a = a2 at *
  generalize cwide b = b2 at *
  generalize fop .quo .f64 X Y = T0 at *
  generalize agT X Y = T at *
  obtain ⟨la, hla⟩ : ∃ u, (FloatKind.f32.format.order a 0 == some Ordering.lt) = u := ⟨_, rfl⟩
  obtain ⟨lb, hlb⟩ : ∃ u, (FloatKind.f32.format.order b 0 == some Ordering.lt) = u := ⟨_, rfl⟩
  obtain ⟨ea, hea⟩ : ∃ u, (FloatKind.f32.format.order a 0 == some Ordering.eq) = u := ⟨_, rfl⟩
  obtain ⟨eb, heb⟩ : ∃ u, (FloatKind.f32.format.order b 0 == some Ordering.eq) = u := ⟨_, rfl⟩
  obtain ⟨g, hg⟩ : ∃ u, gtB X Y = u := ⟨_, rfl⟩
  rw [hla, hlb, hg] at hHZ
  rw [hg] at hgt HT
  rw [hea, heb] at hz
  have hTq : g = true → ∀ wq ty, (binOp .quo ty (.float .f64 Y) (.float .f64 X)).run Tryz.prog wq = .ok (.float .f64 T) wq := fun hl wq ty => by
    rw [HT.out, hl, if_pos rfl]
    exact run_fineK (P := Tryz.prog) .f64 .quo (by simp) wq ty _ _ (by have := HN.out; rw [HT.out, hl, if_pos rfl] at this; exact this)
  have hT0 : g = false → T0 = T := fun hl => by rw [HT.out, hl]; rfl
  clear HN HT hg
  obtain ⟨u0, hu0⟩ : ∃ u, agM (agI T 3) = u := ⟨_, rfl⟩
  obtain ⟨t3, ht3⟩ : ∃ u, agI T 3 = u := ⟨_, rfl⟩
  rw [ht3] at hu0
  have HT3 := Lib.hid ht3
  have HU0 := Lib.hid hu0
  rw [ht3] at HE hHZ
  clear ht3 hu0
  have steps : Hid (∀ j, j < 3 → AgOk (agI T j)) := Lib.hid fun j hj => by
    match j, hj with
    | 0, _ => exact HO0.out
    | 1, _ => exact HO1.out
    | 2, _ => exact HO2.out
  clear HO0 HO1 HO2
  have sq := fun (x : Nat) (hx : (FloatKind.f64.format.sqrt x).isSome = true) (wq : World) => mathSqrt_any wq x hx
  have SQ := Lib.hid sq
  clear sq
  have HQ1 : Hid (g = true → agQ1 g (agZ t3) = fop .sub .f64 4598175219545276416 (agZ t3)) := Lib.hid fun h => by rw [h]; rfl
  have HQ1f : Hid (g = false → agQ1 g (agZ t3) = agZ t3) := Lib.hid fun h => by rw [h]; rfl
  go_enter Tryz.func34, Tryz.ntmps34
  go_wp2_with fail
  have hrd := rd_pair (alloc_new w _) CB.out CA.out
  refine (areFinite_any _ _ [b, a] hrd (Nat.le_of_ble_eq_true rfl)).mono ?_
  rw [hfin]
  rintro e w1 ⟨rfl, n1, hw1⟩
  have B1 : Hid (Below w.heap.size w w1) := Lib.hid (by rw [hw1]; exact Go.Proofs.YtlpmkgcknopgoaaGreatDoor.Below.drewN ((Below.refl _ _).alloc (Nat.le_refl _) _) n1)
  clear hw1 hrd hfin CA CB
  obtain ⟨gv, hgv⟩ : ∃ gv, gv = g := ⟨_, rfl⟩
  have HGV := Lib.hid hgv
  rw [← hgv] at hHZ
  clear hgv
  cases eb <;> cases g
  all_goals
    try
      rw [Bool.true_and] at hz
      rw [hz] at hea
    clear hz
    first
      | (have hh := hT0 rfl; obtain rfl : T = T0 := hh.symm; clear hh hTq hT0)
      | (have hTt := hTq rfl; clear hTq hT0)
    go_wp2_with fail
    refine (HA.out _).mono ?_
    rintro e w2 ⟨rfl, hw2⟩
    obtain rfl : w1 = w2 := hw2.symm
    clear hw2
    go_wp2_with fail
    refine (HB.out _).mono ?_
    rintro e w2 ⟨rfl, hw2⟩
    obtain rfl : w1 = w2 := hw2.symm
    clear hw2
    go_wp2_with fail
    go_loopw [7, 42] (fun p i wr => ∃ j : Nat, j ≤ 3 ∧ i = .int .i64 (j : Int) ∧ p = .float .f64 (agI T j) ∧ wr = w1) (fun _ i _ => 3 - (intOf i).toNat)
    case atStart => exact ⟨0, Nat.zero_le _, rfl, rfl, rfl⟩
    case round =>
      obtain ⟨j, hj, rfl, rfl, hwr⟩ := hrel
      obtain rfl : w1 = wr := hwr.symm
      clear hwr
      by_cases hlt : j < 3
      · obtain ⟨s1, s2, s3, s4, s5⟩ := steps.out j hlt
        have r1 := fun wq ty => run_fineK (P := Tryz.prog) .f64 .mul (by simp) wq ty (agI T j) (agI T j) s1
        have r2 := fun wq ty => run_fineK (P := Tryz.prog) .f64 .add (by simp) wq ty oneB (agM (agI T j)) s2
        have r3 := Lib.hid (SQ.out _ s3)
        have r4 := fun wq ty => run_fineK (P := Tryz.prog) .f64 .add (by simp) wq ty oneB (agR (agI T j)) s4
        have r5 := fun wq ty => run_fineK (P := Tryz.prog) .f64 .quo (by simp) wq ty (agI T j) (agD (agI T j)) s5
        rw [show fop .mul .f64 (agI T j) (agI T j) = agM (agI T j) from rfl] at r1
        rw [show fop .add .f64 oneB (agM (agI T j)) = agS (agI T j) from rfl] at r2
        rw [show sqr (agS (agI T j)) = agR (agI T j) from rfl] at r3
        rw [show fop .add .f64 oneB (agR (agI T j)) = agD (agI T j) from rfl] at r4
        rw [show fop .quo .f64 (agI T j) (agD (agI T j)) = agI T (j + 1) from rfl] at r5
        unfold oneB at r2 r4
        obtain ⟨y5, hy5⟩ : ∃ y, agI T (j + 1) = y := ⟨_, rfl⟩
        rw [hy5] at r5
        have HY := Lib.hid hy5
        clear s1 s2 s3 s4 s5 hy5
        generalize agD (agI T j) = y4 at *
        generalize agR (agI T j) = y3 at *
        generalize agS (agI T j) = y2 at *
        generalize agM (agI T j) = y1 at *
        obtain ⟨y0, hy0⟩ : ∃ y0, agI T j = y0 := ⟨_, rfl⟩
        rw [hy0] at r1 r5
        rw [hy0]
        clear hy0
        go_wp2_with fail
        refine (r3.out _).mono ?_
        rintro e w3 ⟨rfl, hw3⟩
        obtain rfl : w1 = w3 := hw3.symm
        clear hw3 r3
        go_wp2_with fail
        exact ⟨⟨j + 1, by omega, by go_num, by rw [HY.out], trivial⟩, by simp [intOf]; omega⟩
      · obtain rfl : j = 3 := by omega
        rw [HT3.out]
        obtain ⟨e1, e2, e3, e4, e5, e6, e7, e8⟩ := HE.out gv lb la
        rw [HU0.out] at e2
        have HP := Lib.hid e2
        have r1 := fun wq ty => run_fineK (P := Tryz.prog) .f64 .mul (by simp) wq ty t3 t3 e1
        rw [show fop .mul .f64 t3 t3 = agM t3 from rfl, HU0.out] at r1
        clear e1 e2
        go_wp2_with fail
        go_loopw [9, 10] (fun p i wr => ∃ j : Nat, j ≤ 8 ∧ i = .int .i64 (15 - 2 * (j : Int)) ∧ p = .float .f64 (agP u0 j) ∧ wr = w1) (fun _ i _ => (intOf i + 1).toNat)
        case atStart => exact ⟨0, Nat.zero_le _, rfl, rfl, rfl⟩
        case round =>
          clear r1
          obtain ⟨j, hj, rfl, rfl, hwr⟩ := hrel
          obtain rfl : w1 = wr := hwr.symm
          clear hwr
          by_cases hlt : j < 8
          · obtain ⟨p1, p2, p3⟩ := HP.out j hlt
            have r1 := fun wq ty => run_fineK (P := Tryz.prog) .f64 .quo (by simp) wq ty oneB (floatOfInt .f64 (15 - 2 * (j : Int))) p1
            have r2 := fun wq ty => run_fineK (P := Tryz.prog) .f64 .mul (by simp) wq ty u0 (agP u0 j) p2
            have r3 := fun wq ty => run_fineK (P := Tryz.prog) .f64 .sub (by simp) wq ty (agQ j) (fop .mul .f64 u0 (agP u0 j)) p3
            rw [show fop .quo .f64 oneB (floatOfInt .f64 (15 - 2 * (j : Int))) = agQ j from rfl] at r1
            rw [show fop .sub .f64 (agQ j) (fop .mul .f64 u0 (agP u0 j)) = agP u0 (j + 1) from rfl] at r3
            unfold oneB at r1
            obtain ⟨N, hN⟩ : ∃ N : Int, 15 - 2 * (j : Int) = N := ⟨_, rfl⟩
            rw [hN] at r1
            obtain ⟨j1, hj1⟩ : ∃ j1, j + 1 = j1 := ⟨_, rfl⟩
            rw [hj1] at r3
            have HJ := Lib.hid hj1
            clear p1 p2 p3 hj1
            have hc : j = 0 ∨ j = 1 ∨ j = 2 ∨ j = 3 ∨ j = 4 ∨ j = 5 ∨ j = 6 ∨ j = 7 := by omega
            generalize fop .mul .f64 u0 (agP u0 j) = y2 at *
            generalize agQ j = y1 at *
            obtain ⟨y3, hy3⟩ : ∃ y3, agP u0 j1 = y3 := ⟨_, rfl⟩
            obtain ⟨y0, hy0⟩ : ∃ y0, agP u0 j = y0 := ⟨_, rfl⟩
            rw [hy3] at r3
            rw [hy0] at r2
            rw [hy0]
            have HY := Lib.hid hy3
            clear hy0 hy3
            rcases hc with rfl | rfl | rfl | rfl | rfl | rfl | rfl | rfl
            all_goals
              simp at hN
              subst hN
              go_wp2_with fail
              have hj1 := HJ.out
              exact ⟨⟨j1, by omega, by congr 1; omega, by rw [HY.out], trivial⟩, by simp [intOf]⟩
          · obtain rfl : j = 8 := by omega
            have q1 := fun wq ty => run_fineK (P := Tryz.prog) .f64 .mul (by simp) wq ty t3 (agP u0 8) (by have := e3; unfold agX at this; rw [HU0.out] at this; exact this)
            rw [show fop .mul .f64 t3 (agP u0 8) = agX t3 by unfold agX; rw [HU0.out]] at q1
            have q2 := fun wq ty => run_fineK (P := Tryz.prog) .f64 .mul (by simp) wq ty 4620693217682128896 (agX t3) e4
            rw [show fop .mul .f64 4620693217682128896 (agX t3) = agY t3 from rfl] at q2
            have q3 := fun wq ty => run_fineK (P := Tryz.prog) .f64 .quo (by simp) wq ty (agY t3) 4618760256179416344 e5
            rw [show fop .quo .f64 (agY t3) 4618760256179416344 = agZ t3 from rfl] at q3
            have HGVt : Hid (gv = true → (∀ wq ty, (binOp .sub ty (.float .f64 4598175219545276416) (.float .f64 (agZ t3))).run Tryz.prog wq = .ok (.float .f64 (agQ1 gv (agZ t3))) wq)) := Lib.hid fun h wq ty => by
              rw [h] at e6 ⊢
              exact run_fineK (P := Tryz.prog) .f64 .sub (by simp) wq ty _ _ e6
            have HGVf : Hid (gv = false → agQ1 gv (agZ t3) = agZ t3) := Lib.hid fun h => by rw [h]; rfl
            have HLBt : Hid (lb = true → (∀ wq ty, (binOp .sub ty (.float .f64 4602678819172646912) (.float .f64 (agQ1 gv (agZ t3)))).run Tryz.prog wq = .ok (.float .f64 (agQ2 lb (agQ1 gv (agZ t3)))) wq)) := Lib.hid fun h wq ty => by
              rw [h] at e7 ⊢
              exact run_fineK (P := Tryz.prog) .f64 .sub (by simp) wq ty _ _ e7
            have HLBf : Hid (lb = false → agQ2 lb (agQ1 gv (agZ t3)) = agQ1 gv (agZ t3)) := Lib.hid fun h => by rw [h]; rfl
            have HN8 := Lib.hid (fun wq => run_narrowF (P := Tryz.prog) 46 28 (by kernel_rfl) (by kernel_rfl) wq _ e8)
            clear e3 e4 e5 e6 e7 e8 HP
            generalize agQ2 lb (agQ1 gv (agZ t3)) = z2 at *
            generalize agQ1 gv (agZ t3) = z1 at *
            generalize agZ t3 = z0 at *
            generalize agY t3 = y0 at *
            generalize agX t3 = x0 at *
            generalize agP u0 8 = p8 at *
            first
              | (have hh := HGVf.out HGV.out; obtain rfl : z1 = z0 := hh; clear HGVt HGVf)
              | (have hgs := HGVt.out HGV.out; clear HGVt HGVf)
            cases lb
            all_goals
              first
                | (have hh := HLBf.out rfl; obtain rfl : z2 = z1 := hh; clear HLBt HLBf)
                | (have hls := HLBt.out rfl; clear HLBt HLBf)
              cases la
              all_goals
                have hn8 := HN8.out
                have hng : ∀ wq : World, (Op.unary .neg (.float .f64 z2)).run Tryz.prog wq = .ok (.float .f64 (ngF .f64 z2)) wq := fun wq => run_ngF .f64 wq z2
                have hHZ2 := hHZ.out
                unfold agQ3 at hn8 hHZ2
                simp only [if_true, Bool.false_eq_true, if_false] at hn8 hHZ2
                have hHZ3 := Lib.hid hHZ2
                clear hHZ2
                go_wp2_with fail
                go_ret
                exact ⟨by rw [hHZ3.out]; rfl, B1.out⟩
theorem rq_of_fin {x : Nat} (h : fin .f32 x = true) : ∃ q, RQ .f32 x q := by
  unfold fin FloatKind.decode at h
  cases hd : FloatKind.f32.format.read x with
  | number s m e => exact ⟨_, s, m, e, hd, rfl⟩
  | infinity s => rw [hd] at h; cases h
  | nan s t => rw [hd] at h; cases h
theorem zero_rq : RQ .f32 0 0 := ⟨false, 0, -149, by decide +kernel, by decide +kernel⟩
theorem nrw_cls {y : Nat} (h : nrwOk y = true) : FV .f32 (nrw y) (nrw y) := by
  unfold nrwOk at h
  unfold nrw
  cases hd : FloatKind.f64.decode y with
  | number s m e => exact ⟨Ieee.single.write_lt _, can_of_not (write_not_nan Ieee.single _ rfl)⟩
  | infinity s => rw [hd] at h; cases h
  | nan s t => rw [hd] at h; cases h
/-- The angle as a class. -/
def angC (a b : Nat) : Nat :=
  if allB (fin .f32) [b, a] then (if FloatKind.f32.format.order b 0 == some Ordering.eq && FloatKind.f32.format.order a 0 == some Ordering.eq then 0 else nrw (angZ a b)) else nanC .f32
def AngRes (a b : Nat) (w : World) (e : Ending) (w' : World) : Prop := ∃ q, e = .returned (.float .f32 q) ∧ FV .f32 q (angC a b) ∧ Below w.heap.size w w'
set_option maxRecDepth 100000 in
set_option maxHeartbeats 400000 in
theorem mathNaN_any (w : World) :
    Calls Tryz.prog 73 #[] w fun e w' => e = .returned (.float .f64 9221120237041090561) ∧ w' = w := by
  have h : (callFunc 86 #[.int .u64 9221120237041090561]).run Tryz.prog w = .ok (.value (.float .f64 9221120237041090561)) w := run_from64 w 9221120237041090561
  go_enter Tryz.func73, Tryz.ntmps73
  go_wp2
  go_ret
  exact ⟨rfl, rfl⟩
set_option maxRecDepth 100000 in
set_option maxHeartbeats 1600000 in
theorem angle_any (w : World) (r s a b : Nat) (hr : FV .f32 r a) (hs : FV .f32 s b) :
    Calls Tryz.prog 34 #[.float .f32 r, .float .f32 s] w (AngRes a b w) := by
  cases hfin : allB (fin .f32) [b, a] with
  | false =>
    have HR := Lib.hid hr
    have HS := Lib.hid hs
    have HC : Hid (angC a b = nanC .f32) := Lib.hid (by unfold angC; rw [hfin]; rfl)
    have hnc : ∀ wq : World, (convert 46 28 (.float .f64 9221120237041090561)).run Tryz.prog wq = .ok (.float .f32 (nanOf .f32 (wq.tape wq.drawn (.nanConv .f32 9221120237041090561)))) (wq.drewN 1) := fun wq => by
      have e := narrow_nan 9221120237041090561 wq (datum_nan (by decide +kernel)) (P := Tryz.prog)
      obtain ⟨u, hs'⟩ := Option.isSome_iff_exists.1 (show (Tryz.prog.underlying 46).isSome = true by kernel_rfl)
      have hd : Tryz.prog.underlying 28 = some (.float .f32) := by kernel_rfl
      cases u <;> simp [convert, run_underlying hs', run_underlying hd, e]
    clear hr hs
    go_enter Tryz.func34, Tryz.ntmps34
    go_wp2_with fail
    have hrd := rd_pair (alloc_new w _) HS.out HR.out
    refine (areFinite_any _ _ [b, a] hrd (Nat.le_of_ble_eq_true rfl)).mono ?_
    rw [hfin]
    rintro e w1 ⟨rfl, n1, hw1⟩
    have B1 : Hid (Below w.heap.size w w1) := Lib.hid (by rw [hw1]; exact Go.Proofs.YtlpmkgcknopgoaaGreatDoor.Below.drewN ((Below.refl _ _).alloc (Nat.le_refl _) _) n1)
    clear hw1 hrd hfin
    go_wp2_with fail
    refine (mathNaN_any w1).mono ?_
    rintro e w2 ⟨rfl, hw2⟩
    obtain rfl : w1 = w2 := hw2.symm
    clear hw2
    go_wp2_with fail
    go_ret
    exact ⟨_, rfl, by rw [HC.out]; exact nanOf_fv _ _, Go.Proofs.YtlpmkgcknopgoaaGreatDoor.Below.drewN B1.out 1⟩
  | true =>
    have h2 : fin .f32 b = true ∧ fin .f32 a = true := by
      unfold allB allTo at hfin
      simp at hfin
      exact ⟨hfin 0 (by decide), hfin 1 (by decide)⟩
    obtain ⟨p, hp⟩ := rq_of_fin h2.2
    obtain ⟨q, hq⟩ := rq_of_fin h2.1
    obtain rfl : r = a := hr.eq_of_not hp.notNan
    obtain rfl : s = b := hs.eq_of_not hq.notNan
    cases hz : (FloatKind.f32.format.order s 0 == some Ordering.eq && FloatKind.f32.format.order r 0 == some Ordering.eq) with
    | true =>
      have HC : Hid (angC r s = 0) := Lib.hid (by unfold angC; rw [hfin, hz]; rfl)
      have HR := Lib.hid hr
      have HS := Lib.hid hs
      have h1 : (FloatKind.f32.format.order s 0 == some Ordering.eq) = true := by simp at hz; simp [hz]
      have h2' : (FloatKind.f32.format.order r 0 == some Ordering.eq) = true := by simp at hz; simp [hz]
      clear hr hs hz h2 hp hq
      go_enter Tryz.func34, Tryz.ntmps34
      go_wp2_with fail
      have hrd := rd_pair (alloc_new w _) HS.out HR.out
      refine (areFinite_any _ _ [s, r] hrd (Nat.le_of_ble_eq_true rfl)).mono ?_
      rw [hfin]
      rintro e w1 ⟨rfl, n1, hw1⟩
      have B1 : Hid (Below w.heap.size w w1) := Lib.hid (by rw [hw1]; exact Go.Proofs.YtlpmkgcknopgoaaGreatDoor.Below.drewN ((Below.refl _ _).alloc (Nat.le_refl _) _) n1)
      clear hw1 hrd hfin
      go_wp2_with fail
      go_ret
      exact ⟨_, rfl, by rw [HC.out]; exact fv0 _, B1.out⟩
    | false =>
      have h0 : ¬ (p = 0 ∧ q = 0) := by
        rintro ⟨rfl, rfl⟩
        rw [hp.order zero_rq, hq.order zero_rq] at hz
        simp at hz
      have hok := ang_ok hp hq h0
      have HC : angC r s = nrw (angZ r s) := by unfold angC; rw [hfin, hz]; rfl
      refine (angle_fine w r s hok hr hs hfin hz).mono ?_
      rintro e w' ⟨rfl, hb⟩
      refine ⟨_, rfl, ?_, hb⟩
      rw [HC]
      have hnw := (ag_end (agI_fd hok.t).2.2.2.1 (gtB (absW (cwide r)) (absW (cwide s))) (FloatKind.f32.format.order s 0 == some .lt) (FloatKind.f32.format.order r 0 == some .lt)).nw
      exact nrw_cls hnw
set_option maxRecDepth 100000 in
set_option maxHeartbeats 400000 in
theorem angleOf_any (w : World) (r s a b : Nat) (hr : FV .f32 r a) (hs : FV .f32 s b) :
    Calls Tryz.prog 35 #[.complex .f32 s r] w (AngRes a b w) := by
  have HA := Lib.hid (angle_any w r s a b hr hs)
  clear hr hs
  go_enter Tryz.func35, Tryz.ntmps35
  go_wp2_with fail
  refine HA.out.mono ?_
  rintro e w1 ⟨q, rfl, hq, hb⟩
  have HQ := Lib.hid hq
  have HB := Lib.hid hb
  clear hq hb
  go_wp2
  go_ret
  exact ⟨q, rfl, HQ.out, HB.out⟩
end Go.Proofs.YtlpmkgcknopgoaaGreatDoor
