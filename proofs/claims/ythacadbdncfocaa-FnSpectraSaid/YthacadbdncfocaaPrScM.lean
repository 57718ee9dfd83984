/- Several texts in one: SpA, SpB, SpC, SpP, SpQ, SpR, SpS, SpU, SpV, FinSc, PrSc. -/
import Derived.Test.YthacadbdncfocaaFiC
import Derived.Test.YthacadbdncfocaaSpd
import Derived.Test.YthacadbdncfocaaStrB
import Derived.Test.YthacadbdncfocaaSh
import Derived.Test.YthacadbdncfocaaSpT
import Derived.Test.YthacadbdncfocaaFiQ
import Derived.Test.YthacadbdncfocaaTrD
import Derived.Test.YthacadbdncfocaaFiF
import Derived.Test.YthacadbdncfocaaTru
import Derived.Test.YthacadbdncfocaaOpnB
import Derived.Laws.Cover2
/- Walks: phasors, and the spectrum of a trace. -/
namespace Go.Proofs.Ythacadbdncfocaa
open Go Go.RowKit

set_option maxRecDepth 100000 in
set_option maxHeartbeats 3200000 in
theorem phasor_fine (w : World) (t : Nat) (h : phOk t = true) :
    Calls Try.prog 79 #[.float .f64 t] w fun e w' => e = .returned (.complex .f32 (phRe t) (phIm t)) ∧ w' = w := by
  unfold phOk phOkA phOkB at h
  simp only [Bool.and_eq_true, Bool.not_eq_true', decide_eq_true_eq] at h
  obtain ⟨⟨ht, m2, m3, m4, q1⟩, q2, q3, q4, q5, q6, q7, q8, q9⟩ := h
  have HFr := Lib.hid (fun wq => fraction_fine wq t q1)
  have HA := Lib.hid (fun wq => mathAbs_any wq _ ht)
  have hge : (FloatKind.f64.format.order (absW t) 4841369599423283200 == some Ordering.gt || FloatKind.f64.format.order (absW t) 4841369599423283200 == some Ordering.eq) = false := m4
  have k1 := fun wq ty => run_fineK (P := Try.prog) .f64 .sub (by simp) wq ty t t m2
  have k2 : (FloatKind.f64.format.order (fop .sub .f64 t t) 0 == some Ordering.eq) = true := m3
  have HRe : Hid (phRe t = nrw (phU (phR (frcF t)) (qfN (frcF t)))) := Lib.hid rfl
  have HIm : Hid (phIm t = nrw (phV (phR (frcF t)) (qfN (frcF t)))) := Lib.hid rfl
  have HR : Hid (phR (frcF t) = qfF (frcF t) (qfN (frcF t))) := Lib.hid rfl
  have HQ := qfN_le (frcF t)
  have HNr := Lib.hid (show ∀ j, j < qfN (frcF t) → geB (qfF (frcF t) j) 4598175219545276416 = true ∧ isN .f64 (qfF (frcF t) (j + 1)) = false from fun j hj => by
    unfold qfOk at q2
    simp only [Bool.and_eq_true, List.all_eq_true, Bool.not_eq_true'] at q2
    exact q2.1 j (List.mem_range.2 hj))
  have HEn := Lib.hid (show geB (qfF (frcF t) (qfN (frcF t))) 4598175219545276416 = false from by
    unfold qfOk at q2
    simp only [Bool.and_eq_true, List.all_eq_true, Bool.not_eq_true'] at q2
    exact q2.2)
  have s3 := fun wq ty => run_fineK (P := Try.prog) .f64 .sub (by simp) wq ty 4598175219545276416 (phR (frcF t)) q3
  unfold sinAOk at q4 q5
  simp only [Bool.and_eq_true] at q4 q5
  have HC := Lib.hid (fun wq => sine_fine wq _ q4.1 q4.2)
  have HS := Lib.hid (fun wq => sine_fine wq _ q5.1 q5.2)
  rw [show sinF (frcF (fop .sub .f64 4598175219545276416 (phR (frcF t)))) = phC (phR (frcF t)) from rfl] at HC
  rw [show sinF (frcF (phR (frcF t))) = phS (phR (frcF t)) from rfl] at HS
  have s6 := fun wq ty => run_fineK (P := Try.prog) .f64 .sub (by simp) wq ty 0 (phC (phR (frcF t))) q6
  have s7 := fun wq ty => run_fineK (P := Try.prog) .f64 .sub (by simp) wq ty 0 (phS (phR (frcF t))) q7
  rw [show fop .sub .f64 0 (phC (phR (frcF t))) = ng0 (phC (phR (frcF t))) from rfl] at s6
  rw [show fop .sub .f64 0 (phS (phR (frcF t))) = ng0 (phS (phR (frcF t))) from rfl] at s7
  have H8 := Lib.hid q8
  have H9 := Lib.hid q9
  have HU : Hid (∀ r q, phU r q = if q = 0 then phC r else if q = 1 then ng0 (phS r) else if q = 2 then ng0 (phC r) else phS r) := Lib.hid fun _ _ => rfl
  have HV : Hid (∀ r q, phV r q = if q = 0 then phS r else if q = 1 then phC r else if q = 2 then ng0 (phS r) else ng0 (phC r)) := Lib.hid fun _ _ => rfl
  clear m2 m3 m4 q1 q2 q3 q4 q5 q6 q7 q8 q9 ht
  generalize fop .sub .f64 t t = y0 at *
  generalize phRe t = zr at *
  generalize phIm t = zi at *
  generalize phR (frcF t) = r at *
  generalize absW t = a at *
  generalize frcF t = f at *
  have HF : Hid (∀ wq, Calls Try.prog 76 #[.float .f64 t] wq fun e w' => e = .returned (.bool true) ∧ w' = wq) := Lib.hid fun wq => by
    go_enter Try.func76, Try.ntmps76
    go_wp2
    go_ret
    exact ⟨rfl, rfl⟩
  clear k1 k2
  generalize fop .sub .f64 4598175219545276416 r = r' at *
  go_enter Try.func79, Try.ntmps79
  go_wp2_with fail
  refine (HF.out _).mono ?_
  rintro e w1 ⟨rfl, hw1⟩
  obtain rfl : w = w1 := hw1.symm
  clear hw1
  go_wp2_with fail
  refine (HA.out _).mono ?_
  rintro e w1 ⟨rfl, hw1⟩
  obtain rfl : w = w1 := hw1.symm
  clear hw1
  go_wp2_with fail
  refine (HFr.out _).mono ?_
  rintro e w1 ⟨rfl, hw1⟩
  obtain rfl : w = w1 := hw1.symm
  clear hw1 HF HA HFr hge
  go_wp2_with fail
  go_loopw [4, 5] (fun p i wr => ∃ j : Nat, j ≤ qfN f ∧ i = .int .i64 (j : Int) ∧ p = .float .f64 (qfF f j) ∧ wr = w) (fun _ i _ => 3 - (intOf i).toNat)
  case atStart => exact ⟨0, Nat.zero_le _, rfl, rfl, rfl⟩
  case round =>
    obtain ⟨j, hj, rfl, rfl, hwr⟩ := hrel
    obtain rfl : w = wr := hwr.symm
    clear hwr
    by_cases hlt : j < qfN f
    · obtain ⟨g1, g2⟩ := HNr.out j hlt
      have hg : (FloatKind.f64.format.order (qfF f j) 4598175219545276416 == some Ordering.gt || FloatKind.f64.format.order (qfF f j) 4598175219545276416 == some Ordering.eq) = true := g1
      have s1 := fun wq ty => run_fineK (P := Try.prog) .f64 .sub (by simp) wq ty (qfF f j) 4598175219545276416 g2
      rw [show fop .sub .f64 (qfF f j) 4598175219545276416 = qfF f (j + 1) from rfl] at s1
      clear g1 g2 s3 s6 s7
      obtain ⟨y1, hy1⟩ : ∃ y, qfF f (j + 1) = y := ⟨_, rfl⟩
      rw [hy1] at s1
      generalize qfF f j = y at *
      have HY := Lib.hid hy1
      clear hy1
      go_wp2
      exact ⟨⟨j + 1, by omega, by go_num, by rw [HY.out], trivial⟩, by simp [intOf]; omega⟩
    · obtain rfl : j = qfN f := by omega
      have hg : (FloatKind.f64.format.order (qfF f (qfN f)) 4598175219545276416 == some Ordering.gt || FloatKind.f64.format.order (qfF f (qfN f)) 4598175219545276416 == some Ordering.eq) = false := HEn.out
      rw [← HR.out] at hg ⊢
      clear HEn HNr HR
      have hc : qfN f = 0 ∨ qfN f = 1 ∨ qfN f = 2 ∨ qfN f = 3 := by omega
      clear hj hlt HQ
      generalize qfN f = q at *
      have h8 := H8.out
      have h9 := H9.out
      have hU := HU.out r q
      have hV := HV.out r q
      rw [hU] at h8 HRe
      rw [hV] at h9 HIm
      clear H8 H9 HU HV hU hV
      rcases hc with rfl | rfl | rfl | rfl
      all_goals
        simp at h8 h9 HRe HIm
        have n8 := fun wq => run_narrowF (P := Try.prog) 40 27 (by kernel_rfl) (by kernel_rfl) wq _ h8
        have n9 := fun wq => run_narrowF (P := Try.prog) 40 27 (by kernel_rfl) (by kernel_rfl) wq _ h9
        clear h8 h9
        rw [← HRe.out] at n8
        rw [← HIm.out] at n9
        clear HRe HIm
        go_wp2_with fail
        refine (HC.out _).mono ?_
        rintro e w1 ⟨rfl, hw1⟩
        obtain rfl : w = w1 := hw1.symm
        clear hw1
        go_wp2_with fail
        refine (HS.out _).mono ?_
        rintro e w1 ⟨rfl, hw1⟩
        obtain rfl : w = w1 := hw1.symm
        clear hw1 HC HS
        generalize phC r = c at *
        generalize phS r = s at *
        go_wp2
        go_ret
        exact ⟨rfl, rfl⟩
end Go.Proofs.Ythacadbdncfocaa

/- Walks: the spectrum of a trace. -/
namespace Go.Proofs.Ythacadbdncfocaa
open Go Go.RowKit

/-- The sum of phasors: the program's. -/
def spR (A : List Nat) (t : Nat) : Nat → Nat × Nat
  | 0 => (0, 0)
  | k + 1 => (fop .add .f32 (spR A t k).1 (fop .mul .f32 (phRe (argX k t)) (A.getD k 0)), fop .add .f32 (spR A t k).2 (fop .mul .f32 (phIm (argX k t)) (A.getD k 0)))
structure SpOk (A : List Nat) (t k : Nat) : Prop where
  ph : phOk (argX k t) = true
  arg : isN .f64 (fop .mul .f64 (floatOfInt .f64 (k : Nat)) (cwide t)) = false
  own : isN .f32 (A.getD k 0) = false
  mre : isN .f32 (fop .mul .f32 (phRe (argX k t)) (A.getD k 0)) = false
  mim : isN .f32 (fop .mul .f32 (phIm (argX k t)) (A.getD k 0)) = false
  are : isN .f32 (spR A t (k + 1)).1 = false
  aim : isN .f32 (spR A t (k + 1)).2 = false
theorem fv_sp {r x : Nat} (h : FV .f32 r x) (hx : isN .f32 x = false) : r = x := by
  have h1 := h.2
  have h2 : isN .f32 r = false := by rw [← isN_can, h1]; exact hx
  rw [can_of_not h2] at h1
  exact h1
set_option maxRecDepth 100000 in
set_option maxHeartbeats 800000 in
theorem scaleX_fine (w : World) (a b x p q : Nat) (h1 : fop .mul .f32 a x = p) (h2 : fop .mul .f32 b x = q) (n1 : isN .f32 p = false) (n2 : isN .f32 q = false) :
    Calls Try.prog 78 #[.complex .f32 a b, .float .f32 x] w fun e w' => e = .returned (.complex .f32 p q) ∧ w' = w := by
  have f1 := fun wq ty => run_fineK (P := Try.prog) .f32 .mul (by simp) wq ty a x (by rw [h1]; exact n1)
  have f2 := fun wq ty => run_fineK (P := Try.prog) .f32 .mul (by simp) wq ty b x (by rw [h2]; exact n2)
  rw [h1] at f1
  rw [h2] at f2
  clear h1 h2 n1 n2
  go_enter Try.func78, Try.ntmps78
  go_wp2
  go_ret
  exact ⟨rfl, rfl⟩
set_option maxRecDepth 100000 in
set_option maxHeartbeats 800000 in
theorem plusX_fine (w : World) (a b c d p q : Nat) (h1 : fop .add .f32 a c = p) (h2 : fop .add .f32 b d = q) (n1 : isN .f32 p = false) (n2 : isN .f32 q = false) :
    Calls Try.prog 77 #[.complex .f32 a b, .complex .f32 c d] w fun e w' => e = .returned (.complex .f32 p q) ∧ w' = w := by
  have f1 := fun wq ty => run_fineK (P := Try.prog) .f32 .add (by simp) wq ty a c (by rw [h1]; exact n1)
  have f2 := fun wq ty => run_fineK (P := Try.prog) .f32 .add (by simp) wq ty b d (by rw [h2]; exact n2)
  rw [h1] at f1
  rw [h2] at f2
  clear h1 h2 n1 n2
  go_enter Try.func77, Try.ntmps77
  go_wp2
  go_ret
  exact ⟨rfl, rfl⟩
set_option maxRecDepth 100000 in
set_option maxHeartbeats 1600000 in
theorem spectrum_any (w : World) (v : Value) (A : List Nat) (t : Nat) (h1 : RdF w v A) (hn2 : A.length ≤ 128) (ht : isN .f32 t = false) (hk : ∀ k, k < A.length → SpOk A t k) :
    Calls Try.prog 48 #[v, .float .f32 t] w fun e w' => e = .returned (.complex .f32 (spR A t A.length).1 (spR A t A.length).2) ∧ w' = w := by
  have H1 := Lib.hid h1
  obtain ⟨a1, c1, rfl⟩ := rd_slice h1
  obtain ⟨n, hnn⟩ : ∃ n, A.length = n := ⟨_, rfl⟩
  have HN := Lib.hid hnn
  have HK := Lib.hid hk
  have hcv := fun wq => run_wideF (P := Try.prog) 27 40 (by kernel_rfl) (by kernel_rfl) wq t ht
  clear h1 hk ht
  rw [hnn] at hn2 H1 HK ⊢
  clear hnn
  go_enter Try.func48, Try.ntmps48
  go_wp2_with fail
  go_loopw [5, 10] (fun p i wr => ∃ j : Nat, j ≤ n ∧ i = .int .i64 j ∧ p = .complex .f32 (spR A t j).1 (spR A t j).2 ∧ wr = w) (fun _ i _ => n - (intOf i).toNat)
  case atStart => exact ⟨0, Nat.zero_le _, rfl, rfl, rfl⟩
  case round =>
    obtain ⟨j, hj, rfl, rfl, hwr⟩ := hrel
    obtain rfl : w = wr := hwr.symm
    clear hwr
    by_cases hlt : j < n
    · obtain ⟨p1, p2, p3, p4, p5, p6, p7⟩ := HK.out j hlt
      obtain ⟨a, c, hv2, -, -, hcB⟩ := H1.out.opened
      rw [HN.out] at hv2
      cases hv2
      obtain ⟨b2, o2, x2, rfl, k2, F2⟩ := hcB j (by rw [HN.out]; exact hlt)
      obtain rfl := fv_sp F2 p3
      clear hcB F2 p3
      have k1 := fun wq ty => run_fineK (P := Try.prog) .f64 .mul (by simp) wq ty (floatOfInt .f64 (j : Nat)) (cwide t) p2
      have HP := Lib.hid (fun wq => phasor_fine wq _ p1)
      rw [show argX j t = ngF .f64 (fop .mul .f64 (floatOfInt .f64 (j : Nat)) (cwide t)) from rfl] at HP
      have hng : ∀ wq : World, (Op.unary .neg (.float .f64 (fop .mul .f64 (floatOfInt .f64 (j : Nat)) (cwide t)))).run Try.prog wq = .ok (.float .f64 (ngF .f64 (fop .mul .f64 (floatOfInt .f64 (j : Nat)) (cwide t)))) wq := fun wq => run_ngF .f64 wq _
      have HSc := Lib.hid (fun wq => scaleX_fine wq _ _ _ _ _ rfl rfl p4 p5)
      rw [show argX j t = ngF .f64 (fop .mul .f64 (floatOfInt .f64 (j : Nat)) (cwide t)) from rfl] at HSc
      have HPl := Lib.hid (fun wq => plusX_fine wq (spR A t j).1 (spR A t j).2 (fop .mul .f32 (phRe (argX j t)) (A.getD j 0)) (fop .mul .f32 (phIm (argX j t)) (A.getD j 0)) (spR A t (j + 1)).1 (spR A t (j + 1)).2 rfl rfl p6 p7)
      rw [show argX j t = ngF .f64 (fop .mul .f64 (floatOfInt .f64 (j : Nat)) (cwide t)) from rfl] at HPl
      clear p1 p2 p4 p5 p6 p7
      generalize fop .mul .f64 (floatOfInt .f64 (j : Nat)) (cwide t) = y at *
      generalize ngF .f64 y = z at *
      generalize (spR A t j).1 = u1 at *
      generalize (spR A t j).2 = u2 at *
      obtain ⟨u3, hu3⟩ : ∃ u, (spR A t (j + 1)).1 = u := ⟨_, rfl⟩
      obtain ⟨u4, hu4⟩ : ∃ u, (spR A t (j + 1)).2 = u := ⟨_, rfl⟩
      rw [hu3, hu4] at HPl
      have HU3 := Lib.hid hu3
      have HU4 := Lib.hid hu4
      clear hu3 hu4
      generalize fop .mul .f32 (phRe z) (A.getD j 0) = q1 at *
      generalize fop .mul .f32 (phIm z) (A.getD j 0) = q2 at *
      generalize phRe z = r1 at *
      generalize phIm z = r2 at *
      generalize A.getD j 0 = x at *
      go_wp2_with fail
      refine (HP.out _).mono ?_
      rintro e w1 ⟨rfl, hw1⟩
      obtain rfl : w = w1 := hw1.symm
      clear hw1
      go_wp2_with fail
      refine (HSc.out _).mono ?_
      rintro e w1 ⟨rfl, hw1⟩
      obtain rfl : w = w1 := hw1.symm
      clear hw1
      go_wp2_with fail
      refine (HPl.out _).mono ?_
      rintro e w1 ⟨rfl, hw1⟩
      obtain rfl : w = w1 := hw1.symm
      clear hw1
      go_wp2
      exact ⟨⟨j + 1, by omega, by go_num, by rw [HU3.out, HU4.out], trivial⟩, by simp [intOf]; omega⟩
    · obtain rfl : j = n := by omega
      go_wp2
      go_ret
      exact ⟨rfl, rfl⟩
end Go.Proofs.Ythacadbdncfocaa

/- Walks: spectra at one place and at some, lengths and products of complex numbers. -/
namespace Go.Proofs.Ythacadbdncfocaa
open Go Go.RowKit

def cxV (p : Nat × Nat) : Value := .complex .f32 p.1 p.2
/-- A row of complex numbers that a call has made. -/
def OwnX (w : World) (B : Nat) (v : Value) (L : List (Nat × Nat)) : Prop := w.ownsRow B 30 1 v L.length (L.map cxV)
theorem OwnX.kept {w w' : World} {B : Nat} {v : Value} {L : List (Nat × Nat)} (h : OwnX w B v L) (hb : Below w.heap.size w w') : OwnX w' B v L := by
  refine ⟨h.1, ?_⟩
  rcases h.2 with hn | ⟨g, cap, cur, rfl, hB, hg, r⟩
  · exact .inl hn
  · exact .inr ⟨g, cap, cur, rfl, hB, by rw [hb.block g (Array.getElem?_eq_some_iff.1 hg).1]; exact hg, r⟩
theorem OwnX.nil (w : World) (B : Nat) : OwnX w B (.slice none 0 0) [] := World.ownsRow_nil _ _ _ _
theorem OwnX.cellAt {w : World} {B : Nat} {v : Value} {P : List (Nat × Nat)} (h : OwnX w B v P) : ∃ a c, v = .slice a P.length c ∧ ∀ j, j < P.length → ∃ b o, a = some ⟨b, o, none⟩ ∧ b < w.heap.size ∧ w.cell? ⟨b, o + j, none⟩ = some (cxV (P.getD j (0, 0))) := by
  have h0 := h
  rcases h.2 with ⟨rfl, hn⟩ | ⟨g, cap, cur, rfl, hb, hg, hn, _⟩
  · exact ⟨none, 0, by rw [hn], fun j hj => by omega⟩
  · refine ⟨some ⟨g, 0, none⟩, cap, rfl, fun j hj => ⟨g, 0, rfl, (Array.getElem?_eq_some_iff.1 hg).1, ?_⟩⟩
    rw [Nat.zero_add, World.ownsRow.cellAt h0 j (by omega), List.getElem?_map, List.getElem?_eq_getElem hj]
    simp [List.getD_eq_getElem?_getD, List.getElem?_eq_getElem hj]
theorem Try.infoX : (Try.prog.info? 30).map (fun i => (i.zero, i.size, i.bytes)) = some (some (.complex .f32 0 0), 1, 8) := by kernel_rfl
/-- A turn that is finite. -/
def tOk (t : Nat) : Bool := !isN .f32 t && (!isN .f64 (fop .sub .f64 (cwide t) (cwide t)) && eqB (fop .sub .f64 (cwide t) (cwide t)) 0)
set_option maxRecDepth 100000 in
set_option maxHeartbeats 800000 in
theorem isFin_fine (w : World) (t : Nat) (h : tOk t = true) :
    Calls Try.prog 47 #[.float .f32 t] w fun e w' => e = .returned (.bool true) ∧ w' = w := by
  unfold tOk at h
  simp only [Bool.and_eq_true, Bool.not_eq_true'] at h
  obtain ⟨m1, m2, m3⟩ := h
  have hcv := fun wq => run_wideF (P := Try.prog) 27 40 (by kernel_rfl) (by kernel_rfl) wq t m1
  have k1 := fun wq ty => run_fineK (P := Try.prog) .f64 .sub (by simp) wq ty (cwide t) (cwide t) m2
  have k2 : (FloatKind.f64.format.order (fop .sub .f64 (cwide t) (cwide t)) 0 == some Ordering.eq) = true := m3
  clear m1 m2 m3
  generalize fop .sub .f64 (cwide t) (cwide t) = y0 at *
  generalize cwide t = y at *
  have HF : Hid (∀ wq, Calls Try.prog 76 #[.float .f64 y] wq fun e w' => e = .returned (.bool true) ∧ w' = wq) := Lib.hid fun wq => by
    go_enter Try.func76, Try.ntmps76
    go_wp2
    go_ret
    exact ⟨rfl, rfl⟩
  clear k1 k2
  go_enter Try.func47, Try.ntmps47
  go_wp2_with fail
  refine (HF.out _).mono ?_
  rintro e w1 ⟨rfl, hw1⟩
  obtain rfl : w = w1 := hw1.symm
  clear hw1
  go_wp2
  go_ret
  exact ⟨rfl, rfl⟩
theorem tOk_nn {t : Nat} (h : tOk t = true) : isN .f32 t = false := by
  unfold tOk at h
  simp only [Bool.and_eq_true, Bool.not_eq_true'] at h
  exact h.1
set_option maxRecDepth 100000 in
set_option maxHeartbeats 800000 in
theorem spectrumAt_any (w : World) (v : Value) (A : List Nat) (t : Nat) (h1 : RdF w v A) (hn : 1 ≤ A.length) (hn2 : A.length ≤ 128) (ht : tOk t = true) (hk : ∀ k, k < A.length → SpOk A t k) :
    Calls Try.prog 10 #[v, .float .f32 t] w fun e w' => e = .returned (.tuple #[.complex .f32 (spR A t A.length).1 (spR A t A.length).2, .bool true]) ∧ w' = w := by
  have HS := Lib.hid (spectrum_any w v A t h1 hn2 (tOk_nn ht) hk)
  have HFi := Lib.hid (isFin_fine w t ht)
  obtain ⟨a1, c1, rfl⟩ := rd_slice h1
  have HE := Lib.hid (isTraceT_any w a1 A.length c1 hn hn2)
  clear h1 hk ht
  go_enter Try.func10, Try.ntmps10
  go_wp2_with fail
  refine HE.out.mono ?_
  rintro e w0 ⟨rfl, hw0⟩
  obtain rfl : w = w0 := hw0.symm
  clear HE hw0
  go_wp2_with fail
  refine HFi.out.mono ?_
  rintro e w0 ⟨rfl, hw0⟩
  obtain rfl : w = w0 := hw0.symm
  clear HFi hw0
  go_wp2_with fail
  refine HS.out.mono ?_
  rintro e w0 ⟨rfl, hw0⟩
  obtain rfl : w = w0 := hw0.symm
  clear HS hw0
  go_wp2
  go_ret2
  exact ⟨rfl, rfl⟩
def tk (m k : Nat) : Nat := fop .quo .f32 (floatOfInt .f32 (k : Nat)) (floatOfInt .f32 (m : Nat))
def spL (A : List Nat) (m j : Nat) : List (Nat × Nat) := (List.range j).map fun k => spR A (tk m k) A.length
theorem spL_snoc (A : List Nat) (m j : Nat) : spL A m (j + 1) = spL A m j ++ [spR A (tk m j) A.length] := by
  unfold spL
  rw [List.range_succ, List.map_append]
  rfl
theorem spL_length (A : List Nat) (m j : Nat) : (spL A m j).length = j := by unfold spL; rw [List.length_map, List.length_range]
set_option maxRecDepth 100000 in
set_option maxHeartbeats 1600000 in
theorem spectrumOf_any (w : World) (v : Value) (A : List Nat) (m : Nat) (h1 : RdF w v A) (hn : 1 ≤ A.length) (hn2 : A.length ≤ 128) (hm : 1 ≤ m) (hm2 : m ≤ 100) (ht : ∀ k, k < m → isN .f32 (tk m k) = false) (hk : ∀ k, k < m → ∀ j, j < A.length → SpOk A (tk m k) j) :
    Calls Try.prog 14 #[v, .int .i64 m] w fun e w' => ∃ v', e = .returned (.tuple #[v', .bool true]) ∧ OwnX w' w.heap.size v' (spL A m m) ∧ Below w.heap.size w w' := by
  have HS := Lib.hid (fun wq (hb : Below w.heap.size w wq) k hk' => spectrum_any wq v A (tk m k) (h1.mono hb) hn2 (ht k hk') (hk k hk'))
  have HT := Lib.hid ht
  obtain ⟨a1, c1, rfl⟩ := rd_slice h1
  have HE := Lib.hid (isTraceT_any w a1 A.length c1 hn hn2)
  have KC := isCount_any w (m : Int)
  rw [show inB (m : Int) 1 128 = true by unfold inB; simp; omega] at KC
  have KC := Lib.hid KC
  clear h1 hk ht
  go_enter Try.func14, Try.ntmps14
  go_wp2_with fail
  refine HE.out.mono ?_
  rintro e w0 ⟨rfl, hw0⟩
  obtain rfl : w = w0 := hw0.symm
  clear HE hw0
  go_wp2_with fail
  refine KC.out.mono ?_
  rintro e w0 ⟨rfl, hw0⟩
  obtain rfl : w = w0 := hw0.symm
  clear KC hw0
  go_wp2_with fail
  go_loopw [6, 17] (fun u i wr => ∃ j : Nat, j ≤ m ∧ i = .int .i64 j ∧ OwnX wr w.heap.size u (spL A m j) ∧ Below w.heap.size w wr) (fun _ i _ => m - (intOf i).toNat)
  case atStart => exact ⟨0, Nat.zero_le _, rfl, OwnX.nil _ _, Below.refl _ _⟩
  case round =>
    obtain ⟨wi, rfl⟩ : ∃ wi : World, wi = wr := ⟨_, rfl⟩
    obtain ⟨j, hj, rfl, ho, hb⟩ := hrel
    have HO := Lib.hid ho
    have HB := Lib.hid hb
    have hzi := hb.size
    have HLn := Lib.hid (spL_length A m j)
    clear ho
    by_cases hlt : j < m
    · have k1 := fun wq ty => run_fineK (P := Try.prog) .f32 .quo (by simp) wq ty (floatOfInt .f32 (j : Nat)) (floatOfInt .f32 (m : Nat)) (HT.out j hlt)
      rw [show fop .quo .f32 (floatOfInt .f32 (j : Nat)) (floatOfInt .f32 (m : Nat)) = tk m j from rfl] at k1
      have HS1 := Lib.hid (HS.out wi hb j hlt)
      have HSn := Lib.hid (spL_snoc A m j)
      clear hb
      generalize tk m j = t at *
      generalize (spR A t A.length) = p at *
      go_wp2_with fail
      refine HS1.out.mono ?_
      rintro e w1 ⟨rfl, hw1⟩
      obtain rfl : wi = w1 := hw1.symm
      clear hw1 HS1
      go_wp2_with (at_builtin; go_must (refine wpList_push1 rfl _ _ 36 30 rfl (.complex .f32 0 0) 8 Try.underlying36 Try.infoX rfl (by decide) w.heap.size _ _ _ rfl (HO.out.kept ((Below.refl _ _).alloc (Nat.le_refl _) _)) _ _ _ rfl (cell_new _ _ _) rfl (by rw [HLn.out]; omega) (by rw [World.size_alloc]; exact Nat.le_succ_of_le hzi) ?_); intro v4 w4 o4 g4 b4)
      refine ⟨⟨j + 1, by omega, by go_num, ?_, ((HB.out).alloc hzi _).trans b4⟩, by simp [intOf]; omega⟩
      rw [HSn.out]
      unfold OwnX
      rw [List.length_append, List.map_append]
      exact o4
    · obtain rfl : j = m := by omega
      clear hb
      go_wp2
      go_ret2
      exact ⟨_, rfl, HO.out, HB.out⟩
/-- The length of a complex number: the reference's. -/
def lgP (a b : Nat) : Nat := fop .add .f64 (fop .mul .f64 (cwide a) (cwide a)) (fop .mul .f64 (cwide b) (cwide b))
def lgF (a b : Nat) : Nat := nrw (sqr (lgP a b))
structure LgOk (a b : Nat) : Prop where
  na : isN .f32 a = false
  nb : isN .f32 b = false
  ma : isN .f64 (fop .mul .f64 (cwide a) (cwide a)) = false
  mb : isN .f64 (fop .mul .f64 (cwide b) (cwide b)) = false
  ad : isN .f64 (lgP a b) = false
  sq : (FloatKind.f64.format.sqrt (lgP a b)).isSome = true
  nr : nrwOk (sqr (lgP a b)) = true
set_option maxRecDepth 100000 in
set_option maxHeartbeats 800000 in
theorem longOf_fine (w : World) (a b : Nat) (h : LgOk a b) :
    Calls Try.prog 11 #[.complex .f32 a b] w fun e w' => e = .returned (.float .f32 (lgF a b)) ∧ w' = w := by
  obtain ⟨n1, n2, n3, n4, n5, n6, n7⟩ := h
  have c1 := fun wq => run_wideF (P := Try.prog) 27 40 (by kernel_rfl) (by kernel_rfl) wq a n1
  have c2 := fun wq => run_wideF (P := Try.prog) 27 40 (by kernel_rfl) (by kernel_rfl) wq b n2
  have k1 := fun wq ty => run_fineK (P := Try.prog) .f64 .mul (by simp) wq ty (cwide a) (cwide a) n3
  have k2 := fun wq ty => run_fineK (P := Try.prog) .f64 .mul (by simp) wq ty (cwide b) (cwide b) n4
  have k3 := fun wq ty => run_fineK (P := Try.prog) .f64 .add (by simp) wq ty (fop .mul .f64 (cwide a) (cwide a)) (fop .mul .f64 (cwide b) (cwide b)) n5
  rw [show fop .add .f64 (fop .mul .f64 (cwide a) (cwide a)) (fop .mul .f64 (cwide b) (cwide b)) = lgP a b from rfl] at k3
  have HSq := Lib.hid (fun wq => mathSqrt_any wq (lgP a b) n6)
  have c3 := fun wq => run_narrowF (P := Try.prog) 40 27 (by kernel_rfl) (by kernel_rfl) wq _ n7
  rw [show nrw (sqr (lgP a b)) = lgF a b from rfl] at c3
  clear n1 n2 n3 n4 n5 n6 n7
  generalize lgF a b = z at *
  generalize sqr (lgP a b) = y at *
  generalize lgP a b = x at *
  generalize fop .mul .f64 (cwide a) (cwide a) = x1 at *
  generalize fop .mul .f64 (cwide b) (cwide b) = x2 at *
  generalize cwide a = a' at *
  generalize cwide b = b' at *
  have HP : Hid (∀ wq, Calls Try.prog 82 #[.complex .f32 a b] wq fun e w' => e = .returned (.float .f64 x) ∧ w' = wq) := Lib.hid fun wq => by
    clear HSq
    go_enter Try.func82, Try.ntmps82
    go_wp2
    go_ret
    exact ⟨rfl, rfl⟩
  clear c1 c2 k1 k2 k3
  have HL : Hid (∀ wq, Calls Try.prog 49 #[.complex .f32 a b] wq fun e w' => e = .returned (.float .f32 z) ∧ w' = wq) := Lib.hid fun wq => by
    go_enter Try.func49, Try.ntmps49
    go_wp2_with fail
    refine (HP.out _).mono ?_
    rintro e w1 ⟨rfl, hw1⟩
    obtain rfl : wq = w1 := hw1.symm
    clear hw1
    go_wp2_with fail
    refine (HSq.out _).mono ?_
    rintro e w1 ⟨rfl, hw1⟩
    obtain rfl : wq = w1 := hw1.symm
    clear hw1
    go_wp2_with (go_at_call 80; go_in)
    go_ret
    exact ⟨rfl, rfl⟩
  clear HP HSq c3
  go_enter Try.func11, Try.ntmps11
  go_wp2_with fail
  refine (HL.out _).mono ?_
  rintro e w1 ⟨rfl, hw1⟩
  obtain rfl : w = w1 := hw1.symm
  clear hw1
  go_wp2
  go_ret
  exact ⟨rfl, rfl⟩
/-- The product of two complex numbers: the reference's. -/
def muR (a b c d : Nat) : Nat := fop .sub .f64 (fop .mul .f64 (cwide a) (cwide c)) (fop .mul .f64 (cwide b) (cwide d))
def muI (a b c d : Nat) : Nat := fop .add .f64 (fop .mul .f64 (cwide a) (cwide d)) (fop .mul .f64 (cwide b) (cwide c))
structure MuOk (a b c d : Nat) : Prop where
  na : isN .f32 a = false
  nb : isN .f32 b = false
  nc : isN .f32 c = false
  nd : isN .f32 d = false
  m1 : isN .f64 (fop .mul .f64 (cwide a) (cwide c)) = false
  m2 : isN .f64 (fop .mul .f64 (cwide b) (cwide d)) = false
  m3 : isN .f64 (fop .mul .f64 (cwide a) (cwide d)) = false
  m4 : isN .f64 (fop .mul .f64 (cwide b) (cwide c)) = false
  sr : isN .f64 (muR a b c d) = false
  si : isN .f64 (muI a b c d) = false
  nr : nrwOk (muR a b c d) = true
  ni : nrwOk (muI a b c d) = true
set_option maxRecDepth 100000 in
set_option maxHeartbeats 1600000 in
theorem mulX_fine (w : World) (a b c d : Nat) (h : MuOk a b c d) :
    Calls Try.prog 12 #[.complex .f32 a b, .complex .f32 c d] w fun e w' => e = .returned (.complex .f32 (nrw (muR a b c d)) (nrw (muI a b c d))) ∧ w' = w := by
  obtain ⟨na, nb, nc, nd, m1, m2, m3, m4, sr, si, nr, ni⟩ := h
  have ca := fun wq => run_wideF (P := Try.prog) 27 40 (by kernel_rfl) (by kernel_rfl) wq a na
  have cb := fun wq => run_wideF (P := Try.prog) 27 40 (by kernel_rfl) (by kernel_rfl) wq b nb
  have cc := fun wq => run_wideF (P := Try.prog) 27 40 (by kernel_rfl) (by kernel_rfl) wq c nc
  have cd := fun wq => run_wideF (P := Try.prog) 27 40 (by kernel_rfl) (by kernel_rfl) wq d nd
  have k1 := fun wq ty => run_fineK (P := Try.prog) .f64 .mul (by simp) wq ty (cwide a) (cwide c) m1
  have k2 := fun wq ty => run_fineK (P := Try.prog) .f64 .mul (by simp) wq ty (cwide b) (cwide d) m2
  have k3 := fun wq ty => run_fineK (P := Try.prog) .f64 .mul (by simp) wq ty (cwide a) (cwide d) m3
  have k4 := fun wq ty => run_fineK (P := Try.prog) .f64 .mul (by simp) wq ty (cwide b) (cwide c) m4
  have k5 := fun wq ty => run_fineK (P := Try.prog) .f64 .sub (by simp) wq ty (fop .mul .f64 (cwide a) (cwide c)) (fop .mul .f64 (cwide b) (cwide d)) sr
  have k6 := fun wq ty => run_fineK (P := Try.prog) .f64 .add (by simp) wq ty (fop .mul .f64 (cwide a) (cwide d)) (fop .mul .f64 (cwide b) (cwide c)) si
  rw [show fop .sub .f64 (fop .mul .f64 (cwide a) (cwide c)) (fop .mul .f64 (cwide b) (cwide d)) = muR a b c d from rfl] at k5
  rw [show fop .add .f64 (fop .mul .f64 (cwide a) (cwide d)) (fop .mul .f64 (cwide b) (cwide c)) = muI a b c d from rfl] at k6
  have e1 := fun wq => run_narrowF (P := Try.prog) 40 27 (by kernel_rfl) (by kernel_rfl) wq _ nr
  have e2 := fun wq => run_narrowF (P := Try.prog) 40 27 (by kernel_rfl) (by kernel_rfl) wq _ ni
  clear na nb nc nd m1 m2 m3 m4 sr si nr ni
  generalize nrw (muR a b c d) = p at *
  generalize nrw (muI a b c d) = q at *
  generalize muR a b c d = y1 at *
  generalize muI a b c d = y2 at *
  generalize fop .mul .f64 (cwide a) (cwide c) = x1 at *
  generalize fop .mul .f64 (cwide b) (cwide d) = x2 at *
  generalize fop .mul .f64 (cwide a) (cwide d) = x3 at *
  generalize fop .mul .f64 (cwide b) (cwide c) = x4 at *
  generalize cwide a = a' at *
  generalize cwide b = b' at *
  generalize cwide c = c' at *
  generalize cwide d = d' at *
  have HW1 : Hid (∀ wq, Calls Try.prog 85 #[.complex .f32 a b] wq fun e w' => e = .returned (.complex .f64 a' b') ∧ w' = wq) := Lib.hid fun wq => by
    go_enter Try.func85, Try.ntmps85
    go_wp2
    go_ret
    exact ⟨rfl, rfl⟩
  have HW2 : Hid (∀ wq, Calls Try.prog 85 #[.complex .f32 c d] wq fun e w' => e = .returned (.complex .f64 c' d') ∧ w' = wq) := Lib.hid fun wq => by
    go_enter Try.func85, Try.ntmps85
    go_wp2
    go_ret
    exact ⟨rfl, rfl⟩
  clear ca cb cc cd
  have HM : Hid (∀ wq, Calls Try.prog 84 #[.complex .f64 a' b', .complex .f64 c' d'] wq fun e w' => e = .returned (.complex .f64 y1 y2) ∧ w' = wq) := Lib.hid fun wq => by
    clear HW1 HW2
    go_enter Try.func84, Try.ntmps84
    go_wp2
    go_ret
    exact ⟨rfl, rfl⟩
  clear k1 k2 k3 k4 k5 k6
  have HC : Hid (∀ wq, Calls Try.prog 83 #[.complex .f64 y1 y2] wq fun e w' => e = .returned (.complex .f32 p q) ∧ w' = wq) := Lib.hid fun wq => by
    clear HW1 HW2 HM
    go_enter Try.func83, Try.ntmps83
    go_wp2_with (go_at_call 80; go_in)
    go_ret
    exact ⟨rfl, rfl⟩
  clear e1 e2
  have HL : Hid (∀ wq, Calls Try.prog 50 #[.complex .f32 a b, .complex .f32 c d] wq fun e w' => e = .returned (.complex .f32 p q) ∧ w' = wq) := Lib.hid fun wq => by
    go_enter Try.func50, Try.ntmps50
    go_wp2_with fail
    refine (HW1.out _).mono ?_
    rintro e w1 ⟨rfl, hw1⟩
    obtain rfl : wq = w1 := hw1.symm
    clear hw1
    go_wp2_with fail
    refine (HW2.out _).mono ?_
    rintro e w1 ⟨rfl, hw1⟩
    obtain rfl : wq = w1 := hw1.symm
    clear hw1
    go_wp2_with fail
    refine (HM.out _).mono ?_
    rintro e w1 ⟨rfl, hw1⟩
    obtain rfl : wq = w1 := hw1.symm
    clear hw1
    go_wp2_with fail
    refine (HC.out _).mono ?_
    rintro e w1 ⟨rfl, hw1⟩
    obtain rfl : wq = w1 := hw1.symm
    clear hw1
    go_wp2
    go_ret
    exact ⟨rfl, rfl⟩
  clear HW1 HW2 HM HC
  go_enter Try.func12, Try.ntmps12
  go_wp2_with fail
  refine (HL.out _).mono ?_
  rintro e w1 ⟨rfl, hw1⟩
  obtain rfl : w = w1 := hw1.symm
  clear hw1
  go_wp2
  go_ret
  exact ⟨rfl, rfl⟩
/-- Complex numbers, taken from each other. -/
theorem run_farithK {P : Program} (op : BinOp) (h : op = .add ∨ op = .sub ∨ op = .mul ∨ op = .quo) (k : FloatKind) (w : World) (a c x : Nat) (h1 : fop op k a c = x) (n1 : isN k x = false) : (Op.floatArith op k a c).run P w = .ok (.float k x) w := by
  have := run_fineK (P := P) k op h w 0 a c (by rw [h1]; exact n1)
  rw [h1] at this
  rcases h with rfl | rfl | rfl | rfl <;> simpa [binOp] using this
theorem run_csubK (w : World) (t : TypeId) (a b c d x y : Nat) (h1 : fop .sub .f32 a c = x) (h2 : fop .sub .f32 b d = y) (n1 : isN .f32 x = false) (n2 : isN .f32 y = false) :
    (binOp .sub t (.complex .f32 a b) (.complex .f32 c d)).run Try.prog w = .ok (.complex .f32 x y) w := by
  have e1 := fun w => run_farithK (P := Try.prog) .sub (by simp) .f32 w a c x h1 n1
  have e2 := fun w => run_farithK (P := Try.prog) .sub (by simp) .f32 w b d y h2 n2
  simp [binOp, Op.complexOp, Op.Complex.arith, e1, e2]
end Go.Proofs.Ythacadbdncfocaa

/- Plain: sums of rational numbers; the spectrum of a trace, nearly. -/
namespace Go.Proofs.Ythacadbdncfocaa
open Go Go.RowKit Ieee

def rsum (f : Nat → Rat) : Nat → Rat
  | 0 => 0
  | n + 1 => rsum f n + f n
theorem rsum_congr {f g : Nat → Rat} (n : Nat) (h : ∀ i, i < n → f i = g i) : rsum f n = rsum g n := by
  induction n with
  | zero => rfl
  | succ n ih => rw [rsum, rsum, ih (fun i hi => h i (by omega)), h n (by omega)]
theorem rsum_zero (n : Nat) : rsum (fun _ => 0) n = 0 := by
  induction n with
  | zero => rfl
  | succ n ih => rw [rsum, ih]; grind
theorem rsum_add (f g : Nat → Rat) (n : Nat) : rsum (fun i => f i + g i) n = rsum f n + rsum g n := by
  induction n with
  | zero => rw [rsum, rsum, rsum]; grind
  | succ n ih => rw [rsum, rsum, rsum, ih]; grind
theorem rsum_sub (f g : Nat → Rat) (n : Nat) : rsum (fun i => f i - g i) n = rsum f n - rsum g n := by
  induction n with
  | zero => rw [rsum, rsum, rsum]; grind
  | succ n ih => rw [rsum, rsum, rsum, ih]; grind
theorem rsum_mul (c : Rat) (f : Nat → Rat) (n : Nat) : rsum (fun i => c * f i) n = c * rsum f n := by
  induction n with
  | zero => rw [rsum, rsum]; grind
  | succ n ih => rw [rsum, rsum, ih]; grind
theorem rsum_split (f : Nat → Rat) (a b : Nat) : rsum f (a + b) = rsum f a + rsum (fun i => f (a + i)) b := by
  induction b with
  | zero => rw [rsum, Nat.add_zero]; grind
  | succ b ih => rw [← Nat.add_assoc, rsum, rsum, ih]; grind
theorem rsum_swap (f : Nat → Nat → Rat) (n m : Nat) : rsum (fun i => rsum (fun j => f i j) m) n = rsum (fun j => rsum (fun i => f i j) n) m := by
  induction n with
  | zero =>
    rw [rsum, ← rsum_zero m]
    rfl
  | succ n ih => rw [rsum, ih, ← rsum_add]; rfl
theorem rsum_prod (f g : Nat → Rat) (n m : Nat) : rsum f n * rsum g m = rsum (fun i => rsum (fun j => f i * g j) m) n := by
  rw [show rsum f n * rsum g m = rsum g m * rsum f n by grind, ← rsum_mul]
  refine rsum_congr n fun i _ => ?_
  rw [rsum_mul]
  grind
theorem rsum_ab {f : Nat → Rat} {B : Rat} (n : Nat) (h : ∀ i, i < n → Ab (f i) B) : Ab (rsum f n) (n * B) := by
  induction n with
  | zero => rw [rsum]; unfold Ab; have : ((0 : Nat) : Rat) = 0 := rfl; rw [this]; grind
  | succ n ih =>
    have h1 := ih fun i hi => h i (by omega)
    have h2 := h n (by omega)
    have e : ((n + 1 : Nat) : Rat) = (n : Rat) + 1 := Rat.natCast_add n 1
    rw [rsum, e]
    unfold Ab at *
    grind
theorem rq_z : RQ .f32 0 0 := ⟨false, 0, -149, by decide +kernel, by decide +kernel⟩
/-- The parts of the phasors. -/
def cR (T k : Nat) : Rat := (cE (jx k T) : Rat) * sc (-26)
def sR (T k : Nat) : Rat := (sE (jx k T) : Rat) * sc (-26)
theorem ab_e {z : Int} (h : z.natAbs ≤ 67108864) : Ab ((z : Rat) * sc (-26)) 1 := by
  have e : sc (-26) = 1 / 67108864 := by decide +kernel
  rw [e]
  have h1 := Rat.intCast_le_intCast.2 (show z ≤ (67108864 : Int) by omega)
  have h2 := Rat.intCast_le_intCast.2 (show (-67108864 : Int) ≤ z by omega)
  rw [show ((67108864 : Int) : Rat) = 67108864 by decide +kernel] at h1
  rw [show ((-67108864 : Int) : Rat) = -67108864 by decide +kernel] at h2
  unfold Ab
  grind
theorem cR_ab (T k : Nat) : Ab (cR T k) 1 := ab_e (size_e (jx_lt k T)).1
theorem sR_ab (T k : Nat) : Ab (sR T k) 1 := ab_e (size_e (jx_lt k T)).2.1
/-- One step of the sum. -/
theorem step_near {p x s : Nat} {c a v S M : Rat} (hp : RQ .f32 p c) (hx : RQ .f32 x a) (hs : RQ .f32 s v) (hc : Ab c 1) (ha : Ab a M) (h1 : 1 ≤ M) (hM : M ≤ 32) {j : Rat} (hj0 : 0 ≤ j) (hj : j ≤ 15)
    (hS : Ab S (j * M)) (hv : Ab (v - S) (j * (24 * M / 16777216))) :
    isN .f32 (fop .mul .f32 p x) = false ∧ ∃ v', RQ .f32 (fop .add .f32 s (fop .mul .f32 p x)) v' ∧ Ab (v' - (S + c * a)) ((j + 1) * (24 * M / 16777216)) := by
  have u1 := uu32
  have t1 := tt32
  have t2 := tt_pos .f32
  have hca : Ab (c * a) M := by have := hc.mul ha; rwa [show (1 : Rat) * M = M by grind] at this
  obtain ⟨d1, r1, e1⟩ := hp.mul hx hca (big_top (by grind))
  rw [u1] at e1
  have hjM : j * M ≤ 15 * M := Rat.mul_le_mul_of_nonneg_right hj (by grind)
  have hjM0 : 0 ≤ j * M := Rat.mul_nonneg hj0 (by grind)
  have hsum : Ab (v + (c * a + d1)) (18 * M) := by
    unfold Ab at *
    grind
  obtain ⟨d2, r2, e2⟩ := hs.add r1 hsum (big_top (by grind))
  rw [u1] at e2
  refine ⟨r1.notNan, _, r2, ?_⟩
  unfold Ab at *
  grind
theorem nn_mul : (((List.range 41).all fun T => tOk (tW T) && (List.range 15).all fun k => !isN .f64 (fop .mul .f64 (floatOfInt .f64 (k : Nat)) (cwide (tW T))))) = true := by decide +kernel
theorem turn_ok {T : Nat} (hT : T < 41) : tOk (tW T) = true ∧ ∀ k, k < 15 → isN .f64 (fop .mul .f64 (floatOfInt .f64 (k : Nat)) (cwide (tW T))) = false := by
  have h := List.all_eq_true.1 nn_mul T (List.mem_range.2 hT)
  simp only [Bool.and_eq_true, List.all_eq_true, Bool.not_eq_true'] at h
  exact ⟨h.1, fun k hk => h.2 k (List.mem_range.2 hk)⟩
/-- The ideal spectrum. -/
def XR (a : Nat → Rat) (T n : Nat) : Rat := rsum (fun k => cR T k * a k) n
def XI (a : Nat → Rat) (T n : Nat) : Rat := rsum (fun k => sR T k * a k) n
/-- The spectrum that is reckoned is near to the ideal one. -/
theorem spec_near {A : List Nat} {a : Nat → Rat} {M : Rat} {T n : Nat} (hT : T < 41) (hn : n ≤ 15) (hA : ∀ k, k < n → RQ .f32 (A.getD k 0) (a k)) (ha : ∀ k, k < n → Ab (a k) M) (h1 : 1 ≤ M) (hM : M ≤ 32) (j : Nat) (hj : j ≤ n) :
    (∀ k, k < j → SpOk A (tW T) k) ∧ (∃ v, RQ .f32 (spR A (tW T) j).1 v ∧ Ab (v - XR a T j) (j * (24 * M / 16777216))) ∧ (∃ v, RQ .f32 (spR A (tW T) j).2 v ∧ Ab (v - XI a T j) (j * (24 * M / 16777216))) := by
  induction j with
  | zero =>
    refine ⟨fun k hk => absurd hk (Nat.not_lt_zero k), ⟨0, rq_z, ?_⟩, ⟨0, rq_z, ?_⟩⟩
    · show Ab (0 - 0) _
      have e : ((0 : Nat) : Rat) = 0 := rfl
      rw [e]
      unfold Ab
      grind
    · show Ab (0 - 0) _
      have e : ((0 : Nat) : Rat) = 0 := rfl
      rw [e]
      unfold Ab
      grind
  | succ j ih =>
    obtain ⟨i1, ⟨v1, r1, b1⟩, ⟨v2, r2, b2⟩⟩ := ih (by omega)
    obtain ⟨p1, p2, p3⟩ := ph_arg (k := j) (T := T) (by omega) hT
    have hx := hA j (by omega)
    have hb := ha j (by omega)
    have hj0 : (0 : Rat) ≤ (j : Rat) := nat_nn j
    have hj1 : (j : Rat) ≤ 15 := by
      have : j ≤ 15 := by omega
      exact_mod_cast this
    have e : ((j + 1 : Nat) : Rat) = (j : Rat) + 1 := Rat.natCast_add j 1
    have g1 : ∀ k, k < j → Ab (cR T k * a k) M := fun k hk => by
      have := (cR_ab T k).mul (ha k (by omega))
      rwa [show (1 : Rat) * M = M by grind] at this
    have g2 : ∀ k, k < j → Ab (sR T k * a k) M := fun k hk => by
      have := (sR_ab T k).mul (ha k (by omega))
      rwa [show (1 : Rat) * M = M by grind] at this
    obtain ⟨n1, w1, q1, z1⟩ := step_near p2 hx r1 (cR_ab T j) hb h1 hM hj0 hj1 (rsum_ab j g1) b1
    obtain ⟨n2, w2, q2, z2⟩ := step_near p3 hx r2 (sR_ab T j) hb h1 hM hj0 hj1 (rsum_ab j g2) b2
    refine ⟨fun k hk => ?_, ⟨w1, q1, by rw [e]; exact z1⟩, ⟨w2, q2, by rw [e]; exact z2⟩⟩
    by_cases hk2 : k < j
    · exact i1 k hk2
    · obtain rfl : k = j := by omega
      exact ⟨p1, (turn_ok hT).2 k (by omega), hx.notNan, n1, n2, q1.notNan, q2.notNan⟩
end Go.Proofs.Ythacadbdncfocaa

/- Plain: spectra of folded traces are products, nearly. -/
namespace Go.Proofs.Ythacadbdncfocaa
open Go Go.RowKit Ieee

def isum (f : Nat → Int) : Nat → Int
  | 0 => 0
  | n + 1 => isum f n + f n
theorem isum_rq (f : Nat → Int) (n : Nat) : ((isum f n : Int) : Rat) = rsum (fun i => (f i : Rat)) n := by
  induction n with
  | zero => rfl
  | succ n ih => rw [isum, rsum, Rat.intCast_add, ih]
theorem isum_split (f : Nat → Int) (a b : Nat) : isum f (a + b) = isum f a + isum (fun i => f (a + i)) b := by
  induction b with
  | zero => rw [isum, Nat.add_zero]; omega
  | succ b ih => rw [← Nat.add_assoc, isum, isum, ih]; omega
theorem isum_congr {f g : Nat → Int} (n : Nat) (h : ∀ i, i < n → f i = g i) : isum f n = isum g n := by
  induction n with
  | zero => rfl
  | succ n ih => rw [isum, isum, ih (fun i hi => h i (by omega)), h n (by omega)]
theorem isum_null {f : Nat → Int} (n : Nat) (h : ∀ i, i < n → f i = 0) : isum f n = 0 := by
  induction n with
  | zero => rfl
  | succ n ih => rw [isum, ih (fun i hi => h i (by omega)), h n (by omega)]; rfl
theorem isum_bd {f : Nat → Int} (n : Nat) (h : ∀ i, i < n → (f i).natAbs ≤ 64) : (isum f n).natAbs ≤ 64 * n := by
  induction n with
  | zero => exact Nat.le_refl 0
  | succ n ih =>
    have h1 := ih fun i hi => h i (by omega)
    have h2 := h n (by omega)
    rw [isum]
    omega
/-- A number of two folded traces, in sixteenths. -/
def conv (Z Y : Nat → Int) (n m : Nat) : Int := isum (fun i => if i ≤ m ∧ m < i + n then Z i * Y (m - i) else 0) n
theorem mul8 {a b : Int} (ha : -8 ≤ a ∧ a ≤ 8) (hb : -8 ≤ b ∧ b ≤ 8) : (a * b).natAbs ≤ 64 := by
  rw [Int.natAbs_mul]
  exact Nat.mul_le_mul (show a.natAbs ≤ 8 by omega) (show b.natAbs ≤ 8 by omega)
theorem mul_uq {x y : Nat} {a b : Int} (hx : UQ 2 x a) (hy : UQ 2 y b) (h : (a * b).natAbs ≤ 64) : UQ 4 (fop .mul .f32 x y) (a * b) := by
  have em : (a : Rat) * sc (-((2 : Nat) : Int)) * ((b : Rat) * sc (-((2 : Nat) : Int))) = ((a * b : Int) : Rat) * sc (-((4 : Nat) : Int)) := by
    rw [Rat.intCast_mul, show (-((4 : Nat) : Int)) = -((2 : Nat) : Int) + -((2 : Nat) : Int) by omega, sc_add]
    grind
  have := RQ.mul_rep hx hy (g := -((4 : Nat) : Int)) (by rw [em]; exact rep_u 4 (by decide) _ (by omega))
  rw [em] at this
  exact this
theorem conv_bd {Z Y : Nat → Int} {n : Nat} (hZ : ∀ i, i < n → -8 ≤ Z i ∧ Z i ≤ 8) (hY : ∀ i, i < n → -8 ≤ Y i ∧ Y i ≤ 8) (m : Nat) : (conv Z Y n m).natAbs ≤ 64 * n := by
  refine isum_bd n fun i hi => ?_
  split
  · exact mul8 (hZ i hi) (hY _ (by omega))
  · decide
theorem fold_uq {A B : List Nat} {Z Y : Nat → Int} {n : Nat} (hA : UL 2 A Z n) (hB : UL 2 B Y n) (hZ : ∀ i, i < n → -8 ≤ Z i ∧ Z i ≤ 8) (hY : ∀ i, i < n → -8 ≤ Y i ∧ Y i ≤ 8) (hn : 1 ≤ n) (hn2 : n ≤ 8) (m : Nat) (hm : m < 2 * n - 1) :
    UQ 4 (foldS A B m) (conv Z Y n m) := by
  unfold foldS
  rw [hA.1, hB.1]
  obtain ⟨lo, hlo⟩ : ∃ lo, m + 1 - n = lo := ⟨_, rfl⟩
  obtain ⟨cnt, hcnt⟩ : ∃ c, min m (n - 1) + 1 - lo = c := ⟨_, rfl⟩
  rw [hlo, hcnt]
  have key : ∀ j, j ≤ cnt → UQ 4 (sumTo .f32 (foldAt A B m) j) (isum (fun i => Z (lo + i) * Y (m - (lo + i))) j) := by
    intro j
    induction j with
    | zero => intro _; exact UQ.zero 4
    | succ j ih =>
      intro hj
      have h1 := ih (by omega)
      have h2 : UQ 4 (foldAt A B m j) (Z (lo + j) * Y (m - (lo + j))) := by
        unfold foldAt
        rw [hB.1, hlo]
        exact mul_uq (hA.2 _ (by omega)) (hB.2 _ (by omega)) (mul8 (hZ _ (by omega)) (hY _ (by omega)))
      have h3 : (isum (fun i => Z (lo + i) * Y (m - (lo + i))) j + Z (lo + j) * Y (m - (lo + j))).natAbs ≤ 64 * (j + 1) := isum_bd (f := fun i => Z (lo + i) * Y (m - (lo + i))) (j + 1) fun i hi => mul8 (hZ _ (by omega)) (hY _ (by omega))
      have h4 := h1.add h2 (by decide) (by omega)
      exact h4
  have h := key cnt (Nat.le_refl _)
  have e : conv Z Y n m = isum (fun i => Z (lo + i) * Y (m - (lo + i))) cnt := by
    unfold conv
    rw [show n = lo + (cnt + (n - lo - cnt)) by omega, isum_split, isum_split, isum_null lo, isum_null (n - lo - cnt)]
    · rw [Int.zero_add, Int.add_zero]
      refine isum_congr cnt fun i hi => ?_
      rw [if_pos (by omega)]
    · intro i hi
      rw [if_neg (by omega)]
    · intro i hi
      rw [if_neg (by omega)]
  rw [e]
  exact h
theorem fold_ideal (E : Nat → Rat) (Z Y : Nat → Int) (n : Nat) : rsum (fun m => E m * (conv Z Y n m : Rat)) (2 * n - 1) = rsum (fun i => rsum (fun l => (Z i : Rat) * (Y l : Rat) * E (i + l)) n) n := by
  have e1 : rsum (fun m => E m * (conv Z Y n m : Rat)) (2 * n - 1) = rsum (fun m => rsum (fun i => E m * ((if i ≤ m ∧ m < i + n then Z i * Y (m - i) else 0 : Int) : Rat)) n) (2 * n - 1) := by
    refine rsum_congr _ fun m _ => ?_
    rw [rsum_mul, conv, isum_rq]
  rw [e1, rsum_swap]
  refine rsum_congr n fun i hi => ?_
  obtain ⟨r, hr⟩ : ∃ r, 2 * n - 1 = i + (n + r) := ⟨n - 1 - i, by omega⟩
  rw [hr, rsum_split, rsum_split]
  have z1 : rsum (fun m => E m * ((if i ≤ m ∧ m < i + n then Z i * Y (m - i) else 0 : Int) : Rat)) i = 0 := by
    rw [← rsum_zero i]
    refine rsum_congr i fun m hm => ?_
    rw [if_neg (by omega)]
    have : ((0 : Int) : Rat) = 0 := rfl
    rw [this]; grind
  have z2 : rsum (fun m => E (i + (n + m)) * ((if i ≤ i + (n + m) ∧ i + (n + m) < i + n then Z i * Y (i + (n + m) - i) else 0 : Int) : Rat)) r = 0 := by
    rw [← rsum_zero r]
    refine rsum_congr r fun m hm => ?_
    rw [if_neg (by omega)]
    have : ((0 : Int) : Rat) = 0 := rfl
    rw [this]; grind
  rw [z1, z2]
  have z3 : rsum (fun m => E (i + m) * ((if i ≤ i + m ∧ i + m < i + n then Z i * Y (i + m - i) else 0 : Int) : Rat)) n = rsum (fun l => (Z i : Rat) * (Y l : Rat) * E (i + l)) n := by
    refine rsum_congr n fun l hl => ?_
    rw [if_pos (by omega), Nat.add_sub_cancel_left, Rat.intCast_mul]
    grind
  rw [z3]
  grind
theorem ab_tiny {z : Int} (h : z.natAbs ≤ 268435456) : Ab ((z : Rat) * (sc (-26) * sc (-26))) (1 / 16777216) := by
  have e : sc (-26) = 1 / 67108864 := by decide +kernel
  rw [e]
  have h1 := Rat.intCast_le_intCast.2 (show z ≤ (268435456 : Int) by omega)
  have h2 := Rat.intCast_le_intCast.2 (show (-268435456 : Int) ≤ z by omega)
  rw [show ((268435456 : Int) : Rat) = 268435456 by decide +kernel] at h1
  rw [show ((-268435456 : Int) : Rat) = -268435456 by decide +kernel] at h2
  unfold Ab
  grind
theorem e_mul (T i l : Nat) : Ab (cR T i * cR T l - sR T i * sR T l - cR T (i + l)) (1 / 16777216) ∧ Ab (cR T i * sR T l + sR T i * cR T l - sR T (i + l)) (1 / 16777216) := by
  obtain ⟨h1, h2⟩ := mul_near (jx_lt i T) (jx_lt l T)
  rw [← jx_add] at h1 h2
  have t1 := ab_tiny h1
  have t2 := ab_tiny h2
  have e : sc (-26) * 67108864 = 1 := by decide +kernel
  have e67 : ((67108864 : Int) : Rat) = 67108864 := by decide +kernel
  rw [Rat.intCast_sub, Rat.intCast_sub, Rat.intCast_mul, Rat.intCast_mul, Rat.intCast_mul, e67] at t1
  rw [Rat.intCast_sub, Rat.intCast_add, Rat.intCast_mul, Rat.intCast_mul, Rat.intCast_mul, e67] at t2
  unfold cR sR
  generalize sc (-26) = q at *
  generalize (cE (jx i T) : Rat) = c1 at *
  generalize (cE (jx l T) : Rat) = c2 at *
  generalize (sE (jx i T) : Rat) = s1 at *
  generalize (sE (jx l T) : Rat) = s2 at *
  generalize (cE (jx (i + l) T) : Rat) = c3 at *
  generalize (sE (jx (i + l) T) : Rat) = s3 at *
  have e1 : (c1 * c2 - s1 * s2 - 67108864 * c3) * (q * q) = c1 * q * (c2 * q) - s1 * q * (s2 * q) - c3 * q := by
    have : 67108864 * c3 * (q * q) = c3 * q * (q * 67108864) := by grind
    rw [e] at this
    grind
  have e2 : (c1 * s2 + s1 * c2 - 67108864 * s3) * (q * q) = c1 * q * (s2 * q) + s1 * q * (c2 * q) - s3 * q := by
    have : 67108864 * s3 * (q * q) = s3 * q * (q * 67108864) := by grind
    rw [e] at this
    grind
  rw [e1] at t1
  rw [e2] at t2
  exact ⟨t1, t2⟩
/-- The ideal spectra: the product of two against the folded one's. -/
theorem prod_ideal {a b : Nat → Rat} {Z Y : Nat → Int} {c : Nat → Rat} {n : Nat} (T : Nat) (ha : ∀ i, a i = (Z i : Rat) * sc (-((2 : Nat) : Int))) (hb : ∀ i, b i = (Y i : Rat) * sc (-((2 : Nat) : Int))) (hc : ∀ m, c m = (conv Z Y n m : Rat) * sc (-((4 : Nat) : Int)))
    (ba : ∀ i, i < n → Ab (a i) 2) (bb : ∀ i, i < n → Ab (b i) 2) :
    Ab (XR a T n * XR b T n - XI a T n * XI b T n - XR c T (2 * n - 1)) (n * (n * (4 / 16777216))) ∧ Ab (XR a T n * XI b T n + XI a T n * XR b T n - XI c T (2 * n - 1)) (n * (n * (4 / 16777216))) := by
  have e4 : sc (-((4 : Nat) : Int)) = sc (-((2 : Nat) : Int)) * sc (-((2 : Nat) : Int)) := by rw [← sc_add]; congr 1
  have hX : ∀ E : Nat → Rat, rsum (fun m => E m * c m) (2 * n - 1) = rsum (fun i => rsum (fun l => a i * b l * E (i + l)) n) n := fun E => by
    have h1 : rsum (fun m => E m * c m) (2 * n - 1) = sc (-((4 : Nat) : Int)) * rsum (fun m => E m * (conv Z Y n m : Rat)) (2 * n - 1) := by
      rw [← rsum_mul]
      refine rsum_congr _ fun m _ => ?_
      rw [hc]; grind
    rw [h1, fold_ideal, ← rsum_mul]
    refine rsum_congr n fun i _ => ?_
    rw [← rsum_mul]
    refine rsum_congr n fun l _ => ?_
    rw [ha, hb, e4]; grind
  have sm : ∀ i l, i < n → l < n → ∀ d : Rat, Ab d (1 / 16777216) → Ab (a i * b l * d) (4 / 16777216) := fun i l hi hl d hd => by
    have := ((ba i hi).mul (bb l hl)).mul hd
    exact this.mono (by grind)
  refine ⟨?_, ?_⟩
  · unfold XR XI
    rw [rsum_prod, rsum_prod, hX, ← rsum_sub, ← rsum_sub]
    refine rsum_ab n fun i hi => ?_
    rw [← rsum_sub, ← rsum_sub]
    refine rsum_ab n fun l hl => ?_
    have := sm i l hi hl _ (e_mul T i l).1
    have e : cR T i * a i * (cR T l * b l) - sR T i * a i * (sR T l * b l) - a i * b l * cR T (i + l) = a i * b l * (cR T i * cR T l - sR T i * sR T l - cR T (i + l)) := by grind
    rw [e]
    exact this
  · unfold XR XI
    rw [rsum_prod, rsum_prod, hX, ← rsum_add, ← rsum_sub]
    refine rsum_ab n fun i hi => ?_
    rw [← rsum_add, ← rsum_sub]
    refine rsum_ab n fun l hl => ?_
    have := sm i l hi hl _ (e_mul T i l).2
    have e : cR T i * a i * (sR T l * b l) + sR T i * a i * (cR T l * b l) - a i * b l * sR T (i + l) = a i * b l * (cR T i * sR T l + sR T i * cR T l - sR T (i + l)) := by grind
    rw [e]
    exact this
end Go.Proofs.Ythacadbdncfocaa

/- Plain: lengths of complex numbers, nearly. -/
namespace Go.Proofs.Ythacadbdncfocaa
open Go Go.RowKit Ieee

theorem write_nn (k : FloatKind) (neg : Bool) (T : Nat) (p : Int) (q B : Rat) (hq : q = sgr neg * (T * sc p)) (h0 : 0 ≤ q) (hB : Ab q B) (hs : B < sc (topB k)) :
    ∃ d : Rat, RQ k (k.format.write (.number neg T p)) (q + d) ∧ Ab d (B * uu k + tt k) ∧ 0 ≤ q + d := by
  have hB0 := hB.nn
  have hup := uu_pos k
  have htp := tt_pos k
  have hbu := Rat.mul_nonneg hB0 (Rat.le_of_lt hup)
  by_cases hT : T = 0
  · subst hT
    have hq0 : q = 0 := by rw [hq, show ((0 : Nat) : Rat) = 0 from rfl]; grind
    refine ⟨0, ⟨neg, 0, k.format.leastPlace, ?_, ?_⟩, by unfold Ab; grind, by grind⟩
    · show k.format.read (k.format.nearest neg 0 p) = _
      unfold Format.nearest
      rw [if_pos rfl]
      cases k <;> cases neg <;> decide +kernel
    · rw [hq0, show ((0 : Nat) : Rat) = 0 from rfl]; grind
  · have hp : 0 < (T : Rat) * sc p := Rat.mul_pos (nat_pos hT) (sc_pos p)
    have hn : neg = false := by
      cases neg
      · rfl
      · rw [hq] at h0; unfold sgr at h0; grind
    subst hn
    have e : q = T * sc p := by rw [hq]; unfold sgr; grind
    obtain ⟨d, hr, d1, d2, d3, -⟩ := near_rq k false T p (by unfold Ab at hB; grind)
    refine ⟨d, ?_, ?_, by grind⟩
    · have : sgr false * (T * sc p + d) = q + d := by unfold sgr; grind
      rw [this] at hr
      exact hr
    · have hle : (T : Rat) * sc p ≤ B := by unfold Ab at hB; grind
      have := Rat.mul_le_mul_of_nonneg_right hle (Rat.le_of_lt hup)
      unfold Ab
      grind
theorem RQ.add_nn {k : FloatKind} {x y : Nat} {a b B : Rat} (hx : RQ k x a) (hy : RQ k y b) (h0 : 0 ≤ a + b) (hB : Ab (a + b) B) (hs : B < sc (topB k)) :
    ∃ d : Rat, RQ k (fop .add k x y) (a + b + d) ∧ Ab d (B * uu k + tt k) ∧ 0 ≤ a + b + d := by
  obtain ⟨s, m, i, h1, rfl⟩ := hx
  obtain ⟨t, n, j, h2, rfl⟩ := hy
  obtain ⟨c, T, p, h3, h4, -⟩ := sum_rq (s := s) (t := t) (m := m) (n := n) (i := i) (j := j)
  obtain ⟨d, r1, r2, r3⟩ := write_nn k c T p _ B h4.symm h0 hB hs
  refine ⟨d, ?_, r2, r3⟩
  unfold fop floatBits Format.add
  rw [h1, h2, h3]
  exact r1
theorem RQ.mul_nn {k : FloatKind} {x y : Nat} {a b B : Rat} (hx : RQ k x a) (hy : RQ k y b) (h0 : 0 ≤ a * b) (hB : Ab (a * b) B) (hs : B < sc (topB k)) :
    ∃ d : Rat, RQ k (fop .mul k x y) (a * b + d) ∧ Ab d (B * uu k + tt k) ∧ 0 ≤ a * b + d := by
  obtain ⟨s, m, i, h1, rfl⟩ := hx
  obtain ⟨t, n, j, h2, rfl⟩ := hy
  obtain ⟨d, r1, r2, r3⟩ := write_nn k (s ^^ t) (m * n) (i + j) (sgr s * (m * sc i) * (sgr t * (n * sc j))) B (by rw [sgr_xor, sc_add, Rat.natCast_mul]; grind) h0 hB hs
  refine ⟨d, ?_, r2, r3⟩
  unfold fop floatBits Format.mul
  rw [h1, h2]
  exact r1
theorem rsq_nn (x : Rat) : 0 ≤ x * x := by
  rcases Rat.le_total (a := 0) (b := x) with h | h
  · exact Rat.mul_nonneg h h
  · have := Rat.mul_nonneg (show 0 ≤ -x by grind) (show 0 ≤ -x by grind)
    grind
/-- Near to a root. -/
structure NR (P p : Rat) : Prop where
  up : 0 ≤ p + 1 / 100000
  le : P ≤ (p + 1 / 100000) * (p + 1 / 100000)
  ge : p ≤ 1 / 100000 ∨ (p - 1 / 100000) * (p - 1 / 100000) ≤ P
theorem lg_near {a b : Nat} {va vb : Rat} (ha : RQ .f32 a va) (hb : RQ .f32 b vb) (ka : Ab va 40) (kb : Ab vb 40) : LgOk a b ∧ ∃ p, RQ .f32 (lgF a b) p ∧ NR (va * va + vb * vb) p ∧ Ab p 61 := by
  have u3 := uu32
  have u6 := uu64
  have t3 := tt32
  have t6 := tt64
  have tp3 := tt_pos .f32
  have tp6 := tt_pos .f64
  have wa := ha.wide
  have wb := hb.wide
  have sa := rsq_nn va
  have sb := rsq_nn vb
  have ma := ka.mul ka
  have mb := kb.mul kb
  obtain ⟨d1, r1, e1, z1⟩ := wa.mul_nn wa sa ma (big_top64 (by grind))
  obtain ⟨d2, r2, e2, z2⟩ := wb.mul_nn wb sb mb (big_top64 (by grind))
  rw [u6] at e1 e2
  obtain ⟨A, hA⟩ : ∃ A, va * va = A := ⟨_, rfl⟩
  obtain ⟨B, hB⟩ : ∃ B, vb * vb = B := ⟨_, rfl⟩
  rw [hA] at r1 z1 ma sa ⊢
  rw [hB] at r2 z2 mb sb ⊢
  have hs : Ab (A + d1 + (B + d2)) 3300 := by unfold Ab at *; grind
  obtain ⟨d3, r3, e3, z3⟩ := r1.add_nn r2 (by grind) hs (big_top64 (by grind))
  rw [u6] at e3
  obtain ⟨q, hq⟩ : ∃ q, A + d1 + (B + d2) + d3 = q := ⟨_, rfl⟩
  rw [hq] at r3 z3
  have hq1 : Ab (q - (A + B)) (1 / 100000000000) := by unfold Ab at *; grind
  have hq2 : q ≤ 3301 := by unfold Ab at *; grind
  obtain ⟨y, ry, hsq, y0, hy⟩ := r3.sqrt z3 (by
    have : (4000 : Rat) < sc 1000 := by decide +kernel
    grind)
  rw [u6] at hy
  have hy1 : Ab (y * y - q) (1 / 100000000000) := by
    have := Rat.mul_le_mul_of_nonneg_right hq2 (show (0 : Rat) ≤ 8 * (1 / 9007199254740992) by decide +kernel)
    refine hy.mono ?_
    grind
  have hyb : y ≤ 60 := sq_le (by grind) (by unfold Ab at hy1; grind)
  obtain ⟨d, rn, ed, en⟩ := ry.narrow (B := 60) (by unfold Ab; grind) (by decide +kernel)
  rw [u3] at ed
  have hd : Ab d (4 / 1000000) := ed.mono (by grind)
  refine ⟨⟨ha.notNan, hb.notNan, r1.notNan, r2.notNan, r3.notNan, hsq, en⟩, y + d, rn, ⟨?_, ?_, ?_⟩, ?_⟩
  · unfold Ab at hd; grind
  · have h1 : y + 6 / 1000000 ≤ y + d + 1 / 100000 := by unfold Ab at hd; grind
    have h2 : (y + 6 / 1000000) * (y + 6 / 1000000) ≤ (y + d + 1 / 100000) * (y + d + 1 / 100000) := by
      have a1 := Rat.mul_le_mul_of_nonneg_right h1 (show 0 ≤ y + 6 / 1000000 by grind)
      have a2 := Rat.mul_le_mul_of_nonneg_left h1 (show 0 ≤ y + d + 1 / 100000 by grind)
      grind
    unfold Ab at hy1 hq1
    grind
  · by_cases hp : y + d ≤ 1 / 100000
    · exact .inl hp
    · right
      have h1 : y + d - 1 / 100000 ≤ y - 6 / 1000000 := by unfold Ab at hd; grind
      have h3 : 0 ≤ y + d - 1 / 100000 := by grind
      have h2 : (y + d - 1 / 100000) * (y + d - 1 / 100000) ≤ (y - 6 / 1000000) * (y - 6 / 1000000) := by
        have a1 := Rat.mul_le_mul_of_nonneg_right h1 h3
        have a2 := Rat.mul_le_mul_of_nonneg_left h1 (show 0 ≤ y - 6 / 1000000 by grind)
        grind
      unfold Ab at hy1 hq1
      grind
  · unfold Ab at hd ⊢; grind
/-- The root of a sum of squares is at most the sum of roots. -/
theorem root_tri {w1 w2 u1 u2 s d : Rat} (hs : 0 ≤ s) (hd : 0 ≤ d) (hu : u1 * u1 + u2 * u2 ≤ s * s) (hw : (w1 - u1) * (w1 - u1) + (w2 - u2) * (w2 - u2) ≤ d * d) :
    w1 * w1 + w2 * w2 ≤ (s + d) * (s + d) := by
  obtain ⟨v1, hv1⟩ : ∃ v, w1 - u1 = v := ⟨_, rfl⟩
  obtain ⟨v2, hv2⟩ : ∃ v, w2 - u2 = v := ⟨_, rfl⟩
  rw [hv1, hv2] at hw
  have e1 : w1 = u1 + v1 := by grind
  have e2 : w2 = u2 + v2 := by grind
  have cs : u1 * v1 + u2 * v2 ≤ s * d := by
    refine sq_le (Rat.mul_nonneg hs hd) ?_
    have h1 := rsq_nn (u1 * v2 - u2 * v1)
    have h2 : (u1 * u1 + u2 * u2) * (v1 * v1 + v2 * v2) ≤ (s * s) * (d * d) := by
      have n1 := rsq_nn u1
      have n2 := rsq_nn u2
      have n3 := rsq_nn v1
      have n4 := rsq_nn v2
      have a1 := Rat.mul_le_mul_of_nonneg_right hu (show 0 ≤ v1 * v1 + v2 * v2 by grind)
      have a2 := Rat.mul_le_mul_of_nonneg_left hw (show 0 ≤ s * s from rsq_nn s)
      exact Rat.le_trans a1 a2
    grind
  subst e1 e2
  grind
end Go.Proofs.Ythacadbdncfocaa

/- Plain: what FnSpectra asks of traces of quarters. -/
namespace Go.Proofs.Ythacadbdncfocaa
open Go Go.RowKit Ieee

/-- Products of complex numbers, nearly. -/
theorem mu_near {a b c d : Nat} {x1 x2 y1 y2 : Rat} (ha : RQ .f32 a x1) (hb : RQ .f32 b x2) (hc : RQ .f32 c y1) (hd : RQ .f32 d y2) (ka : Ab x1 17) (kb : Ab x2 17) (kc : Ab y1 17) (kd : Ab y2 17) :
    MuOk a b c d ∧ (∃ r, RQ .f32 (nrw (muR a b c d)) r ∧ Ab (r - (x1 * y1 - x2 * y2)) (1 / 25000)) ∧ (∃ r, RQ .f32 (nrw (muI a b c d)) r ∧ Ab (r - (x1 * y2 + x2 * y1)) (1 / 25000)) := by
  have u3 := uu32
  have u6 := uu64
  have t3 := tt32
  have t6 := tt64
  have k1 := ka.mul kc
  have k2 := kb.mul kd
  have k3 := ka.mul kd
  have k4 := kb.mul kc
  obtain ⟨d1, r1, e1⟩ := ha.wide.mul hc.wide k1 (big_top64 (by grind))
  obtain ⟨d2, r2, e2⟩ := hb.wide.mul hd.wide k2 (big_top64 (by grind))
  obtain ⟨d3, r3, e3⟩ := ha.wide.mul hd.wide k3 (big_top64 (by grind))
  obtain ⟨d4, r4, e4⟩ := hb.wide.mul hc.wide k4 (big_top64 (by grind))
  rw [u6] at e1 e2 e3 e4
  have s1 : Ab (x1 * y1 + d1 - (x2 * y2 + d2)) 580 := by unfold Ab at *; grind
  have s2 : Ab (x1 * y2 + d3 + (x2 * y1 + d4)) 580 := by unfold Ab at *; grind
  obtain ⟨d5, r5, e5⟩ := r1.sub r2 s1 (big_top64 (by grind))
  obtain ⟨d6, r6, e6⟩ := r3.add r4 s2 (big_top64 (by grind))
  rw [u6] at e5 e6
  obtain ⟨d7, r7, e7, n7⟩ := r5.narrow (B := 582) (by unfold Ab at *; grind) (by decide +kernel)
  obtain ⟨d8, r8, e8, n8⟩ := r6.narrow (B := 582) (by unfold Ab at *; grind) (by decide +kernel)
  rw [u3] at e7 e8
  refine ⟨⟨ha.notNan, hb.notNan, hc.notNan, hd.notNan, r1.notNan, r2.notNan, r3.notNan, r4.notNan, r5.notNan, r6.notNan, n7, n8⟩, ⟨_, r7, ?_⟩, ⟨_, r8, ?_⟩⟩
  · unfold Ab at *; grind
  · unfold Ab at *; grind
theorem prod_err {x X y Y : Rat} (hx : Ab (x - X) (384 / 16777216)) (kx : Ab X 16) (hy : Ab (y - Y) (384 / 16777216)) (ky : Ab Y 16) : Ab (x * y - X * Y) (12672 / 16777216) := by
  have hy2 : Ab y 17 := by unfold Ab at *; grind
  have a1 := hx.mul hy2
  have a2 := kx.mul hy
  have e : x * y - X * Y = (x - X) * y + X * (y - Y) := by grind
  rw [e]
  exact (a1.add a2).mono (by grind)
/-- A trace of quarters. -/
def qA (Z : Nat → Int) (i : Nat) : Rat := (Z i : Rat) * sc (-((2 : Nat) : Int))
theorem qA_ab {Z : Nat → Int} {i : Nat} (h : -8 ≤ Z i ∧ Z i ≤ 8) : Ab (qA Z i) 2 := by
  have e : sc (-((2 : Nat) : Int)) = 1 / 4 := by decide +kernel
  have h1 := Rat.intCast_le_intCast.2 h.1
  have h2 := Rat.intCast_le_intCast.2 h.2
  rw [show ((-8 : Int) : Rat) = -8 by decide +kernel] at h1
  rw [show ((8 : Int) : Rat) = 8 by decide +kernel] at h2
  unfold qA
  rw [e]
  unfold Ab
  grind
/-- The spectrum of a trace of quarters. -/
structure SpQ (A : List Nat) (a : Nat → Rat) (T n : Nat) (x1 x2 : Rat) : Prop where
  ok : ∀ k, k < n → SpOk A (tW T) k
  r1 : RQ .f32 (spR A (tW T) n).1 x1
  r2 : RQ .f32 (spR A (tW T) n).2 x2
  n1 : Ab (x1 - XR a T n) (384 / 16777216)
  n2 : Ab (x2 - XI a T n) (384 / 16777216)
  b1 : Ab (XR a T n) 16
  b2 : Ab (XI a T n) 16
theorem nat_le8 {n : Nat} (h : n ≤ 8) : (n : Rat) ≤ 8 := by exact_mod_cast h
theorem SpQ.of {A : List Nat} {Z : Nat → Int} {n T : Nat} (hA : UL 2 A Z n) (hZ : ∀ i, i < n → -8 ≤ Z i ∧ Z i ≤ 8) (hn : n ≤ 8) (hT : T < 41) : ∃ x1 x2, SpQ A (qA Z) T n x1 x2 := by
  obtain ⟨g1, ⟨v1, r1, e1⟩, ⟨v2, r2, e2⟩⟩ := spec_near (A := A) (a := qA Z) (M := 2) hT (show n ≤ 15 by omega) (fun k hk => hA.2 k hk) (fun k hk => qA_ab (hZ k hk)) (by decide +kernel) (by decide +kernel) n (Nat.le_refl _)
  have h8 := nat_le8 hn
  have h0 := nat_nn n
  have k1 : Ab (XR (qA Z) T n) (n * (1 * 2)) := rsum_ab n fun i hi => (cR_ab T i).mul (qA_ab (hZ i hi))
  have k2 : Ab (XI (qA Z) T n) (n * (1 * 2)) := rsum_ab n fun i hi => (sR_ab T i).mul (qA_ab (hZ i hi))
  exact ⟨v1, v2, g1, r1, r2, e1.mono (by grind), e2.mono (by grind), k1.mono (by grind), k2.mono (by grind)⟩
theorem not_gt {k : FloatKind} {x y : Nat} {a b : Rat} (hx : RQ k x a) (hy : RQ k y b) (h : a ≤ b) : (k.format.order x y == some Ordering.gt) = false := by
  rw [hx.order hy]
  by_cases h1 : a < b
  · rw [if_pos h1]; rfl
  · rw [if_neg h1, if_pos (by grind)]; rfl
theorem is_lt {k : FloatKind} {x y : Nat} {a b : Rat} (hx : RQ k x a) (hy : RQ k y b) (h : a < b) : (k.format.order x y == some Ordering.lt) = true := by
  rw [hx.order hy, if_pos h]; rfl
theorem c01_rq : ∃ v, RQ .f32 1008981770 v ∧ 9 / 1000 ≤ v := ⟨_, ⟨false, 10737418, -30, by decide +kernel, rfl⟩, by decide +kernel⟩
theorem c001_v : ∃ v, RQ .f64 c001 v ∧ 9 / 10000 ≤ v := ⟨_, ⟨false, 4611686018427388, -62, by decide +kernel, rfl⟩, by decide +kernel⟩
theorem gap_small {x y : Nat} {a b : Rat} (hx : RQ .f64 x a) (hy : RQ .f64 y b) (h : Ab (a - b) (1 / 2000)) : isN .f64 (gpF x y) = false ∧ ltB (gpF x y) c001 = true ∧ gtB (gpF x y) c001 = false := by
  have u6 := uu64
  have t6 := tt64
  obtain ⟨v, hv, hv2⟩ := c001_v
  have key : ∃ g, RQ .f64 (gpF x y) g ∧ g ≤ 1 / 1900 := by
    unfold gpF
    cases ltB x y
    · obtain ⟨d, r, e⟩ := hx.sub hy h (big_top64 (by grind))
      rw [u6] at e
      exact ⟨_, r, by unfold Ab at *; grind⟩
    · obtain ⟨d, r, e⟩ := hy.sub hx (B := 1 / 2000) (by unfold Ab at *; grind) (big_top64 (by grind))
      rw [u6] at e
      exact ⟨_, r, by unfold Ab at *; grind⟩
  obtain ⟨g, rg, hg⟩ := key
  exact ⟨rg.notNan, is_lt rg hv (by grind), not_gt rg hv (by grind)⟩
theorem NR.small {P p B : Rat} (h : NR P p) (hB : 1 / 10000 ≤ B) (hP : P ≤ B * B) : p ≤ B + 1 / 100000 := by
  rcases h.ge with h1 | h1
  · grind
  · have := sq_le (a := p - 1 / 100000) (b := B) (by grind) (by grind)
    grind
/-- The first law: the spectrum of what is folded. -/
structure FoldedOk (A B C : List Nat) (t n : Nat) : Prop where
  ok : ∀ k, k < 2 * n - 1 → SpOk C t k
  mu : MuOk (spR A t n).1 (spR A t n).2 (spR B t n).1 (spR B t n).2
  n1 : isN .f32 (fop .sub .f32 (nrw (muR (spR A t n).1 (spR A t n).2 (spR B t n).1 (spR B t n).2)) (spR C t (2 * n - 1)).1) = false
  n2 : isN .f32 (fop .sub .f32 (nrw (muI (spR A t n).1 (spR A t n).2 (spR B t n).1 (spR B t n).2)) (spR C t (2 * n - 1)).2) = false
  lg : LgOk (fop .sub .f32 (nrw (muR (spR A t n).1 (spR A t n).2 (spR B t n).1 (spR B t n).2)) (spR C t (2 * n - 1)).1) (fop .sub .f32 (nrw (muI (spR A t n).1 (spR A t n).2 (spR B t n).1 (spR B t n).2)) (spR C t (2 * n - 1)).2)
  le : (FloatKind.f32.format.order (lgF (fop .sub .f32 (nrw (muR (spR A t n).1 (spR A t n).2 (spR B t n).1 (spR B t n).2)) (spR C t (2 * n - 1)).1) (fop .sub .f32 (nrw (muI (spR A t n).1 (spR A t n).2 (spR B t n).1 (spR B t n).2)) (spR C t (2 * n - 1)).2)) 1008981770 == some Ordering.gt) = false
theorem folded_ok {A B : List Nat} {Z Y : Nat → Int} {n T : Nat} (hA : UL 2 A Z n) (hB : UL 2 B Y n) (hZ : ∀ i, i < n → -8 ≤ Z i ∧ Z i ≤ 8) (hY : ∀ i, i < n → -8 ≤ Y i ∧ Y i ≤ 8) (hn : 1 ≤ n) (hn2 : n ≤ 8) (hT : T < 41) : FoldedOk A B (foldM A B) (tW T) n := by
  obtain ⟨x1, x2, sx⟩ := SpQ.of hA hZ hn2 hT
  obtain ⟨y1, y2, sy⟩ := SpQ.of hB hY hn2 hT
  have hC : ∀ m, m < 2 * n - 1 → RQ .f32 ((foldM A B).getD m 0) ((conv Z Y n m : Rat) * sc (-((4 : Nat) : Int))) := fun m hm => by
    have e : (foldM A B).getD m 0 = foldS A B m := tab_getD _ _ _ (by rw [hA.1, hB.1]; omega)
    rw [e]
    exact fold_uq hA hB hZ hY hn hn2 m hm
  have e4 : sc (-((4 : Nat) : Int)) = 1 / 16 := by decide +kernel
  have hCb : ∀ m, m < 2 * n - 1 → Ab ((conv Z Y n m : Rat) * sc (-((4 : Nat) : Int))) 32 := fun m hm => by
    have h0 := conv_bd hZ hY m
    have h1 := Rat.intCast_le_intCast.2 (show conv Z Y n m ≤ (512 : Int) by omega)
    have h2 := Rat.intCast_le_intCast.2 (show (-512 : Int) ≤ conv Z Y n m by omega)
    rw [show ((512 : Int) : Rat) = 512 by decide +kernel] at h1
    rw [show ((-512 : Int) : Rat) = -512 by decide +kernel] at h2
    rw [e4]
    unfold Ab
    grind
  obtain ⟨g3, ⟨z1, r1, e1⟩, ⟨z2, r2, e2⟩⟩ := spec_near (A := foldM A B) (a := fun m => (conv Z Y n m : Rat) * sc (-((4 : Nat) : Int))) (M := 32) hT (show 2 * n - 1 ≤ 15 by omega) hC hCb (by decide +kernel) (by decide +kernel) (2 * n - 1) (Nat.le_refl _)
  obtain ⟨p1, p2⟩ := prod_ideal (a := qA Z) (b := qA Y) (c := fun m => (conv Z Y n m : Rat) * sc (-((4 : Nat) : Int))) (Z := Z) (Y := Y) (n := n) T (fun _ => rfl) (fun _ => rfl) (fun _ => rfl) (fun i hi => qA_ab (hZ i hi)) (fun i hi => qA_ab (hY i hi))
  have h8 := nat_le8 hn2
  have h0 := nat_nn n
  have h15 : ((2 * n - 1 : Nat) : Rat) ≤ 15 := by
    have : 2 * n - 1 ≤ 15 := by omega
    exact_mod_cast this
  have nn : (n : Rat) * (n * (4 / 16777216)) ≤ 256 / 16777216 := by
    have a1 := Rat.mul_le_mul_of_nonneg_right h8 h0
    have a2 := Rat.mul_le_mul_of_nonneg_left h8 (show (0 : Rat) ≤ 8 by decide +kernel)
    grind
  have q1 := p1.mono nn
  have q2 := p2.mono nn
  have f1 := e1.mono (C := 11520 / 16777216) (by grind)
  have f2 := e2.mono (C := 11520 / 16777216) (by grind)
  have w1 := prod_err sx.n1 sx.b1 sy.n1 sy.b1
  have w2 := prod_err sx.n2 sx.b2 sy.n2 sy.b2
  have w3 := prod_err sx.n1 sx.b1 sy.n2 sy.b2
  have w4 := prod_err sx.n2 sx.b2 sy.n1 sy.b1
  have b17 : ∀ {x X : Rat}, Ab (x - X) (384 / 16777216) → Ab X 16 → Ab x 17 := fun h1 h2 => by unfold Ab at *; grind
  obtain ⟨mu, ⟨m1, s1, t1⟩, ⟨m2, s2, t2⟩⟩ := mu_near sx.r1 sx.r2 sy.r1 sy.r2 (b17 sx.n1 sx.b1) (b17 sx.n2 sx.b2) (b17 sy.n1 sy.b1) (b17 sy.n2 sy.b2)
  have D1 : Ab (m1 - z1) (1 / 400) := by unfold Ab at *; grind
  have D2 : Ab (m2 - z2) (1 / 400) := by unfold Ab at *; grind
  obtain ⟨d1, v1, j1⟩ := s1.sub r1 D1 (big_top (by grind))
  obtain ⟨d2, v2, j2⟩ := s2.sub r2 D2 (big_top (by grind))
  have u3 := uu32
  have t3 := tt32
  rw [u3] at j1 j2
  have K1 : Ab (m1 - z1 + d1) (1 / 390) := by unfold Ab at *; grind
  have K2 : Ab (m2 - z2 + d2) (1 / 390) := by unfold Ab at *; grind
  obtain ⟨lg, p, rp, np, -⟩ := lg_near v1 v2 (K1.mono (by grind)) (K2.mono (by grind))
  obtain ⟨c, rc, hc⟩ := c01_rq
  have S1 := K1.mul K1
  have S2 := K2.mul K2
  have hp := np.small (B := 5 / 1000) (by grind) (by unfold Ab at S1 S2; grind)
  exact ⟨g3, mu, v1.notNan, v2.notNan, lg, not_gt rp rc (by grind)⟩
end Go.Proofs.Ythacadbdncfocaa

/- Plain: later traces have the same power; the spectrum at 0 turns; the spectrum of a pulse. -/
namespace Go.Proofs.Ythacadbdncfocaa
open Go Go.RowKit Ieee

/-- The trace, three later. -/
def ltL (A : List Nat) : List Nat := latF (A ++ [0, 0, 0]) (-3)
theorem ltL_length (A : List Nat) : (ltL A).length = A.length + 3 := by
  unfold ltL latF
  rw [tab_length, List.length_append]
  rfl
theorem ltL_getD {A : List Nat} {k : Nat} (hk : k < A.length + 3) : (ltL A).getD k 0 = if 3 ≤ k then A.getD (k - 3) 0 else 0 := by
  unfold ltL latF
  rw [tab_getD _ _ _ (by rw [List.length_append]; exact hk)]
  unfold inB
  have e : (A ++ [0, 0, 0]).length = A.length + 3 := by rw [List.length_append]; rfl
  rw [e]
  by_cases h3 : 3 ≤ k
  · rw [if_pos h3, if_pos (by simp; omega), show ((k : Int) + -3).toNat = k - 3 by omega, List.getD_eq_getElem?_getD, List.getElem?_append_left (by omega), ← List.getD_eq_getElem?_getD]
  · rw [if_neg h3, if_neg (by simp; omega)]
theorem e_one (T i : Nat) : Ab (cR T i * cR T i + sR T i * sR T i - 1) (1 / 16777216) := by
  have h := ab_tiny (size_e (jx_lt i T)).2.2
  have e : sc (-26) * 67108864 = 1 := by decide +kernel
  have e67 : ((67108864 : Int) : Rat) = 67108864 := by decide +kernel
  rw [Rat.intCast_sub, Rat.intCast_add, Rat.intCast_mul, Rat.intCast_mul, Rat.intCast_mul, e67] at h
  unfold cR sR
  generalize sc (-26) = q at *
  generalize (cE (jx i T) : Rat) = c1 at *
  generalize (sE (jx i T) : Rat) = s1 at *
  have e1 : (c1 * c1 + s1 * s1 - 67108864 * 67108864) * (q * q) = c1 * q * (c1 * q) + s1 * q * (s1 * q) - 1 := by
    have : 67108864 * 67108864 * (q * q) = (q * 67108864) * (q * 67108864) := by grind
    rw [e] at this
    grind
  rw [e1] at h
  exact h
def a3 (a : Nat → Rat) (k : Nat) : Rat := if 3 ≤ k then a (k - 3) else 0
theorem late_sum (E a : Nat → Rat) (n : Nat) : rsum (fun k => E k * a3 a k) (n + 3) = rsum (fun i => E (3 + i) * a i) n := by
  rw [Nat.add_comm, rsum_split]
  have z : rsum (fun k => E k * a3 a k) 3 = 0 := by
    rw [← rsum_zero 3]
    refine rsum_congr 3 fun k hk => ?_
    unfold a3
    rw [if_neg (by omega)]
    grind
  rw [z]
  have e : rsum (fun i => E (3 + i) * a3 a (3 + i)) n = rsum (fun i => E (3 + i) * a i) n := by
    refine rsum_congr n fun i _ => ?_
    unfold a3
    rw [if_pos (by omega), Nat.add_sub_cancel_left]
  rw [e]
  grind
theorem late_ideal (a : Nat → Rat) (T n : Nat) (hn : n ≤ 8) (ba : ∀ i, i < n → Ab (a i) 2) :
    Ab (XR (a3 a) T (n + 3) - (cR T 3 * XR a T n - sR T 3 * XI a T n)) (16 / 16777216) ∧ Ab (XI (a3 a) T (n + 3) - (cR T 3 * XI a T n + sR T 3 * XR a T n)) (16 / 16777216) := by
  have h8 := nat_le8 hn
  have h0 := nat_nn n
  constructor
  · have e : XR (a3 a) T (n + 3) - (cR T 3 * XR a T n - sR T 3 * XI a T n) = rsum (fun i => -(a i * (cR T 3 * cR T i - sR T 3 * sR T i - cR T (3 + i)))) n := by
      unfold XR XI
      rw [late_sum, ← rsum_mul, ← rsum_mul, ← rsum_sub, ← rsum_sub]
      refine rsum_congr n fun i _ => ?_
      grind
    rw [e]
    refine (rsum_ab (B := 2 / 16777216) n fun i hi => ?_).mono (by grind)
    have := (ba i hi).mul (e_mul T 3 i).1
    unfold Ab at *
    grind
  · have e : XI (a3 a) T (n + 3) - (cR T 3 * XI a T n + sR T 3 * XR a T n) = rsum (fun i => -(a i * (cR T 3 * sR T i + sR T 3 * cR T i - sR T (3 + i)))) n := by
      unfold XR XI
      rw [late_sum, ← rsum_mul, ← rsum_mul, ← rsum_add, ← rsum_sub]
      refine rsum_congr n fun i _ => ?_
      grind
    rw [e]
    refine (rsum_ab (B := 2 / 16777216) n fun i hi => ?_).mono (by grind)
    have := (ba i hi).mul (e_mul T 3 i).2
    unfold Ab at *
    grind
theorem rot_err {c s x1 x2 X1 X2 : Rat} (hc : Ab c 1) (hs : Ab s 1) (h1 : Ab (x1 - X1) (384 / 16777216)) (h2 : Ab (x2 - X2) (384 / 16777216)) :
    Ab (c * X1 - s * X2 - (c * x1 - s * x2)) (768 / 16777216) ∧ Ab (c * X2 + s * X1 - (c * x2 + s * x1)) (768 / 16777216) := by
  have a1 := hc.mul h1
  have a2 := hs.mul h2
  have a3 := hc.mul h2
  have a4 := hs.mul h1
  constructor
  · have e : c * X1 - s * X2 - (c * x1 - s * x2) = -(c * (x1 - X1)) + s * (x2 - X2) := by grind
    rw [e]; unfold Ab at *; grind
  · have e : c * X2 + s * X1 - (c * x2 + s * x1) = -(c * (x2 - X2)) + -(s * (x1 - X1)) := by grind
    rw [e]; unfold Ab at *; grind
/-- Lengths of turned numbers are near. -/
theorem len_near {c s x1 x2 w1 w2 p q : Rat} (he : Ab (c * c + s * s - 1) (1 / 16777216)) (d1 : Ab (w1 - (c * x1 - s * x2)) (1312 / 16777216)) (d2 : Ab (w2 - (c * x2 + s * x1)) (1312 / 16777216))
    (hp : NR (w1 * w1 + w2 * w2) p) (hq : NR (x1 * x1 + x2 * x2) q) (kp : Ab p 61) (kq : Ab q 61) : Ab (p - q) (1 / 2000) := by
  obtain ⟨u1, hu1⟩ : ∃ u, c * x1 - s * x2 = u := ⟨_, rfl⟩
  obtain ⟨u2, hu2⟩ : ∃ u, c * x2 + s * x1 = u := ⟨_, rfl⟩
  have hU : u1 * u1 + u2 * u2 = (c * c + s * s) * (x1 * x1 + x2 * x2) := by rw [← hu1, ← hu2]; grind
  rw [hu1] at d1
  rw [hu2] at d2
  have n1 := rsq_nn x1
  have n2 := rsq_nn x2
  obtain ⟨P, hP⟩ : ∃ P, x1 * x1 + x2 * x2 = P := ⟨_, rfl⟩
  rw [hP] at hU hq
  have hP0 : 0 ≤ P := by grind
  have m1 := Rat.mul_le_mul_of_nonneg_right he.1 hP0
  have m2 := Rat.mul_le_mul_of_nonneg_right he.2 hP0
  have hU1 : u1 * u1 + u2 * u2 ≤ P + P * (1 / 16777216) := by rw [hU]; grind
  have hU2 : P - P * (1 / 16777216) ≤ u1 * u1 + u2 * u2 := by rw [hU]; grind
  have s1 := d1.mul d1
  have s2 := d2.mul d2
  have hd : (w1 - u1) * (w1 - u1) + (w2 - u2) * (w2 - u2) ≤ 1 / 8000 * (1 / 8000) := by unfold Ab at s1 s2; grind
  have hd' : (u1 - w1) * (u1 - w1) + (u2 - w2) * (u2 - w2) ≤ 1 / 8000 * (1 / 8000) := by grind
  obtain ⟨p0, p1, p2⟩ := hp
  obtain ⟨q0, q1, q2⟩ := hq
  have up : p - q ≤ 1 / 2000 := by
    obtain ⟨Q, hQ⟩ : ∃ Q, q + 1 / 100000 = Q := ⟨_, rfl⟩
    rw [hQ] at q0 q1
    have hQ62 : Q ≤ 62 := by unfold Ab at kq; grind
    have hQQ := Rat.mul_le_mul_of_nonneg_right hQ62 q0
    have hs : u1 * u1 + u2 * u2 ≤ (Q + 1 / 100000) * (Q + 1 / 100000) := by grind
    have t := root_tri (s := Q + 1 / 100000) (d := 1 / 8000) (by grind) (by decide +kernel) hs hd
    rcases p2 with h | h
    · unfold Ab at kq; grind
    · have := sq_le (a := p - 1 / 100000) (b := Q + 1 / 100000 + 1 / 8000) (by grind) (Rat.le_trans h t)
      grind
  have dn : q - p ≤ 1 / 2000 := by
    obtain ⟨Q, hQ⟩ : ∃ Q, p + 1 / 100000 = Q := ⟨_, rfl⟩
    rw [hQ] at p0 p1
    have hQ62 : Q ≤ 62 := by unfold Ab at kp; grind
    have t := root_tri (s := Q) (d := 1 / 8000) p0 (by decide +kernel) p1 hd'
    obtain ⟨R, hR⟩ : ∃ R, Q + 1 / 8000 = R := ⟨_, rfl⟩
    rw [hR] at t
    have hR0 : 0 ≤ R := by grind
    have hR63 : R ≤ 63 := by grind
    have hRR := Rat.mul_le_mul_of_nonneg_right hR63 hR0
    have hX : P ≤ (R + 1 / 100000) * (R + 1 / 100000) := by grind
    rcases q2 with h | h
    · grind
    · have := sq_le (a := q - 1 / 100000) (b := R + 1 / 100000) (by grind) (Rat.le_trans h hX)
      grind
  unfold Ab
  grind
/-- The second law: what is later has the same power. -/
structure LaterOk (A : List Nat) (t n : Nat) : Prop where
  ok : ∀ k, k < n + 3 → SpOk (ltL A) t k
  lw : LgOk (spR (ltL A) t (n + 3)).1 (spR (ltL A) t (n + 3)).2
  lx : LgOk (spR A t n).1 (spR A t n).2
  nw : isN .f32 (lgF (spR (ltL A) t (n + 3)).1 (spR (ltL A) t (n + 3)).2) = false
  nx : isN .f32 (lgF (spR A t n).1 (spR A t n).2) = false
  gn : isN .f64 (gpF (cwide (lgF (spR (ltL A) t (n + 3)).1 (spR (ltL A) t (n + 3)).2)) (cwide (lgF (spR A t n).1 (spR A t n).2))) = false
  le : gtB (gpF (cwide (lgF (spR (ltL A) t (n + 3)).1 (spR (ltL A) t (n + 3)).2)) (cwide (lgF (spR A t n).1 (spR A t n).2))) c001 = false
theorem later_ok {A : List Nat} {Z : Nat → Int} {n T : Nat} (hA : UL 2 A Z n) (hZ : ∀ i, i < n → -8 ≤ Z i ∧ Z i ≤ 8) (hn2 : n ≤ 8) (hT : T < 41) : LaterOk A (tW T) n := by
  obtain ⟨x1, x2, sx⟩ := SpQ.of hA hZ hn2 hT
  have hL : ∀ k, k < n + 3 → RQ .f32 ((ltL A).getD k 0) (a3 (qA Z) k) ∧ Ab (a3 (qA Z) k) 2 := fun k hk => by
    rw [ltL_getD (by rw [hA.1]; exact hk)]
    unfold a3
    by_cases h3 : 3 ≤ k
    · rw [if_pos h3, if_pos h3]
      exact ⟨hA.2 _ (by omega), qA_ab (hZ _ (by omega))⟩
    · rw [if_neg h3, if_neg h3]
      exact ⟨rq_z, by unfold Ab; grind⟩
  obtain ⟨g, ⟨w1, r1, e1⟩, ⟨w2, r2, e2⟩⟩ := spec_near (A := ltL A) (a := a3 (qA Z)) (M := 2) hT (show n + 3 ≤ 15 by omega) (fun k hk => (hL k hk).1) (fun k hk => (hL k hk).2) (by decide +kernel) (by decide +kernel) (n + 3) (Nat.le_refl _)
  obtain ⟨i1, i2⟩ := late_ideal (qA Z) T n hn2 (fun i hi => qA_ab (hZ i hi))
  have h11 : ((n + 3 : Nat) : Rat) ≤ 11 := by
    have : n + 3 ≤ 11 := by omega
    exact_mod_cast this
  have f1 := e1.mono (C := 528 / 16777216) (by grind)
  have f2 := e2.mono (C := 528 / 16777216) (by grind)
  obtain ⟨o1, o2⟩ := rot_err (cR_ab T 3) (sR_ab T 3) sx.n1 sx.n2
  have D1 : Ab (w1 - (cR T 3 * x1 - sR T 3 * x2)) (1312 / 16777216) := by unfold Ab at *; grind
  have D2 : Ab (w2 - (cR T 3 * x2 + sR T 3 * x1)) (1312 / 16777216) := by unfold Ab at *; grind
  have b17 : ∀ {x X : Rat}, Ab (x - X) (384 / 16777216) → Ab X 16 → Ab x 17 := fun h1 h2 => by unfold Ab at *; grind
  have kx1 := b17 sx.n1 sx.b1
  have kx2 := b17 sx.n2 sx.b2
  have c1 := (cR_ab T 3).mul kx1
  have c2 := (sR_ab T 3).mul kx2
  have c3 := (cR_ab T 3).mul kx2
  have c4 := (sR_ab T 3).mul kx1
  have kw1 : Ab w1 40 := by unfold Ab at D1 c1 c2 ⊢; grind
  have kw2 : Ab w2 40 := by unfold Ab at D2 c3 c4 ⊢; grind
  obtain ⟨lw, p, rp, np, kp⟩ := lg_near r1 r2 kw1 kw2
  obtain ⟨lx, q, rq, nq, kq⟩ := lg_near sx.r1 sx.r2 (kx1.mono (by grind)) (kx2.mono (by grind))
  have key := len_near (e_one T 3) D1 D2 np nq kp kq
  obtain ⟨g1, -, g3⟩ := gap_small rp.wide rq.wide key
  exact ⟨g, lw, lx, rp.notNan, rq.notNan, g1, g3⟩
end Go.Proofs.Ythacadbdncfocaa

/- Plain: the spectrum at 0 turns; the spectrum of a pulse. -/
namespace Go.Proofs.Ythacadbdncfocaa
open Go Go.RowKit Ieee

theorem tk4 {k : Nat} (h : k < 4) : tk 4 k = tW (16 + 8 * k) := by
  have hc : k = 0 ∨ k = 1 ∨ k = 2 ∨ k = 3 := by omega
  rcases hc with rfl | rfl | rfl | rfl <;> decide +kernel
/-- The sum of a trace. -/
def smW (A : List Nat) (j : Nat) : Nat := sumTo .f32 (fun i => A.getD i 0) j
theorem smW_uq {A : List Nat} {Z : Nat → Int} {n : Nat} (hA : UL 2 A Z n) (hZ : ∀ i, i < n → -8 ≤ Z i ∧ Z i ≤ 8) (hn : n ≤ 8) (j : Nat) (hj : j ≤ n) : UQ 2 (smW A j) (isum Z j) ∧ (isum Z j).natAbs ≤ 64 * j := by
  induction j with
  | zero => exact ⟨UQ.zero 2, Nat.le_refl 0⟩
  | succ j ih =>
    obtain ⟨h1, h2⟩ := ih (by omega)
    have hz := hZ j (by omega)
    have h3 := h1.add (hA.2 j (by omega)) (by decide) (by omega)
    exact ⟨h3, by rw [isum]; omega⟩
theorem smW_nn {A : List Nat} {Z : Nat → Int} {n : Nat} (hA : UL 2 A Z n) (hZ : ∀ i, i < n → -8 ≤ Z i ∧ Z i ≤ 8) (hn : n ≤ 8) (j : Nat) (hj : j ≤ n) : isN .f32 (smW A j) = false := (smW_uq hA hZ hn j hj).1.nn
theorem jx16 (k : Nat) : jx k 16 = 0 := by unfold jx; omega
theorem XR16 (a : Nat → Rat) (n : Nat) : XR a 16 n = rsum a n ∧ XI a 16 n = 0 := by
  have e : (67108864 : Rat) * sc (-26) = 1 := by decide +kernel
  constructor
  · unfold XR
    refine rsum_congr n fun k _ => ?_
    unfold cR
    rw [jx16, show ((cE 0 : Int) : Rat) = 67108864 by decide +kernel, e]
    grind
  · unfold XI
    rw [← rsum_zero n]
    refine rsum_congr n fun k _ => ?_
    unfold sR
    rw [jx16, show ((sE 0 : Int) : Rat) = 0 by decide +kernel]
    grind
/-- The spectrum at four places; at 0 turns it is the sum. -/
structure ZeroOk (A : List Nat) (n : Nat) : Prop where
  nt : ∀ k, k < 4 → isN .f32 (tk 4 k) = false
  ok : ∀ k, k < 4 → ∀ j, j < n → SpOk A (tk 4 k) j
  sm : ∀ j, j ≤ n → isN .f32 (smW A j) = false
  n1 : isN .f32 (spR A (tk 4 0) n).1 = false
  n2 : isN .f32 (spR A (tk 4 0) n).2 = false
  g1 : isN .f64 (gpF (cwide (spR A (tk 4 0) n).1) (cwide (smW A n))) = false
  l1 : ltB (gpF (cwide (spR A (tk 4 0) n).1) (cwide (smW A n))) c001 = true
  g2 : isN .f64 (gpF (cwide (spR A (tk 4 0) n).2) 0) = false
  l2 : ltB (gpF (cwide (spR A (tk 4 0) n).2) 0) c001 = true
theorem rq_z64 : RQ .f64 0 0 := ⟨false, 0, -1074, by decide +kernel, by decide +kernel⟩
theorem zero_ok {A : List Nat} {Z : Nat → Int} {n : Nat} (hA : UL 2 A Z n) (hZ : ∀ i, i < n → -8 ≤ Z i ∧ Z i ≤ 8) (hn : n ≤ 8) : ZeroOk A n := by
  obtain ⟨x1, x2, sx⟩ := SpQ.of (T := 16) hA hZ hn (by decide)
  have e0 := tk4 (k := 0) (by decide)
  have hs := (smW_uq hA hZ hn n (Nat.le_refl _)).1
  have e1 : ((isum Z n : Int) : Rat) * sc (-((2 : Nat) : Int)) = rsum (qA Z) n := by
    rw [isum_rq, show rsum (fun i => (Z i : Rat)) n * sc (-((2 : Nat) : Int)) = sc (-((2 : Nat) : Int)) * rsum (fun i => (Z i : Rat)) n by grind, ← rsum_mul]
    refine rsum_congr n fun i _ => ?_
    unfold qA
    grind
  unfold UQ at hs
  rw [e1] at hs
  have k1 := sx.n1
  have k2 := sx.n2
  rw [(XR16 _ n).1] at k1
  rw [(XR16 _ n).2] at k2
  obtain ⟨a1, a2, -⟩ := gap_small sx.r1.wide hs.wide (k1.mono (by grind))
  obtain ⟨b1, b2, -⟩ := gap_small sx.r2.wide rq_z64 (k2.mono (by grind))
  refine ⟨fun k hk => ?_, fun k hk j hj => ?_, fun j hj => smW_nn hA hZ hn j hj, ?_, ?_, ?_, ?_, ?_, ?_⟩
  · rw [tk4 hk]; exact tOk_nn (turn_ok (T := 16 + 8 * k) (by omega)).1
  · rw [tk4 hk]
    obtain ⟨y1, y2, sy⟩ := SpQ.of (T := 16 + 8 * k) hA hZ hn (by omega)
    exact sy.ok j hj
  all_goals rw [e0]
  · exact sx.r1.notNan
  · exact sx.r2.notNan
  · exact a1
  · exact a2
  · exact b1
  · exact b2
/-- The spectrum of a pulse. -/
def puL : List Nat := (List.replicate 4 0).set 0 1065353216
def spB (A : List Nat) (t k : Nat) : Bool := phOk (argX k t) && (!isN .f64 (fop .mul .f64 (floatOfInt .f64 (k : Nat)) (cwide t)) && (!isN .f32 (A.getD k 0) && (!isN .f32 (fop .mul .f32 (phRe (argX k t)) (A.getD k 0)) && (!isN .f32 (fop .mul .f32 (phIm (argX k t)) (A.getD k 0)) && (!isN .f32 (spR A t (k + 1)).1 && !isN .f32 (spR A t (k + 1)).2)))))
theorem SpOk.of {A : List Nat} {t k : Nat} (h : spB A t k = true) : SpOk A t k := by
  unfold spB at h
  simp only [Bool.and_eq_true, Bool.not_eq_true'] at h
  obtain ⟨h1, h2, h3, h4, h5, h6, h7⟩ := h
  exact ⟨h1, h2, h3, h4, h5, h6, h7⟩
theorem pulse_table : ((List.range 5).all fun k => !isN .f32 (tk 5 k) && ((List.range 4).all (fun j => spB puL (tk 5 k) j) && decide (spR puL (tk 5 k) 4 = (1065353216, 0)))) = true := by decide +kernel
theorem pulse_ok {k : Nat} (hk : k < 5) : isN .f32 (tk 5 k) = false ∧ (∀ j, j < 4 → SpOk puL (tk 5 k) j) ∧ spR puL (tk 5 k) 4 = (1065353216, 0) := by
  have h := List.all_eq_true.1 pulse_table k (List.mem_range.2 hk)
  simp only [Bool.and_eq_true, Bool.not_eq_true', List.all_eq_true, decide_eq_true_eq] at h
  exact ⟨h.1, fun j hj => SpOk.of (h.2.1 j (List.mem_range.2 hj)), h.2.2⟩
theorem one_less : fop .sub .f32 1065353216 1065353216 = 0 ∧ fop .sub .f32 0 0 = 0 := by decide +kernel
theorem lg_zero : LgOk 0 0 := ⟨by decide +kernel, by decide +kernel, by decide +kernel, by decide +kernel, by decide +kernel, by decide +kernel, by decide +kernel⟩
theorem lg_zero_le : (FloatKind.f32.format.order (lgF 0 0) 981668463 == some Ordering.gt) = false := by decide +kernel
end Go.Proofs.Ythacadbdncfocaa

/- FnSpectra: the walk of the law. -/
namespace Go.Proofs.Ythacadbdncfocaa
open Go Go.RowKit

theorem rd_zeros3 {w : World} {g : Nat} (h : w.heap[g]? = some (.cells #[.float .f32 0, .float .f32 0, .float .f32 0] 27 (0, 0))) : RdF w (.slice (some ⟨g, 0, none⟩) 3 3) [0, 0, 0] := by
  refine ⟨some ⟨g, 0, none⟩, 3, rfl, Nat.le_refl _, (fun h => by cases h), fun j hj => ?_⟩
  have hj4 : j < 3 := by simpa using hj
  refine ⟨g, 0, .float .f32 0, rfl, ?_, 0, rfl, ?_⟩
  · rw [Nat.zero_add, cell_of_row w g j _ _ _ h]
    match j, hj4 with
    | 0, _ => rfl
    | 1, _ => rfl
    | 2, _ => rfl
  · match j, hj4 with
    | 0, _ => exact fv0 _
    | 1, _ => exact fv0 _
    | 2, _ => exact fv0 _
set_option maxRecDepth 100000 in
set_option maxHeartbeats 12800000 in
theorem lawSpectra_any (w : World) (v1 v2 : Value) (n1 n2 : Nat) (h1 : RdY w v1 n1) (h2 : RdY w v2 n2) (m1 : n1 ≤ maxLen) (m2 : n2 ≤ maxLen) :
    Calls Try.prog 3 #[v1, v2] w (TrueB w) := by
  have H1 := Lib.hid h1
  have H2 := Lib.hid h2
  obtain ⟨a1, c1, rfl, -, -⟩ := h1.opened
  obtain ⟨a2, c2, rfl, -, -⟩ := h2.opened
  have HL := Lib.hid (b10Long_any w a1 a2 n1 n2 c1 c2 m1 m2)
  clear h1 h2 m1 m2
  cases hq : decide (1048576 < n1) || decide (1048576 < n2) with
  | true =>
    rw [hq] at HL
    clear hq
    go_enter Try.func3, Try.ntmps3
    go_wp2_with fail
    refine HL.out.mono ?_
    rintro e w1 ⟨rfl, hw1⟩
    obtain rfl : w = w1 := hw1.symm
    go_wp2
    go_ret
    exact TrueB.mk (Below.refl _ _)
  | false =>
    rw [hq] at HL
    have l1 : n1 ≤ 1048576 := by simp at hq; omega
    have l2 : n2 ≤ 1048576 := by simp at hq; omega
    clear hq
    go_enter Try.func3, Try.ntmps3
    go_wp2_with fail
    refine HL.out.mono ?_
    rintro e w0 ⟨rfl, hw0⟩
    obtain rfl : w = w0 := hw0.symm
    clear HL hw0
    go_wp2_with fail
    refine (b10At_any w _ n1 0 8 H1.out l1 (by decide) (by decide) (by decide) (by decide)).mono ?_
    rintro e w0 ⟨t', rfl, ht0, ht1, hw0⟩
    obtain rfl : w = w0 := hw0.symm
    obtain ⟨n, hn⟩ : ∃ n : Nat, 1 + t' = (n : Int) := ⟨(1 + t').toNat, by omega⟩
    have hn1 : 1 ≤ n := by omega
    have hn8 : n ≤ 8 := by omega
    clear hw0 ht0 ht1
    go_wp2_with fail
    clear hn
    refine (b10TraceN_any w _ n1 n H1.out l1 (by omega)).mono ?_
    rintro e w1 ⟨va, zs, rfl, hzl, hzb, oa, b1⟩
    obtain ⟨hU, hB⟩ := ul_qv hzb
    rw [hzl] at hU hB
    have hAl : (zs.map qv).length = n := by rw [List.length_map, hzl]
    have HU := Lib.hid hU
    have HB8 := Lib.hid hB
    generalize zF zs = Z at *
    generalize zs.map qv = A at *
    have HN := Lib.hid hAl
    obtain ⟨ga, ca, rfl, -, hgal, hca, -, -⟩ := oa.at_block hAl (by omega)
    have OA := Lib.hid oa
    have C1 := Lib.hid b1
    clear hzl hzb oa b1 hU hB hAl
    go_wp2_with fail
    refine (b10TraceN_any w1 _ n2 n (H2.out.mono C1.out) l2 (by omega)).mono ?_
    rintro e w2 ⟨vb, ys, rfl, hzl, hzb, ob, b2⟩
    obtain ⟨hU, hB⟩ := ul_qv hzb
    rw [hzl] at hU hB
    have hBl : (ys.map qv).length = n := by rw [List.length_map, hzl]
    have HV := Lib.hid hU
    have HC8 := Lib.hid hB
    generalize zF ys = Y at *
    generalize ys.map qv = B at *
    have HNB := Lib.hid hBl
    obtain ⟨gb, cb, rfl, -, hgbl, hcb, -, -⟩ := ob.at_block hBl (by omega)
    have OB := Lib.hid ob
    have OA2 := Lib.hid (OA.out.kept b2)
    have C2 := Lib.hid (C1.out.trans (b2.mono C1.out.size))
    clear hzl hzb ob b2 hU hB hBl OA C1
    go_wp2_with fail
    refine (b10At_any w2 _ n2 0 33 (H2.out.mono C2.out) l2 (by decide) (by decide) (by decide) (by decide)).mono ?_
    rintro e w0 ⟨t', rfl, ht0, ht1, hw0⟩
    obtain rfl : w2 = w0 := hw0.symm
    obtain ⟨T, rfl⟩ : ∃ T : Nat, t' = T := ⟨t'.toNat, by omega⟩
    have hT : T < 41 := by omega
    clear hw0 ht0 ht1
    have HT := Lib.hid (turn_ok hT).1
    have k1 := fun wq ty => run_fineK (P := Try.prog) .f32 .quo (by simp) wq ty (floatOfInt .f32 ((T : Int) - 16)) 1107296256 (tOk_nn (turn_ok hT).1)
    rw [show fop .quo .f32 (floatOfInt .f32 ((T : Int) - 16)) 1107296256 = tW T from rfl] at k1
    have FO := Lib.hid (folded_ok HU.out HV.out HB8.out HC8.out hn1 hn8 hT)
    have LO := Lib.hid (later_ok HU.out HB8.out hn8 hT)
    have ZO := Lib.hid (zero_ok HU.out HB8.out hn8)
    obtain ⟨x1, sx1, sx⟩ := SpQ.of HU.out HB8.out hn8 hT
    have SXok := Lib.hid sx.ok
    obtain ⟨y1, sy1, sy⟩ := SpQ.of HV.out HC8.out hn8 hT
    have SYok := Lib.hid sy.ok
    have HNA := Lib.hid (show ∀ j, j < n → isN .f32 (A.getD j 0) = false from fun j hj => (HU.out.2 j hj).nn)
    clear sx sy HU HV
    generalize tW T = t at *
    go_wp2_with fail
    clear k1
    refine (foldTraces_any w2 _ _ A B OA2.out.rd OB.out.rd (by rw [HN.out]; omega) (by rw [HN.out]; omega) (by rw [HNB.out]; omega) (by rw [HNB.out]; omega) (by rw [HN.out, HNB.out]; omega)).mono ?_
    rintro e w3 ⟨vc, rfl, oc, b3⟩
    have hcl : (foldM A B).length = 2 * n - 1 := by rw [foldM_length, HN.out, HNB.out]; omega
    obtain ⟨gc, cc, rfl, -⟩ := oc.at_block hcl (by omega)
    have OC := Lib.hid oc
    have OA3 := Lib.hid (OA2.out.kept b3)
    have OB3 := Lib.hid (OB.out.kept b3)
    have C3 := Lib.hid (C2.out.trans (b3.mono C2.out.size))
    have HCL := Lib.hid hcl
    clear oc b3 OA2 OB C2 hcl
    go_wp2_with fail
    refine (spectrumAt_any w3 _ A t OA3.out.rd (by rw [HN.out]; omega) (by rw [HN.out]; omega) HT.out (by rw [HN.out]; exact SXok.out)).mono ?_
    rw [HN.out]
    rintro e w0 ⟨rfl, hw0⟩
    obtain rfl : w3 = w0 := hw0.symm
    clear hw0
    go_wp2_with fail
    refine (spectrumAt_any w3 _ B t OB3.out.rd (by rw [HNB.out]; omega) (by rw [HNB.out]; omega) HT.out (by rw [HNB.out]; exact SYok.out)).mono ?_
    rw [HNB.out]
    rintro e w0 ⟨rfl, hw0⟩
    obtain rfl : w3 = w0 := hw0.symm
    clear hw0
    go_wp2_with fail
    refine (spectrumAt_any w3 _ (foldM A B) t OC.out.rd (by rw [HCL.out]; omega) (by rw [HCL.out]; omega) HT.out (by rw [HCL.out]; exact FO.out.ok)).mono ?_
    rw [HCL.out]
    rintro e w0 ⟨rfl, hw0⟩
    obtain rfl : w3 = w0 := hw0.symm
    clear hw0 OC OB3 SYok
    have HM := Lib.hid (fun wq => mulX_fine wq _ _ _ _ FO.out.mu)
    have HS := fun wq ty => run_csubK wq ty _ _ _ _ _ _ rfl rfl FO.out.n1 FO.out.n2
    have HLg := Lib.hid (fun wq => longOf_fine wq _ _ FO.out.lg)
    have hle := FO.out.le
    have HLx := Lib.hid (fun wq => longOf_fine wq _ _ LO.out.lx)
    generalize lgF (fop .sub .f32 (nrw (muR (spR A t n).1 (spR A t n).2 (spR B t n).1 (spR B t n).2)) (spR (foldM A B) t (2 * n - 1)).1) (fop .sub .f32 (nrw (muI (spR A t n).1 (spR A t n).2 (spR B t n).1 (spR B t n).2)) (spR (foldM A B) t (2 * n - 1)).2) = lg at *
    clear FO
    generalize fop .sub .f32 (nrw (muR (spR A t n).1 (spR A t n).2 (spR B t n).1 (spR B t n).2)) (spR (foldM A B) t (2 * n - 1)).1 = d1 at *
    generalize fop .sub .f32 (nrw (muI (spR A t n).1 (spR A t n).2 (spR B t n).1 (spR B t n).2)) (spR (foldM A B) t (2 * n - 1)).2 = d2 at *
    generalize nrw (muR (spR A t n).1 (spR A t n).2 (spR B t n).1 (spR B t n).2) = p1 at *
    generalize nrw (muI (spR A t n).1 (spR A t n).2 (spR B t n).1 (spR B t n).2) = p2 at *
    generalize (spR (foldM A B) t (2 * n - 1)).1 = z1 at *
    generalize (spR (foldM A B) t (2 * n - 1)).2 = z2 at *
    generalize (spR B t n).1 = b1' at *
    generalize (spR B t n).2 = b2' at *
    go_wp2_with fail
    refine (HM.out _).mono ?_
    rintro e w0 ⟨rfl, hw0⟩
    obtain rfl : w3 = w0 := hw0.symm
    clear hw0 HM
    go_wp2_with fail
    refine (HLg.out _).mono ?_
    rintro e w0 ⟨rfl, hw0⟩
    obtain rfl : w3 = w0 := hw0.symm
    clear hw0 HLg HS
    have z3 := C3.out.size
    have x3 : Below w3.heap.size w3 (w3.alloc (.cells #[] 27)) := (Below.refl _ _).alloc (Nat.le_refl _) _
    have OE : Hid (OwnF (w3.alloc (.cells #[] 27)) w3.heap.size (.slice (some ⟨w3.heap.size, 0, none⟩) 0 0) []) := Lib.hid ⟨[], rfl, fun j hj => (by cases hj), World.ownsRow_lit w3 #[] 0 (Nat.le_refl _) (by decide) rfl⟩
    have RA := Lib.hid (OA3.out.rd.mono x3)
    have X3 := Lib.hid x3
    clear x3
    go_wp2_with (first | (at_builtin; refine wpList_pushAll rfl _ _ rfl w3.heap.size _ [] rfl OE.out _ A rfl RA.out (by decide) (by rw [HN.out]; omega) (by rw [World.size_alloc]; omega) ?_; intro v4 w4 o4 g4 b4 l4; have O4 := Lib.hid o4; have X4 := Lib.hid (Below.trans X3.out b4); clear o4 g4 b4 l4) |
      (at_builtin; go_must (refine wpList_pushAll rfl _ _ rfl w3.heap.size _ ([] ++ A) rfl (O4.out.kept ((Below.refl _ _).alloc (Nat.le_refl _) _)) _ [0, 0, 0] rfl (rd_zeros3 (alloc_new _ _)) (by rw [List.nil_append, HN.out]; omega) (by decide) (by have := X4.out.size; rw [World.size_alloc]; omega) ?_); intro v5 w5 o5 g5 b5 l5))
    have hPl : (A ++ [0, 0, 0]).length = n + 3 := by rw [List.length_append, HN.out]; rfl
    have X5 : Hid (Below w3.heap.size w3 w5) := Lib.hid ((X4.out.trans (((Below.refl _ _).alloc (Nat.le_refl _) _).mono X4.out.size)).trans b5)
    rw [List.nil_append] at o5
    obtain ⟨g5', c5', rfl, -⟩ := o5.at_block hPl (by omega)
    have O5 := Lib.hid o5
    have C5 := Lib.hid (C3.out.trans (X5.out.mono z3))
    have OA5 := Lib.hid (OA3.out.kept X5.out)
    have HPL := Lib.hid hPl
    clear o5 g5 b5 l5 OE RA X3 O4 X4 C3 OA3 X5 hPl
    go_wp2_with fail
    refine (shiftTrace_any w5 _ (A ++ [0, 0, 0]) 3 O5.out.rd (by rw [HPL.out]; unfold inB; simp; omega) (by decide) (by decide)).mono ?_
    rintro e w6 ⟨vs, rfl, os, b6⟩
    have hsl : (ltL A).length = n + 3 := by rw [ltL_length, HN.out]
    rw [show latF (A ++ [0, 0, 0]) (-3) = ltL A from rfl] at os
    obtain ⟨gs, cs, rfl, -⟩ := os.at_block hsl (by omega)
    have OS := Lib.hid os
    have OA6 := Lib.hid (OA5.out.kept b6)
    have C6 := Lib.hid (C5.out.trans (b6.mono C5.out.size))
    have HSL := Lib.hid hsl
    clear os b6 OA5 C5 hsl O5
    go_wp2_with fail
    refine (spectrumAt_any w6 _ (ltL A) t OS.out.rd (by rw [HSL.out]; omega) (by rw [HSL.out]; omega) HT.out (by rw [HSL.out]; exact LO.out.ok)).mono ?_
    rw [HSL.out]
    rintro e w0 ⟨rfl, hw0⟩
    obtain rfl : w6 = w0 := hw0.symm
    clear hw0 OS
    go_wp2_with fail
    refine (spectrumOf_any w6 _ A 4 OA6.out.rd (by rw [HN.out]; omega) (by rw [HN.out]; omega) (by decide) (by decide) ZO.out.nt (by rw [HN.out]; exact ZO.out.ok)).mono ?_
    rintro e w7 ⟨vl, rfl, ol, b7⟩
    obtain ⟨al, cl, rfl, -⟩ := ol.cellAt
    have OL := Lib.hid ol
    rw [spL_length]
    have OA7 := Lib.hid (OA6.out.kept b7)
    have C7 := Lib.hid (C6.out.trans (b7.mono C6.out.size))
    clear ol b7 OA6 C6
    go_wp2_with fail
    refine (pulseTrace_any w7 4 0 (by decide) (by decide) (by decide)).mono ?_
    rintro e w8 ⟨vp, rfl, op, b8⟩
    rw [show (List.replicate 4 0).set 0 1065353216 = puL from rfl] at op
    obtain ⟨gp, cp, rfl, -⟩ := op.at_block (n := 4) rfl (by decide)
    have OP := Lib.hid op
    have OA8 := Lib.hid (OA7.out.kept b8)
    have C8 := Lib.hid (C7.out.trans (b8.mono C7.out.size))
    have B8 := Lib.hid b8
    clear op b8 OA7 C7
    go_wp2_with fail
    refine (spectrumOf_any w8 _ puL 5 OP.out.rd (by decide) (by decide) (by decide) (by decide) (fun k hk => (pulse_ok hk).1) (fun k hk => (pulse_ok hk).2.1)).mono ?_
    rintro e w9 ⟨vf, rfl, of', b9⟩
    obtain ⟨af, cf, rfl, hcf⟩ := of'.cellAt
    rw [spL_length] at hcf ⊢
    have HCF := Lib.hid (show ∀ j, j < 5 → ∃ b o, af = some ⟨b, o, none⟩ ∧ w9.cell? ⟨b, o + j, none⟩ = some (.complex .f32 1065353216 0) from fun j hj => by
      obtain ⟨b, o, e1, -, e3⟩ := hcf j hj
      refine ⟨b, o, e1, ?_⟩
      rw [e3]
      have : (spL puL 5 5).getD j (0, 0) = spR puL (tk 5 j) 4 := by
        unfold spL
        rw [List.getD_eq_getElem?_getD, List.getElem?_map, List.getElem?_range hj]
        rfl
      rw [this, (pulse_ok hj).2.2]
      rfl)
    have OA9 := Lib.hid (OA8.out.kept b9)
    have C9 := Lib.hid (C8.out.trans (b9.mono C8.out.size))
    obtain ⟨al', cl', hv', hcl⟩ := ((OL.out.kept B8.out).kept b9).cellAt
    rw [spL_length] at hv'
    cases hv'
    obtain ⟨bl, offl, rfl, -, hdl⟩ := hcl 0 (by rw [spL_length]; decide)
    have hl0 : (spL A 4 4).getD 0 (0, 0) = spR A (tk 4 0) n := by
      show spR A (tk 4 0) A.length = _
      rw [HN.out]
    rw [hl0, Nat.add_zero] at hdl
    have HDL9 : Hid (w9.cell? ⟨bl, offl, none⟩ = some (.complex .f32 (spR A (tk 4 0) n).1 (spR A (tk 4 0) n).2)) := Lib.hid hdl
    clear of' hcf b9 OA8 C8 OP B8 OL hcl hdl hl0
    have HLw := Lib.hid (fun wq => longOf_fine wq _ _ LO.out.lw)
    have cw := fun wq => run_wideF (P := Try.prog) 27 40 (by kernel_rfl) (by kernel_rfl) wq _ LO.out.nw
    have cx := fun wq => run_wideF (P := Try.prog) 27 40 (by kernel_rfl) (by kernel_rfl) wq _ LO.out.nx
    have HG := Lib.hid (fun wq => b10Gap_fine wq _ _ LO.out.gn)
    have hgt : (FloatKind.f64.format.order (gpF (cwide (lgF (spR (ltL A) t (n + 3)).1 (spR (ltL A) t (n + 3)).2)) (cwide (lgF (spR A t n).1 (spR A t n).2))) 4562254508917369340 == some Ordering.gt) = false := LO.out.le
    clear LO
    generalize gpF (cwide (lgF (spR (ltL A) t (n + 3)).1 (spR (ltL A) t (n + 3)).2)) (cwide (lgF (spR A t n).1 (spR A t n).2)) = gg at *
    generalize cwide (lgF (spR (ltL A) t (n + 3)).1 (spR (ltL A) t (n + 3)).2) = gw at *
    generalize cwide (lgF (spR A t n).1 (spR A t n).2) = gx at *
    generalize lgF (spR (ltL A) t (n + 3)).1 (spR (ltL A) t (n + 3)).2 = lw at *
    generalize lgF (spR A t n).1 (spR A t n).2 = lx at *
    generalize (spR (ltL A) t (n + 3)).1 = w1' at *
    generalize (spR (ltL A) t (n + 3)).2 = w2' at *
    generalize (spR A t n).1 = x1' at *
    generalize (spR A t n).2 = x2' at *
    go_wp2_with fail
    refine (HLw.out _).mono ?_
    rintro e w0 ⟨rfl, hw0⟩
    obtain rfl : w9 = w0 := hw0.symm
    clear hw0 HLw
    go_wp2_with fail
    refine (HLx.out _).mono ?_
    rintro e w0 ⟨rfl, hw0⟩
    obtain rfl : w9 = w0 := hw0.symm
    clear hw0 HLx
    go_wp2_with fail
    refine (HG.out _).mono ?_
    rintro e w0 ⟨rfl, hw0⟩
    obtain rfl : w9 = w0 := hw0.symm
    clear hw0 HG
    go_wp2_with fail
    clear cw cx hgt
    go_loopw [28, 165] (fun q i wr => ∃ j : Nat, j ≤ n ∧ i = .int .i64 j ∧ q = .float .f32 (smW A j) ∧ wr = w9) (fun _ i _ => n - (intOf i).toNat)
    case atStart => exact ⟨0, Nat.zero_le _, rfl, rfl, rfl⟩
    case round =>
      obtain ⟨j, hj, rfl, rfl, hwr⟩ := hrel
      obtain rfl : w9 = wr := hwr.symm
      clear hwr
      by_cases hlt : j < n
      · obtain ⟨a, c, hv2, -, -, hcB⟩ := OA9.out.rd.opened
        rw [HN.out] at hv2
        cases hv2
        obtain ⟨b2, o2, x2, e2, k2, F2⟩ := hcB j (by rw [HN.out]; exact hlt)
        cases e2
        rw [Nat.zero_add] at k2
        obtain rfl := fv_sp F2 (HNA.out j hlt)
        clear hcB F2
        have k1 := fun wq ty => run_fineK (P := Try.prog) .f32 .add (by simp) wq ty (smW A j) (A.getD j 0) (ZO.out.sm (j + 1) (by omega))
        rw [show fop .add .f32 (smW A j) (A.getD j 0) = smW A (j + 1) from rfl] at k1
        obtain ⟨u3, hu3⟩ : ∃ u, smW A (j + 1) = u := ⟨_, rfl⟩
        rw [hu3] at k1
        have HU3 := Lib.hid hu3
        clear hu3
        generalize smW A j = u0 at *
        generalize A.getD j 0 = x at *
        go_wp2
        exact ⟨⟨j + 1, by omega, by go_num, by rw [HU3.out], trivial⟩, by simp [intOf]; omega⟩
      · obtain rfl : j = n := by omega
        go_wp2_with fail
        go_loopw [177] (fun i wr => ∃ k : Nat, k ≤ 5 ∧ i = .int .i64 k ∧ wr = w9) (fun i _ => 5 - (intOf i).toNat)
        case atStart => exact ⟨0, Nat.zero_le _, rfl, rfl⟩
        case round =>
          obtain ⟨k, hk, rfl, hwr⟩ := hrel
          obtain rfl : w9 = wr := hwr.symm
          clear hwr
          by_cases hlk : k < 5
          · obtain ⟨bf, offf, rfl, hcf⟩ := HCF.out k hlk
            have HS := fun wq ty => run_csubK wq ty 1065353216 0 1065353216 0 0 0 one_less.1 one_less.2 (by decide +kernel) (by decide +kernel)
            have HLg := Lib.hid (fun wq => longOf_fine wq _ _ lg_zero)
            have hle := lg_zero_le
            generalize lgF 0 0 = lz at *
            go_wp2_with fail
            refine (HLg.out _).mono ?_
            rintro e w0 ⟨rfl, hw0⟩
            obtain rfl : w9 = w0 := hw0.symm
            clear hw0 HLg HS
            go_wp2
            exact ⟨⟨k + 1, by omega, by go_num, trivial⟩, by simp [intOf]; omega⟩
          · obtain rfl : k = 5 := by omega
            have hdl := HDL9.out
            have c1' := fun wq => run_wideF (P := Try.prog) 27 40 (by kernel_rfl) (by kernel_rfl) wq _ ZO.out.n1
            have c2' := fun wq => run_wideF (P := Try.prog) 27 40 (by kernel_rfl) (by kernel_rfl) wq _ ZO.out.n2
            have c3' := fun wq => run_wideF (P := Try.prog) 27 40 (by kernel_rfl) (by kernel_rfl) wq _ (ZO.out.sm j (Nat.le_refl _))
            have HG1 := Lib.hid (fun wq => b10Gap_fine wq _ _ ZO.out.g1)
            have HG2 := Lib.hid (fun wq => b10Gap_fine wq _ _ ZO.out.g2)
            have t1 : (FloatKind.f64.format.order (gpF (cwide (spR A (tk 4 0) j).1) (cwide (smW A j))) 4562254508917369340 == some Ordering.lt) = true := ZO.out.l1
            have t2 : (FloatKind.f64.format.order (gpF (cwide (spR A (tk 4 0) j).2) 0) 4562254508917369340 == some Ordering.lt) = true := ZO.out.l2
            clear ZO HDL9
            generalize gpF (cwide (spR A (tk 4 0) j).1) (cwide (smW A j)) = g1' at *
            generalize gpF (cwide (spR A (tk 4 0) j).2) 0 = g2' at *
            generalize cwide (spR A (tk 4 0) j).1 = s1' at *
            generalize cwide (spR A (tk 4 0) j).2 = s2' at *
            generalize cwide (smW A j) = s3' at *
            generalize (spR A (tk 4 0) j).1 = r1' at *
            generalize (spR A (tk 4 0) j).2 = r2' at *
            generalize smW A j = r3' at *
            go_wp2_with fail
            refine (HG1.out _).mono ?_
            rintro e w0 ⟨rfl, hw0⟩
            obtain rfl : w9 = w0 := hw0.symm
            clear hw0 HG1
            go_wp2_with fail
            refine (HG2.out _).mono ?_
            rintro e w0 ⟨rfl, hw0⟩
            obtain rfl : w9 = w0 := hw0.symm
            clear hw0 HG2
            go_wp2_with fail
            go_ret
            exact TrueB.mk C9.out
end Go.Proofs.Ythacadbdncfocaa

/- FnSpectra returns true for every input: no condition. -/
namespace Go.Proofs.Ythacadbdncfocaa.lawSpectra
open Go.ChangeShapes Go.WideShapes Go.ChangeAt Go.RowKit

theorem own : ownKnob Try.prog.godebug = none := by kernel_rfl
theorem laidOut : laidOutB Try.prog = true := by kernel_rfl

set_option maxRecDepth 100000 in
theorem lifted (os : Os) (started : os.Started) (H : Type) (enc : TypeId × Value → H) :
    ReturnsInHanded {} Try.checked os 3 .any (Rows.fnSpectraSpec.pre6 enc Try.prog Try.f3 Rows.fnSpectraRow.domain false) (Rows.fnSpectraSpec.post enc Try.prog Try.f3 false true false false) := by
  refine returnsInHanded_of_change (C := Try.checked) own started (by kernel_rfl) Try.func3
    (ChangeSpec.witness6 (enc := enc) (C := Try.checked) false ⟨#[], #[.slice none 0 0, .slice none 0 0], []⟩ 4 (by kernel_rfl) (by kernel_rfl) (by kernel_rfl) (by kernel_rfl)) ?_
  intro W base args ds gs before hval0 hW hcnd _
  have hval : ∀ (j : Nat) t v, Try.f3.params[j]? = some t → args[j]? = some v → Value.okWide Try.prog W .any base t v := hval0
  have hW' := hW
  obtain ⟨p, q, hA0, hV, rfl, hfz, hnd⟩ := hW
  have hA : DataW.TrodAll enc Try.prog W 0 (fun _ => true) true Try.f3.params.toList args.toList ds p := hA0
  rw [Try.params3] at hA hval
  obtain ⟨v0, vs0, d0, ds0, p0, q0, hargs, rfl, rfl, h0, r0⟩ := trodAll_cons hA
  obtain ⟨v1, vs1, d1, ds1, p1, q1, rfl, rfl, rfl, h1, r1⟩ := trodAll_cons r0
  obtain ⟨rfl, rfl, rfl⟩ := trodAll_nil r1
  obtain rfl : args = #[v0, v1] := by cases args; simp_all
  obtain ⟨rfl, rfl⟩ := trodVars_none hV
  have k0 := h0
  have lt0 : ∀ x ∈ p0, x.block < W.heap.size := by obtain ⟨m, hm⟩ := k0; exact DataW.trod_lt m _ _ _ hm
  have k1 := h1
  have lt1 : ∀ x ∈ p1, x.block < W.heap.size := by obtain ⟨m, hm⟩ := k1; exact DataW.trod_lt m _ _ _ hm
  obtain ⟨a0, len0, cap0, rfl⟩ := okWide_slice Try.underlying22 (hval 0 22 v0 rfl rfl)
  obtain ⟨m0, R0⟩ := open_bytes Try.underlying22 Try.underlying5 (by kernel_rfl) h0
  obtain ⟨a1, len1, cap1, rfl⟩ := okWide_slice Try.underlying22 (hval 1 22 v1 rfl rfl)
  obtain ⟨m1, R1⟩ := open_bytes Try.underlying22 Try.underlying5 (by kernel_rfl) h1
  clear hA0 hval0
  refine (lawSpectra_any W _ _ _ _ R0 R1 m0 m1).mono fun e W' ⟨he, bel⟩ => ?_
  subst he
  exact ⟨_, rfl, _, _, _, [], _, [], hW', trodAll_mk1 (shut_bool Try.underlying4 _), (trodAll_cons_mk (Below.trod laidOut (by kernel_rfl) (of_decide_eq_true (by kernel_rfl)) k0 bel lt0) (trodAll_cons_mk (Below.trod laidOut (by kernel_rfl) (of_decide_eq_true (by kernel_rfl)) k1 bel lt1) trodAll_mk0)), rfl, bel.frame _, fun h => by cases h⟩

theorem over : Rows.fnSpectraRow.holds Try.pinned (OpenSpec.ofChange Rows.fnSpectraSpec) :=
  OpenClaim.holds_of_wide 3 Try.f3 rfl rfl rfl rfl rfl rfl rfl ⟨rfl, rfl, rfl, rfl, rfl⟩ rfl rfl rfl rfl rfl (by kernel_rfl) Try.func3 (by kernel_rfl)
    (of_decide_eq_true (by kernel_rfl)) (by unfold Func.isWrapper; first | (rw [if_pos (by decide +kernel)]; kernel_rfl) | (rw [if_neg (by decide +kernel)]; exact ⟨rfl, rfl⟩))
    (fun os started H enc _ => lifted os started H enc)

/-- THE STATEMENT. -/
theorem proved : Rows.FnSpectraSaid := over
end Go.Proofs.Ythacadbdncfocaa.lawSpectra

