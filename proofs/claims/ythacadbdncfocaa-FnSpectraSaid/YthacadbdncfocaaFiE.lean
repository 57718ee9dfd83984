/- Walks: a trace divided by its mean size about each number. -/
import Derived.Test.YthacadbdncfocaaFiD
namespace Go.Proofs.Ythacadbdncfocaa
open Go Go.RowKit

theorem rd_subF {w : World} {b o n c : Nat} {A : List Nat} (h : RdF w (.slice (some ⟨b, o, none⟩) n c) A) (lo m : Nat) (hm : lo + m ≤ n) : RdF w (.slice (some ⟨b, o + lo, none⟩) m (c - lo)) ((A.drop lo).take m) := by
  obtain ⟨a', c', hv, hcap, hz, hr⟩ := h
  obtain ⟨rfl, rfl, rfl⟩ : some ⟨b, o, none⟩ = a' ∧ n = A.length ∧ c = c' := by cases hv; exact ⟨rfl, rfl, rfl⟩
  have hl : ((A.drop lo).take m).length = m := by rw [List.length_take, List.length_drop]; omega
  refine ⟨_, _, by rw [hl], by rw [hl]; omega, (fun h => by cases h), fun j hj => ?_⟩
  rw [hl] at hj
  obtain ⟨b1, o1, u, e, hu, r, hr1, hr2⟩ := hr (lo + j) (by omega)
  injection e with e
  injection e with e1 e2
  subst e1 e2
  refine ⟨_, _, u, rfl, by rw [Nat.add_assoc]; exact hu, r, hr1, ?_⟩
  rw [List.getD_eq_getElem?_getD, List.getElem?_take_of_lt hj, List.getElem?_drop, ← List.getD_eq_getElem?_getD]
  exact hr2
theorem upTo_skipG {L : List Nat} {j : Nat} (h : L.getD j 0 = 0) : upTo L (j + 1) = upTo L j := by
  unfold upTo
  apply List.map_congr_left
  intro i _
  by_cases h1 : i < j
  · rw [if_pos h1, if_pos (by omega)]
  · rw [if_neg h1]
    by_cases h2 : i = j
    · subst h2; rw [if_pos (by omega), h]
    · rw [if_neg (by omega)]
theorem root_cls {x : Nat} (h : rootOk x = true) : FV .f32 (rootF x) (rootF x) := by
  unfold rootOk at h
  simp only [Bool.and_eq_true] at h
  have h2 := h.2.2
  unfold rootF
  unfold nrwOk at h2
  unfold nrw
  cases hd : FloatKind.f64.decode (sqr (cwide x)) with
  | number s m e => exact ⟨Ieee.single.write_lt _, can_of_not (write_not_nan Ieee.single _ rfl)⟩
  | infinity s => rw [hd] at h2; cases h2
  | nan s t => rw [hd] at h2; cases h2
def gnS (A : List Nat) (r k : Nat) : List Nat := (A.drop (k - r)).take (min A.length (k + r + 1) - (k - r))
def gnQ (A : List Nat) (r k : Nat) : Nat := fop .quo .f32 (enS (gnS A r k) (gnS A r k).length) (floatOfInt .f32 ((min A.length (k + r + 1) - (k - r) : Nat) : Int))
def gnF (A : List Nat) (r k : Nat) : Nat := if FloatKind.f32.format.order (rootF (gnQ A r k)) 0 != some Ordering.eq then fop .quo .f32 (A.getD k 0) (rootF (gnQ A r k)) else 0
def gnL (A : List Nat) (r : Nat) : List Nat := tab (gnF A r) A.length
set_option maxRecDepth 100000 in
set_option maxHeartbeats 3200000 in
theorem gainTrace_any (w : World) (v : Value) (A : List Nat) (r : Nat) (h1 : RdF w v A) (hn : 1 ≤ A.length) (hn2 : A.length ≤ 128) (hr : r ≤ 128) (hok : ∀ k, k < A.length → rootOk (gnQ A r k) = true) :
    Calls Try.prog 40 #[v, .int .i64 r] w fun e w' => ∃ v', e = .returned (.tuple #[v', .bool true]) ∧ OwnF w' w.heap.size v' (gnL A r) ∧ Below w.heap.size w w' := by
  have hquo := run_fquo (P := Try.prog)
  have hst := run_store_float (P := Try.prog)
  have H1 := Lib.hid h1
  obtain ⟨a1, c1, rfl⟩ := rd_slice h1
  obtain ⟨n, hnn⟩ : ∃ n, A.length = n := ⟨_, rfl⟩
  have HN := Lib.hid hnn
  have HE := Lib.hid (isTraceT_any w a1 A.length c1 hn hn2)
  have HLL : Hid ((gnL A r).length = n) := Lib.hid (by rw [← hnn]; exact tab_length _ _)
  have HOK := Lib.hid hok
  clear h1 hok
  rw [hnn] at hn hn2 HE H1 HOK ⊢
  clear hnn
  have HW1 := Lib.hid (within_true w r 0 128 (by omega) (by omega))
  have HLn := Lib.hid (fun wq => lengthF_any wq a1 n c1)
  go_enter Try.func40, Try.ntmps40
  go_wp2_with fail
  refine HE.out.mono ?_
  rintro e w0 ⟨rfl, hw0⟩
  obtain rfl : w = w0 := hw0.symm
  clear HE hw0
  go_wp2_with fail
  refine HW1.out.mono ?_
  rintro e w0 ⟨rfl, hw0⟩
  obtain rfl : w = w0 := hw0.symm
  clear HW1 hw0
  go_wp2_with (refine wpList_mk rfl _ _ rfl w.heap.size _ _ _ _ n rfl rfl rfl rfl (by omega) (Nat.le_refl _) ?_; intro w1 o1 b1 z1)
  have B1 := Lib.hid b1
  have O1 : Hid (OwnF w1 w.heap.size (.slice (some ⟨w.heap.size, 0, none⟩) n n) (upTo (gnL A r) 0)) := Lib.hid (by rw [upTo_zero, HLL.out]; exact o1)
  clear b1 o1
  go_loopw [25] (fun i wr => ∃ k : Nat, k ≤ n ∧ i = .int .i64 k ∧ OwnF wr w.heap.size (.slice (some ⟨w.heap.size, 0, none⟩) n n) (upTo (gnL A r) k) ∧ Below w.heap.size w wr) (fun i _ => n - (intOf i).toNat)
  case atStart => exact ⟨0, Nat.zero_le _, rfl, O1.out, B1.out⟩
  case round =>
    clear O1 B1
    obtain ⟨wi, rfl⟩ : ∃ wi : World, wi = wr := ⟨_, rfl⟩
    obtain ⟨k, hk, rfl, ho, hb⟩ := hrel
    have HO := Lib.hid ho
    have HB := Lib.hid hb
    have hzi := hb.size
    have hul : (upTo (gnL A r) k).length = n := by rw [upTo_length, HLL.out]
    by_cases hlt : k < n
    · have RM := Lib.hid (H1.out.mono hb)
      have hat : Hid ((gnL A r).getD k 0 = gnF A r k) := Lib.hid (tab_getD _ _ _ (by rw [HN.out]; exact hlt))
      obtain ⟨a, cc, hv2, hcap, -, hcB⟩ := RM.out.opened
      rw [HN.out] at hv2 hcap
      cases hv2
      obtain ⟨b2, o2, x2, rfl, k2, F2⟩ := hcB k (by rw [HN.out]; exact hlt)
      have HF2 := Lib.hid F2
      obtain ⟨lo, hlo⟩ : ∃ lo, k - r = lo := ⟨_, rfl⟩
      obtain ⟨hi, hhi⟩ : ∃ hi, min n (k + r + 1) = hi := ⟨_, rfl⟩
      have hm1 : ∀ (ats : Array TypeId) (ty : TypeId) (wq : World), (Builtin.max_ ats ty #[.int .i64 0, .int .i64 ((k : Int) - r)]).run Try.prog wq = .ok (.int .i64 (lo : Int)) wq := fun ats ty wq => by
        rw [run_max_int2]
        congr 2
        split <;> omega
      have hm2 : ∀ (ats : Array TypeId) (ty : TypeId) (wq : World), (Builtin.min_ ats ty #[.int .i64 n, .int .i64 ((k : Int) + r + 1)]).run Try.prog wq = .ok (.int .i64 (hi : Int)) wq := fun ats ty wq => by
        rw [run_min_int2]
        congr 2
        split <;> omega
      have hlh : lo < hi := by omega
      have hhn : hi ≤ n := by omega
      have hlc : lo < c1 := by omega
      clear hcB ho hb F2
      go_wp2_with fail
      refine (HLn.out wi).mono ?_
      rintro e w0 ⟨rfl, hw0⟩
      obtain rfl : wi = w0 := hw0.symm
      clear hw0
      go_wp2_with fail
      have RS := Lib.hid (rd_subF RM.out lo (hi - lo) (by omega))
      have hgs : Hid ((A.drop lo).take (hi - lo) = gnS A r k) := Lib.hid (by unfold gnS; rw [HN.out, hlo, hhi])
      rw [hgs.out] at RS
      have hgl : Hid ((gnS A r k).length = hi - lo) := Lib.hid (by rw [← hgs.out, List.length_take, List.length_drop, HN.out]; omega)
      refine (energy_any wi _ (gnS A r k) RS.out (by rw [hgl.out]; omega)).mono ?_
      rintro e w3 ⟨s, rfl, hs, b3⟩
      have hQ : Hid (gnQ A r k = fop .quo .f32 (enS (gnS A r k) (gnS A r k).length) (floatOfInt .f32 ((hi - lo : Nat) : Int))) := Lib.hid (by unfold gnQ; rw [HN.out, hlo, hhi])
      have hrk := HOK.out k hlt
      have hnq : isN .f32 (gnQ A r k) = false := by
        unfold rootOk at hrk
        simp only [Bool.and_eq_true, Bool.not_eq_true'] at hrk
        exact hrk.1
      have hqf : ∀ wq, FV .f32 (fres .quo .f32 s (floatOfInt .f32 ((hi - lo : Nat) : Int)) wq) (gnQ A r k) := fun wq => by
        rw [hQ.out]
        exact FV.op (op := .quo) hs (floatOfInt_fv _ _) wq
      have hqe : ∀ wq ty, (binOp .quo ty (.float .f32 s) (.float .f32 (floatOfInt .f32 ((hi - lo : Nat) : Int)))).run Try.prog wq = .ok (.float .f32 (gnQ A r k)) (wq.drewN (fcnt .quo .f32 s (floatOfInt .f32 ((hi - lo : Nat) : Int)))) := fun wq ty => by
        rw [run_fquo, (hqf wq).eq_of_not hnq]
      have hsub : (hi : Int) - (lo : Int) = ((hi - lo : Nat) : Int) := by omega
      have HRt := Lib.hid (fun wq => rootNumber_fine wq _ hrk)
      have HRC := Lib.hid (root_cls hrk)
      have FG : Hid (gnF A r k = if FloatKind.f32.format.order (rootF (gnQ A r k)) 0 != some Ordering.eq then fop .quo .f32 (A.getD k 0) (rootF (gnQ A r k)) else 0) := Lib.hid rfl
      have hz3 := b3.size
      have HB3 := Lib.hid (HB.out.trans (b3.mono hzi))
      have HO3 := Lib.hid (HO.out.kept b3)
      have hul3 := Lib.hid hul
      clear hs b3 hqf hlo hhi hul RS hgs hgl hQ
      rw [← hsub] at hqe
      clear hsub hm1 hm2 hrk hnq hquo
      generalize fcnt .quo .f32 s (floatOfInt .f32 ((hi : Int) - (lo : Int))) = nq at *
      generalize gnQ A r k = q at *
      have O3 : Hid (OwnF (w3.drewN nq) w.heap.size (.slice (some ⟨w.heap.size, 0, none⟩) n n) (upTo (gnL A r) k)) := Lib.hid (HO3.out.drewN nq)
      have B3 : Hid (Below w.heap.size w (w3.drewN nq)) := Lib.hid (Below.drewN HB3.out nq)
      have hz4 : w.heap.size ≤ (w3.drewN nq).heap.size := by show w.heap.size ≤ w3.heap.size; omega
      go_wp2_with fail
      refine (HRt.out _).mono ?_
      rintro e w4 ⟨rfl, hw4⟩
      rw [← hw4] at O3 B3 hz4
      clear hw4 hqe HRt HO3 HB3
      generalize rootF q = rt at *
      obtain ⟨tb, htb⟩ : ∃ tb, (FloatKind.f32.format.order rt 0 != some Ordering.eq) = tb := ⟨_, rfl⟩
      rw [htb] at FG
      have hquo := run_fquo (P := Try.prog)
      obtain ⟨g', cap', hv, -, -, -, hcl, hfr⟩ := O3.out.at_block hul3.out (by omega)
      have hg : w.heap.size = g' := by injection hv with e1 e2 e3; injection e1 with e4; injection e4
      subst hg
      have hfj := hfr k
      obtain ⟨r0, hr0, -⟩ := hcl k (by rw [hul3.out]; exact hlt)
      clear hv hfr hcl
      cases tb with
      | false =>
        have hs := FG.out
        rw [if_neg (by decide)] at hs
        have FS := Lib.hid hs
        clear hs FG
        go_wp2
        refine ⟨⟨k + 1, by omega, by go_num, ?_, B3.out⟩, by simp [intOf]; omega⟩
        rw [upTo_skipG (by rw [hat.out, FS.out])]
        exact O3.out
      | true =>
        have hs := FG.out
        rw [if_pos rfl] at hs
        have FS := Lib.hid hs
        clear hs FG
        go_wp2
        refine ⟨⟨k + 1, by omega, by go_num, ?_, ?_⟩, by simp [intOf]; omega⟩
        · rw [← upTo_set, hat.out, FS.out]
          exact OwnF.storedN (O3.out.drewN _) hul3.out (FV.op (op := .quo) HF2.out HRC.out _)
        · exact below_store B3.out (Nat.le_refl _) (Nat.le_refl _) _ _ _
    · obtain rfl : k = n := by omega
      have HF : Hid (OwnF wi w.heap.size (.slice (some ⟨w.heap.size, 0, none⟩) k k) (gnL A r)) := Lib.hid (by have := HO.out; rw [upTo_all _ _ (by rw [HLL.out]; exact Nat.le_refl _)] at this; exact this)
      clear ho hb hul
      go_wp2
      go_ret2
      exact ⟨_, rfl, HF.out, HB.out⟩
end Go.Proofs.Ythacadbdncfocaa
