/- Walks: the best of a list, the best shift. -/
import Derived.Test.YtcffkhmjljlbaaaSh
namespace Go.Proofs.Ytcffkhmjljlbaaa
open Go Go.RowKit

def bi : Option Nat → Int
  | none => -1
  | some o => o
theorem bestF_lt (L : List Nat) (j : Nat) {o : Nat} (h : bestF L j = some o) : o < j := by
  induction j generalizing o with
  | zero => cases h
  | succ j ih =>
    rw [bestF] at h
    cases hb : bestF L j with
    | none =>
      rw [hb] at h
      simp only at h
      split at h
      · cases h; omega
      · cases h
    | some p =>
      rw [hb] at h
      simp only at h
      have := ih hb
      split at h
      · cases h; omega
      · cases h; omega
set_option maxRecDepth 100000 in
set_option maxHeartbeats 1600000 in
theorem best_any (w : World) (v : Value) (L : List Nat) (h : RdF w v L) (hl : L.length ≤ 1000) :
    Calls Try.prog 38 #[v] w fun e w' => e = .returned (.int .i64 (bi (bestF L L.length))) ∧ w' = w := by
  obtain ⟨a, c, rfl, hc, -, hcell⟩ := h.opened
  clear h
  go_enter Try.func38, Try.ntmps38
  go_wp2
  go_loop [3, 8] (fun q i => ∃ j : Nat, j ≤ L.length ∧ i = .int .i64 j ∧ q = .int .i64 (bi (bestF L j))) (fun _ i => L.length - (intOf i).toNat)
  case atStart => exact ⟨0, Nat.zero_le _, rfl, rfl⟩
  case round =>
    obtain ⟨j, hj, rfl, rfl⟩ := hrel
    by_cases hlt : j < L.length
    · obtain ⟨b, o, x, rfl, hx1, hx2⟩ := hcell j hlt
      have hord : FloatKind.f32.format.order x x = FloatKind.f32.format.order (L.getD j 0) (L.getD j 0) := FV.order hx2 hx2
      cases hb : bestF L j with
      | none =>
        have HN : Hid (bestF L (j + 1) = if FloatKind.f32.format.order (L.getD j 0) (L.getD j 0) == some Ordering.eq then some j else none) := Lib.hid (by rw [bestF, hb])
        rw [← hord] at HN
        have e1 : bi none = -1 := rfl
        clear hcell hord hb hx2
        rw [e1]
        cases ht : FloatKind.f32.format.order x x == some Ordering.eq with
        | true =>
          rw [ht, if_pos rfl] at HN
          have HN := Lib.hid HN.out
          go_wp2
          exact ⟨⟨j + 1, by omega, by go_num, by rw [HN.out]; rfl⟩, by simp [intOf]; omega⟩
        | false =>
          rw [ht, if_neg (by decide)] at HN
          have HN := Lib.hid HN.out
          go_wp2
          exact ⟨⟨j + 1, by omega, by go_num, by rw [HN.out]; rfl⟩, by simp [intOf]; omega⟩
      | some p =>
        have hp := bestF_lt L j hb
        obtain ⟨b', o', y, hbo, hy1, hy2⟩ := hcell p (by omega)
        obtain ⟨rfl, rfl⟩ : b = b' ∧ o = o' := by injection hbo with e; injection e with e1 e2; exact ⟨e1, e2⟩
        have hord2 : FloatKind.f32.format.order x y = FloatKind.f32.format.order (L.getD j 0) (L.getD p 0) := FV.order hx2 hy2
        have HN : Hid (bestF L (j + 1) = if FloatKind.f32.format.order (L.getD j 0) (L.getD p 0) == some Ordering.gt then some j else some p) := Lib.hid (by rw [bestF, hb])
        rw [← hord2] at HN
        have e1 : bi (some p) = (p : Int) := rfl
        clear hcell hord hb hx2 hy2 hord2 hbo
        rw [e1]
        have hd0 : decide ((p : Int) < 0) = false := by simp
        have hd1 : decide ((p : Int) ≥ 0) = true := by simp
        cases ht : FloatKind.f32.format.order x y == some Ordering.gt with
        | true =>
          rw [ht, if_pos rfl] at HN
          have HN := Lib.hid HN.out
          go_wp2
          exact ⟨⟨j + 1, by omega, by go_num, by rw [HN.out]; rfl⟩, by simp [intOf]; omega⟩
        | false =>
          rw [ht, if_neg (by decide)] at HN
          have HN := Lib.hid HN.out
          go_wp2
          exact ⟨⟨j + 1, by omega, by go_num, by rw [HN.out]; rfl⟩, by simp [intOf]; omega⟩
    · obtain rfl : j = L.length := by omega
      go_wp2
      go_ret
      exact ⟨rfl, rfl⟩
set_option maxRecDepth 100000 in
set_option maxHeartbeats 3200000 in
theorem shiftBetween_any (w : World) (v1 v2 : Value) (A B : List Nat) (m o : Nat) (h1 : RdF w v1 A) (h2 : RdF w v2 B) (hA : A.length ≤ 200) (hB : B.length ≤ 200) (hm : m ≤ 128) (hb : bestF (corL A B m) (2 * m + 1) = some o) :
    Calls Try.prog 24 #[v1, v2, .int .i64 m] w fun e w' => ∃ r, e = .returned (.tuple #[.int .i64 ((o : Int) - m), .float .f32 r, .bool true]) ∧ FV .f32 r ((corL A B m).getD o 0) ∧ Below w.heap.size w w' := by
  have hadd := run_fadd (P := Try.prog)
  have hmul := run_fmul (P := Try.prog)
  have H1 := Lib.hid h1
  have H2 := Lib.hid h2
  obtain ⟨a1, c1, rfl, -⟩ := h1.opened
  obtain ⟨a2, c2, rfl, -⟩ := h2.opened
  have HL := Lib.hid (fun wq => lengthF_any wq a2 B.length c2)
  have hlo := bestF_lt _ _ hb
  have HBF := Lib.hid hb
  clear h1 h2 hb
  go_enter Try.func24, Try.ntmps24
  go_wp2_with fail
  go_loopw [9, 10] (fun s d wr => ∃ i : Nat, i ≤ 2 * m + 1 ∧ d = .int .i64 ((i : Int) - m) ∧ OwnF wr w.heap.size s (tab (fun i => corS A B ((i : Int) - m) A.length) i) ∧ Below w.heap.size w wr) (fun _ d _ => (2 * m + 2) - ((intOf d) + m).toNat)
  case atStart => exact ⟨0, Nat.zero_le _, by congr 1; omega, OwnF.nil _ _, Below.refl _ _⟩
  case round =>
    obtain ⟨wi, rfl⟩ : ∃ wi : World, wi = wr := ⟨_, rfl⟩
    obtain ⟨i, hi, rfl, ho, hb⟩ := hrel
    have HO := Lib.hid ho
    have HB := Lib.hid hb
    have hzi := hb.size
    by_cases hlt : i < 2 * m + 1
    · obtain ⟨a1', c1', e1, hc1, -, hcell1⟩ := (H1.out.mono hb).opened
      obtain ⟨rfl, rfl⟩ : a1 = a1' ∧ c1 = c1' := by injection e1 with e1 e2 e3; exact ⟨e1, e3⟩
      obtain ⟨a2', c2', e2, hc2, -, hcell2⟩ := (H2.out.mono hb).opened
      obtain ⟨rfl, rfl⟩ : a2 = a2' ∧ c2 = c2' := by injection e2 with e1 e2 e3; exact ⟨e1, e3⟩
      have HTS : Hid (tab (fun i => corS A B ((i : Int) - m) A.length) (i + 1) = tab (fun i => corS A B ((i : Int) - m) A.length) i ++ [corS A B ((i : Int) - m) A.length]) := Lib.hid (tab_succ _ _)
      have hle : decide ((i : Int) - m ≤ m) = true := by simp; omega
      have htl : (tab (fun i => corS A B ((i : Int) - m) A.length) i).length = i := tab_length _ _
      have HTL := Lib.hid htl
      clear ho hb e1 e2 htl
      obtain ⟨d, hd⟩ : ∃ d : Int, (i : Int) - m = d := ⟨_, rfl⟩
      rw [hd] at HTS hle ⊢
      have hd0 : -128 ≤ d := by omega
      have hd1 : d ≤ 128 := by omega
      have HD := Lib.hid hd
      clear hd
      go_wp2_with fail
      go_loopw [11, 25] (fun q x wr => ∃ k n r : Nat, k ≤ A.length ∧ x = .int .i64 k ∧ q = .float .f32 r ∧ FV .f32 r (corS A B d k) ∧ wr = wi.drewN n) (fun _ x _ => A.length - (intOf x).toNat)
      case atStart => exact ⟨0, 0, 0, Nat.zero_le _, rfl, rfl, fv0 _, rfl⟩
      case round =>
        obtain ⟨wk, rfl⟩ : ∃ wk : World, wk = wr := ⟨_, rfl⟩
        obtain ⟨k, n, r, hk, rfl, rfl, hf, hw⟩ := hrel
        have HW := Lib.hid hw
        have HF := Lib.hid hf
        by_cases hlt2 : k < A.length
        · obtain ⟨b, off, x, rfl, hx1, hx2⟩ := hcell1 k hlt2
          have hx1' : wk.cell? ⟨b, off + k, none⟩ = some (.float .f32 x) := by rw [hw]; exact hx1
          have HX := Lib.hid hx2
          have HWI := Lib.hid (within_any wk ((k : Int) + d) 0 ((B.length : Int) - 1))
          cases hq : inB ((k : Int) + d) 0 ((B.length : Int) - 1) with
          | false =>
            rw [hq] at HWI
            have HS : Hid (corS A B d (k + 1) = corS A B d k) := Lib.hid (by rw [corS, hq]; rfl)
            clear hcell1 hcell2 hx1 hx2 hw hf hq
            go_wp2_with fail
            refine (HL.out _).mono ?_
            rintro e w3 ⟨rfl, hw3⟩
            obtain rfl : wk = w3 := hw3.symm
            go_wp2_with fail
            refine HWI.out.mono ?_
            rintro e w4 ⟨rfl, hw4⟩
            obtain rfl : wk = w4 := hw4.symm
            clear hw3 hw4 HWI
            go_wp2_with fail
            exact ⟨⟨k + 1, n, r, by omega, by go_num, rfl, by rw [HS.out]; exact HF.out, HW.out⟩, by simp [intOf]; omega⟩
          | true =>
            rw [hq] at HWI
            obtain ⟨u0, u1⟩ := inB_out hq
            obtain ⟨t, ht⟩ : ∃ t : Nat, (k : Int) + d = t := ⟨((k : Int) + d).toNat, by omega⟩
            obtain ⟨b', off', y, rfl, hy1, hy2⟩ := hcell2 t (by omega)
            have hy1' : wk.cell? ⟨b', off' + t, none⟩ = some (.float .f32 y) := by rw [hw]; exact hy1
            have HY := Lib.hid hy2
            have HS : Hid (corS A B d (k + 1) = fop .add .f32 (corS A B d k) (fop .mul .f32 (A.getD k 0) (B.getD t 0))) := Lib.hid (by rw [corS, hq, if_pos rfl, ht]; rfl)
            rw [ht] at HWI
            clear hcell1 hcell2 hx1 hx2 hy1 hy2 hw hf hq u0
            go_wp2_with fail
            refine (HL.out _).mono ?_
            rintro e w3 ⟨rfl, hw3⟩
            obtain rfl : wk = w3 := hw3.symm
            go_wp2_with fail
            refine HWI.out.mono ?_
            rintro e w4 ⟨rfl, hw4⟩
            obtain rfl : wk = w4 := hw4.symm
            clear hw3 hw4 HWI
            go_wp2_with fail
            refine ⟨⟨k + 1, n + (fcnt .mul .f32 x y + fcnt .add .f32 r (fres .mul .f32 x y wk)), _, by omega, by go_num, rfl, by rw [HS.out]; exact FV.op (op := .add) HF.out (FV.op (op := .mul) HX.out HY.out _) _, ?_⟩, by simp [intOf]; omega⟩
            rw [HW.out, World.drewN_drewN]
        · obtain rfl : k = A.length := by omega
          have bw : Below wi.heap.size wi wk := by rw [hw]; exact Below.drewN (Below.refl _ _) _
          have BWK := Lib.hid bw
          have bk : Below wi.heap.size wi (wk.alloc (.cells #[.float .f32 r] 27)) := bw.alloc bw.size _
          have zk := bw.size
          clear hcell1 hcell2 hw hf bw
          go_wp2_with (at_builtin; go_must (refine wpList_push rfl _ _ rfl w.heap.size u9 (tab (fun i => corS A B ((i : Int) - m) A.length) i) rfl (HO.out.kept bk) _ _ r (corS A B d A.length) rfl (cell_new _ _ _) HF.out (by rw [HTL.out]; omega) (by rw [World.size_alloc]; omega) ?_); intro v6 w6 o6 g6 b6 _)
          have hdd := HD.out
          refine ⟨⟨i + 1, by omega, by congr 1; omega, by rw [HTS.out]; exact o6, HB.out.trans ((bk.mono hzi).trans b6)⟩, by simp [intOf]; omega⟩
    · obtain rfl : i = 2 * m + 1 := by omega
      have hle : decide (((2 * m + 1 : Nat) : Int) - m ≤ m) = false := by simp; omega
      have hlen : (corL A B m).length = 2 * m + 1 := tab_length _ _
      have HBE := Lib.hid (best_any wi _ (corL A B m) (show RdF wi u9 (corL A B m) from ho.rd) (by omega))
      rw [hlen, HBF.out] at HBE
      obtain ⟨g, cap, hv, -, -, -, hcl, -⟩ := (show OwnF wi w.heap.size u9 (corL A B m) from ho).at_block hlen (by omega)
      obtain ⟨r, hr1, hr2⟩ := hcl o (by omega)
      have HR := Lib.hid hr2
      have e1 : bi (some o) = (o : Int) := rfl
      rw [e1] at HBE
      clear ho hb hcl hr2 hlen e1
      subst hv
      go_wp2_with fail
      refine HBE.out.mono ?_
      rintro e w3 ⟨rfl, hw3⟩
      obtain rfl : wi = w3 := hw3.symm
      clear HBE hw3
      have hd0 : decide ((o : Int) < 0) = false := by simp
      go_wp2_with fail
      refine region_rel_all (by kernel_rfl) (by kernel_rfl) (Drawn wi) (fun _ _ _ => False) ⟨1, rfl⟩ ?_
      repeat (refine wpRel_draw rfl rfl (fun nq K hK => ?_); go_wp2)
      refine wpRel_nil ?_
      rintro wd ⟨nd, hwd⟩
      have HWD := Lib.hid hwd
      clear hwd
      go_wp2
      go_ret3
      exact ⟨r, rfl, HR.out, by rw [HWD.out]; exact Below.drewN HB.out _⟩
set_option maxRecDepth 100000 in
set_option maxHeartbeats 1600000 in
theorem bestShift_any (w : World) (v1 v2 : Value) (A B : List Nat) (m o : Nat) (h1 : RdF w v1 A) (h2 : RdF w v2 B) (hA : inB A.length 1 128 = true) (hB : inB B.length 1 128 = true) (hm : m ≤ 128) (hb : bestF (corL A B m) (2 * m + 1) = some o) :
    Calls Try.prog 9 #[v1, v2, .int .i64 m] w fun e w' => ∃ r, e = .returned (.tuple #[.int .i64 ((o : Int) - m), .float .f32 r, .bool true]) ∧ FV .f32 r ((corL A B m).getD o 0) ∧ Below w.heap.size w w' := by
  have ha := inB_out hA
  have hb2 := inB_out hB
  have HS := Lib.hid (shiftBetween_any w v1 v2 A B m o h1 h2 (by omega) (by omega) hm hb)
  obtain ⟨a1, c1, rfl, -⟩ := h1.opened
  obtain ⟨a2, c2, rfl, -⟩ := h2.opened
  have HT1 := Lib.hid (isTrace_any w a1 A.length c1 (by omega))
  have HT2 := Lib.hid (isTrace_any w a2 B.length c2 (by omega))
  rw [hA] at HT1
  rw [hB] at HT2
  have HW := Lib.hid (within_any w m 0 128)
  rw [show inB (m : Int) 0 128 = true by unfold inB; simp; omega] at HW
  clear h1 h2 hb
  go_enter Try.func9, Try.ntmps9
  go_wp2_with fail
  refine HT1.out.mono ?_
  rintro e w1 ⟨rfl, hw1⟩
  obtain rfl : w = w1 := hw1.symm
  go_wp2_with fail
  refine HT2.out.mono ?_
  rintro e w2 ⟨rfl, hw2⟩
  obtain rfl : w = w2 := hw2.symm
  go_wp2_with fail
  refine HW.out.mono ?_
  rintro e w3 ⟨rfl, hw3⟩
  obtain rfl : w = w3 := hw3.symm
  clear HT1 HT2 HW hw1 hw2 hw3
  go_wp2_with fail
  refine HS.out.mono ?_
  rintro e w4 ⟨r, rfl, hr, b4⟩
  have HF := Lib.hid hr
  clear hr HS
  go_wp2
  go_ret3
  exact ⟨r, rfl, HF.out, b4⟩
end Go.Proofs.Ytcffkhmjljlbaaa
