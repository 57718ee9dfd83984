/- Walks: differences and sums of a trace; its smooth and rough parts. -/
import Derived.Test.YthacadbdncfocaaFiA
namespace Go.Proofs.Ythacadbdncfocaa
open Go Go.RowKit

set_option maxRecDepth 100000 in
set_option maxHeartbeats 400000 in
theorem isTraceT_any (w : World) (a : Option Addr) (n c : Nat) (hn : 1 ≤ n) (hn2 : n ≤ 128) :
    Calls Try.prog 43 #[.slice a n c] w fun e w' => e = .returned (.bool true) ∧ w' = w := by
  have := isTrace_any w a n c (by omega)
  rw [show inB n 1 128 = true by unfold inB; simp; omega] at this
  exact this
set_option maxRecDepth 100000 in
set_option maxHeartbeats 400000 in
theorem isSmooth_any (w : World) (a : Option Addr) (n c r : Nat) (hn : 1 ≤ n) (hn2 : n ≤ 128) (hr : r ≤ 16) :
    Calls Try.prog 66 #[.slice a n c, .int .i64 r] w fun e w' => e = .returned (.bool true) ∧ w' = w := by
  have HT := Lib.hid (isTraceT_any w a n c hn hn2)
  have HW := Lib.hid (within_any w (r : Int) 0 16)
  rw [show inB (r : Int) 0 16 = true by unfold inB; simp; omega] at HW
  go_enter Try.func66, Try.ntmps66
  go_wp2_with fail
  refine HT.out.mono ?_
  rintro e w1 ⟨rfl, hw1⟩
  obtain rfl : w = w1 := hw1.symm
  clear hw1
  go_wp2_with fail
  refine HW.out.mono ?_
  rintro e w1 ⟨rfl, hw1⟩
  obtain rfl : w = w1 := hw1.symm
  clear hw1
  go_wp2
  go_ret
  exact ⟨rfl, rfl⟩
theorem rd_slice {w : World} {v : Value} {L : List Nat} (h : RdF w v L) : ∃ a c, v = .slice a L.length c := by
  obtain ⟨a, c, hv, -⟩ := h.opened
  exact ⟨a, c, hv⟩
set_option maxRecDepth 100000 in
set_option maxHeartbeats 800000 in
theorem smoothTrace_any (w : World) (v : Value) (L : List Nat) (r : Nat) (h : RdF w v L) (hn : 1 ≤ L.length) (hn2 : L.length ≤ 128) (hr : r ≤ 16) :
    Calls Try.prog 29 #[v, .int .i64 r] w fun e w' => ∃ v', e = .returned (.tuple #[v', .bool true]) ∧ OwnF w' w.heap.size v' (smR L r) ∧ Below w.heap.size w w' := by
  have HS := Lib.hid (smooth_any w v L r h hn hn2 hr)
  obtain ⟨a, c, rfl⟩ := rd_slice h
  have HI := Lib.hid (isSmooth_any w a L.length c r hn hn2 hr)
  clear h
  go_enter Try.func29, Try.ntmps29
  go_wp2_with fail
  refine HI.out.mono ?_
  rintro e w1 ⟨rfl, hw1⟩
  obtain rfl : w = w1 := hw1.symm
  clear hw1
  go_wp2_with fail
  refine HS.out.mono ?_
  rintro e w1 ⟨v', rfl, o1, b1⟩
  obtain ⟨a1, c1, rfl⟩ := rd_slice o1.rd
  have O1 := Lib.hid o1
  have B1 := Lib.hid b1
  clear o1 b1
  go_wp2
  go_ret2
  exact ⟨_, rfl, O1.out, B1.out⟩
set_option maxRecDepth 100000 in
set_option maxHeartbeats 800000 in
theorem roughTrace_any (w : World) (v : Value) (L : List Nat) (r : Nat) (h : RdF w v L) (hn : 1 ≤ L.length) (hn2 : L.length ≤ 128) (hr : r ≤ 16) :
    Calls Try.prog 30 #[v, .int .i64 r] w fun e w' => ∃ v', e = .returned (.tuple #[v', .bool true]) ∧ OwnF w' w.heap.size v' (subL L (smR L r)) ∧ Below w.heap.size w w' := by
  have HS := Lib.hid (smooth_any w v L r h hn hn2 hr)
  have H := Lib.hid h
  obtain ⟨a, c, rfl⟩ := rd_slice h
  have HI := Lib.hid (isSmooth_any w a L.length c r hn hn2 hr)
  clear h
  go_enter Try.func30, Try.ntmps30
  go_wp2_with fail
  refine HI.out.mono ?_
  rintro e w1 ⟨rfl, hw1⟩
  obtain rfl : w = w1 := hw1.symm
  clear hw1
  go_wp2_with fail
  refine HS.out.mono ?_
  rintro e w1 ⟨v', rfl, o1, b1⟩
  have HL := Lib.hid (lessTracesF_any w1 _ v' L (smR L r) (H.out.mono b1) o1.rd hn hn2 (smR_length L r))
  have hz := b1.size
  have B1 := Lib.hid b1
  clear o1 b1 HS
  go_wp2_with fail
  refine HL.out.mono ?_
  rintro e w2 ⟨v2, rfl, o2, b2⟩
  obtain ⟨a1, c1, rfl⟩ := rd_slice o2.rd
  have O2 := Lib.hid o2
  have B2 := Lib.hid b2
  clear o2 b2
  go_wp2
  go_ret2
  exact ⟨_, rfl, O2.out.mono hz, B1.out.trans (B2.out.mono hz)⟩
/-- Differences. -/
def dfF (A : List Nat) (k : Nat) : Nat := if k = 0 then A.getD 0 0 else fop .sub .f32 (A.getD k 0) (A.getD (k - 1) 0)
def dfL (A : List Nat) : List Nat := tab (dfF A) A.length
theorem mix_one (A : List Nat) (h : 1 ≤ A.length) : mixTo (dfL A) A 1 = A := by
  have e : mixTo (dfL A) A 1 = (mixTo (dfL A) A 0).set 0 ((dfL A).getD 0 0) := (mixTo_set _ _ _).symm
  rw [e, mixTo_zero, show (dfL A).getD 0 0 = A.getD 0 0 from tab_getD _ _ _ (by omega)]
  apply List.ext_getElem?
  intro i
  by_cases hi : i = 0
  · subst hi
    rw [List.getElem?_set_self (by omega), List.getD_eq_getElem?_getD, List.getElem?_eq_getElem (show 0 < A.length by omega)]
    rfl
  · rw [List.getElem?_set_ne (by omega)]
set_option maxRecDepth 100000 in
set_option maxHeartbeats 1600000 in
theorem differTrace_any (w : World) (v : Value) (A : List Nat) (h1 : RdF w v A) (hn : 1 ≤ A.length) (hn2 : A.length ≤ 128) :
    Calls Try.prog 32 #[v] w fun e w' => ∃ v', e = .returned (.tuple #[v', .bool true]) ∧ OwnF w' w.heap.size v' (dfL A) ∧ Below w.heap.size w w' := by
  have hop := run_fsub (P := Try.prog)
  have hst := run_store_float (P := Try.prog)
  have HC := Lib.hid (clone_any w v A h1 (by omega))
  have H1 := Lib.hid h1
  obtain ⟨a1, c1, rfl⟩ := rd_slice h1
  obtain ⟨n, hnn⟩ : ∃ n, A.length = n := ⟨_, rfl⟩
  have HML : Hid ((dfL A).length = n) := Lib.hid (by rw [← hnn]; exact tab_length _ _)
  have HN := Lib.hid hnn
  have HE := Lib.hid (isTraceT_any w a1 A.length c1 hn hn2)
  have HM1 := Lib.hid (mix_one A hn)
  clear h1
  rw [hnn] at hn hn2 HC HE H1 ⊢
  clear hnn
  go_enter Try.func32, Try.ntmps32
  go_wp2_with fail
  refine HE.out.mono ?_
  rintro e w0 ⟨rfl, hw0⟩
  obtain rfl : w = w0 := hw0.symm
  clear HE hw0
  go_wp2_with fail
  refine HC.out.mono ?_
  rintro e w1 ⟨v, rfl, o1, b1⟩
  obtain ⟨g, cap, rfl, hg, -, -, -, -⟩ := o1.at_block HN.out hn
  have O1 : Hid (OwnF w1 w.heap.size (.slice (some ⟨g, 0, none⟩) n cap) (mixTo (dfL A) A 1)) := Lib.hid (by rw [HM1.out]; exact o1)
  have B1 := Lib.hid b1
  clear o1 b1 HC
  go_wp2_with fail
  go_loopw [5] (fun i wr => ∃ j : Nat, 1 ≤ j ∧ j ≤ n ∧ i = .int .i64 j ∧ OwnF wr w.heap.size (.slice (some ⟨g, 0, none⟩) n cap) (mixTo (dfL A) A j) ∧ Below w.heap.size w wr) (fun i _ => n - (intOf i).toNat)
  case atStart => exact ⟨1, Nat.le_refl _, hn, rfl, O1.out, B1.out⟩
  case round =>
    clear O1 B1
    obtain ⟨wi, rfl⟩ : ∃ wi : World, wi = wr := ⟨_, rfl⟩
    obtain ⟨j, hj1, hj, rfl, ho, hb⟩ := hrel
    have HO := Lib.hid ho
    have HB := Lib.hid hb
    have hzi := hb.size
    have hml : (mixTo (dfL A) A j).length = n := by rw [mixTo_length, HN.out]
    by_cases hlt : j < n
    · obtain ⟨g', cap', hv, -, -, -, hcl, hfr⟩ := ho.at_block (n := n) hml (by omega)
      obtain rfl : g = g' := by cases hv; rfl
      obtain ⟨r3, c3, -⟩ := hcl j (by rw [hml]; exact hlt)
      have hfj := hfr j
      obtain ⟨a, c, hv2, -, -, hcB⟩ := (H1.out.mono hb).opened
      rw [HN.out] at hv2
      cases hv2
      obtain ⟨b2, o2, x2, rfl, k2, F2⟩ := hcB j (by rw [HN.out]; exact hlt)
      obtain ⟨b3, o3, x3, e3, k3, F3⟩ := hcB (j - 1) (by rw [HN.out]; omega)
      injection e3 with e3
      injection e3 with e4 e5
      subst e4 e5
      obtain ⟨i, rfl⟩ : ∃ i, j = i + 1 := ⟨j - 1, by omega⟩
      rw [Nat.add_sub_cancel] at k3 F3
      have HF3 := Lib.hid F3
      have HF2 := Lib.hid F2
      have HMLJ := Lib.hid hml
      clear hv hcl hfr hcB ho hb F3 F2 hml HM1
      have hidx : ((i : Int) + 1) - 1 = i := by omega
      go_wp2_with fail
      refine region_rel_tail 13 (by kernel_rfl) (by kernel_rfl) (Drawn wi) (fun _ _ _ => False) ⟨1, rfl⟩ ?_
      simp only [List.take_succ_cons, List.take_zero, List.drop_succ_cons, List.drop_zero]
      repeat (refine wpRel_draw rfl rfl (fun nq K hK => ?_); go_wp2)
      refine wpRel_nil ?_
      rintro wd ⟨nd, hwd⟩
      have HD : Hid (wd = wi.drewN nd) := Lib.hid hwd
      have fj2 : wd.frozen? ⟨g, i + 1, none⟩ = false := by rw [hwd]; exact hfj
      have r02 : wd.cell? ⟨g, i + 1, none⟩ = some (.float .f32 r3) := by rw [hwd]; exact c3
      clear hwd
      go_wp2
      refine ⟨⟨i + 1 + 1, by omega, by omega, by go_num, ?_, ?_⟩, by simp [intOf]; omega⟩
      · rw [← mixTo_set]
        have e : (dfL A).getD (i + 1) 0 = fop .sub .f32 (A.getD (i + 1) 0) (A.getD i 0) := (tab_getD _ _ _ (by rw [HN.out]; exact hlt)).trans (by unfold dfF; rw [if_neg (by omega)]; rfl)
        rw [e]
        exact OwnF.storedN (by rw [HD.out]; exact HO.out.drewN nd) HMLJ.out (FV.op (op := .sub) HF2.out HF3.out _)
      · exact Below.chg (by rw [HD.out]; exact Below.drewN HB.out nd) ((Chg.refl _ (fun k => k = g)).setCell rfl (i + 1) _) (fun k hk => by omega) (by rw [HD.out]; exact hzi)
    · obtain rfl : j = n := by omega
      have HF := Lib.hid (show OwnF wi w.heap.size (.slice (some ⟨g, 0, none⟩) j cap) (dfL A) from by have := HO.out; rwa [mixTo_all _ _ _ (by rw [HN.out]; exact Nat.le_refl _) (by rw [HML.out, HN.out])] at this)
      clear ho hb hml
      go_wp2
      go_ret2
      exact ⟨_, rfl, HF.out, HB.out⟩
/-- Sums from the left. -/
def igF (A : List Nat) : Nat → Nat
  | 0 => 0
  | k + 1 => fop .add .f32 (igF A k) (A.getD k 0)
def igL (A : List Nat) (j : Nat) : List Nat := (List.range j).map fun i => igF A (i + 1)
theorem igL_snoc (A : List Nat) (j : Nat) : igL A (j + 1) = igL A j ++ [igF A (j + 1)] := by
  unfold igL
  rw [List.range_succ, List.map_append]
  rfl
theorem igL_length (A : List Nat) (j : Nat) : (igL A j).length = j := by unfold igL; rw [List.length_map, List.length_range]
set_option maxRecDepth 100000 in
set_option maxHeartbeats 1600000 in
theorem integrateTrace_any (w : World) (v : Value) (A : List Nat) (h1 : RdF w v A) (hn : 1 ≤ A.length) (hn2 : A.length ≤ 128) :
    Calls Try.prog 33 #[v] w fun e w' => ∃ v', e = .returned (.tuple #[v', .bool true]) ∧ OwnF w' w.heap.size v' (igL A A.length) ∧ Below w.heap.size w w' := by
  have hop := run_fadd (P := Try.prog)
  have hst := run_store_float (P := Try.prog)
  have H1 := Lib.hid h1
  obtain ⟨a1, c1, rfl⟩ := rd_slice h1
  obtain ⟨n, hnn⟩ : ∃ n, A.length = n := ⟨_, rfl⟩
  have HN := Lib.hid hnn
  have HE := Lib.hid (isTraceT_any w a1 A.length c1 hn hn2)
  clear h1
  rw [hnn] at hn hn2 HE H1 ⊢
  clear hnn
  go_enter Try.func33, Try.ntmps33
  go_wp2_with fail
  refine HE.out.mono ?_
  rintro e w0 ⟨rfl, hw0⟩
  obtain rfl : w = w0 := hw0.symm
  clear HE hw0
  go_wp2_with fail
  go_loopw [4, 5, 13] (fun u s i wr => ∃ (j r : Nat), j ≤ n ∧ i = .int .i64 j ∧ s = .float .f32 r ∧ FV .f32 r (igF A j) ∧ OwnF wr w.heap.size u (igL A j) ∧ Below w.heap.size w wr) (fun _ _ i _ => n - (intOf i).toNat)
  case atStart => exact ⟨0, 0, Nat.zero_le _, rfl, rfl, fv0 _, OwnF.nil _ _, Below.refl _ _⟩
  case round =>
    obtain ⟨wi, rfl⟩ : ∃ wi : World, wi = wr := ⟨_, rfl⟩
    obtain ⟨j, r, hj, rfl, rfl, hf, ho, hb⟩ := hrel
    have HO := Lib.hid ho
    have HB := Lib.hid hb
    have HF := Lib.hid hf
    have hzi := hb.size
    have HIL := Lib.hid (igL_length A j)
    by_cases hlt : j < n
    · obtain ⟨a, c, hv2, -, -, hcB⟩ := (H1.out.mono hb).opened
      rw [HN.out] at hv2
      cases hv2
      obtain ⟨b2, o2, x2, rfl, k2, F2⟩ := hcB j (by rw [HN.out]; exact hlt)
      have HF2 := Lib.hid F2
      clear hcB ho hb F2 hf
      go_wp2_with (at_builtin; go_must (refine wpList_push rfl _ _ rfl w.heap.size _ (igL A j) rfl ((HO.out.drewN _).kept ((Below.refl _ _).alloc (Nat.le_refl _) _)) _ _ _ (igF A (j + 1)) rfl (cell_new _ _ _) (FV.op (op := .add) HF.out HF2.out _) (by rw [HIL.out]; omega) (by rw [World.size_alloc]; exact Nat.le_succ_of_le hzi) ?_); intro v4 w4 o4 g4 b4 l4)
      exact ⟨⟨j + 1, _, by omega, by go_num, rfl, FV.op (op := .add) HF.out HF2.out _, by rw [igL_snoc]; exact o4, ((Below.drewN HB.out _).alloc hzi _).trans b4⟩, by simp [intOf]; omega⟩
    · obtain rfl : j = n := by omega
      obtain ⟨a9, c9, rfl⟩ := rd_slice ho.rd
      clear ho hb hf
      go_wp2
      go_ret2
      exact ⟨_, rfl, HO.out, HB.out⟩
end Go.Proofs.Ythacadbdncfocaa
