/- Walks: a wave is taken from a trace; a part is muted. -/
import Derived.Test.YthacadbdncfocaaFiB
import Derived.Test.YthacadbdncfocaaSns
import Derived.Test.YthacadbdncfocaaCur
import Derived.Test.YthacadbdncfocaaNumB
import Derived.Test.YthacadbdncfocaaGatB
import Derived.Laws.CopyOwn
namespace Go.Proofs.Ythacadbdncfocaa
open Go Go.RowKit

/-- The sine of some turns, in 32 bits: the program's. -/
def sinT (x : Nat) : Nat := nrw (sinF (frcF (cwide x)))
def sinTOk (x : Nat) : Bool := !isN .f32 x && (!isN .f64 (fop .sub .f64 (cwide x) (cwide x)) && (eqB (fop .sub .f64 (cwide x) (cwide x)) 0 && (!geB (absW (cwide x)) 4841369599423283200 && (frcOk (cwide x) && (sinOk (frcF (cwide x)) && nrwOk (sinF (frcF (cwide x))))))))
theorem cwide_ltF (x : Nat) : cwide x < 18446744073709551616 := by
  unfold cwide
  split
  · decide
  · exact Ieee.double.write_lt _
set_option maxRecDepth 100000 in
set_option maxHeartbeats 800000 in
theorem sineT_fine (w : World) (x : Nat) (h : sinTOk x = true) :
    Calls Try.prog 71 #[.float .f32 x] w fun e w' => e = .returned (.float .f32 (sinT x)) ∧ w' = w := by
  unfold sinTOk at h
  simp only [Bool.and_eq_true, Bool.not_eq_true'] at h
  obtain ⟨m1, m2, m3, m4, q1, q2, q3⟩ := h
  have HS := Lib.hid (fun wq => sine_fine wq _ q1 q2)
  have hcv := fun wq => run_wideF (P := Try.prog) 27 40 (by kernel_rfl) (by kernel_rfl) wq x m1
  have hnw := fun wq => run_narrowF (P := Try.prog) 40 27 (by kernel_rfl) (by kernel_rfl) wq _ q3
  rw [show nrw (sinF (frcF (cwide x))) = sinT x from rfl] at hnw
  have HA := Lib.hid (fun wq => mathAbs_any wq _ (cwide_ltF x))
  have hge : (FloatKind.f64.format.order (absW (cwide x)) 4841369599423283200 == some Ordering.gt || FloatKind.f64.format.order (absW (cwide x)) 4841369599423283200 == some Ordering.eq) = false := m4
  have k1 := fun wq ty => run_fineK (P := Try.prog) .f64 .sub (by simp) wq ty (cwide x) (cwide x) m2
  have k2 : (FloatKind.f64.format.order (fop .sub .f64 (cwide x) (cwide x)) 0 == some Ordering.eq) = true := m3
  clear m1 m2 m3 m4 q1 q2 q3
  generalize fop .sub .f64 (cwide x) (cwide x) = y0 at *
  generalize sinT x = z at *
  generalize sinF (frcF (cwide x)) = s at *
  generalize absW (cwide x) = a at *
  generalize cwide x = y at *
  have HF : Hid (∀ wq, Calls Try.prog 76 #[.float .f64 y] wq fun e w' => e = .returned (.bool true) ∧ w' = wq) := Lib.hid fun wq => by
    go_enter Try.func76, Try.ntmps76
    go_wp2
    go_ret
    exact ⟨rfl, rfl⟩
  clear k1 k2
  go_enter Try.func71, Try.ntmps71
  go_wp2_with fail
  refine (HF.out _).mono ?_
  rintro e w1 ⟨rfl, hw1⟩
  obtain rfl : w = w1 := hw1.symm
  clear hw1
  go_wp2_with fail
  refine (HA.out _).mono ?_
  rintro e w1 ⟨rfl, hw1⟩
  obtain rfl : w = w1 := hw1.symm
  clear hw1
  go_wp2_with fail
  refine (HS.out _).mono ?_
  rintro e w1 ⟨rfl, hw1⟩
  obtain rfl : w = w1 := hw1.symm
  clear hw1
  go_wp2
  go_ret
  exact ⟨rfl, rfl⟩
/-- The reference's. -/
def sinS (x : Nat) : Nat := nrw (sinF (frS (cwide x)))
def sinSOk (x : Nat) : Bool := !isN .f32 x && (frSOk (cwide x) && (sinOk (frS (cwide x)) && nrwOk (sinF (frS (cwide x)))))
set_option maxRecDepth 100000 in
set_option maxHeartbeats 800000 in
theorem sineS_fine (w : World) (x : Nat) (h : sinSOk x = true) :
    Calls Try.prog 36 #[.float .f32 x] w fun e w' => e = .returned (.float .f32 (sinS x)) ∧ w' = w := by
  unfold sinSOk at h
  simp only [Bool.and_eq_true, Bool.not_eq_true'] at h
  obtain ⟨m1, q1, q2, q3⟩ := h
  have HS := Lib.hid (fun wq => sineW_fine wq _ q1 q2)
  have hcv := fun wq => run_wideF (P := Try.prog) 27 40 (by kernel_rfl) (by kernel_rfl) wq x m1
  have hnw := fun wq => run_narrowF (P := Try.prog) 40 27 (by kernel_rfl) (by kernel_rfl) wq _ q3
  rw [show nrw (sinF (frS (cwide x))) = sinS x from rfl] at hnw
  clear m1 q1 q2 q3
  generalize sinS x = z at *
  generalize sinF (frS (cwide x)) = s at *
  generalize cwide x = y at *
  have HK : Hid (∀ wq, Calls Try.prog 70 #[.float .f32 x] wq fun e w' => e = .returned (.float .f32 z) ∧ w' = wq) := Lib.hid fun wq => by
    go_enter Try.func70, Try.ntmps70
    go_wp2_with fail
    refine (HS.out _).mono ?_
    rintro e w1 ⟨rfl, hw1⟩
    obtain rfl : wq = w1 := hw1.symm
    clear hw1
    go_wp2_with (go_at_call 80; go_in)
    go_ret
    exact ⟨rfl, rfl⟩
  clear HS hcv hnw
  go_enter Try.func36, Try.ntmps36
  go_wp2_with fail
  refine (HK.out _).mono ?_
  rintro e w1 ⟨rfl, hw1⟩
  obtain rfl : w = w1 := hw1.symm
  clear hw1
  go_wp2
  go_ret
  exact ⟨rfl, rfl⟩
/-- A wave taken away. -/
def ntF (A : List Nat) (c k : Nat) : Nat := fop .add .f32 (fop .sub .f32 (A.getD k 0) (fop .mul .f32 c (atV A ((k : Int) - 1)))) (atV A ((k : Int) - 2))
def ntL (A : List Nat) (c j : Nat) : List Nat := (List.range j).map (ntF A c)
theorem ntL_snoc (A : List Nat) (c j : Nat) : ntL A c (j + 1) = ntL A c j ++ [ntF A c j] := by
  unfold ntL
  rw [List.range_succ, List.map_append]
  rfl
theorem ntL_length (A : List Nat) (c j : Nat) : (ntL A c j).length = j := by unfold ntL; rw [List.length_map, List.length_range]
def ntC (t : Nat) : Nat := fop .mul .f32 1073741824 (sinT (fop .add .f32 t 1048576000))
def ntOk (t : Nat) : Bool := fin .f32 t && (!isN .f32 (fop .add .f32 t 1048576000) && (sinTOk (fop .add .f32 t 1048576000) && !isN .f32 (ntC t)))
set_option maxRecDepth 100000 in
set_option maxHeartbeats 1600000 in
theorem notchTrace_any (w : World) (v : Value) (A : List Nat) (t : Nat) (h1 : RdF w v A) (hn : 1 ≤ A.length) (hn2 : A.length ≤ 128) (ht : ntOk t = true) (ct : FV .f32 t t) :
    Calls Try.prog 37 #[v, .float .f32 t] w fun e w' => ∃ v', e = .returned (.tuple #[v', .bool true]) ∧ OwnF w' w.heap.size v' (ntL A (ntC t) A.length) ∧ Below w.heap.size w w' := by
  unfold ntOk at ht
  simp only [Bool.and_eq_true, Bool.not_eq_true'] at ht
  obtain ⟨t1, t2, t3, t4⟩ := ht
  have hst := run_store_float (P := Try.prog)
  have H1 := Lib.hid h1
  obtain ⟨a1, c1, rfl⟩ := rd_slice h1
  obtain ⟨n, hnn⟩ : ∃ n, A.length = n := ⟨_, rfl⟩
  have HN := Lib.hid hnn
  have HE := Lib.hid (isTraceT_any w a1 A.length c1 hn hn2)
  have HFi := Lib.hid (isFinite_any w t t ct)
  rw [t1] at HFi
  have k1 := fun wq ty => run_fineK (P := Try.prog) .f32 .add (by simp) wq ty t 1048576000 t2
  have HS := Lib.hid (fun wq => sineT_fine wq _ t3)
  have k2 := fun wq ty => run_fineK (P := Try.prog) .f32 .mul (by simp) wq ty 1073741824 _ t4
  rw [show fop .mul .f32 1073741824 (sinT (fop .add .f32 t 1048576000)) = ntC t from rfl] at k2
  have CC : Hid (FV .f32 (ntC t) (ntC t)) := Lib.hid fop_cls
  clear h1 t1 t2 t3 t4 ct
  rw [hnn] at hn hn2 HE H1 ⊢
  clear hnn
  generalize ntC t = c at *
  generalize sinT (fop .add .f32 t 1048576000) = s at *
  generalize fop .add .f32 t 1048576000 = t' at *
  go_enter Try.func37, Try.ntmps37
  go_wp2_with fail
  refine HE.out.mono ?_
  rintro e w0 ⟨rfl, hw0⟩
  obtain rfl : w = w0 := hw0.symm
  clear HE hw0
  go_wp2_with fail
  refine HFi.out.mono ?_
  rintro e w0 ⟨rfl, nf, hw0⟩
  have B0 : Hid (Below w.heap.size w w0) := Lib.hid (by rw [hw0]; exact Below.drewN (Below.refl _ _) nf)
  clear hw0
  go_wp2_with fail
  refine (HS.out _).mono ?_
  rintro e w1 ⟨rfl, hw1⟩
  obtain rfl : w0 = w1 := hw1.symm
  clear hw1
  go_wp2_with fail
  clear k1 k2
  have hadd := run_fadd (P := Try.prog)
  have hsub := run_fsub (P := Try.prog)
  have hmul := run_fmul (P := Try.prog)
  go_loopw [7, 25] (fun u i wr => ∃ (j : Nat), j ≤ n ∧ i = .int .i64 j ∧ OwnF wr w.heap.size u (ntL A c j) ∧ Below w.heap.size w wr) (fun _ i _ => n - (intOf i).toNat)
  case atStart => exact ⟨0, Nat.zero_le _, rfl, OwnF.nil _ _, B0.out⟩
  case round =>
    obtain ⟨wi, rfl⟩ : ∃ wi : World, wi = wr := ⟨_, rfl⟩
    obtain ⟨j, hj, rfl, ho, hb⟩ := hrel
    have HO := Lib.hid ho
    have HB := Lib.hid hb
    have hzi := hb.size
    have HIL := Lib.hid (ntL_length A c j)
    by_cases hlt : j < n
    · have RM := Lib.hid (H1.out.mono hb)
      obtain ⟨a, cc, hv2, -, -, hcB⟩ := RM.out.opened
      rw [HN.out] at hv2
      cases hv2
      obtain ⟨b2, o2, x2, rfl, k2, F2⟩ := hcB j (by rw [HN.out]; exact hlt)
      have HF2 := Lib.hid F2
      have HA1 := Lib.hid (at_any wi _ A ((j : Int) - 1) RM.out (by rw [HN.out]; omega) (by omega) (by omega))
      clear hcB ho hb F2
      go_wp2_with fail
      refine HA1.out.mono ?_
      rintro e w3 ⟨q1, rfl, hq1, hw3⟩
      obtain rfl : wi = w3 := hw3.symm
      have Q1 : Hid (FV .f32 q1 (atV A ((j : Int) - 1))) := Lib.hid hq1
      clear HA1 hq1 hw3
      go_wp2_with fail
      refine (at_any _ _ A ((j : Int) - 2) (RM.out.drewN _) (by rw [HN.out]; omega) (by omega) (by omega)).mono ?_
      rintro e w3 ⟨q2, rfl, hq2, rfl⟩
      have Q2 : Hid (FV .f32 q2 (atV A ((j : Int) - 2))) := Lib.hid hq2
      clear hq2
      go_wp2_with (at_builtin; go_must (refine wpList_push rfl _ _ rfl w.heap.size _ (ntL A c j) rfl ((HO.out.drewN _).kept ((Below.refl _ _).alloc (Nat.le_refl _) _)) _ _ _ (ntF A c j) rfl (cell_new _ _ _) (FV.op (op := .add) (FV.op (op := .sub) HF2.out (FV.op (op := .mul) CC.out Q1.out _) _) Q2.out _) (by rw [HIL.out]; omega) (by rw [World.size_alloc]; exact Nat.le_succ_of_le hzi) ?_); intro v4 w4 o4 g4 b4 l4)
      exact ⟨⟨j + 1, by omega, by go_num, by rw [ntL_snoc]; exact o4, ((Below.drewN HB.out _).alloc hzi _).trans b4⟩, by simp [intOf]; omega⟩
    · obtain rfl : j = n := by omega
      obtain ⟨a9, c9, rfl⟩ := rd_slice ho.rd
      clear ho hb
      go_wp2
      go_ret2
      exact ⟨_, rfl, HO.out, HB.out⟩
theorem zero_cells (m : Nat) : (Builtin.zeroCells (Value.float .f32 0).cells m).toList = List.replicate m (Value.float .f32 0) := by
  have e : (Value.float .f32 0).cells = #[.float .f32 0] := rfl
  unfold Builtin.zeroCells
  rw [e]
  apply List.ext_getElem
  · simp
  · intro i h1 h2
    simp [Nat.mod_one]
theorem run_clear_row (w : World) (ty : TypeId) (g o m dCap : Nat) (cur : Array Value) (t : TypeId) (hm : 0 < m) (hg : w.heap[g]? = some (.cells cur t (0, 0))) (hfit : o + m ≤ cur.size) :
    (Builtin.clear_ #[25] ty #[.slice (some ⟨g, o, none⟩) m dCap]).run Try.prog w = .ok (.tuple #[]) (w.setRow g (cur.toList.take o ++ List.replicate m (Value.float .f32 0) ++ cur.toList.drop (o + m)).toArray) := by
  have hz : ∀ w : World, (zeroValue 27).run Try.prog w = .ok (.float .f32 0) w := fun w => by kernel_rfl
  have hst := run_storeCells_at Try.prog g o t (List.replicate m (Value.float .f32 0)) 0 cur w hg (by simpa using hfit) (fun v hv => by rw [List.eq_of_mem_replicate hv]; rfl)
  rw [List.length_replicate, Nat.add_zero] at hst
  obtain ⟨k, rfl⟩ : ∃ k, m = k + 1 := ⟨m - 1, by omega⟩
  have hzc := zero_cells (k + 1)
  simp only [Builtin.clear_, Sem.run_bind, List.getElem?_toArray, List.getElem?_cons_zero, run_underlying Try.underlying25, Result.andThen_ok, hz, hzc, hst]
  rfl
/-- 'clear' of a part of an owned list. -/
theorem wpList_clearF {ops : Array Oper} {rest : List Oper} {o : Oper} {a : Act} {w : World} {Q : Exit → Act → World → Prop} (hgd : o.guard = none) (d : Operand)
    (ho : o.op = .call { callee := .builtin .clear, args := #[d], argTypes := #[25] }) (B g cap n : Nat) (L : List Nat) (hL : L.length = n) (hown : OwnF w B (.slice (some ⟨g, 0, none⟩) n cap) L)
    (dp : Option Addr) (off m dCap : Nat) (hd : a.eval d = .slice dp m dCap) (hp : 0 < m → dp = some ⟨g, off, none⟩) (hfit : off + m ≤ n)
    (h : ∀ w', OwnF w' B (.slice (some ⟨g, 0, none⟩) n cap) (L.take off ++ (List.replicate m 0 ++ L.drop (off + m))) → Chg w w' (fun k => k = g) → w'.heap.size = w.heap.size → wpList Try.prog ops Q rest (a.put o.dst (.tuple #[])) w') : wpList Try.prog ops Q (o :: rest) a w := by
  subst hL
  by_cases hm : 0 < m
  · obtain rfl := hp hm
    obtain ⟨bits, hl, hf, hrow⟩ := hown
    obtain ⟨hxl, hrest⟩ := hrow
    rcases hrest with ⟨hn, -⟩ | ⟨g', cap', cur, hv', hB, hg, hn, hmm, hsz, htk⟩
    · cases hn
    · obtain ⟨rfl, rfl⟩ : g = g' ∧ cap = cap' := by cases hv'; exact ⟨rfl, rfl⟩
      rw [Nat.mul_one] at hxl hsz htk
      have hll : bits.length ≤ cur.size := by rw [hsz]; omega
      have hrun := run_clear_row w o.type g off m dCap cur 27 hm hg (by omega)
      refine wpList_plain hgd fun K hK => ?_
      unfold Oper.wp
      simp [execOp, ho, resolve, invoke, builtin, hd, hrun, Result.andThen]
      refine hK _ _ ?_
      have hg2 := setRow_heap w g cur (cur.toList.take off ++ (List.replicate m (Value.float .f32 0) ++ cur.toList.drop (off + m))).toArray 27 (0, 0) hg
      refine h _ ?_ ⟨rfl, rfl, rfl, by simp [World.setRow], fun k hk hne => setRow_other w g k _ (by omega)⟩ (by simp [World.setRow])
      have hnl : (L.take off ++ (List.replicate m 0 ++ L.drop (off + m))).length = L.length := by simp; omega
      refine ⟨bits.take off ++ (List.replicate m 0 ++ bits.drop (off + m)), by simp; omega, fun j hj => ?_, by simp; omega, .inr ⟨g, cap, _, by rw [hnl], hB, by simpa using hg2, by omega, hmm, by simp; omega, ?_⟩⟩
      · rw [hnl] at hj
        have e : ∀ (X : List Nat), X.length = L.length → (X.take off ++ (List.replicate m 0 ++ X.drop (off + m))).getD j 0 = if j < off then X.getD j 0 else if j < off + m then 0 else X.getD j 0 := fun X hX => by
          simp only [List.getD_eq_getElem?_getD, List.getElem?_append, List.length_take, List.getElem?_take, List.getElem?_drop, List.length_replicate, List.getElem?_replicate]
          rw [show min off X.length = off by omega]
          by_cases h1 : j < off
          · simp [h1]
          · by_cases h2 : j < off + m
            · rw [if_neg h1, if_pos (by omega), if_neg h1, if_pos h2, if_pos (by omega)]; rfl
            · rw [if_neg h1, if_neg (by omega), if_neg h1, if_neg h2, show off + m + (j - off - m) = j by omega]
        rw [e bits hl, e L rfl]
        by_cases h1 : j < off
        · rw [if_pos h1, if_pos h1]; exact hf j hj
        · rw [if_neg h1, if_neg h1]
          by_cases h2 : j < off + m
          · rw [if_pos h2, if_pos h2]; exact fv0 _
          · rw [if_neg h2, if_neg h2]; exact hf j hj
      · rw [Nat.mul_one, hnl]
        have e1 : cur.toList = bits.map (Value.float .f32) ++ cur.toList.drop L.length := by rw [← htk]; exact (List.take_append_drop _ _).symm
        have hbl2 : (bits.map (Value.float .f32)).length = L.length := by simp [hl]
        rw [List.map_append, List.map_append, List.map_take, List.map_drop, List.map_replicate]
        generalize bits.map (Value.float .f32) = X at *
        generalize cur.toList.drop L.length = Z at *
        rw [e1]
        rw [show (X ++ Z).take off = X.take off from List.take_append_of_le_length (by omega), show (X ++ Z).drop (off + m) = X.drop (off + m) ++ Z from List.drop_append_of_le_length (by omega)]
        simp only [List.append_assoc, List.toList_toArray]
        rw [show X.take off ++ (List.replicate m (Value.float .f32 0) ++ (X.drop (off + m) ++ Z)) = (X.take off ++ (List.replicate m (Value.float .f32 0) ++ X.drop (off + m))) ++ Z by simp [List.append_assoc]]
        rw [List.take_append_of_le_length (by simp; omega), List.take_of_length_le (by simp; omega)]
  · obtain rfl : m = 0 := by omega
    have hrun : (Builtin.clear_ #[25] o.type #[.slice dp 0 dCap]).run Try.prog w = .ok (.tuple #[]) w := by
      simp only [Builtin.clear_, Sem.run_bind, List.getElem?_toArray, List.getElem?_cons_zero, run_underlying Try.underlying25, Result.andThen_ok]
      cases dp <;> rfl
    refine wpList_plain hgd fun K hK => ?_
    unfold Oper.wp
    simp [execOp, ho, resolve, invoke, builtin, hd, hrun, Result.andThen]
    refine hK _ _ (h w ?_ (Chg.refl _ _) rfl)
    rw [Nat.add_zero, List.replicate_zero, List.nil_append, List.take_append_drop]
    exact hown
end Go.Proofs.Ythacadbdncfocaa
