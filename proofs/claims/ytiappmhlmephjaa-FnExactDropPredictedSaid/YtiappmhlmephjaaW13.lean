/- Walks: ErrorFilter and applied, of the program and of the reference. -/
import Derived.Test.YtiappmhlmephjaaW2
import Derived.Test.YtiappmhlmephjaaCv
import Derived.Test.YtiappmhlmephjaaPl
import Derived.Test.YtiappmhlmephjaaW8
import Derived.IntWalk
namespace Go.Proofs.Ytiappmhlmephjaa
open Go Go.RowKit

theorem read_isNaN (f : Ieee.Format) (x : Nat) : (f.read x).isNaN = (!decide (x % f.signWeight < f.binade) && !decide (x % f.signWeight < f.infRung) && !decide (x % f.signWeight = f.infRung)) := by
  unfold Ieee.Format.read
  by_cases h1 : x % f.signWeight < f.binade
  · simp [h1, Ieee.Datum.isNaN]
  · by_cases h2 : x % f.signWeight < f.infRung
    · simp only [if_neg h1, if_pos h2]; simp [h1, h2, Ieee.Datum.isNaN]
    · by_cases h3 : x % f.signWeight = f.infRung
      · simp only [if_neg h1, if_neg h2, if_pos h3]; simp [h3, Ieee.Datum.isNaN]
      · simp only [if_neg h1, if_neg h2, if_neg h3]; simp [h1, h2, h3, Ieee.Datum.isNaN]
theorem negFloat_mod (k : FloatKind) (b : Nat) : Op.negFloat k b % k.format.signWeight = b % k.format.signWeight := by
  unfold Op.negFloat Ieee.Format.signWeight
  rw [Nat.xor_mod_two_pow, Nat.mod_self, Nat.xor_zero]
theorem isN_neg (k : FloatKind) (b : Nat) : isN k (Op.negFloat k b) = isN k b := by
  unfold isN FloatKind.decode
  rw [read_isNaN, read_isNaN, negFloat_mod]
theorem negFloat_lt {k : FloatKind} {b : Nat} (h : b < 2 ^ k.format.width) : Op.negFloat k b < 2 ^ k.format.width := by
  unfold Op.negFloat
  refine Nat.xor_lt_two_pow h (Nat.pow_lt_pow_right (by omega) ?_)
  unfold Ieee.Format.width
  omega
def nneg (k : FloatKind) (x : Nat) : Nat := can k (Op.negFloat k x)
theorem FV.neg {k : FloatKind} {r x : Nat} (h : FV k r x) : FV k (Op.negFloat k r) (nneg k x) := by
  refine ⟨negFloat_lt h.1, ?_⟩
  unfold nneg
  cases hn : Proofs.Ytiappmhlmephjaa.isN k r with
  | true =>
    have h2 : Proofs.Ytiappmhlmephjaa.isN k x = true := by rw [← h.isN]; exact hn
    exact (can_of_nan (by rw [isN_neg]; exact hn)).trans (can_of_nan (by rw [isN_neg]; exact h2)).symm
  | false =>
    have h2 : r = x := h.eq_of_not (by rw [← h.isN]; exact hn)
    rw [h2]

theorem wpList_neg {P : Program} {w : World} {ops : Array Oper} {rest : List Oper} {o : Oper} {a : Act} {Q : Exit → Act → World → Prop} (hg : o.guard = none) (x : Operand) (t : TypeId) (ho : o.op = .unOp .neg t x)
    (k : FloatKind) (r : Nat) (hx : a.eval x = .float k r) (h : wpList P ops Q rest (a.put o.dst (.float k (Op.negFloat k r))) w) : wpList P ops Q (o :: rest) a w := by
  refine wpList_plain hg fun K hK' => ?_
  unfold Oper.wp
  simp [execOp, ho, hx, Op.unary, Result.andThen]
  exact hK' _ _ h

/-- A 1, zeros, and the first j numbers of F with the other sign. -/
def errTo (F : List Nat) (g j : Nat) : List Nat := (1065353216 :: List.replicate (g - 1) 0) ++ tab (fun i => nneg .f32 (F.getD i 0)) j
def errM (F : List Nat) (g : Nat) : List Nat := errTo F g F.length
theorem errTo_length (F : List Nat) (g j : Nat) : (errTo F g j).length = g - 1 + 1 + j := by simp [errTo, tab_length]; omega
theorem errTo_zero (F : List Nat) (g : Nat) : errTo F g 0 = 1065353216 :: List.replicate (g - 1) 0 := by simp [errTo, tab]
theorem errTo_succ (F : List Nat) (g j : Nat) : errTo F g (j + 1) = errTo F g j ++ [nneg .f32 (F.getD j 0)] := by
  unfold errTo; rw [tab_succ, List.append_assoc]
theorem ones (g : Nat) (h : 1 ≤ g) : (List.replicate g 0).set 0 1065353216 = 1065353216 :: List.replicate (g - 1) 0 := by
  obtain ⟨m, rfl⟩ : ∃ m, g = m + 1 := ⟨g - 1, by omega⟩
  simp [List.replicate_succ]

set_option maxRecDepth 100000 in
set_option maxHeartbeats 800000 in
theorem errorFilter_any (w : World) (v : Value) (F : List Nat) (g : Nat) (hF : RdF w v F) (h1 : 1 ≤ g) (h2 : g ≤ 24) (hm : F.length ≤ 100) :
    Calls Try.prog 49 #[v, .int .i64 g] w fun e w' => ∃ v', e = .returned (.tuple #[v', .bool true]) ∧ OwnF w' w.heap.size v' (errM F g) ∧ Below w.heap.size w w' := by
  have hst := run_store_float (P := Try.prog)
  obtain ⟨a, c, rfl, hc, hz, hcell⟩ := hF.opened
  have hs : IntKind.i64.wrap ((g : Int) + (F.length : Int)) = (g : Int) + (F.length : Int) := IntWalk.i64_in _ (by omega)
  go_enter Try.func49, Try.ntmps49
  go_wp2_with (first | (refine wpList_mk rfl _ _ rfl w.heap.size _ _ _ _ g rfl rfl rfl rfl (by omega) (Nat.le_refl _) ?_; intro w1 h3 hb3 hlt3; obtain ⟨g', cap, eq, hg1, hg2, hcap, hcell3, hfr3⟩ := h3.at_block (n := g) (by simp) (by omega); obtain ⟨rfl, rfl⟩ : w.heap.size = g' ∧ g = cap := (by cases eq; exact ⟨rfl, rfl⟩); obtain ⟨r0, c0, -⟩ := hcell3 0 (by simp; omega); have hfr0 := hfr3 0; clear eq hcell3 hfr3 hs hF hz) | (go_at_call 32; go_in) | (go_at_call 67; go_in) | (go_at_call 66; go_in))
  have ho := Lib.hid (h3.storedN (j := 0) (r := 1065353216) (x := 1065353216) (by simp) ⟨by decide, by decide +kernel⟩)
  have hbs := Lib.hid (hb3.setCell (p := ⟨w.heap.size, 0, none⟩) (Nat.le_refl _) (.float .f32 1065353216))
  clear c0 hfr0 h3 hb3
  generalize w1.setCell ⟨w.heap.size, 0, none⟩ (.float .f32 1065353216) = w2 at *
  go_loopw [6, 25] (fun q i wr => ∃ j : Nat, j ≤ F.length ∧ i = .int .i64 j ∧ OwnF wr w.heap.size q (errTo F g j) ∧ Below w.heap.size w wr) (fun _ i _ => F.length - (intOf i).toNat)
  case atStart => exact ⟨0, Nat.zero_le _, rfl, by rw [errTo_zero, ← ones g h1]; exact ho.out, hbs.out⟩
  case round =>
    obtain ⟨wo, rfl⟩ : ∃ wo : World, wo = wr := ⟨_, rfl⟩
    obtain ⟨j, hj, rfl, hoj, hbj⟩ := hrel
    clear ho hbs
    by_cases hlj : j < F.length
    · obtain ⟨b, o, r, rfl, cr, fr⟩ := hcell j hlj
      have cr2 : wo.cell? ⟨b, o + j, none⟩ = some (.float .f32 r) := ((bcell hbj).1 _ _ (block_lt cr)).trans cr
      have hs := hbj.size
      clear cr hcell
      go_wp2_with (first | (refine wpList_neg rfl _ _ rfl .f32 r rfl ?_) | (at_builtin; go_must (refine wpList_push rfl _ _ rfl w.heap.size u6 (errTo F g j) rfl (hoj.alloc _) _ _ _ _ rfl (cell_new _ _ _) (FV.neg fr) (by rw [errTo_length]; omega) (by rw [World.size_alloc]; omega) ?_); intro v3 w3 h3 hg3 hb3 _))
      exact ⟨⟨j + 1, by omega, by go_num, by rw [errTo_succ]; exact h3, hbj.trans (((Below.refl _ _).alloc hs _).trans hb3)⟩, by simp [intOf]; omega⟩
    · go_wp2
      go_ret2
      obtain rfl : j = F.length := by omega
      exact ⟨_, rfl, hoj, hbj⟩

set_option maxRecDepth 100000 in
set_option maxHeartbeats 800000 in
theorem l05Error_any (w : World) (v : Value) (F : List Nat) (g : Nat) (hF : RdF w v F) (h1 : 1 ≤ g) (h2 : g ≤ 24) (hm : F.length ≤ 100) :
    Calls Try.prog 48 #[v, .int .i64 g] w fun e w' => ∃ v', e = .returned v' ∧ OwnF w' w.heap.size v' (errM F g) ∧ Below w.heap.size w w' := by
  have hb0 : Below w.heap.size w (w.alloc (.cells #[.float .f32 1065353216] 23)) := (Below.refl _ _).alloc (Nat.le_refl _) _
  have ho0 : OwnF (w.alloc (.cells #[.float .f32 1065353216] 23)) w.heap.size (.slice (some ⟨w.heap.size, 0, none⟩) 1 1) [1065353216] := OwnF.one (Nat.le_refl _) ⟨by decide, by decide +kernel⟩
  obtain ⟨a, c, rfl, hc, hz, hcell⟩ := hF.opened
  clear hz hF
  go_enter Try.func48, Try.ntmps48
  go_wp2
  go_loopw [5, 6] (fun q i wr => ∃ j : Nat, 1 ≤ j ∧ j ≤ g ∧ i = .int .i64 j ∧ OwnF wr w.heap.size q (1065353216 :: List.replicate (j - 1) 0) ∧ Below w.heap.size w wr) (fun _ i _ => g - (intOf i).toNat)
  case atStart => exact ⟨1, Nat.le_refl _, h1, rfl, ho0, hb0⟩
  case round =>
    obtain ⟨wo, rfl⟩ : ∃ wo : World, wo = wr := ⟨_, rfl⟩
    obtain ⟨j, hj1, hj, rfl, hoj, hbj⟩ := hrel
    clear ho0 hb0
    have hs := hbj.size
    by_cases hlj : j < g
    · go_wp2_with (at_builtin; go_must (refine wpList_push rfl _ _ rfl w.heap.size u5 (1065353216 :: List.replicate (j - 1) 0) rfl (hoj.alloc _) _ _ _ 0 rfl (cell_new _ _ _) (fv0 _) (by simp; omega) (by rw [World.size_alloc]; omega) ?_); intro v3 w3 h3 hg3 hb3 _)
      refine ⟨⟨j + 1, by omega, by omega, by go_num, ?_, hbj.trans (((Below.refl _ _).alloc hs _).trans hb3)⟩, by simp [intOf]; omega⟩
      have e : (1065353216 :: List.replicate (j - 1) 0) ++ [0] = 1065353216 :: List.replicate (j + 1 - 1) 0 := by
        obtain ⟨m, rfl⟩ : ∃ m, j = m + 1 := ⟨j - 1, by omega⟩
        simp [List.replicate_succ']
      rw [e] at h3
      exact h3
    · obtain rfl : j = g := by omega
      have ho1 : OwnF wo w.heap.size u5 (errTo F j 0) := by rw [errTo_zero]; exact hoj
      clear hoj hlj
      go_wp2
      go_loopw [5, 19] (fun q i wr => ∃ k : Nat, k ≤ F.length ∧ i = .int .i64 k ∧ OwnF wr w.heap.size q (errTo F j k) ∧ Below w.heap.size w wr) (fun _ i _ => F.length - (intOf i).toNat)
      case atStart => exact ⟨0, Nat.zero_le _, rfl, ho1, hbj⟩
      case round =>
        clear ho1 hbj hs
        obtain ⟨wi, rfl⟩ : ∃ wi : World, wi = wr := ⟨_, rfl⟩
        obtain ⟨k, hk, rfl, hok, hbk⟩ := hrel
        have hs := hbk.size
        by_cases hlk : k < F.length
        · obtain ⟨b, o, r, rfl, cr, fr⟩ := hcell k hlk
          have cr2 : wi.cell? ⟨b, o + k, none⟩ = some (.float .f32 r) := ((bcell hbk).1 _ _ (block_lt cr)).trans cr
          clear cr hcell
          go_wp2_with (first | (refine wpList_neg rfl _ _ rfl .f32 r rfl ?_) | (at_builtin; go_must (refine wpList_push rfl _ _ rfl w.heap.size _ (errTo F j k) rfl (hok.alloc _) _ _ _ _ rfl (cell_new _ _ _) (FV.neg fr) (by rw [errTo_length]; omega) (by rw [World.size_alloc]; omega) ?_); intro v3 w3 h3 hg3 hb3 _))
          exact ⟨⟨k + 1, by omega, by go_num, by rw [errTo_succ]; exact h3, hbk.trans (((Below.refl _ _).alloc hs _).trans hb3)⟩, by simp [intOf]; omega⟩
        · go_wp2
          go_ret
          obtain rfl : k = F.length := by omega
          exact ⟨_, rfl, hok, hbk⟩
end Go.Proofs.Ytiappmhlmephjaa
