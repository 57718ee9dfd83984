/- Walks: sections are valid; their texts. -/
import Derived.Test.YtjbaebgdebcipaaGreatDoorW30
import Derived.Deep.CutRange
import Derived.Deep.DeepCutAuto
import Derived.Deep.RegionWith
namespace Go.Proofs.YtjbaebgdebcipaaGreatDoor
open Go Go.RowKit

/-- A section: its sides, its numbers. -/
structure SM where
  w : Int
  d : Int
  V : List Nat
def RdS (w : World) (u : Value) (S : SM) : Prop := ∃ v, u = .agg #[.int .i64 S.w, .int .i64 S.d, v] ∧ RdF w v S.V
theorem RdS.mono {w w' : World} {u : Value} {S : SM} (h : RdS w u S) (hb : Below w.heap.size w w') : RdS w' u S := by
  obtain ⟨v, hu, h1⟩ := h
  exact ⟨v, hu, h1.mono hb⟩
def inB (n : Int) : Bool := decide (1 ≤ n) && decide (n ≤ 16)
def sizeB (a b : Int) : Bool := inB a && inB b
def validS (S : SM) : Bool := sizeB S.w S.d && ((S.V.length : Int) == S.w * S.d)

set_option maxRecDepth 100000 in
set_option maxHeartbeats 400000 in
theorem within16_any (w : World) (n : Int) :
    Calls Tryz.prog 78 #[.int .i64 n, .int .i64 1, .int .i64 16] w fun e w' => e = .returned (.bool (inB n)) ∧ w' = w := by
  unfold inB
  by_cases h1 : 1 ≤ n
  · rw [decide_eq_true h1]
    go_enter Tryz.func78, Tryz.ntmps78
    go_wp2
    go_ret
    exact ⟨rfl, rfl⟩
  · rw [decide_eq_false h1]
    go_enter Tryz.func78, Tryz.ntmps78
    go_wp2
    go_ret
    exact ⟨rfl, rfl⟩

set_option maxRecDepth 100000 in
set_option maxHeartbeats 400000 in
theorem in16_any (w : World) (n : Int) :
    Calls Tryz.prog 108 #[.int .i64 n, .int .i64 1, .int .i64 16] w fun e w' => e = .returned (.bool (inB n)) ∧ w' = w := by
  unfold inB
  by_cases h1 : 1 ≤ n
  · have h1' : n ≥ 1 := h1
    rw [decide_eq_true h1]
    go_enter Tryz.func108, Tryz.ntmps108
    go_wp2
    go_ret
    exact ⟨rfl, rfl⟩
  · rw [decide_eq_false h1]
    go_enter Tryz.func108, Tryz.ntmps108
    go_wp2
    go_ret
    exact ⟨rfl, rfl⟩

set_option maxRecDepth 100000 in
set_option maxHeartbeats 400000 in
theorem isSize_any (w : World) (a b : Int) :
    Calls Tryz.prog 67 #[.int .i64 a, .int .i64 b] w fun e w' => e = .returned (.bool (sizeB a b)) ∧ w' = w := by
  unfold sizeB
  go_enter Tryz.func67, Tryz.ntmps67
  go_wp2_with fail
  refine (within16_any w a).mono ?_
  rintro e w1 ⟨rfl, rfl⟩
  cases hp : inB a with
  | false =>
    go_wp2
    go_ret
    exact ⟨by rw [hp]; rfl, rfl⟩
  | true =>
    go_wp2_with fail
    refine (within16_any _ b).mono ?_
    rintro e w1 ⟨rfl, rfl⟩
    go_wp2
    go_ret
    exact ⟨by rw [hp]; rfl, rfl⟩

set_option maxRecDepth 100000 in
set_option maxHeartbeats 400000 in
theorem l06Size_any (w : World) (a b : Int) :
    Calls Tryz.prog 87 #[.int .i64 a, .int .i64 b] w fun e w' => e = .returned (.bool (sizeB a b)) ∧ w' = w := by
  unfold sizeB
  go_enter Tryz.func87, Tryz.ntmps87
  go_wp2_with fail
  refine (in16_any w a).mono ?_
  rintro e w1 ⟨rfl, rfl⟩
  cases hp : inB a with
  | false =>
    go_wp2
    go_ret
    exact ⟨by rw [hp]; rfl, rfl⟩
  | true =>
    go_wp2_with fail
    refine (in16_any _ b).mono ?_
    rintro e w1 ⟨rfl, rfl⟩
    go_wp2
    go_ret
    exact ⟨by rw [hp]; rfl, rfl⟩

theorem sizeB_bounds {a b : Int} (h : sizeB a b = true) : 1 ≤ a ∧ a ≤ 16 ∧ 1 ≤ b ∧ b ≤ 16 := by
  unfold sizeB inB at h
  simp only [Bool.and_eq_true, decide_eq_true_eq] at h
  omega
theorem mul_bound {a b : Int} (h : sizeB a b = true) : 1 ≤ a * b ∧ a * b ≤ 256 := by
  obtain ⟨h1, h2, h3, h4⟩ := sizeB_bounds h
  have e1 : 1 * 1 ≤ a * b := Int.mul_le_mul h1 h3 (by decide) (by omega)
  have e2 : a * b ≤ 16 * 16 := Int.mul_le_mul h2 h4 (by omega) (by decide)
  omega

set_option maxRecDepth 100000 in
set_option maxHeartbeats 1600000 in
theorem l06Is_any (w : World) (g : Nat) (S : SM) (v : Value) (c0 : w.cell? ⟨g, 0, none⟩ = some (.int .i64 S.w)) (c1 : w.cell? ⟨g, 1, none⟩ = some (.int .i64 S.d)) (c2 : w.cell? ⟨g, 2, none⟩ = some v) (h : RdF w v S.V) :
    Calls Tryz.prog 52 #[.pointer (some ⟨g, 0, none⟩)] w fun e w' => e = .returned (.bool (validS S)) ∧ ∃ m, w' = w.drewN m := by
  obtain ⟨a, c, rfl, -⟩ := h.opened
  obtain ⟨x, y, V⟩ := S
  unfold validS
  simp only at *
  have hc : ∀ B : Bool, sizeB x y = B → ∀ wd, Drawn w wd → Calls Tryz.prog 87 #[.int .i64 x, .int .i64 y] wd fun e w'' => ∃ u, e = .returned u ∧ u = .bool B ∧ Drawn w w'' := by
    rintro B hB wd ⟨nd, rfl⟩
    refine (l06Size_any (w.drewN nd) x y).mono ?_
    rintro e w'' ⟨rfl, rfl⟩
    exact ⟨_, rfl, by rw [hB], nd, rfl⟩
  cases hp : sizeB x y with
  | false =>
    have HC := Lib.hid (hc false hp)
    clear hc hp
    go_enter Tryz.func52, Tryz.ntmps52
    go_wp2_with fail
    refine region_rel_all (by kernel_rfl) (by kernel_rfl) (Drawn w) (fun _ _ v => v = .bool false) ⟨1, rfl⟩ ?_
    repeat (refine wpRel_draw rfl rfl (fun nq K hK => ?_); go_wp2)
    refine wpRel_callF #[.int .i64 x, .int .i64 y] Tryz.func87 (by kernel_rfl) (by kernel_rfl) (by simp [go_sem]) ⟨w, 0, rfl⟩ ⟨_, rfl⟩ HC.out ?_
    rintro v rfl
    simp only [Act.put, List.setIfInBounds_toArray, List.set_cons_succ, List.set_cons_zero]
    repeat (first | (refine wpRel_draw rfl rfl (fun nq K hK => ?_); go_wp2) | (refine wpRel_skip rfl ?_; simp only [Act.put, List.setIfInBounds_toArray, List.set_cons_succ, List.set_cons_zero]))
    refine wpRel_nil ?_
    rintro wd ⟨nd, hwd⟩
    have Hwd := Lib.hid hwd
    clear hwd
    go_wp2
    go_ret
    exact ⟨rfl, nd, Hwd.out⟩
  | true =>
    have HC := Lib.hid (hc true hp)
    obtain ⟨q1, q2⟩ := mul_bound hp
    have hw : IntKind.i64.wrap (x * y) = x * y := IntWalk.i64_in _ (by omega)
    clear hc hp
    go_enter Tryz.func52, Tryz.ntmps52
    go_wp2_with fail
    refine region_rel_all (by kernel_rfl) (by kernel_rfl) (Drawn w) (fun _ _ v => v = .bool true) ⟨1, rfl⟩ ?_
    repeat (refine wpRel_draw rfl rfl (fun nq K hK => ?_); go_wp2)
    refine wpRel_callF #[.int .i64 x, .int .i64 y] Tryz.func87 (by kernel_rfl) (by kernel_rfl) (by simp [go_sem]) ⟨w, 0, rfl⟩ ⟨_, rfl⟩ HC.out ?_
    rintro v rfl
    simp only [Act.put, List.setIfInBounds_toArray, List.set_cons_succ, List.set_cons_zero]
    repeat (first | (refine wpRel_draw rfl rfl (fun nq K hK => ?_); go_wp2) | (refine wpRel_skip rfl ?_; simp only [Act.put, List.setIfInBounds_toArray, List.set_cons_succ, List.set_cons_zero]))
    refine wpRel_nil ?_
    rintro wd ⟨nd, hwd⟩
    have Hwd := Lib.hid hwd
    clear hwd
    go_wp2
    go_ret
    exact ⟨rfl, nd, Hwd.out⟩

set_option maxRecDepth 100000 in
set_option maxHeartbeats 1600000 in
theorem validSection_any (w : World) (u : Value) (S : SM) (h : RdS w u S) :
    Calls Tryz.prog 36 #[u] w fun e w' => e = .returned (.bool (validS S)) ∧ Below w.heap.size w w' := by
  obtain ⟨v, rfl, h⟩ := h
  obtain ⟨a, c, rfl, -⟩ := h.opened
  obtain ⟨x, y, V⟩ := S
  unfold validS
  simp only at *
  have hb0 : Below w.heap.size w (w.alloc (.cells #[.int .i64 x, .int .i64 y, .slice a V.length c] 31)) := by (repeat (first | exact Below.refl _ _ | (refine Below.drewN ?_ _) | (refine Below.alloc ?_ (by first | exact Nat.le_refl _ | (simp; done) | (simp; omega)) _)))
  obtain ⟨c0, c1, c2, -, -, -⟩ := blk3 (alloc_new w (.cells #[.int .i64 x, .int .i64 y, .slice a V.length c] 31))
  go_enter Tryz.func36, Tryz.ntmps36
  go_upto_region 1 with fail
  generalize w.alloc (.cells #[.int .i64 x, .int .i64 y, .slice a V.length c] 31) = w0 at *
  have hc : ∀ B : Bool, sizeB x y = B → ∀ wd, Drawn w0 wd → Calls Tryz.prog 67 #[.int .i64 x, .int .i64 y] wd fun e w'' => ∃ u, e = .returned u ∧ u = (if 67 = 67 then .bool B else .int .i64 V.length) ∧ Drawn w0 w'' := by
    rintro B hB wd ⟨nd, rfl⟩
    refine (isSize_any (w0.drewN nd) x y).mono ?_
    rintro e w'' ⟨rfl, rfl⟩
    exact ⟨_, rfl, by rw [hB]; rfl, nd, rfl⟩
  have hc2 : ∀ B : Bool, ∀ wd, Drawn w0 wd → Calls Tryz.prog 68 #[.slice a V.length c] wd fun e w'' => ∃ u, e = .returned u ∧ u = (if 68 = 67 then .bool B else .int .i64 V.length) ∧ Drawn w0 w'' := by
    rintro B wd ⟨nd, rfl⟩
    refine (lengthF_any (w0.drewN nd) a V.length c).mono ?_
    rintro e w'' ⟨rfl, rfl⟩
    exact ⟨_, rfl, rfl, nd, rfl⟩
  cases hp : sizeB x y with
  | false =>
    have HC := Lib.hid (hc false hp)
    have Hp := Lib.hid hp
    clear hc hc2 hp
    refine region_rel_all (by kernel_rfl) (by kernel_rfl) (Drawn w0) (fun f _ v => v = (if f = 67 then .bool false else .int .i64 V.length)) ⟨1, rfl⟩ ?_
    repeat (refine wpRel_draw rfl rfl (fun nq K hK => ?_); go_wp2)
    refine wpRel_callF #[.int .i64 x, .int .i64 y] Tryz.func67 (by kernel_rfl) (by kernel_rfl) (by simp [go_sem]) ⟨w0, 0, rfl⟩ ⟨_, rfl⟩ HC.out ?_
    rintro v rfl
    simp only [Act.put, List.setIfInBounds_toArray, List.set_cons_succ, List.set_cons_zero, if_true]
    repeat (first | (refine wpRel_draw rfl rfl (fun nq K hK => ?_); go_wp2) | (refine wpRel_skip rfl ?_; simp only [Act.put, List.setIfInBounds_toArray, List.set_cons_succ, List.set_cons_zero]))
    refine wpRel_nil ?_
    rintro wd ⟨nd, hwd⟩
    have Hwd := Lib.hid hwd
    clear hwd
    go_wp2
    go_ret
    exact ⟨by rw [Hp.out]; rfl, by rw [Hwd.out]; exact Below.drewN hb0 nd⟩
  | true =>
    have HC := Lib.hid (hc true hp)
    have HC2 := Lib.hid (hc2 true)
    obtain ⟨q1, q2⟩ := mul_bound hp
    have hw : IntKind.i64.wrap (x * y) = x * y := IntWalk.i64_in _ (by omega)
    have Hp := Lib.hid hp
    clear hc hc2 hp
    refine region_rel_all (by kernel_rfl) (by kernel_rfl) (Drawn w0) (fun f _ v => v = (if f = 67 then .bool true else .int .i64 V.length)) ⟨1, rfl⟩ ?_
    repeat (refine wpRel_draw rfl rfl (fun nq K hK => ?_); go_wp2)
    refine wpRel_callF #[.int .i64 x, .int .i64 y] Tryz.func67 (by kernel_rfl) (by kernel_rfl) (by simp [go_sem]) ⟨w0, 0, rfl⟩ ⟨_, rfl⟩ HC.out ?_
    rintro v rfl
    simp only [Act.put, List.setIfInBounds_toArray, List.set_cons_succ, List.set_cons_zero, if_true]
    repeat (first | (refine wpRel_draw rfl rfl (fun nq K hK => ?_); go_wp2) | (refine wpRel_skip rfl ?_; simp only [Act.put, List.setIfInBounds_toArray, List.set_cons_succ, List.set_cons_zero]))
    refine wpRel_callG #[.slice a V.length c] rfl Tryz.func68 (by kernel_rfl) (by kernel_rfl) (by simp [go_sem]) ⟨w0, 0, rfl⟩ ⟨_, rfl⟩ HC2.out ?_
    rintro v rfl
    simp only [Act.put, List.setIfInBounds_toArray, List.set_cons_succ, List.set_cons_zero, if_neg (show ¬ 68 = 67 by decide)]
    repeat (first | (refine wpRel_draw rfl rfl (fun nq K hK => ?_); go_wp2) | (refine wpRel_skip rfl ?_; simp only [Act.put, List.setIfInBounds_toArray, List.set_cons_succ, List.set_cons_zero]))
    refine wpRel_nil ?_
    rintro wd ⟨nd, hwd⟩
    have Hwd := Lib.hid hwd
    clear hwd
    go_wp2
    go_ret
    exact ⟨by rw [Hp.out]; rfl, by rw [Hwd.out]; exact Below.drewN hb0 nd⟩
end Go.Proofs.YtjbaebgdebcipaaGreatDoor
