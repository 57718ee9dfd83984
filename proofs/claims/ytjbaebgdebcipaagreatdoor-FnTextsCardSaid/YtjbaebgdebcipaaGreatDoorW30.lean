/- Walks: a gather is valid: the reference's. -/
import Derived.Test.YtjbaebgdebcipaaGreatDoorW29
namespace Go.Proofs.YtjbaebgdebcipaaGreatDoor
open Go Go.RowKit

set_option maxRecDepth 100000 in
set_option maxHeartbeats 800000 in
theorem l04Ticks_any (w : World) (t : Int) :
    Calls Tryz.prog 111 #[.int .i64 t] w fun e w' => e = .returned (.bool (decide (1 ≤ t) && decide (t ≤ 64))) ∧ w' = w := by
  by_cases t1 : 1 ≤ t
  · have h1 : t ≥ 1 := t1
    rw [decide_eq_true t1]
    go_enter Tryz.func111, Tryz.ntmps111
    go_wp2
    go_ret
    exact ⟨rfl, rfl⟩
  · rw [decide_eq_false t1]
    go_enter Tryz.func111, Tryz.ntmps111
    go_wp2
    go_ret
    exact ⟨rfl, rfl⟩

set_option maxRecDepth 100000 in
set_option maxHeartbeats 2000000 in
theorem l04Is_any (w : World) (g o : Nat) (t : Int) (vp vt : Value) (P : List Nat) (Ls : List (List Nat)) (c0 : w.cell? ⟨g, o, none⟩ = some (.int .i64 t)) (c1 : w.cell? ⟨g, o + 1, none⟩ = some vp) (c2 : w.cell? ⟨g, o + 2, none⟩ = some vt)
    (h1 : RdF w vp P) (h2 : RdSS w vt Ls) (m1 : P.length ≤ 1048576) (m2 : Ls.length ≤ 1048576) :
    Calls Tryz.prog 88 #[.pointer (some ⟨g, o, none⟩)] w fun e w' => e = .returned (.bool (validT ⟨t, P, Ls⟩)) ∧ ∃ m, w' = w.drewN m := by
  have hv : validT ⟨t, P, Ls⟩ = ((decide (1 ≤ t) && decide (t ≤ 64)) && (placesB P && (decide (Ls.length = P.length) && rowsTo Ls t Ls.length))) := by simp [validT, Bool.and_assoc]
  rw [hv]
  clear hv
  obtain ⟨a, c, rfl, -⟩ := h1.opened
  obtain ⟨a', c', rfl, -, -, hcell⟩ := h2.opened
  cases hT : (decide (1 ≤ t) && decide (t ≤ 64)) with
  | false =>
    have HT := Lib.hid hT
    clear hT
    go_enter Tryz.func88, Tryz.ntmps88
    go_wp2_with fail
    refine region_rel_all (by kernel_rfl) (by kernel_rfl) (Drawn w) (fun _ _ v => v = .bool false) ⟨1, rfl⟩ ?_
    repeat (refine wpRel_draw rfl rfl (fun nq K hK => ?_); go_wp2)
    refine wpRel_callF #[.int .i64 t] Tryz.func111 (by kernel_rfl) (by kernel_rfl) (by simp [go_sem]) ⟨w, 0, rfl⟩ ⟨_, rfl⟩ ?_ ?_
    · rintro wd ⟨nd, rfl⟩
      refine (l04Ticks_any (w.drewN nd) t).mono ?_
      rintro e w'' ⟨rfl, rfl⟩
      exact ⟨_, rfl, by rw [HT.out], nd, rfl⟩
    rintro v rfl
    simp only [Act.put, List.setIfInBounds_toArray, List.set_cons_succ, List.set_cons_zero]
    repeat (first | (refine wpRel_draw rfl rfl (fun nq K hK => ?_); go_wp2) | (refine wpRel_skip rfl ?_; simp only [Act.put, List.setIfInBounds_toArray, List.set_cons_succ, List.set_cons_zero]))
    refine wpRel_nil ?_
    rintro wd ⟨nd, hwd⟩
    have Hwd := Lib.hid hwd
    clear hwd
    go_wp2
    go_ret
    exact ⟨rfl, nd, Hwd.out⟩
  | true =>
    have HT := Lib.hid hT
    clear hT
    have hc1 : ∀ B : Bool, ∀ wd, Drawn w wd → Calls Tryz.prog 111 #[.int .i64 t] wd fun e w'' => ∃ u, e = .returned u ∧ (u = .bool (if 111 = 111 then true else B)) ∧ Drawn w w'' := by
      rintro B wd ⟨nd, rfl⟩
      refine (l04Ticks_any (w.drewN nd) t).mono ?_
      rintro e w'' ⟨rfl, rfl⟩
      exact ⟨_, rfl, by rw [HT.out]; rfl, nd, rfl⟩
    have hc2 : ∀ wd, Drawn w wd → Calls Tryz.prog 112 #[.slice a P.length c] wd fun e w'' => ∃ u, e = .returned u ∧ (u = .bool (if 112 = 111 then true else placesB P)) ∧ Drawn w w'' := by
      rintro wd ⟨nd, rfl⟩
      refine (l04Places_any (w.drewN nd) _ P (RdF.drewN h1 nd) m1).mono ?_
      rintro e w'' ⟨rfl, m, rfl⟩
      exact ⟨_, rfl, rfl, nd + m, World.drewN_drewN _ _ _⟩
    cases hP : placesB P with
    | false =>
      rw [hP] at hc2
      have HC2 := Lib.hid hc2
      have HC1 := Lib.hid hc1
      clear hP hc1 hc2
      go_enter Tryz.func88, Tryz.ntmps88
      go_wp2_with fail
      refine region_rel_all (by kernel_rfl) (by kernel_rfl) (Drawn w) (fun f _ v => v = .bool (if f = 111 then true else false)) ⟨1, rfl⟩ ?_
      repeat (refine wpRel_draw rfl rfl (fun nq K hK => ?_); go_wp2)
      refine wpRel_callF #[.int .i64 t] Tryz.func111 (by kernel_rfl) (by kernel_rfl) (by simp [go_sem]) ⟨w, 0, rfl⟩ ⟨_, rfl⟩ (HC1.out false) ?_
      rintro v rfl
      simp only [Act.put, List.setIfInBounds_toArray, List.set_cons_succ, List.set_cons_zero, if_true]
      repeat (first | (refine wpRel_draw rfl rfl (fun nq K hK => ?_); go_wp2) | (refine wpRel_skip rfl ?_; simp only [Act.put, List.setIfInBounds_toArray, List.set_cons_succ, List.set_cons_zero]))
      refine wpRel_callG #[.slice a P.length c] rfl Tryz.func112 (by kernel_rfl) (by kernel_rfl) (by simp [go_sem]) ⟨w, 0, rfl⟩ ⟨_, rfl⟩ HC2.out ?_
      rintro v rfl
      simp only [Act.put, List.setIfInBounds_toArray, List.set_cons_succ, List.set_cons_zero, if_neg (show ¬ 112 = 111 by decide)]
      repeat (first | (refine wpRel_draw rfl rfl (fun nq K hK => ?_); go_wp2) | (refine wpRel_skip rfl ?_; simp only [Act.put, List.setIfInBounds_toArray, List.set_cons_succ, List.set_cons_zero]))
      refine wpRel_nil ?_
      rintro wd ⟨nd, hwd⟩
      have Hwd := Lib.hid hwd
      clear hwd
      go_wp2
      go_ret
      exact ⟨rfl, nd, Hwd.out⟩
    | true =>
      rw [hP] at hc2
      have HC2 := Lib.hid hc2
      have HC1 := Lib.hid hc1
      clear hP hc1 hc2
      by_cases hl : Ls.length = P.length
      · have hne : ((Ls.length : Int) != (P.length : Int)) = false := by rw [hl]; simp
        have Hl := Lib.hid hl
        clear hl
        have C0 := Lib.hid c0
        have C2 := Lib.hid c2
        go_enter Tryz.func88, Tryz.ntmps88
        go_wp2_with fail
        refine region_rel_all (by kernel_rfl) (by kernel_rfl) (Drawn w) (fun f _ v => v = .bool (if f = 111 then true else true)) ⟨1, rfl⟩ ?_
        repeat (refine wpRel_draw rfl rfl (fun nq K hK => ?_); go_wp2)
        refine wpRel_callF #[.int .i64 t] Tryz.func111 (by kernel_rfl) (by kernel_rfl) (by simp [go_sem]) ⟨w, 0, rfl⟩ ⟨_, rfl⟩ (HC1.out true) ?_
        rintro v rfl
        simp only [Act.put, List.setIfInBounds_toArray, List.set_cons_succ, List.set_cons_zero, if_true]
        repeat (first | (refine wpRel_draw rfl rfl (fun nq K hK => ?_); go_wp2) | (refine wpRel_skip rfl ?_; simp only [Act.put, List.setIfInBounds_toArray, List.set_cons_succ, List.set_cons_zero]))
        refine wpRel_callG #[.slice a P.length c] rfl Tryz.func112 (by kernel_rfl) (by kernel_rfl) (by simp [go_sem]) ⟨w, 0, rfl⟩ ⟨_, rfl⟩ HC2.out ?_
        rintro v rfl
        simp only [Act.put, List.setIfInBounds_toArray, List.set_cons_succ, List.set_cons_zero, if_neg (show ¬ 112 = 111 by decide)]
        repeat (first | (refine wpRel_draw rfl rfl (fun nq K hK => ?_); go_wp2) | (refine wpRel_skip rfl ?_; simp only [Act.put, List.setIfInBounds_toArray, List.set_cons_succ, List.set_cons_zero]))
        refine wpRel_nil ?_
        rintro wd ⟨nd, hwd⟩
        have Hwd := Lib.hid hwd
        clear hwd c0 c1 c2 hne
        go_wp2
        go_loopw [3] (fun i wr => ∃ k q : Nat, k ≤ Ls.length ∧ i = .int .i64 k ∧ rowsTo Ls t k = true ∧ wr = w.drewN q) (fun i _ => Ls.length - (intOf i).toNat)
        case atStart => exact ⟨0, nd, Nat.zero_le _, rfl, rfl, Hwd.out⟩
        case round =>
          obtain ⟨wi, rfl⟩ : ∃ wi : World, wi = wr := ⟨_, rfl⟩
          obtain ⟨k, q, hk, rfl, hsk, hq⟩ := hrel
          have Hsk := Lib.hid hsk
          have c0 : wi.cell? ⟨g, o, none⟩ = some (.int .i64 t) := by rw [hq]; exact C0.out
          have c2 : wi.cell? ⟨g, o + 2, none⟩ = some (.slice a' Ls.length c') := by rw [hq]; exact C2.out
          by_cases hlt : k < Ls.length
          · obtain ⟨b, o', a'', c'', rfl, hlb, d0, -⟩ := hcell k hlt
            have d1 : wi.cell? ⟨b, o' + k, none⟩ = some (.slice a'' (rowAt Ls k).length c'') := by rw [hq]; exact d0
            have Hq := Lib.hid hq
            clear hcell hsk hq d0
            go_wp2
            refine region_rel_all (by kernel_rfl) (by kernel_rfl) (Drawn wi) (fun _ _ _ => False) ⟨1, rfl⟩ ?_
            repeat (refine wpRel_draw rfl rfl (fun nq K hK => ?_); go_wp2)
            refine wpRel_nil ?_
            rintro w1 ⟨n1, hw1⟩
            have Hw1 := Lib.hid hw1
            clear hw1 d1
            cases hx : (((rowAt Ls k).length : Int) == t) with
            | true =>
              have hx2 : (((rowAt Ls k).length : Int) != t) = false := by simp only [bne, hx]; rfl
              have Hx := Lib.hid hx
              clear hx
              go_wp2
              exact ⟨⟨k + 1, q + n1, by omega, by go_num, by rw [rowsTo_succ, Hsk.out, Hx.out]; rfl, by rw [Hw1.out, Hq.out, World.drewN_drewN]⟩, by simp [intOf]; omega⟩
            | false =>
              have hx2 : (((rowAt Ls k).length : Int) != t) = true := by simp only [bne, hx]; rfl
              have Hx := Lib.hid hx
              clear hx
              go_wp2
              go_ret
              exact ⟨by rw [rowsTo_false hlt Hx.out]; simp, q + n1, by rw [Hw1.out, Hq.out, World.drewN_drewN]⟩
          · have Hq := Lib.hid hq
            clear hsk hq
            go_wp2
            go_ret
            obtain rfl : k = Ls.length := by omega
            exact ⟨by rw [Hsk.out, decide_eq_true Hl.out]; rfl, q, Hq.out⟩
      · have hne : ((Ls.length : Int) != (P.length : Int)) = true := by simp; omega
        rw [decide_eq_false hl]
        go_enter Tryz.func88, Tryz.ntmps88
        go_wp2_with fail
        refine region_rel_all (by kernel_rfl) (by kernel_rfl) (Drawn w) (fun f _ v => v = .bool (if f = 111 then true else true)) ⟨1, rfl⟩ ?_
        repeat (refine wpRel_draw rfl rfl (fun nq K hK => ?_); go_wp2)
        refine wpRel_callF #[.int .i64 t] Tryz.func111 (by kernel_rfl) (by kernel_rfl) (by simp [go_sem]) ⟨w, 0, rfl⟩ ⟨_, rfl⟩ (HC1.out true) ?_
        rintro v rfl
        simp only [Act.put, List.setIfInBounds_toArray, List.set_cons_succ, List.set_cons_zero, if_true]
        repeat (first | (refine wpRel_draw rfl rfl (fun nq K hK => ?_); go_wp2) | (refine wpRel_skip rfl ?_; simp only [Act.put, List.setIfInBounds_toArray, List.set_cons_succ, List.set_cons_zero]))
        refine wpRel_callG #[.slice a P.length c] rfl Tryz.func112 (by kernel_rfl) (by kernel_rfl) (by simp [go_sem]) ⟨w, 0, rfl⟩ ⟨_, rfl⟩ HC2.out ?_
        rintro v rfl
        simp only [Act.put, List.setIfInBounds_toArray, List.set_cons_succ, List.set_cons_zero, if_neg (show ¬ 112 = 111 by decide)]
        repeat (first | (refine wpRel_draw rfl rfl (fun nq K hK => ?_); go_wp2) | (refine wpRel_skip rfl ?_; simp only [Act.put, List.setIfInBounds_toArray, List.set_cons_succ, List.set_cons_zero]))
        refine wpRel_nil ?_
        rintro wd ⟨nd, hwd⟩
        have Hwd := Lib.hid hwd
        clear hwd
        go_wp2
        go_ret
        exact ⟨rfl, nd, Hwd.out⟩
end Go.Proofs.YtjbaebgdebcipaaGreatDoor
