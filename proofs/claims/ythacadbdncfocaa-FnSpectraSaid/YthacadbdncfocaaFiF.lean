/- Walks: gaps, lists that are alike, the greatest size of a list: of numbers. -/
import Derived.Test.YthacadbdncfocaaFiE
import Derived.Test.YthacadbdncfocaaMx
namespace Go.Proofs.Ythacadbdncfocaa
open Go Go.RowKit

/-- The absolute difference, in 64 bits. -/
def gpF (a b : Nat) : Nat := if ltB a b then fop .sub .f64 b a else fop .sub .f64 a b
set_option maxRecDepth 100000 in
set_option maxHeartbeats 400000 in
theorem b10Gap_fine (w : World) (a b : Nat) (h : isN .f64 (gpF a b) = false) :
    Calls Try.prog 16 #[.float .f64 a, .float .f64 b] w fun e w' => e = .returned (.float .f64 (gpF a b)) ∧ w' = w := by
  have hlt : (FloatKind.f64.format.order a b == some Ordering.lt) = ltB a b := rfl
  cases hl : ltB a b with
  | true =>
    have e : gpF a b = fop .sub .f64 b a := by unfold gpF; rw [hl]; rfl
    rw [e] at h ⊢
    have h1 := fun wq t => run_fineK (P := Try.prog) .f64 .sub (by simp) wq t _ _ h
    rw [hl] at hlt
    clear h hl e
    generalize fop .sub .f64 b a = d at *
    go_enter Try.func16, Try.ntmps16
    go_wp2
    go_ret
    exact ⟨rfl, rfl⟩
  | false =>
    have e : gpF a b = fop .sub .f64 a b := by unfold gpF; rw [hl]; rfl
    rw [e] at h ⊢
    have h1 := fun wq t => run_fineK (P := Try.prog) .f64 .sub (by simp) wq t _ _ h
    rw [hl] at hlt
    clear h hl e
    generalize fop .sub .f64 a b = d at *
    go_enter Try.func16, Try.ntmps16
    go_wp2
    go_ret
    exact ⟨rfl, rfl⟩
/-- Nearly the same. -/
structure NearB (x y by_ : Nat) : Prop where
  nx : isN .f32 x = false
  ny : isN .f32 y = false
  ng : isN .f64 (gpF (cwide x) (cwide y)) = false
  le : leB (gpF (cwide x) (cwide y)) by_ = true
set_option maxRecDepth 100000 in
set_option maxHeartbeats 1600000 in
theorem b10Alike_true (w : World) (v1 v2 : Value) (A B : List Nat) (d : Nat) (h1 : RdF w v1 A) (h2 : RdF w v2 B) (hl : A.length = B.length) (hm : A.length ≤ 1000) (hk : ∀ j, j < A.length → NearB (A.getD j 0) (B.getD j 0) d) :
    Calls Try.prog 34 #[v1, v2, .float .f64 d] w fun e w' => e = .returned (.bool true) ∧ ∃ n, w' = w.drewN n := by
  obtain ⟨a1, c1, rfl, -, -, hcell1⟩ := h1.opened
  obtain ⟨a2, c2, rfl, -, -, hcell2⟩ := h2.opened
  have HK := Lib.hid hk
  obtain ⟨n, hn⟩ : ∃ n, B.length = n := ⟨_, rfl⟩
  rw [hl] at hm HK hcell1 ⊢
  rw [hn] at hm hcell1 hcell2 HK ⊢
  have hne : ((n : Int) != (n : Int)) = false := by simp
  clear h1 h2 hk hl hn
  go_enter Try.func34, Try.ntmps34
  go_wp2_with fail
  go_loopw [7, 15] (fun _ i wr => ∃ j q : Nat, j ≤ n ∧ i = .int .i64 (j : Nat) ∧ wr = w.drewN q) (fun _ i _ => n - (intOf i).toNat)
  case atStart => exact ⟨0, 0, Nat.zero_le _, rfl, rfl⟩
  case round =>
    obtain ⟨wi, rfl⟩ : ∃ wi : World, wi = wr := ⟨_, rfl⟩
    obtain ⟨k, q, hk, rfl, hq⟩ := hrel
    by_cases hlt : k < n
    · obtain ⟨b, o, r, rfl, d0, f0⟩ := hcell1 k hlt
      obtain ⟨b', o', s, rfl, g0, e0⟩ := hcell2 k hlt
      obtain ⟨m1, m2, m3, m4⟩ := HK.out k hlt
      obtain rfl := f0.eq_of_not m1
      obtain rfl := e0.eq_of_not m2
      have hw1 := fun wq => run_wideF (P := Try.prog) 27 40 (by kernel_rfl) (by kernel_rfl) wq _ m1
      have hw2 := fun wq => run_wideF (P := Try.prog) 27 40 (by kernel_rfl) (by kernel_rfl) wq _ m2
      have HG := Lib.hid (fun wq => b10Gap_fine wq _ _ m3)
      have hle : ∀ g, gpF (cwide (A.getD k 0)) (cwide (B.getD k 0)) = g → (FloatKind.f64.format.order g d == some Ordering.lt || FloatKind.f64.format.order g d == some Ordering.eq) = true := fun g hg => by rw [← hg]; exact m4
      obtain ⟨g, hg⟩ : ∃ g, gpF (cwide (A.getD k 0)) (cwide (B.getD k 0)) = g := ⟨_, rfl⟩
      replace hle := hle g hg
      rw [hg] at HG
      have D0 : wi.cell? ⟨b, o + k, none⟩ = some (.float .f32 (A.getD k 0)) := by rw [hq]; exact d0
      have G0 : wi.cell? ⟨b', o' + k, none⟩ = some (.float .f32 (B.getD k 0)) := by rw [hq]; exact g0
      have Hq := Lib.hid hq
      clear hcell1 hcell2 d0 g0 hq f0 e0 m1 m2 m3 m4 hg
      generalize cwide (A.getD k 0) = x2 at *
      generalize cwide (B.getD k 0) = y2 at *
      generalize A.getD k 0 = x at *
      generalize B.getD k 0 = y at *
      go_wp2
      refine region_rel_all (by kernel_rfl) (by kernel_rfl) (Drawn wi) (fun _ _ v => v = .float .f64 g) ⟨1, rfl⟩ ?_
      repeat (refine wpRel_draw rfl rfl (fun nq K hK => ?_); go_wp2)
      refine wpRel_callF #[.float .f64 x2, .float .f64 y2] Try.func16 (by kernel_rfl) (by kernel_rfl) (by simp [go_sem]) ⟨wi, 0, rfl⟩ ⟨_, rfl⟩ ?_ ?_
      · rintro wd ⟨nd, rfl⟩
        refine (HG.out _).mono ?_
        rintro e w'' ⟨rfl, rfl⟩
        exact ⟨_, rfl, rfl, nd, rfl⟩
      · rintro v rfl
        simp only [Act.put, List.setIfInBounds_toArray, List.set_cons_succ, List.set_cons_zero]
        repeat (refine wpRel_draw rfl rfl (fun nq K hK => ?_); go_wp2)
        refine wpRel_nil ?_
        rintro wd ⟨nd, hwd⟩
        have Hwd := Lib.hid hwd
        clear hwd
        go_wp2
        exact ⟨⟨k + 1, q + nd, by omega, by go_num, by rw [Hwd.out, Hq.out, World.drewN_drewN]⟩, by simp [intOf]; omega⟩
    · obtain rfl : k = n := by omega
      have Hq := Lib.hid hq
      clear hcell1 hcell2 hq
      go_wp2
      go_ret
      exact ⟨rfl, q, Hq.out⟩
/-- The greatest size. -/
def moF (A : List Nat) : Nat → Nat
  | 0 => 0
  | k + 1 => mx2 .f64 (mx2 .f64 (moF A k) (cwide (A.getD k 0))) (ngF .f64 (cwide (A.getD k 0)))
structure MoOk (A : List Nat) (k : Nat) : Prop where
  nx : isN .f32 (A.getD k 0) = false
  o1 : (FloatKind.f64.format.order (moF A k) (cwide (A.getD k 0))).isSome = true
  o2 : (FloatKind.f64.format.order (mx2 .f64 (moF A k) (cwide (A.getD k 0))) (ngF .f64 (cwide (A.getD k 0)))).isSome = true
set_option maxRecDepth 100000 in
set_option maxHeartbeats 1600000 in
theorem b10Most_fine (w : World) (v1 : Value) (A : List Nat) (h1 : RdF w v1 A) (hm : A.length ≤ 1000) (hk : ∀ j, j < A.length → MoOk A j) :
    Calls Try.prog 35 #[v1] w fun e w' => e = .returned (.float .f64 (moF A A.length)) ∧ ∃ n, w' = w.drewN n := by
  obtain ⟨a1, c1, rfl, -, -, hcell1⟩ := h1.opened
  have HK := Lib.hid hk
  clear h1 hk
  go_enter Try.func35, Try.ntmps35
  go_wp2_with fail
  go_loopw [3, 4, 7] (fun u _ i wr => ∃ j q : Nat, j ≤ A.length ∧ i = .int .i64 (j : Nat) ∧ u = .float .f64 (moF A j) ∧ wr = w.drewN q) (fun _ _ i _ => A.length - (intOf i).toNat)
  case atStart => exact ⟨0, 0, Nat.zero_le _, rfl, rfl, rfl⟩
  case round =>
    obtain ⟨wi, rfl⟩ : ∃ wi : World, wi = wr := ⟨_, rfl⟩
    obtain ⟨k, q, hk, rfl, rfl, hq⟩ := hrel
    by_cases hlt : k < A.length
    · obtain ⟨b, o, r, rfl, d0, f0⟩ := hcell1 k hlt
      obtain ⟨m1, m2, m3⟩ := HK.out k hlt
      obtain rfl := f0.eq_of_not m1
      have hw1 := fun wq => run_wideF (P := Try.prog) 27 40 (by kernel_rfl) (by kernel_rfl) wq _ m1
      have hng : ∀ wq : World, (Op.unary .neg (.float .f64 (cwide (A.getD k 0)))).run Try.prog wq = .ok (.float .f64 (ngF .f64 (cwide (A.getD k 0)))) wq := fun wq => run_ngF .f64 wq _
      have hmx := fun wq ats ty => run_max3 (P := Try.prog) .f64 ats ty _ _ _ wq m2 m3
      have HMo : Hid (mx2 .f64 (mx2 .f64 (moF A k) (cwide (A.getD k 0))) (ngF .f64 (cwide (A.getD k 0))) = moF A (k + 1)) := Lib.hid rfl
      have D0 : wi.cell? ⟨b, o + k, none⟩ = some (.float .f32 (A.getD k 0)) := by rw [hq]; exact d0
      have Hq := Lib.hid hq
      rw [HMo.out] at hmx
      clear hcell1 d0 hq f0 m1 m2 m3
      obtain ⟨mn, hmn⟩ : ∃ m, moF A (k + 1) = m := ⟨_, rfl⟩
      rw [hmn] at hmx
      have HMN := Lib.hid hmn
      clear hmn HMo
      generalize ngF .f64 (cwide (A.getD k 0)) = x3 at *
      generalize cwide (A.getD k 0) = x2 at *
      generalize A.getD k 0 = x at *
      generalize moF A k = m0 at *
      go_wp2_with fail
      refine region_rel_all (by kernel_rfl) (by kernel_rfl) (Drawn wi) (fun _ _ v => False) ⟨1, rfl⟩ ?_
      repeat (refine wpRel_draw rfl rfl (fun nq K hK => ?_); go_wp2)
      refine wpRel_nil ?_
      rintro wd ⟨nd, hwd⟩
      have Hwd := Lib.hid hwd
      clear hwd
      go_wp2
      exact ⟨⟨k + 1, q + nd, by omega, by go_num, by rw [HMN.out], by rw [Hwd.out, Hq.out, World.drewN_drewN]⟩, by simp [intOf]; omega⟩
    · obtain rfl : k = A.length := by omega
      have Hq := Lib.hid hq
      clear hcell1 hq
      go_wp2
      go_ret
      exact ⟨rfl, q, Hq.out⟩
end Go.Proofs.Ythacadbdncfocaa
