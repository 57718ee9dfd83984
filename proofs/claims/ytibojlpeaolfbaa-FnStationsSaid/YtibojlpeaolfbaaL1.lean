/- Walks: what the laws do with lists of floats: they copy, compare, mark and look at them. -/
import Derived.Test.YtibojlpeaolfbaaOwn
import Derived.Test.YtibojlpeaolfbaaRelOp
import Derived.Test.YtibojlpeaolfbaaCv
import Derived.Test.YtibojlpeaolfbaaPl
namespace Go.Proofs.Ytibojlpeaolfbaa
open Go Go.RowKit

theorem isF32 : (Try.prog.underlying 53).isSome = true := by kernel_rfl
theorem isF64 : Try.prog.underlying 51 = some (.float .f64) := by kernel_rfl

set_option maxRecDepth 100000 in
set_option maxHeartbeats 800000 in
theorem sameFloat_any (w : World) (a b z : Nat) (ha : FV .f64 a z) (hb : FV .f64 b z) :
    Calls Try.prog 134 #[.float .f64 a, .float .f64 b] w fun e w' => e = .returned (.bool true) ∧ ∃ n, w' = w.drewN n := by
  have hquo := run_fquo (P := Try.prog)
  cases hn : isN .f64 z with
  | true =>
    have h1 : (FloatKind.f64.format.order a a != some Ordering.eq) = true := by rw [ha.order ha, order_self_nan hn]; rfl
    have h2 : (FloatKind.f64.format.order b b != some Ordering.eq) = true := by rw [hb.order hb, order_self_nan hn]; rfl
    clear ha hb
    go_enter Try.func134, Try.ntmps134
    go_wp2
    go_ret
    exact ⟨rfl, 0, rfl⟩
  | false =>
    obtain rfl := ha.eq_of_not hn
    obtain rfl := hb.eq_of_not hn
    have h1 : (FloatKind.f64.format.order b b != some Ordering.eq) = false := by rw [order_self hn]; rfl
    have h2 : (FloatKind.f64.format.order b b == some Ordering.eq) = true := by rw [order_self hn]; rfl
    cases h0 : (FloatKind.f64.format.order b 0 == some Ordering.eq) with
    | false =>
      go_enter Try.func134, Try.ntmps134
      go_wp2
      go_ret
      exact ⟨rfl, 0, rfl⟩
    | true =>
      have h3 : ∀ w1 : World, (FloatKind.f64.format.order (fres .quo .f64 4607182418800017408 b w1) 0 == some Ordering.gt) = (FloatKind.f64.format.order (fop .quo .f64 4607182418800017408 b) 0 == some Ordering.gt) := fun w1 => by
        rw [(FV.op (op := .quo) (FV.self (k := .f64) (x := 4607182418800017408) (by decide) (by decide +kernel)) ha w1).order (fv0 _)]
      have H3 := Lib.hid h3
      clear h3
      go_enter Try.func134, Try.ntmps134
      go_wp2
      go_ret
      refine ⟨?_, _, rfl⟩
      rw [H3.out, H3.out, beq_self_eq_true]
      rfl

set_option maxRecDepth 100000 in
set_option maxHeartbeats 800000 in
theorem eqFloat32S_any (w : World) (v1 v2 : Value) (L : List Nat) (h1 : RdF w v1 L) (h2 : RdF w v2 L) (hmax : L.length ≤ 1048576) :
    Calls Try.prog 107 #[v1, v2] w fun e w' => e = .returned (.bool true) ∧ ∃ n, w' = w.drewN n := by
  have hcv := run_widen (P := Try.prog) 53 51 isF32 isF64
  obtain ⟨a1, c1, rfl, hc1, hz1, hcell1⟩ := h1.opened
  obtain ⟨a2, c2, rfl, hc2, hz2, hcell2⟩ := h2.opened
  clear hz1 hz2
  go_enter Try.func107, Try.ntmps107
  go_wp2
  go_loopw [5] (fun i wr => ∃ k n : Nat, k ≤ L.length ∧ i = .int .i64 k ∧ wr = w.drewN n) (fun i _ => L.length - (intOf i).toNat)
  case atStart => exact ⟨0, 0, Nat.zero_le _, rfl, rfl⟩
  case round =>
    obtain ⟨k, n, hk, rfl, hwr⟩ := hrel
    by_cases hlt : k < L.length
    · obtain ⟨b1, o1, r1, rfl, d1, f1⟩ := hcell1 k hlt
      obtain ⟨b2, o2, r2, rfl, d2, f2⟩ := hcell2 k hlt
      have d1' : wr.cell? ⟨b1, o1 + k, none⟩ = some (.float .f32 r1) := by rw [hwr]; exact d1
      have d2' : wr.cell? ⟨b2, o2 + k, none⟩ = some (.float .f32 r2) := by rw [hwr]; exact d2
      have hwr' := Lib.hid hwr
      clear hwr hcell1 hcell2 d1 d2
      go_wp2
      refine region_rel_all (by kernel_rfl) (by kernel_rfl) (Drawn wr) (fun _ _ v => v = .bool true) ⟨1, rfl⟩ ?_
      repeat (refine wpRel_draw rfl rfl (fun nq K hK => ?_); go_wp2)
      refine wpRel_callF #[.float .f64 (cres r1 (wr.drewN _)), .float .f64 (cres r2 (wr.drewN _))] Try.func134 (by kernel_rfl) (by kernel_rfl) (by simp [go_sem]; exact ⟨rfl, rfl⟩) ⟨wr, 0, rfl⟩ ⟨_, rfl⟩ ?_ ?_
      · rintro wd ⟨nd, rfl⟩
        refine (sameFloat_any (wr.drewN nd) _ _ _ (f1.wide _) (f2.wide _)).mono ?_
        rintro e5 w5 ⟨rfl, n5, rfl⟩
        exact ⟨_, rfl, rfl, ⟨nd + n5, World.drewN_drewN _ _ _⟩⟩
      · rintro v rfl
        simp only [Act.put, List.setIfInBounds_toArray, List.set_cons_succ, List.set_cons_zero]
        repeat (refine wpRel_draw rfl rfl (fun nq K hK => ?_); go_wp2)
        refine wpRel_nil ?_
        rintro w4 ⟨n4, hw4⟩
        have hw4' := Lib.hid hw4
        clear hw4
        go_wp2
        exact ⟨⟨k + 1, n + n4, by omega, by go_num, by rw [hw4'.out, hwr'.out, World.drewN_drewN]⟩, by simp [intOf]; omega⟩
    · go_wp2
      go_ret
      exact ⟨rfl, n, by first | exact hwr | rfl⟩

end Go.Proofs.Ytibojlpeaolfbaa
