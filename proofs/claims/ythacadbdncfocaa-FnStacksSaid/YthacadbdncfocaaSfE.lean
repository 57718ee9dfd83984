/- Walks: equal lists; shifts within bounds. -/
import Derived.Test.YthacadbdncfocaaGatB
import Derived.Test.YthacadbdncfocaaSfS
namespace Go.Proofs.Ythacadbdncfocaa
open Go Go.RowKit

set_option maxRecDepth 100000 in
set_option maxHeartbeats 800000 in
theorem r8Equal_any (w : World) (v1 v2 : Value) (L : List Nat) (h1 : RdF w v1 L) (h2 : RdF w v2 L) (hmax : L.length ≤ 1048576) (hn : ∀ j, j < L.length → isN .f32 (L.getD j 0) = false) :
    Calls Try.prog 27 #[v1, v2] w fun e w' => e = .returned (.bool true) ∧ ∃ n, w' = w.drewN n := by
  obtain ⟨a1, c1, rfl, hc1, -, hcell1⟩ := h1.opened
  obtain ⟨a2, c2, rfl, hc2, -, hcell2⟩ := h2.opened
  clear h1 h2
  go_enter Try.func27, Try.ntmps27
  go_wp2
  go_loopw [5] (fun i wr => ∃ k q : Nat, k ≤ L.length ∧ i = .int .i64 k ∧ wr = w.drewN q) (fun i _ => L.length - (intOf i).toNat)
  case atStart => exact ⟨0, 0, Nat.zero_le _, rfl, rfl⟩
  case round =>
    obtain ⟨wi, rfl⟩ : ∃ wi : World, wi = wr := ⟨_, rfl⟩
    obtain ⟨k, q, hk, rfl, hq⟩ := hrel
    by_cases hlt : k < L.length
    · obtain ⟨b, o, r, rfl, d0, f0⟩ := hcell1 k hlt
      obtain ⟨b', o', r', rfl, g0, f1⟩ := hcell2 k hlt
      obtain rfl := f0.eq_of_not (hn k hlt)
      obtain rfl := f1.eq_of_not (hn k hlt)
      have ht : (FloatKind.f32.format.order (L.getD k 0) (L.getD k 0) != some Ordering.eq) = false := by rw [order_self (hn k hlt)]; rfl
      have D0 : wi.cell? ⟨b, o + k, none⟩ = some (.float .f32 (L.getD k 0)) := by rw [hq]; exact d0
      have G0 : wi.cell? ⟨b', o' + k, none⟩ = some (.float .f32 (L.getD k 0)) := by rw [hq]; exact g0
      have Hq := Lib.hid hq
      clear hcell1 hcell2 d0 g0 hq f0 f1 hn
      generalize L.getD k 0 = x at *
      go_wp2
      refine region_rel_all (by kernel_rfl) (by kernel_rfl) (Drawn wi) (fun _ _ _ => False) ⟨1, rfl⟩ ?_
      repeat (refine wpRel_draw rfl rfl (fun nq K hK => ?_); go_wp2)
      refine wpRel_nil ?_
      rintro wd ⟨nd, hwd⟩
      have Hwd := Lib.hid hwd
      clear hwd
      go_wp2
      exact ⟨⟨k + 1, q + nd, by omega, by go_num, by rw [Hwd.out, Hq.out, World.drewN_drewN]⟩, by simp [intOf]; omega⟩
    · have Hq := Lib.hid hq
      clear hq hn
      go_wp2
      go_ret
      exact ⟨rfl, q, Hq.out⟩
def inL (L : List Int) (j : Nat) : Int := L.getD j 0
theorem RdI.opened {w : World} {v : Value} {L : List Int} (h : RdI w v L) :
    ∃ a c, v = .slice a L.length c ∧ L.length ≤ c ∧ (a = none → c = 0) ∧ ∀ j, j < L.length → ∃ b o, a = some ⟨b, o, none⟩ ∧ b < w.heap.size ∧ w.cell? ⟨b, o + j, none⟩ = some (.int .i64 (inL L j)) := by
  obtain ⟨a, c, hv, hc, hz, hr⟩ := h
  refine ⟨a, c, hv, hc, hz, fun j hj => ?_⟩
  obtain ⟨b, o, u, ha, hu, rfl⟩ := hr j hj
  exact ⟨b, o, ha, block_lt hu, hu⟩
end Go.Proofs.Ythacadbdncfocaa
