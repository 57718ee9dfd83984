/- Walks: a copy of a list; a step of the recursion. -/
import Derived.Test.YtiappmhlmephjaaOwn
import Derived.Test.YtiappmhlmephjaaRelOp
import Derived.Test.YtiappmhlmephjaaPl
namespace Go.Proofs.Ytiappmhlmephjaa
open Go Go.RowKit

set_option maxRecDepth 100000 in
set_option maxHeartbeats 400000 in
theorem clone_any (w : World) (v : Value) (L : List Nat) (hL : RdF w v L) (hmax : L.length ≤ 1048576) :
    Calls Try.prog 72 #[v] w fun e w' => ∃ v', e = .returned v' ∧ OwnF w' w.heap.size v' L ∧ Below w.heap.size w w' := by
  obtain ⟨a, c, rfl, hc, hz, hcell⟩ := hL.opened
  cases a with
  | none =>
    have h0 : L.length = 0 := by
      rcases Nat.eq_zero_or_pos L.length with h | h
      · exact h
      · obtain ⟨b, o, r, h1, _⟩ := hcell 0 h; cases h1
    obtain rfl : L = [] := List.eq_nil_of_length_eq_zero h0
    have hn := fun (w : World) (n c : Nat) => Lib.run_eql_slice_nil (P := Try.prog) w 22 23 none n c 0 0 Try.underlying22
    go_enter Try.func72, Try.ntmps72
    go_wp2
    go_ret
    exact ⟨_, rfl, OwnF.nil _ _, Below.refl _ _⟩
  | some ad =>
    have hn := fun (w : World) (n c : Nat) => Lib.run_eql_slice_nil (P := Try.prog) w 22 23 (some ad) n c 0 0 Try.underlying22
    go_enter Try.func72, Try.ntmps72
    have hown : OwnF (w.alloc (.cells #[] 23)) w.heap.size (.slice (some ⟨w.heap.size, 0, none⟩) 0 0) [] := ⟨[], rfl, fun j hj => (by cases hj), World.ownsRow_lit w #[] 0 (Nat.le_refl _) (by decide) rfl⟩
    have hM : RdF (w.alloc (.cells #[] 23)) (.slice (some ad) L.length c) L := hL.mono ((Below.refl _ _).alloc (Nat.le_refl _) _)
    go_wp2_with (at_builtin; refine wpList_pushAll rfl _ _ rfl w.heap.size _ [] rfl hown _ L rfl hM (by simp) hmax (by simp) ?_; intro v' w' h1 h2 h3 _)
    go_ret
    exact ⟨_, rfl, by simpa using h1, ((Below.refl _ _).alloc (Nat.le_refl _) _).trans h3⟩

/-- p behind a step with c. -/
def extM (p : List Nat) (c : Nat) : List Nat := tab (fun i => fop .sub .f32 ((p ++ [0]).getD i 0) (fop .mul .f32 c ((p ++ [0]).getD (p.length - i) 0))) (p.length + 1)
theorem extM_length (p : List Nat) (c : Nat) : (extM p c).length = p.length + 1 := tab_length _ _
theorem extM_at (p : List Nat) (c : Nat) (i : Nat) (h : i ≤ p.length) : (extM p c).getD i 0 = fop .sub .f32 ((p ++ [0]).getD i 0) (fop .mul .f32 c ((p ++ [0]).getD (p.length - i) 0)) := tab_getD _ _ _ (by omega)

set_option maxRecDepth 100000 in
set_option maxHeartbeats 800000 in
theorem extended_any (w : World) (v : Value) (L : List Nat) (c x : Nat) (hL : RdF w v L) (hc : FV .f32 c x) (hmax : L.length ≤ 1000) :
    Calls Try.prog 95 #[v, .float .f32 c] w fun e w' => ∃ v', e = .returned v' ∧ OwnF w' w.heap.size v' (extM L x) ∧ Below w.heap.size w w' := by
  have hsub := run_fsub (P := Try.prog)
  have hmul := run_fmul (P := Try.prog)
  have hst := run_store_float (P := Try.prog)
  have hL0 := hL
  obtain ⟨a0, c0, rfl, hc0, hz0, -⟩ := hL.opened
  clear hz0
  go_enter Try.func95, Try.ntmps95
  go_wp2_with (first | (go_at_call 72; refine (clone_any _ _ L hL0 (by omega)).mono ?_; rintro e w1 ⟨v1, rfl, h1, hb1⟩) | (at_builtin; go_must (refine wpList_push rfl _ _ rfl w.heap.size _ L rfl (h1.alloc _) _ _ _ 0 rfl (cell_new _ _ _) (fv0 _) (by omega) (by have := hb1.size; simp; omega) ?_); intro v2 w2 h2 hg2 hb2 _) | (refine wpList_mk rfl _ _ rfl w.heap.size _ _ _ _ (L.length + 1) rfl rfl (by omega) (by omega) (by omega) (by have := hb1.size; have := hb2.size; simp at *; omega) ?_; intro w3 h3 hb3 hlt3))
  have hs1 := hb1.size
  have hs2 := hb2.size
  simp only [World.size_alloc] at hs2
  have h23 := h2.kept hb3
  obtain ⟨g2, cap2, rfl, hg2a, hg2b, hcap2, hcell2, -⟩ := h2.at_block (n := L.length + 1) (by simp) (by omega)
  go_loopw [19] (fun i wr => ∃ k : Nat, k ≤ L.length + 1 ∧ i = .int .i64 k ∧ OwnF wr w.heap.size (.slice (some ⟨w2.heap.size, 0, none⟩) (L.length + 1) (L.length + 1)) (upTo (extM L x) k) ∧ Below w2.heap.size w2 wr) (fun i _ => L.length + 1 - (intOf i).toNat)
  case atStart => exact ⟨0, Nat.zero_le _, rfl, by rw [upTo_zero, extM_length]; exact h3, hb3⟩
  case round =>
    obtain ⟨k, hk, rfl, hq, hbr⟩ := hrel
    clear h1 h2 h23 h3 hL hL0 hg2
    by_cases hlt : k < L.length + 1
    · obtain ⟨g, capq, eq, _, _, _, hcellq, hfrq⟩ := hq.at_block (n := L.length + 1) (by rw [upTo_length, extM_length]) (by omega)
      simp only [Value.slice.injEq, Option.some.injEq, Addr.mk.injEq, and_true, true_and] at eq
      obtain ⟨rfl, rfl⟩ := eq
      obtain ⟨r1, c1, f1⟩ := hcell2 k (by simpa using hlt)
      obtain ⟨r2, c2, f2⟩ := hcell2 (L.length - k) (by simp; omega)
      obtain ⟨r3, c3, -⟩ := hcellq k (by rw [upTo_length, extM_length]; exact hlt)
      have hfr := hfrq k
      rw [← (bcell hbr).1 _ _ hg2b] at c1 c2
      have Hq : Hid (OwnF wr w.heap.size (.slice (some ⟨w2.heap.size, 0, none⟩) (L.length + 1) (L.length + 1)) (upTo (extM L x) k)) := hq
      clear hq hcell2 hcellq hfrq
      go_wp2
      refine region_rel_tail 16 (by kernel_rfl) (by kernel_rfl) (Drawn wr) (fun _ _ _ => False) ⟨1, rfl⟩ ?_
      simp only [List.take_succ_cons, List.take_zero, List.drop_succ_cons, List.drop_zero]
      repeat (refine wpRel_draw rfl rfl (fun n K hK => ?_); go_wp2)
      refine wpRel_nil ?_
      rintro wd ⟨n, hwd⟩
      have c3d : wd.cell? ⟨w2.heap.size, k, none⟩ = some (.float .f32 r3) := by rw [hwd]; exact c3
      have hfrd : wd.frozen? ⟨w2.heap.size, k, none⟩ = false := by rw [hwd]; exact hfr
      have Hqd : Hid (OwnF wd w.heap.size (.slice (some ⟨w2.heap.size, 0, none⟩) (L.length + 1) (L.length + 1)) (upTo (extM L x) k)) := by rw [hwd]; exact Hq
      have hbd : Below w2.heap.size w2 wd := by rw [hwd]; exact Below.drewN hbr n
      clear hwd c1 c2 c3 hfr
      go_wp2
      refine ⟨⟨k + 1, by omega, by go_num, ?_, hbd.setCell (Nat.le_refl _) _⟩, by simp [intOf]; omega⟩
      rw [← upTo_set, extM_at _ _ _ (by omega)]
      have := Hqd.out
      have e := upTo_length (extM L x) k
      rw [extM_length] at e
      rw [← e] at this ⊢
      exact this.stored (FV.op f1 (FV.op hc f2 _) _)
    · go_wp2
      go_ret
      obtain rfl : k = L.length + 1 := by omega
      rw [upTo_all _ _ (by rw [extM_length]; exact Nat.le_refl _)] at hq
      exact ⟨_, rfl, hq, (hb1.trans (((Below.refl _ _).alloc hs1 _).trans hb2)).trans (hbr.mono (by omega))⟩
end Go.Proofs.Ytiappmhlmephjaa
