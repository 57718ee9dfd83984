/- Walks: impl.ShiftsOf. -/
import Derived.Test.YtcffkhmjljlbaaaSfE
namespace Go.Proofs.Ytcffkhmjljlbaaa
open Go Go.RowKit

/-- 'append' of one element of one cell to a slice of the call's own. -/
theorem wpList_push1 {P : Program} {ops : Array Oper} {rest : List Oper} {o : Oper} {a : Act} {w : World} {Q : Exit → Act → World → Prop} (hgd : o.guard = none) (s x : Operand) (t e : TypeId)
    (ho : o.op = .call { callee := .builtin .append, args := #[s, x], argTypes := #[t, t] }) (z : Value) (bytes : Nat) (ht : P.underlying t = some (.slice e)) (hinfo : (P.info? e).map (fun i => (i.zero, i.size, i.bytes)) = some (some z, 1, bytes))
    (hzs : z.cells.size = 1) (hby : bytes ≤ 100) (B : Nat) (v : Value) (n : Nat) (xs : List Value) (hs : a.eval s = v) (hown : w.ownsRow B e 1 v n xs)
    (ad : Addr) (c : Nat) (u : Value) (hx : a.eval x = .slice (some ad) 1 c) (hcell : w.cell? ad = some u) (hu : u.oneCell' = true) (hlen : n ≤ 1048576) (hB : B ≤ w.heap.size)
    (h : ∀ v' w', w'.ownsRow B e 1 v' (n + 1) (xs ++ [u]) → w.grownBy w' v.ownBlock → Below B w w' → wpList P ops Q rest (a.put o.dst v') w') : wpList P ops Q (o :: rest) a w := by
  obtain ⟨i0, hi, hz0, hz1, hz2⟩ := info_parts hinfo
  refine wpList_append_own2 hgd s x t ho B e i0 z 1 bytes ht hi hz0 hz1 hz2 hzs (by decide) v n xs hs hown ad 1 c [u] hx rfl ?_ ?_ ?_ ?_ hB ?_
  · intro j y hy
    match j, hy with
    | 0, hy =>
      simp at hy; subst hy
      have : ad.add 0 = ad := by unfold Addr.add; split <;> simp_all
      rw [this]; exact hcell
  · intro y hy; simp at hy; subst hy; exact hu
  · unfold maxLen; omega
  · exact Nat.le_trans (Nat.mul_le_mul (by omega : n + 1 ≤ 1048577) hby) (by decide)
  · intro v' w' h1 h2 _
    exact h v' w' h1 h2 ((Below.refl _ _).grown h2 hB fun k hk => (hown.lt k hk).1)
section
variable {P : Program} {ops : Array Oper} {T : FuncId → Array Value → Value → Prop} {Q : Act → Prop} {a : Act} {o : Oper} {rest : List Oper}
/-- THE CLASS of the worlds that keep what W holds. -/
theorem wpRel_under {W : World} (hp : plainOp o.op = true) (hg : Region.wanted o (yielded ops a.tmps) = true)
    (h : ∀ w, Below W.heap.size W w → ∀ K : Act → World → Prop, (∀ a', wpRel P ops (Below W.heap.size W) T Q rest a' → K a' w) → o.wp P a w K (fun _ _ _ => False)) : wpRel P ops (Below W.heap.size W) T Q (o :: rest) a :=
  wpRel_op hp hg ⟨W, Below.refl _ _⟩ fun w hw K hK => h w hw K fun a' hr => hK a' w ⟨hw, hr⟩
end
theorem Try.infoI : (Try.prog.info? 2).map (fun i => (i.zero, i.size, i.bytes)) = some (some (.int .i64 0), 1, 8) := by kernel_rfl
theorem OwnI.kept {w w' : World} {B : Nat} {v : Value} {L : List Int} (h : OwnI w B v L) (hb : Below w.heap.size w w') : OwnI w' B v L :=
  ownsRow_same h fun k hk => hb.block k (World.ownsRow.lt h k hk).2
/-- The shifts. -/
def shI (oF : Nat → Nat) (n : Nat) : List Int := (List.range n).map fun j => (oF j : Int) - 4
theorem shI_length (oF : Nat → Nat) (n : Nat) : (shI oF n).length = n := by simp [shI]
theorem shI_succ (oF : Nat → Nat) (n : Nat) : shI oF (n + 1) = shI oF n ++ [(oF n : Int) - 4] := by simp [shI, List.range_succ]

set_option maxRecDepth 100000 in
set_option maxHeartbeats 3200000 in
theorem shiftsOf_any (w : World) (vp vt v2 : Value) (T : TM) (Pl : List Nat) (oF : Nat → Nat) (hP : RdF w vp T.P) (hL : RdSS w vt T.Ls) (hp : RdF w v2 Pl) (hs : T.small) (hv : validT T = true) (hl : (Pl.length : Int) = T.t) (hpl : Pl.length ≤ 64) (hn : T.Ls.length ≤ 16)
    (hr : ∀ j, j < T.Ls.length → (rowAt T.Ls j).length ≤ 64) (ho : ∀ j, j < T.Ls.length → bestF (corL Pl (rowAt T.Ls j) 4) 9 = some (oF j)) :
    Calls Try.prog 16 #[.agg #[.int .i64 T.t, vp, vt], v2, .int .i64 4] w fun e w' => ∃ v', e = .returned (.tuple #[v', .bool true]) ∧ OwnI w' w.heap.size v' (shI oF T.Ls.length) ∧ Below w.heap.size w w' := by
  obtain ⟨a1, c1, rfl, -⟩ := hP.opened
  obtain ⟨a2, c2, rfl, hc2, -, hcell⟩ := hL.opened
  have HPl := Lib.hid hp
  obtain ⟨a3, c3, rfl, -⟩ := hp.opened
  obtain ⟨W, hW⟩ : ∃ W, w.alloc (.cells #[.int .i64 T.t, .slice a1 T.P.length c1, .slice a2 T.Ls.length c2] 38) = W := ⟨_, rfl⟩
  have hG : Below w.heap.size w W := by rw [← hW]; exact (Below.refl _ _).alloc (Nat.le_refl _) _
  have hbx : W.heap[w.heap.size]? = some (.cells #[.int .i64 T.t, .slice a1 T.P.length c1, .slice a2 T.Ls.length c2] 38 (0, 0)) := by rw [← hW]; exact alloc_new _ _
  have hWs : W.heap.size = w.heap.size + 1 := by rw [← hW]; exact World.size_alloc _ _
  have HV : Hid (∀ wq, Below W.heap.size W wq → Calls Try.prog 32 #[.agg #[.int .i64 T.t, .slice a1 T.P.length c1, .slice a2 T.Ls.length c2]] wq fun e w' => e = .returned (.bool true) ∧ Below wq.heap.size wq w') := Lib.hid fun wq hq => by
    have hb := hG.trans (hq.mono (by omega))
    have := implValidGather_any wq _ T ⟨_, _, rfl, hP.mono hb, hL.mono hb⟩ hs
    rw [hv] at this
    exact this
  have FX : Hid (∀ wq, Below W.heap.size W wq → wq.cell? ⟨w.heap.size, 0, none⟩ = some (.int .i64 T.t) ∧ wq.cell? ⟨w.heap.size, 1, none⟩ = some (.slice a1 T.P.length c1) ∧ wq.cell? ⟨w.heap.size, 2, none⟩ = some (.slice a2 T.Ls.length c2)) := Lib.hid fun wq hq => by
    obtain ⟨k0, k1, k2, -, -, -⟩ := blk3 ((hq.block w.heap.size (by omega)).trans hbx)
    exact ⟨k0, k1, k2⟩
  have HG := Lib.hid hG
  have hl2 := hl
  clear hP hL hp hbx hG hs hv
  go_enter Try.func16, Try.ntmps16
  go_wp2_with fail
  clear hW
  refine region_rel_all (by kernel_rfl) (by kernel_rfl) (Below W.heap.size W) (fun f _ v => (f = 32 ∧ v = .bool true) ∨ (f = 28 ∧ v = .int .i64 (Pl.length : Nat)) ∨ (f = 22 ∧ v = .bool true)) (Below.drewN (Below.refl _ _) 1) ?_
  refine wpRel_under rfl rfl (fun wq hq K hK => ?_)
  obtain ⟨k0, k1, k2⟩ := FX.out wq hq
  go_wp2
  clear k0 k1 k2
  refine wpRel_callF #[.agg #[.int .i64 T.t, .slice a1 T.P.length c1, .slice a2 T.Ls.length c2]] Try.func32 (by kernel_rfl) (by kernel_rfl) (by simp [go_sem]) ⟨W, Below.refl _ _⟩ ⟨_, .inl ⟨rfl, rfl⟩⟩
    (fun wq hq => (HV.out wq hq).mono fun e w'' ⟨he, hb2⟩ => ⟨_, he, .inl ⟨rfl, rfl⟩, hq.trans (hb2.mono hq.size)⟩) ?_
  intro v hv
  obtain rfl : v = .bool true := by
    rcases hv with h | h | h
    · exact h.2
    · exact absurd h.1 (by decide)
    · exact absurd h.1 (by decide)
  clear hv
  simp only [Act.put, List.setIfInBounds_toArray, List.set_cons_succ, List.set_cons_zero]
  have hne : ((Pl.length : Int) != T.t) = false := by rw [hl]; simp
  iterate 3 (refine wpRel_under rfl rfl (fun wq hq K hK => ?_); go_wp2)
  refine wpRel_callG #[.slice a3 Pl.length c3] rfl Try.func28 (by kernel_rfl) (by kernel_rfl) (by simp [go_sem]) ⟨W, Below.refl _ _⟩ ⟨_, .inr (.inl ⟨rfl, rfl⟩)⟩
    (fun wq hq => (lengthF_any wq a3 Pl.length c3).mono fun e w'' ⟨he, hw2⟩ => ⟨_, he, .inr (.inl ⟨rfl, rfl⟩), by rw [hw2]; exact hq⟩) ?_
  intro v hv
  obtain rfl : v = .int .i64 (Pl.length : Nat) := by
    rcases hv with h | h | h
    · exact absurd h.1 (by decide)
    · exact h.2
    · exact absurd h.1 (by decide)
  clear hv
  simp only [Act.put, List.setIfInBounds_toArray, List.set_cons_succ, List.set_cons_zero]
  iterate 6 (refine wpRel_under rfl rfl (fun wq hq K hK => ?_); obtain ⟨k0, k1, k2⟩ := FX.out wq hq; go_wp2; clear k0 k1 k2)
  refine wpRel_callG #[.int .i64 4, .int .i64 0, .int .i64 64] rfl Try.func22 (by kernel_rfl) (by kernel_rfl) (by simp [go_sem]) ⟨W, Below.refl _ _⟩ ⟨_, .inr (.inr ⟨rfl, rfl⟩)⟩
    (fun wq hq => (within_any wq 4 0 64).mono fun e w'' ⟨he, hw2⟩ => ⟨_, he, .inr (.inr ⟨rfl, congrArg Value.bool (show inB 4 0 64 = true by decide)⟩), by rw [hw2]; exact hq⟩) ?_
  intro v hv
  obtain rfl : v = .bool true := by
    rcases hv with h | h | h
    · exact absurd h.1 (by decide)
    · exact absurd h.1 (by decide)
    · exact h.2
  clear hv
  simp only [Act.put, List.setIfInBounds_toArray, List.set_cons_succ, List.set_cons_zero]
  iterate 2 (refine wpRel_under rfl rfl (fun wq hq K hK => ?_); go_wp2)
  refine wpRel_nil ?_
  intro w1 hb1
  obtain ⟨k0, k1, k2⟩ := FX.out w1 hb1
  have B1 := Lib.hid (HG.out.trans (hb1.mono (by omega)))
  have zb := hb1.size
  clear hb1 FX HV hne hl hl2
  go_wp2_with fail
  go_loopw [8, 32] (fun o i wr => ∃ j : Nat, j ≤ T.Ls.length ∧ i = .int .i64 j ∧ OwnI wr W.heap.size o (shI oF j) ∧ Below w.heap.size w wr ∧ W.heap.size ≤ wr.heap.size) (fun _ i _ => T.Ls.length - (intOf i).toNat)
  case atStart => exact ⟨0, Nat.zero_le _, rfl, World.ownsRow_nil _ _ _ 1, B1.out, zb⟩
  case round =>
    obtain ⟨wi, rfl⟩ : ∃ wi : World, wi = wr := ⟨_, rfl⟩
    obtain ⟨j, hj, rfl, ho2, hb, hzW⟩ := hrel
    have HO := Lib.hid ho2
    have HB := Lib.hid hb
    have hzi := hb.size
    by_cases hlt : j < T.Ls.length
    · obtain ⟨b, o, a', c', rfl, hlb, d0, R0⟩ := hcell j hlt
      have d1 := ((bcell hb).1 _ _ hlb).trans d0
      have HSB := Lib.hid (shiftBetween_any wi (.slice a3 Pl.length c3) _ Pl (rowAt T.Ls j) 4 (oF j) (HPl.out.mono hb) (R0.mono hb) (by omega) (by have := hr j hlt; omega) (by decide) (ho j hlt))
      have hsl := shI_length oF j
      have HSC := Lib.hid (shI_succ oF j)
      clear hcell ho hr d0 R0 hb ho2
      go_wp2_with fail
      refine HSB.out.mono ?_
      rintro e w3 ⟨r, rfl, -, b3⟩
      have z3 := b3.size
      have HOK := Lib.hid (HO.out.kept b3)
      have HB3 := Lib.hid (HB.out.trans (b3.mono hzi))
      clear HSB b3
      go_wp2_with (at_builtin; go_must (refine wpList_push1 rfl _ _ 41 2 rfl (.int .i64 0) 8 Try.underlying41 Try.infoI rfl (by decide) W.heap.size _ _ _ rfl (OwnI.kept HOK.out ((Below.refl _ _).alloc (Nat.le_refl _) _)) _ _ _ rfl (cell_new _ _ _) rfl (by omega) (by rw [World.size_alloc]; omega) ?_); intro v4 w4 o4 g4 b4)
      refine ⟨⟨j + 1, by omega, by go_num, ?_, (HB3.out.alloc (by omega) _).trans (b4.mono (by omega)), by have := b4.size; rw [World.size_alloc] at this; omega⟩, by simp [intOf]; omega⟩
      rw [HSC.out]
      unfold OwnI
      rw [List.map_append, List.length_append]
      exact o4
    · obtain rfl : j = T.Ls.length := by omega
      clear hcell ho hr hb ho2
      go_wp2_with fail
      go_ret2
      exact ⟨_, rfl, ownsRow_lower HO.out (by omega), HB.out⟩
end Go.Proofs.Ytcffkhmjljlbaaa
