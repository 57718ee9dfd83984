/- Walks: impl.ShiftsOf. -/
import Derived.Test.YthacadbdncfocaaSfE
namespace Go.Proofs.Ythacadbdncfocaa
open Go Go.RowKit

/-- 'append' of one element of one cell to a slice of the call's own. -/
theorem wpList_push1 {P : Program} {ops : Array Oper} {rest : List Oper} {o : Oper} {a : Act} {w : World} {Q : Exit → Act → World → Prop} (hgd : o.guard = none) (s x : Operand) (t e : TypeId)
    (ho : o.op = .call { callee := .builtin .append, args := #[s, x], argTypes := #[t, t] }) (z : Value) (bytes : Nat) (ht : P.underlying t = some (.slice e)) (hinfo : (P.info? e).map (fun i => (i.zero, i.size, i.bytes)) = some (some z, 1, bytes))
    (hzs : z.cells.size = 1) (hby : bytes ≤ 100) (B : Nat) (v : Value) (n : Nat) (xs : List Value) (hs : a.eval s = v) (hown : w.ownsRow B e 1 v n xs)
    (ad : Addr) (c : Nat) (u : Value) (hx : a.eval x = .slice (some ad) 1 c) (hcell : w.cell? ad = some u) (hu : u.oneCell' = true) (hlen : n ≤ 1048576) (hB : B ≤ w.heap.size)
    (h : ∀ v' w', w'.ownsRow B e 1 v' (n + 1) (xs ++ [u]) → w.grownBy w' v.ownBlock → Below B w w' → wpList P ops Q rest (a.put o.dst v') w') : wpList P ops Q (o :: rest) a w := by
  obtain ⟨i0, hi, hz0, hz1, hz2⟩ := info_parts hinfo
  refine wpList_append_own2 hgd s x t ho B e i0 z 1 bytes ht hi hz0 hz1 hz2 hzs (by decide) v n xs hs hown ad 1 c [u] hx rfl ?_ ?_ ?_ ?_ hB ?_
  · intro j y hy
    match j, hy with
    | 0, hy =>
      simp at hy; subst hy
      have : ad.add 0 = ad := by unfold Addr.add; split <;> simp_all
      rw [this]; exact hcell
  · intro y hy; simp at hy; subst hy; exact hu
  · unfold maxLen; omega
  · exact Nat.le_trans (Nat.mul_le_mul (by omega : n + 1 ≤ 1048577) hby) (by decide)
  · intro v' w' h1 h2 _
    exact h v' w' h1 h2 ((Below.refl _ _).grown h2 hB fun k hk => (hown.lt k hk).1)
section
variable {P : Program} {ops : Array Oper} {T : FuncId → Array Value → Value → Prop} {Q : Act → Prop} {a : Act} {o : Oper} {rest : List Oper}
/-- THE CLASS of the worlds that keep what W holds. -/
theorem wpRel_under {W : World} (hp : plainOp o.op = true) (hg : Region.wanted o (yielded ops a.tmps) = true)
    (h : ∀ w, Below W.heap.size W w → ∀ K : Act → World → Prop, (∀ a', wpRel P ops (Below W.heap.size W) T Q rest a' → K a' w) → o.wp P a w K (fun _ _ _ => False)) : wpRel P ops (Below W.heap.size W) T Q (o :: rest) a :=
  wpRel_op hp hg ⟨W, Below.refl _ _⟩ fun w hw K hK => h w hw K fun a' hr => hK a' w ⟨hw, hr⟩
end
theorem Try.infoI : (Try.prog.info? 2).map (fun i => (i.zero, i.size, i.bytes)) = some (some (.int .i64 0), 1, 8) := by kernel_rfl
theorem OwnI.kept {w w' : World} {B : Nat} {v : Value} {L : List Int} (h : OwnI w B v L) (hb : Below w.heap.size w w') : OwnI w' B v L :=
  ownsRow_same h fun k hk => hb.block k (World.ownsRow.lt h k hk).2
/-- The shifts. -/
def shI (oF : Nat → Nat) (n : Nat) : List Int := (List.range n).map fun j => (oF j : Int) - 4
theorem shI_length (oF : Nat → Nat) (n : Nat) : (shI oF n).length = n := by simp [shI]
theorem shI_succ (oF : Nat → Nat) (n : Nat) : shI oF (n + 1) = shI oF n ++ [(oF n : Int) - 4] := by simp [shI, List.range_succ]

end Go.Proofs.Ythacadbdncfocaa
