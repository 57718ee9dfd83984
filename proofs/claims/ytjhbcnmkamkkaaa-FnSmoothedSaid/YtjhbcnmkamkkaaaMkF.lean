/- 'make' of floats, as an operation. -/
import Derived.Test.YtjhbcnmkamkkaaaRelK
import Derived.Deep.Quiet
namespace Go.Proofs.Ytjhbcnmkamkkaaa
open Go Go.RowKit

theorem op_make {P : Program} {o : Oper} {a : Act} {w : World} {K : Act → World → Prop} {Q : Exit → Act → World → Prop} (l c : Operand) (t : TypeId) (hop : o.op = Op.makeSlice t l c)
    (e : TypeId) (z : Value) (bytes : Nat) (h1 : P.underlying t = some (.slice e)) (hinfo : (P.info? e).map (fun i => (i.zero, i.size, i.bytes)) = some (some z, 1, bytes)) (hz : z.cells = #[z])
    (kl kc : IntKind) (L C : Int) (n : Nat) (hl : a.eval l = .int kl L) (hc : a.eval c = .int kc C) (hL : L = (n : Int)) (hC : C = (n : Int)) (hn : n ≤ 1048576) (hby : bytes ≤ 1000)
    (h : ∀ w', w'.ownsRow w.heap.size e 1 (.slice (some ⟨w.heap.size, 0, none⟩) n n) n (List.replicate n z) → Ext w w' → K (a.put o.dst (.slice (some ⟨w.heap.size, 0, none⟩) n n)) w') : o.wp P a w K Q := by
  obtain ⟨i, hi, hz0, hz1, hz2⟩ := info_parts hinfo
  obtain ⟨w', hrun, r1, r2⟩ := run_make_full (P := P) w w.heap.size t e i z 1 h1 hi hz0 hz1 kl kc n (by rw [hz2]; exact Nat.le_trans (Nat.mul_le_mul hby hn) (by decide)) (by unfold maxLen; omega) (Nat.le_refl _)
  subst hL
  subst hC
  unfold Oper.wp
  simp [execOp, hop, hl, hc, hrun, Result.andThen]
  refine h _ ?_ ((Below.refl _ _).grown r2 (Nat.le_refl _) fun k hk => by cases hk)
  have e : (madeCells z.cells (n * 1)).toList = List.replicate n z := by
    rw [Nat.mul_one, hz, toList_madeCells_one]
  rw [e] at r1
  exact r1
theorem wpList_makeF {P : Program} {ops : Array Oper} {rest : List Oper} {o : Oper} {a : Act} {w : World} {Q : Exit → Act → World → Prop} (hg : o.guard = none) (l c : Operand) (t : TypeId) (hop : o.op = Op.makeSlice t l c)
    (e : TypeId) (z : Value) (bytes : Nat) (h1 : P.underlying t = some (.slice e)) (hinfo : (P.info? e).map (fun i => (i.zero, i.size, i.bytes)) = some (some z, 1, bytes)) (hz : z.cells = #[z])
    (kl kc : IntKind) (L C : Int) (n : Nat) (hl : a.eval l = .int kl L) (hc : a.eval c = .int kc C) (hL : L = (n : Int)) (hC : C = (n : Int)) (hn : n ≤ 1048576) (hby : bytes ≤ 1000)
    (h : ∀ w', w'.ownsRow w.heap.size e 1 (.slice (some ⟨w.heap.size, 0, none⟩) n n) n (List.replicate n z) → Ext w w' → wpList P ops Q rest (a.put o.dst (.slice (some ⟨w.heap.size, 0, none⟩) n n)) w') : wpList P ops Q (o :: rest) a w :=
  wpList_plain hg fun K hK => op_make l c t hop e z bytes h1 hinfo hz kl kc L C n hl hc hL hC hn hby fun w' a1 a2 => hK _ _ (h w' a1 a2)
theorem OwnF.madeT {w : World} {B : Nat} {v : Value} {n : Nat} (h : w.ownsRow B 31 1 v n (List.replicate n (.float .f32 0))) : OwnF w B v (List.replicate n 0) := by
  refine ⟨List.replicate n 0, rfl, fun j hj => ?_, by simpa using h⟩
  simp only [List.length_replicate] at hj
  rw [List.getD_eq_getElem?_getD, List.getElem?_replicate, if_pos hj]
  exact fv0 _
end Go.Proofs.Ytjhbcnmkamkkaaa
