/- Walks: a copy of a list; 'append' to an empty list, and 'make', as operations of an open region. -/
import Derived.Test.YthacadbdncfocaaRelK
import Derived.Test.YthacadbdncfocaaSfO
import Derived.ArgAppend
namespace Go.Proofs.Ythacadbdncfocaa
open Go Go.RowKit

set_option maxRecDepth 100000 in
set_option maxHeartbeats 400000 in
theorem clone_any (w : World) (v : Value) (L : List Nat) (hL : RdF w v L) (hmax : L.length ≤ 1048576) :
    Calls Try.prog 61 #[v] w fun e w' => ∃ v', e = .returned v' ∧ OwnF w' w.heap.size v' L ∧ Below w.heap.size w w' := by
  obtain ⟨a, c, rfl, hc, hz, hcell⟩ := hL.opened
  cases a with
  | none =>
    have h0 : L.length = 0 := by
      rcases Nat.eq_zero_or_pos L.length with h | h
      · exact h
      · obtain ⟨b, o, r, h1, _⟩ := hcell 0 h; cases h1
    obtain rfl : L = [] := List.eq_nil_of_length_eq_zero h0
    have hn := fun (w : World) (n c : Nat) => Lib.run_eql_slice_nil (P := Try.prog) w 25 27 none n c 0 0 Try.underlying25
    go_enter Try.func61, Try.ntmps61
    go_wp2
    go_ret
    exact ⟨_, rfl, OwnF.nil _ _, Below.refl _ _⟩
  | some ad =>
    have hn := fun (w : World) (n c : Nat) => Lib.run_eql_slice_nil (P := Try.prog) w 25 27 (some ad) n c 0 0 Try.underlying25
    go_enter Try.func61, Try.ntmps61
    have hown : OwnF (w.alloc (.cells #[] 27)) w.heap.size (.slice (some ⟨w.heap.size, 0, none⟩) 0 0) [] := ⟨[], rfl, fun j hj => (by cases hj), World.ownsRow_lit w #[] 0 (Nat.le_refl _) (by decide) rfl⟩
    have hM : RdF (w.alloc (.cells #[] 27)) (.slice (some ad) L.length c) L := hL.mono ((Below.refl _ _).alloc (Nat.le_refl _) _)
    go_wp2_with (at_builtin; refine wpList_pushAll rfl _ _ rfl w.heap.size _ [] rfl hown _ L rfl hM (by simp) hmax (by simp) ?_; intro v' w' h1 h2 h3 _)
    go_ret
    exact ⟨_, rfl, by simpa using h1, ((Below.refl _ _).alloc (Nat.le_refl _) _).trans h3⟩

theorem op_append_fresh {P : Program} {o : Oper} {a : Act} {w : World} {K : Act → World → Prop} {Q : Exit → Act → World → Prop} (s x : Operand) (t : TypeId)
    (ho : o.op = .call { callee := .builtin .append, args := #[s, x], argTypes := #[t, t] })
    (B : Nat) (e : TypeId) (z : Value) (size bytes : Nat) (ht : P.underlying t = some (.slice e)) (hinfo : (P.info? e).map (fun i => (i.zero, i.size, i.bytes)) = some (some z, size, bytes)) (hzs : z.cells.size = size) (hsz : 0 < size)
    (g : Nat) (hg : w.heap[g]? = some (.cells #[] e (0, 0))) (hB : B ≤ g) (hs : a.eval s = .slice (some ⟨g, 0, none⟩) 0 0)
    (ad : Addr) (m c : Nat) (news : List Value) (hx : a.eval x = .slice (some ad) m c) (hl : news.length = m * size) (hnews : ∀ j u, news[j]? = some u → w.cell? (ad.add j) = some u) (h1 : ∀ u ∈ news, u.oneCell' = true)
    (h63 : m ≤ maxLen) (hbytes : m * bytes ≤ 140737488355328)
    (h : ∀ v' w', w'.ownsRow B e size v' m news → Ext w w' → K (a.put o.dst v') w') : o.wp P a w K Q := by
  obtain ⟨i, hi, hz0, hz1, hz2⟩ := info_parts hinfo
  have hgs : g < w.heap.size := (Array.getElem?_eq_some_iff.1 hg).1
  rcases Nat.eq_zero_or_pos m with rfl | hm
  · obtain rfl : news = [] := List.eq_nil_of_length_eq_zero (by rw [hl, Nat.zero_mul])
    have hr := run_append_room_cells (P := P) (w := w) t o.type e i ht hi g 0 0 0 ad 0 c [] (by simp) hnews h1 (Nat.le_refl _) (fun j hj => by cases hj) (fun j hj => by cases hj)
    unfold Oper.wp execOp
    simp only [ho, resolve, invoke, builtin, Sem.run_bind, Sem.run_pure, Result.andThen_ok, List.map_toArray, List.map_cons, List.map_nil, hs, hx, hr]
    exact h _ _ ⟨by simp, .inr ⟨g, 0, #[], rfl, hB, hg, Nat.le_refl _, by decide, by simp, by simp⟩⟩ (Ext.refl _)
  · obtain ⟨v', w', hr, r1, r2⟩ := run_append_arg_grows (P := P) (w := w) t o.type e i z size bytes ht hi hz0 hz1 hz2 hzs hsz ⟨g, 0, none⟩ 0 0 [] (by simp) (fun j u hu => by simp at hu) ad m c news hl hnews (by omega) (by omega) (by rw [Nat.zero_add]; exact hbytes)
    unfold Oper.wp execOp
    simp only [ho, resolve, invoke, builtin, Sem.run_bind, Sem.run_pure, Result.andThen_ok, List.map_toArray, List.map_cons, List.map_nil, hs, hx, hr]
    rw [Nat.zero_add, List.nil_append] at r1
    exact h _ _ (ownsRow_lower r1 (by omega)) ((Below.refl _ _).grown r2 (Nat.le_refl _) fun k hk => by cases hk)
/-- 'make([]T, n)' as one operation. -/
theorem op_make {P : Program} {o : Oper} {a : Act} {w : World} {K : Act → World → Prop} {Q : Exit → Act → World → Prop} (l c : Operand) (t : TypeId) (hop : o.op = Op.makeSlice t l c)
    (e : TypeId) (z : Value) (bytes : Nat) (h1 : P.underlying t = some (.slice e)) (hinfo : (P.info? e).map (fun i => (i.zero, i.size, i.bytes)) = some (some z, 1, bytes)) (hz : z.cells = #[z])
    (kl kc : IntKind) (L C : Int) (n : Nat) (hl : a.eval l = .int kl L) (hc : a.eval c = .int kc C) (hL : L = (n : Int)) (hC : C = (n : Int)) (hn : n ≤ 1048576) (hby : bytes ≤ 1000)
    (h : ∀ w', w'.ownsRow w.heap.size e 1 (.slice (some ⟨w.heap.size, 0, none⟩) n n) n (List.replicate n z) → Ext w w' → K (a.put o.dst (.slice (some ⟨w.heap.size, 0, none⟩) n n)) w') : o.wp P a w K Q := by
  obtain ⟨i, hi, hz0, hz1, hz2⟩ := info_parts hinfo
  obtain ⟨w', hrun, r1, r2⟩ := run_make_full (P := P) w w.heap.size t e i z 1 h1 hi hz0 hz1 kl kc n (by rw [hz2]; exact Nat.le_trans (Nat.mul_le_mul hby hn) (by decide)) (by unfold maxLen; omega) (Nat.le_refl _)
  subst hL
  subst hC
  unfold Oper.wp
  simp [execOp, hop, hl, hc, hrun, Result.andThen]
  refine h _ ?_ ((Below.refl _ _).grown r2 (Nat.le_refl _) fun k hk => by cases hk)
  have e : (madeCells z.cells (n * 1)).toList = List.replicate n z := by
    rw [Nat.mul_one, hz, toList_madeCells_one]
  rw [e] at r1
  exact r1
theorem OwnF.made {w : World} {B : Nat} {v : Value} {n : Nat} (h : w.ownsRow B 27 1 v n (List.replicate n (.float .f32 0))) : OwnF w B v (List.replicate n 0) := by
  refine ⟨List.replicate n 0, rfl, fun j hj => ?_, by simpa using h⟩
  simp only [List.length_replicate] at hj
  rw [List.getD_eq_getElem?_getD, List.getElem?_replicate, if_pos hj]
  exact fv0 _
end Go.Proofs.Ythacadbdncfocaa
