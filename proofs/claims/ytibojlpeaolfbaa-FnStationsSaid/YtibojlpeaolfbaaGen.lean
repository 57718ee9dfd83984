/- Rows of cells on a seat without layers: what the laws' walks share. -/
import Derived.Test.YtibojlpeaolfbaaTree
import Derived.Test.YtibojlpeaolfbaaL1m
namespace Go.Proofs.Ytibojlpeaolfbaa
open Go Go.RowKit
section
variable {P : Program} {ops : Array Oper} {T : FuncId → Array Value → Value → Prop} {Q : Act → Prop} {a : Act} {o : Oper} {rest : List Oper}
/-- THE CLASS of the worlds that keep what W holds. -/
theorem wpRel_under {W : World} (hp : plainOp o.op = true) (hg : Region.wanted o (yielded ops a.tmps) = true)
    (h : ∀ w, Below W.heap.size W w → ∀ K : Act → World → Prop, (∀ a', wpRel P ops (Below W.heap.size W) T Q rest a' → K a' w) → o.wp P a w K (fun _ _ _ => False)) : wpRel P ops (Below W.heap.size W) T Q (o :: rest) a :=
  wpRel_op hp hg ⟨W, Below.refl _ _⟩ fun w hw K hK => h w hw K fun a' hr => hK a' w ⟨hw, hr⟩
end
/-- What a size leaves: less than nothing, or no more than there was, and then 'ok'. -/
def Left (left : Int) (ok : Prop) (m : Int) : Prop := m = -1 ∨ (0 ≤ m ∧ m ≤ left ∧ ok)

/-- n elements, all of them zeros. -/
def zrow (zd : List D1) (n : Nat) : List D1 := (List.range (n * zd.length)).map fun j => zd.getD (j % zd.length) default
theorem zrow_length (zd : List D1) (n : Nat) : (zrow zd n).length = n * zd.length := by simp [zrow]
theorem wpList_mkC {P : Program} {ops : Array Oper} {rest : List Oper} {o : Oper} {a : Act} {w : World} {Q : Exit → Act → World → Prop} (hg : o.guard = none) (l c : Operand) (st et : TypeId)
    (hop : o.op = Op.makeSlice st l c) (z : Value) (size bytes : Nat) (ht : P.underlying st = some (.slice et)) (hinfo : (P.info? et).map (fun i => (i.zero, i.size, i.bytes)) = some (some z, size, bytes))
    (hcs : z.cells.size = size) (zd : List D1) (hzd : zd.length = size) (hz : ∀ (w : World) (S : Nat → Prop) (j : Nat), j < size → Own1 w S (zd.getD j default) (z.cells[j]!) ∧ (z.cells[j]!).ownBlock = none)
    (kl kc : IntKind) (L C : Int) (n : Nat) (hl : a.eval l = .int kl L) (hc : a.eval c = .int kc C) (hL : L = (n : Int)) (hC : C = (n : Int)) (hn : n ≤ 1048576) (hby : bytes ≤ 1000)
    (h : ∀ w', OwnC w' (Iv w.heap.size (w.heap.size + 1)) et size (.slice (some ⟨w.heap.size, 0, none⟩) n n) n (zrow zd n) → Below w.heap.size w w' → w.heap.size < w'.heap.size →
      wpList P ops Q rest (a.put o.dst (.slice (some ⟨w.heap.size, 0, none⟩) n n)) w') : wpList P ops Q (o :: rest) a w := by
  obtain ⟨i0, hi, hz0, hz1, hz2⟩ := info_parts hinfo
  refine wpList_make_full w hg l c st hop 0 et i0 z size ht hi hz0 hz1 kl kc L C n hl hc hL hC (by rw [hz2]; exact Nat.le_trans (Nat.mul_le_mul hby hn) (by decide)) (by unfold maxLen; omega) (Nat.zero_le _) ?_
  intro w' h1 h2
  have hlt := (h1.lt w.heap.size rfl).2
  have hul : (madeCells z.cells (n * size)).toList.length = n * size := by simp [madeCells]
  have hus : ∀ j, j < n * size → 0 < size ∧ j % size < size ∧ (madeCells z.cells (n * size)).toList.getD j undef = z.cells[j % size]! := fun j hj => by
    have hs : 0 < size := by
      rcases Nat.eq_zero_or_pos size with e | e
      · rw [e, Nat.mul_zero] at hj; omega
      · exact e
    refine ⟨hs, Nat.mod_lt _ hs, ?_⟩
    simp [madeCells, List.getD_eq_getElem?_getD, hj, hcs]
  refine h w' ⟨_, by rw [hul, zrow_length, hzd], h1, fun k hk => ?_, fun j hj => ?_, fun i j k hi hj hki hkj => ?_, fun j k hj hk => ?_⟩ ((Below.refl _ _).grown h2 (Nat.le_refl _) fun k hk => (by cases hk)) hlt
  · cases hk; exact ⟨Nat.le_refl _, Nat.lt_succ_self _⟩
  · rw [zrow_length, hzd] at hj
    obtain ⟨hs, hm, e⟩ := hus j hj
    rw [e]
    have e2 : (zrow zd n).getD j default = zd.getD (j % size) default := by
      simp [zrow, List.getD_eq_getElem?_getD, hzd, hj]
    rw [e2]
    exact (hz w' _ (j % size) hm).1
  · rw [hul] at hi
    obtain ⟨hs, hm, e⟩ := hus i hi
    rw [e, (hz w' (fun _ => True) _ hm).2] at hki
    cases hki
  · rw [hul] at hj
    obtain ⟨hs, hm, e⟩ := hus j hj
    rw [e, (hz w' (fun _ => True) _ hm).2] at hk
    cases hk
theorem OwnC.congr {w : World} {S : Nat → Prop} {t : TypeId} {size : Nat} {v : Value} {n : Nat} {ds ds' : List D1} (h : OwnC w S t size v n ds) (e : ds = ds') : OwnC w S t size v n ds' := e ▸ h

/-- The first k of a new list, and the others of an old one. -/
def mixD (new old : List D1) (k : Nat) : List D1 := (List.range old.length).map fun i => if i < k then new.getD i default else old.getD i default
theorem mixD_length (new old : List D1) (k : Nat) : (mixD new old k).length = old.length := by simp [mixD]
theorem mixD_zero (new old : List D1) : mixD new old 0 = old := by
  apply List.ext_getElem?
  intro i
  by_cases hi : i < old.length
  · simp [mixD, List.getElem?_map, List.getElem?_range hi, hi]
  · simp [mixD, List.getElem?_eq_none (Nat.le_of_not_lt hi), hi]
theorem mixD_all (new old : List D1) (k : Nat) (h : old.length ≤ k) (he : new.length = old.length) : mixD new old k = new := by
  apply List.ext_getElem?
  intro i
  by_cases hi : i < old.length
  · simp [mixD, List.getElem?_map, List.getElem?_range hi, show i < k by omega, show i < new.length by omega]
  · simp [mixD, hi, List.getElem?_eq_none (show new.length ≤ i by omega)]
theorem mixD_getD (new old : List D1) (k i : Nat) (h : i < old.length) : (mixD new old k).getD i default = if i < k then new.getD i default else old.getD i default := by
  simp [mixD, List.getD_eq_getElem?_getD, List.getElem?_map, List.getElem?_range h]
theorem mixD_set (new old : List D1) (k : Nat) : (mixD new old k).set k (new.getD k default) = mixD new old (k + 1) := by
  apply List.ext_getElem?
  intro i
  by_cases hi : i < old.length
  · by_cases h1 : k = i
    · subst h1; simp [mixD, List.getElem?_set, List.getElem?_map, List.getElem?_range hi, hi]
    · simp only [mixD, List.getElem?_set, List.getElem?_map, List.getElem?_range hi, if_neg h1, Option.map_some]
      by_cases h2 : i < k
      · simp [h2, show i < k + 1 by omega]
      · simp [h2, show ¬ i < k + 1 by omega]
  · rw [List.getElem?_eq_none (by simp [mixD_length]; omega), List.getElem?_eq_none (by simp [mixD_length]; omega)]
/-- 'append' of one element of one cell to a slice of the call's own. -/
theorem wpList_push1 {P : Program} {ops : Array Oper} {rest : List Oper} {o : Oper} {a : Act} {w : World} {Q : Exit → Act → World → Prop} (hgd : o.guard = none) (s x : Operand) (t e : TypeId)
    (ho : o.op = .call { callee := .builtin .append, args := #[s, x], argTypes := #[t, t] }) (z : Value) (bytes : Nat) (ht : P.underlying t = some (.slice e)) (hinfo : (P.info? e).map (fun i => (i.zero, i.size, i.bytes)) = some (some z, 1, bytes))
    (hzs : z.cells.size = 1) (hby : bytes ≤ 100) (B : Nat) (v : Value) (n : Nat) (xs : List Value) (hs : a.eval s = v) (hown : w.ownsRow B e 1 v n xs)
    (ad : Addr) (c : Nat) (u : Value) (hx : a.eval x = .slice (some ad) 1 c) (hcell : w.cell? ad = some u) (hu : u.oneCell' = true) (hlen : n ≤ 1048576) (hB : B ≤ w.heap.size)
    (h : ∀ v' w', w'.ownsRow B e 1 v' (n + 1) (xs ++ [u]) → w.grownBy w' v.ownBlock → Below B w w' → wpList P ops Q rest (a.put o.dst v') w') : wpList P ops Q (o :: rest) a w := by
  obtain ⟨i0, hi, hz0, hz1, hz2⟩ := info_parts hinfo
  refine wpList_append_own2 hgd s x t ho B e i0 z 1 bytes ht hi hz0 hz1 hz2 hzs (by decide) v n xs hs hown ad 1 c [u] hx rfl ?_ ?_ ?_ ?_ hB ?_
  · intro j y hy
    match j, hy with
    | 0, hy =>
      simp at hy; subst hy
      have : ad.add 0 = ad := by unfold Addr.add; split <;> simp_all
      rw [this]; exact hcell
  · intro y hy; simp at hy; subst hy; exact hu
  · unfold maxLen; omega
  · exact Nat.le_trans (Nat.mul_le_mul (by omega : n + 1 ≤ 1048577) hby) (by decide)
  · intro v' w' h1 h2 _
    exact h v' w' h1 h2 ((Below.refl _ _).grown h2 hB fun k hk => (hown.lt k hk).1)
theorem alloc_new (w : World) (o : Obj) : (w.alloc o).heap[w.heap.size]? = some o := by
  show (w.heap.push o)[w.heap.size]? = some o
  simp
end Go.Proofs.Ytibojlpeaolfbaa
