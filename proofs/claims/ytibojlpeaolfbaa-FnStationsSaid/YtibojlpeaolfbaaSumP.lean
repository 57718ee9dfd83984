/- Plain: sums of stations; 'make' of rows; rows of integers mixed. -/
import Derived.Test.YtibojlpeaolfbaaFil
import Derived.Test.YtibojlpeaolfbaaStI
namespace Go.Proofs.Ytibojlpeaolfbaa
open Go Go.RowKit

/-- The sum at a time of the first j stations, and how many numbers there are. -/
def sumJ (Fs : List FM) (t0 : Int) (Ss : List Int) (k : Nat) : Nat → Nat × Int
  | 0 => (0, 0)
  | j + 1 => if (atF (ofF Fs (inL Ss j)) (t0 + k)).2 then (fop .add .f32 (sumJ Fs t0 Ss k j).1 (atF (ofF Fs (inL Ss j)) (t0 + k)).1, (sumJ Fs t0 Ss k j).2 + 1) else sumJ Fs t0 Ss k j
def sumN (Fs : List FM) (t0 : Int) (Ss : List Int) (n j : Nat) : List Nat := tab (fun k => (sumJ Fs t0 Ss k j).1) n
def sumC (Fs : List FM) (t0 : Int) (Ss : List Int) (n j : Nat) : List Int := (List.range n).map fun k => (sumJ Fs t0 Ss k j).2
theorem sumN_length (Fs : List FM) (t0 : Int) (Ss : List Int) (n j : Nat) : (sumN Fs t0 Ss n j).length = n := tab_length _ _
theorem sumC_length (Fs : List FM) (t0 : Int) (Ss : List Int) (n j : Nat) : (sumC Fs t0 Ss n j).length = n := by simp [sumC]
theorem sumN_at (Fs : List FM) (t0 : Int) (Ss : List Int) (n j k : Nat) (h : k < n) : (sumN Fs t0 Ss n j).getD k 0 = (sumJ Fs t0 Ss k j).1 := tab_getD _ _ _ h
theorem sumC_at (Fs : List FM) (t0 : Int) (Ss : List Int) (n j k : Nat) (h : k < n) : inL (sumC Fs t0 Ss n j) k = (sumJ Fs t0 Ss k j).2 := by
  simp [inL, sumC, List.getD_eq_getElem?_getD, List.getElem?_map, List.getElem?_range h]
theorem sumJ_le (Fs : List FM) (t0 : Int) (Ss : List Int) (k j : Nat) : 0 ≤ (sumJ Fs t0 Ss k j).2 ∧ (sumJ Fs t0 Ss k j).2 ≤ j := by
  induction j with
  | zero => exact ⟨Int.le_refl _, Int.le_refl _⟩
  | succ j ih =>
    rw [sumJ]
    split
    · simp only; omega
    · omega
theorem sumJ_yes {Fs : List FM} {t0 : Int} {Ss : List Int} {k j : Nat} (h : (atF (ofF Fs (inL Ss j)) (t0 + k)).2 = true) : sumJ Fs t0 Ss k (j + 1) = (fop .add .f32 (sumJ Fs t0 Ss k j).1 (atF (ofF Fs (inL Ss j)) (t0 + k)).1, (sumJ Fs t0 Ss k j).2 + 1) := by
  rw [sumJ, if_pos h]
theorem sumJ_no {Fs : List FM} {t0 : Int} {Ss : List Int} {k j : Nat} (h : (atF (ofF Fs (inL Ss j)) (t0 + k)).2 = false) : sumJ Fs t0 Ss k (j + 1) = sumJ Fs t0 Ss k j := by
  rw [sumJ, if_neg (by rw [h]; decide)]
theorem sumN_zero (Fs : List FM) (t0 : Int) (Ss : List Int) (n : Nat) : sumN Fs t0 Ss n 0 = List.replicate n 0 := by
  unfold sumN tab
  rw [List.eq_replicate_iff]
  exact ⟨by simp, fun b hb => by obtain ⟨k, -, rfl⟩ := List.mem_map.1 hb; rfl⟩
theorem sumC_zero (Fs : List FM) (t0 : Int) (Ss : List Int) (n : Nat) : sumC Fs t0 Ss n 0 = List.replicate n 0 := by
  unfold sumC
  rw [List.eq_replicate_iff]
  exact ⟨by simp, fun b hb => by obtain ⟨k, -, rfl⟩ := List.mem_map.1 hb; rfl⟩
/-- The first k of a new list, and the others of an old one. -/
def mixI (new old : List Int) (k : Nat) : List Int := (List.range old.length).map fun i => if i < k then inL new i else inL old i
theorem mixI_length (new old : List Int) (k : Nat) : (mixI new old k).length = old.length := by simp [mixI]
theorem mixI_zero (new old : List Int) : mixI new old 0 = old := by
  apply List.ext_getElem?
  intro i
  by_cases hi : i < old.length
  · simp [mixI, inL, List.getElem?_map, List.getElem?_range hi, hi]
  · simp [mixI, List.getElem?_eq_none (Nat.le_of_not_lt hi), hi]
theorem mixI_all (new old : List Int) (k : Nat) (h : old.length ≤ k) (he : new.length = old.length) : mixI new old k = new := by
  apply List.ext_getElem?
  intro i
  by_cases hi : i < old.length
  · simp [mixI, inL, List.getElem?_map, List.getElem?_range hi, show i < k by omega, show i < new.length by omega]
  · simp [mixI, hi, List.getElem?_eq_none (show new.length ≤ i by omega)]
theorem mixI_at (new old : List Int) (k i : Nat) (h : i < old.length) : inL (mixI new old k) i = if i < k then inL new i else inL old i := by
  simp [inL, mixI, List.getD_eq_getElem?_getD, List.getElem?_map, List.getElem?_range h]
theorem mixI_set (new old : List Int) (k : Nat) : (mixI new old k).set k (inL new k) = mixI new old (k + 1) := by
  apply List.ext_getElem?
  intro i
  by_cases hi : i < old.length
  · by_cases h1 : k = i
    · subst h1; simp [mixI, List.getElem?_set, List.getElem?_map, List.getElem?_range hi, hi]
    · simp only [mixI, List.getElem?_set, List.getElem?_map, List.getElem?_range hi, if_neg h1, Option.map_some]
      by_cases h2 : i < k
      · simp [h2, show i < k + 1 by omega]
      · simp [h2, show ¬ i < k + 1 by omega]
  · rw [List.getElem?_eq_none (by simp [mixI_length]; omega), List.getElem?_eq_none (by simp [mixI_length]; omega)]
theorem mixI_skip (new old : List Int) (k : Nat) (h : inL new k = inL old k) : mixI new old k = mixI new old (k + 1) := by
  unfold mixI
  apply List.map_congr_left
  intro i _
  by_cases h1 : i = k
  · subst h1; simp [h]
  · by_cases h2 : i < k
    · simp [h2, show i < k + 1 by omega]
    · simp [h2, show ¬ i < k + 1 by omega]
/-- 'make([]T, n)' in a region that keeps its order. -/
theorem wpList_make1 {P : Program} {ops : Array Oper} {rest : List Oper} {o : Oper} {a : Act} {w : World} {Q : Exit → Act → World → Prop} (hg : o.guard = none) (l c : Operand) (t : TypeId) (hop : o.op = Op.makeSlice t l c)
    (e : TypeId) (z : Value) (bytes : Nat) (h1 : P.underlying t = some (.slice e)) (hinfo : (P.info? e).map (fun i => (i.zero, i.size, i.bytes)) = some (some z, 1, bytes)) (hz : z.cells = #[z])
    (kl kc : IntKind) (L C : Int) (n : Nat) (hl : a.eval l = .int kl L) (hc : a.eval c = .int kc C) (hL : L = (n : Int)) (hC : C = (n : Int)) (hn : n ≤ 1048576) (hby : bytes ≤ 1000)
    (h : ∀ w', w'.ownsRow w.heap.size e 1 (.slice (some ⟨w.heap.size, 0, none⟩) n n) n (List.replicate n z) → Ext w w' → wpList P ops Q rest (a.put o.dst (.slice (some ⟨w.heap.size, 0, none⟩) n n)) w') : wpList P ops Q (o :: rest) a w :=
  wpList_plain hg fun K hK => op_make l c t hop e z bytes h1 hinfo hz kl kc L C n hl hc hL hC hn hby fun w' a1 a2 => hK _ _ (h w' a1 a2)
theorem OwnF.cells {w : World} {B g n cap : Nat} {L : List Nat} (h : OwnF w B (.slice (some ⟨g, 0, none⟩) n cap) L) (hn : L.length = n) :
    (∀ j, j < n → ∃ r, w.cell? ⟨g, j, none⟩ = some (.float .f32 r) ∧ FV .f32 r (L.getD j 0)) ∧ ∀ j, w.frozen? ⟨g, j, none⟩ = false := by
  obtain ⟨g', cap', e, -, -, -, hc, hf⟩ := h.form.resolve_left fun h => by cases h.1
  obtain rfl : g = g' := by injection e with e1 e2 e3; injection e1 with e4; injection e4
  exact ⟨fun j hj => hc j (by omega), hf⟩
theorem OwnI.cells {w : World} {B g n cap : Nat} {L : List Int} (h : OwnI w B (.slice (some ⟨g, 0, none⟩) n cap) L) (hn : L.length = n) :
    (∀ j, j < n → w.cell? ⟨g, j, none⟩ = some (.int .i64 (inL L j))) ∧ ∀ j, w.frozen? ⟨g, j, none⟩ = false := by
  obtain ⟨g', cap', e, -, -, -, hc, hf⟩ := h.form.resolve_left fun h => by cases h.1
  obtain rfl : g = g' := by injection e with e1 e2 e3; injection e1 with e4; injection e4
  exact ⟨fun j hj => hc j (by omega), hf⟩
/-- A number is added, and the count goes up. -/
theorem add_step {wx : World} {B g1 g2 n : Nat} {A1 A0 : List Nat} {C1 C0 : List Int} {k r x : Nat} {y : Int} (hne : g1 ≠ g2) (h1 : OwnF wx B (.slice (some ⟨g1, 0, none⟩) n n) (mixTo A1 A0 k)) (h2 : OwnI wx B (.slice (some ⟨g2, 0, none⟩) n n) (mixI C1 C0 k))
    (l1 : A0.length = n) (l2 : C0.length = n) (hr : FV .f32 r x) (hx : A1.getD k 0 = x) (hy : inL C1 k = y) :
    OwnF ((wx.setCell ⟨g1, k, none⟩ (.float .f32 r)).setCell ⟨g2, k, none⟩ (.int .i64 y)) B (.slice (some ⟨g1, 0, none⟩) n n) (mixTo A1 A0 (k + 1)) ∧
    OwnI ((wx.setCell ⟨g1, k, none⟩ (.float .f32 r)).setCell ⟨g2, k, none⟩ (.int .i64 y)) B (.slice (some ⟨g2, 0, none⟩) n n) (mixI C1 C0 (k + 1)) ∧
    Chg wx ((wx.setCell ⟨g1, k, none⟩ (.float .f32 r)).setCell ⟨g2, k, none⟩ (.int .i64 y)) (fun q => q = g1 ∨ q = g2) := by
  subst hx hy
  refine ⟨?_, ?_, ((Chg.refl _ _).setCell (g := g1) (.inl rfl) k (.float .f32 r)).setCell (g := g2) (.inr rfl) k (.int .i64 _)⟩
  · rw [← mixTo_set]
    exact (h1.storedN (by rw [mixTo_length]; exact l1) (j := k) hr).chg ((Chg.refl _ (fun q => q = g2)).setCell rfl k (.int .i64 _)) (fun q hq e => by cases hq; exact hne e)
  · rw [← mixI_set]
    exact (h2.chg ((Chg.refl _ (fun q => q = g1)).setCell rfl k (.float .f32 r)) (fun q hq e => by cases hq; exact hne e.symm)).stored (by rw [mixI_length]; exact l2) k _
end Go.Proofs.Ytibojlpeaolfbaa
