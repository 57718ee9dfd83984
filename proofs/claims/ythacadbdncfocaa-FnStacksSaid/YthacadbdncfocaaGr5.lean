/- Walks on a seat of gathers: a row of indices put in order by the library. -/
import Derived.Test.YthacadbdncfocaaGr4
namespace Go.Proofs.Ythacadbdncfocaa
open Go Go.RowKit Go.Shelf
open Go.Sort (grow putRow putCells mapBlock onCells Holds)

def intV (k : Nat) : Value := .int .i64 (k : Nat)
def OwnJ (w : World) (B : Nat) (v : Value) (js : List Nat) : Prop := w.ownsRow B 3 1 v js.length (js.map intV)
theorem OwnJ.kept {w w' : World} {B : Nat} {v : Value} {L : List Nat} (h : OwnJ w B v L) (hb : Below w.heap.size w w') : OwnJ w' B v L :=
  ownsRow_same h fun k hk => hb.block k (World.ownsRow.lt h k hk).2
theorem OwnJ.rd {w : World} {B : Nat} {v : Value} {L : List Nat} (h : OwnJ w B v L) : RdJ w v L := by
  have h0 := h
  rcases h.2 with ⟨rfl, hn⟩ | ⟨g, cap, cur, rfl, hb, hg, hn, _⟩
  · exact ⟨none, 0, by rw [hn], by omega, fun _ => rfl, fun j hj => by omega⟩
  · refine ⟨_, cap, rfl, hn, fun h => (by cases h), fun j hj => ⟨g, 0, _, rfl, ?_, rfl⟩⟩
    rw [Nat.zero_add, World.ownsRow.cellAt h0 j (by omega)]
    simp [intV, List.getElem?_map, List.getD_eq_getElem?_getD, List.getElem?_eq_getElem hj]
theorem Try.infoJ : (Try.prog.info? 3).map (fun i => (i.zero, i.size, i.bytes)) = some (some (.int .i64 0), 1, 8) := by kernel_rfl
def ltP (P : List Nat) (i j : Nat) : Bool := FloatKind.f32.format.order (P.getD i 0) (P.getD j 0) == some Ordering.lt
def encF {n : Nat} (x : Fin n) : Value := intV x.val
theorem take_put {α : Type} [Inhabited α] (enc : α → Value) (cur : Array Value) (F : Array α) (n : Nat) (hF : F.size = n) (h : n ≤ cur.size) : (putCells enc 0 F cur).toList.take n = F.toList.map enc := by
  apply List.ext_getElem?
  intro j
  by_cases hj : j < n
  · rw [List.getElem?_take_of_lt hj, Array.getElem?_toList, List.getElem?_map, Array.getElem?_toList]
    simp [putCells, hF, hj, show j < cur.size by omega, show j < F.size by omega]
  · rw [List.getElem?_take_eq_none (by omega), List.getElem?_eq_none (by simp; omega)]
theorem heap_put {α : Type} [Inhabited α] (enc : α → Value) (w : World) (m g : Nat) (d : Array α) (k : Nat) (h : k ≠ g) : ((putRow enc w g 0 d).drewN m).heap[k]? = w.heap[k]? := by
  have : g ≠ k := fun e => h e.symm
  show (putRow enc w g 0 d).heap[k]? = _
  simp [putRow, mapBlock, Array.getElem?_modify, this]
theorem OwnJ.sorted {w : World} {B g cap m n : Nat} [Inhabited (Fin n)] {ds ds' : List (Fin n)} (h : OwnJ w B (.slice (some ⟨g, 0, none⟩) ds.length cap) (ds.map Fin.val)) (hl : ds'.length = ds.length) :
    OwnJ ((putRow encF w g 0 ds'.toArray).drewN m) B (.slice (some ⟨g, 0, none⟩) ds.length cap) (ds'.map Fin.val) ∧ Chg w ((putRow encF w g 0 ds'.toArray).drewN m) (fun k => k = g) := by
  obtain ⟨h1, h2⟩ := h
  rw [List.length_map] at h2
  rcases h2 with ⟨h0, -⟩ | ⟨g', cap', cur, hv, hb, hg, hn, hc, hs, ht⟩
  · cases h0
  · obtain ⟨rfl, rfl⟩ : g = g' ∧ cap = cap' := by cases hv; exact ⟨rfl, rfl⟩
    have hheap : ((putRow encF w g 0 ds'.toArray).drewN m).heap[g]? = some (.cells (putCells encF 0 ds'.toArray cur) 3 (0, 0)) := by
      show (putRow encF w g 0 ds'.toArray).heap[g]? = _
      simp [putRow, mapBlock, Array.getElem?_modify, hg, onCells]
    refine ⟨⟨by simp, .inr ⟨g, cap, _, by rw [List.length_map, hl], hb, hheap, by rw [List.length_map, hl]; exact hn, hc, by simp [putCells, hs], ?_⟩⟩, ⟨rfl, rfl, rfl, by show w.heap.size ≤ (putRow encF w g 0 ds'.toArray).heap.size; simp [putRow, mapBlock], fun k hk hne => heap_put encF w m g _ k hne⟩⟩
    rw [List.length_map, Nat.mul_one, take_put encF cur _ ds'.length (by simp) (by rw [hs, hl]; omega)]
    simp [encF]
theorem cmpO_lt (x y : Nat) : decide (cmpO x y < 0) = (FloatKind.f32.format.order x y == some Ordering.lt) := by
  unfold cmpO
  cases FloatKind.f32.format.order x y with
  | none => rfl
  | some q => cases q <;> rfl
theorem ltOfP (P : List Nat) (n : Nat) : (ltOf fun x y : Fin n => cmpO (P.getD x.val 0) (P.getD y.val 0)) = fun x y => ltP P x.val y.val := by
  funext x y
  exact cmpO_lt _ _
end Go.Proofs.Ythacadbdncfocaa
