/- Walks: rows of frames put in order by the library. -/
import Derived.Test.YtibojlpeaolfbaaCmp
import Derived.Sort.OwnSorted
namespace Go.Proofs.Ytibojlpeaolfbaa
open Go Go.RowKit
open Go.Sort (grow putRow putCells mapBlock onCells Holds flatK get_flatK HoldsK putRowK)

theorem flatK_is (Es : List FE) : flatK encE 3 Es.toArray = (encEs Es).toArray := by
  have hl := encEs_length Es
  apply Array.ext
  · simp [hl]
  · intro i h1 h2
    have h3 : i < Es.length * 3 := by simpa using h1
    have e1 := get_flatK encE 3 Es.toArray i (by simpa using h3)
    rw [getElem!_pos _ i h1] at e1
    rw [e1]
    have e2 := encEs_at Es (i / 3) (i % 3) (by omega) (Nat.mod_lt _ (by decide))
    rw [show i / 3 * 3 + i % 3 = i by omega, List.getElem?_eq_getElem (by omega)] at e2
    have e3 : Es.toArray[i / 3]! = feAt Es (i / 3) := by
      rw [getElem!_pos _ _ (by simp; omega), feAt_eq (by omega)]
      simp
    rw [e3, List.getElem!_eq_getElem?_getD, ← e2]
    simp
theorem OwnR.holds {w : World} {B g cap : Nat} {Es : List FE} (h : OwnR w B (.slice (some ⟨g, 0, none⟩) Es.length cap) Es) : HoldsK encE 3 w g 0 Es.toArray := by
  unfold HoldsK
  rw [flatK_is]
  intro j hj
  have hj' : j < (encEs Es).length := by simpa using hj
  have h0 : w.ownsRow B 31 3 (.slice (some ⟨g, 0, none⟩) Es.length cap) Es.length (encEs Es) := h
  rw [Nat.zero_add]
  refine ⟨?_, h0.frozenAt j⟩
  rw [h0.cellAt j (by rw [← encEs_length]; exact hj'), getElem!_pos _ j (by simpa using hj')]
  simp
theorem take_putId (cur F : Array Value) (n : Nat) (hF : F.size = n) (h : n ≤ cur.size) : (putCells id 0 F cur).toList.take n = F.toList := by
  apply List.ext_getElem?
  intro j
  by_cases hj : j < n
  · rw [List.getElem?_take_of_lt hj, Array.getElem?_toList, Array.getElem?_toList]
    simp [putCells, hF, hj, show j < cur.size by omega, show j < F.size by omega]
  · rw [List.getElem?_take_eq_none (by omega), List.getElem?_eq_none (by simp; omega)]
theorem OwnR.sorted {w : World} {B g cap n : Nat} {Es Es' : List FE} {os : Array Obj} (h : OwnR w B (.slice (some ⟨g, 0, none⟩) Es.length cap) Es) (hl : Es'.length = Es.length) :
    OwnR (grow (putRowK encE 3 (Sort.ahead w n) g 0 Es'.toArray) os) B (.slice (some ⟨g, 0, none⟩) Es.length cap) Es' ∧ Chg w (grow (putRowK encE 3 (Sort.ahead w n) g 0 Es'.toArray) os) (fun k => k = g) := by
  obtain ⟨h1, h2⟩ := h
  unfold putRowK
  rw [flatK_is]
  have hz : (encEs Es').length = Es.length * 3 := by rw [encEs_length, hl]
  have hblk : ∀ k, k < w.heap.size → k ≠ g → (grow (putRow id (Sort.ahead w n) g 0 (encEs Es').toArray) os).heap[k]? = w.heap[k]? := fun k hk hne => by
    rw [Go.Sort.heap_grow_old _ _ (by simpa using hk)]
    have : g ≠ k := fun e => hne e.symm
    simp [putRow, mapBlock, Sort.ahead, Array.getElem?_modify, this]
  rcases h2 with ⟨h0, -⟩ | ⟨g', cap', cur, hv, hb, hg, hn, hc, hs, ht⟩
  · cases h0
  · obtain ⟨rfl, rfl⟩ : g = g' ∧ cap = cap' := by cases hv; exact ⟨rfl, rfl⟩
    have hgs : g < w.heap.size := (Array.getElem?_eq_some_iff.1 hg).1
    have hheap : (grow (putRow id (Sort.ahead w n) g 0 (encEs Es').toArray) os).heap[g]? = some (.cells (putCells id 0 (encEs Es').toArray cur) 31 (0, 0)) := by
      rw [Go.Sort.heap_grow_old _ _ (by simpa using hgs)]
      simp [putRow, mapBlock, Sort.ahead, Array.getElem?_modify, hg, onCells]
    refine ⟨⟨by rw [encEs_length], .inr ⟨g, cap, _, by rw [hl], hb, hheap, by rw [hl]; exact hn, hc, by simp [putCells, hs], ?_⟩⟩, ⟨rfl, rfl, rfl, by simp [grow, Sort.ahead], hblk⟩⟩
    rw [hl, take_putId cur _ (Es.length * 3) (by simpa using hz) (by rw [hs]; exact Nat.mul_le_mul_right _ hn)]

theorem ltOfE : (fun x y : FE => decide (cmpF x.f y.f < 0)) = ltE := by
  funext x y
  exact cmpF_lt x.f y.f
theorem insSortE_any (w : World) (B g cap : Nat) (Es : List FE) (h : OwnR w B (.slice (some ⟨g, 0, none⟩) Es.length cap) Es) (hl : Es.length ≤ 1000) :
    Calls Try.prog 147 #[.slice (some ⟨g, 0, none⟩) Es.length cap, .int .i64 0, .int .i64 Es.length, .func (.func 109) #[] #[]] w fun e w' =>
      e = .returned (.tuple #[]) ∧ OwnR w' B (.slice (some ⟨g, 0, none⟩) Es.length cap) (insAll ltE [] Es) ∧ Chg w w' (fun k => k = g) := by
  have hgs : g < w.heap.size := (World.ownsRow.lt h g rfl).2
  have hc := AnyQ.insertionSortCmpFunc Try.laysF20 3 Try.isAgg31 Try.sizeOf31 encE encE_length encE_one (fun x y => cmpF x.f y.f) 109 #[] g 0 cap 0 Es.length Es.toArray w
    (fun args w => run_enter Try.func109 (by kernel_rfl) (by kernel_rfl) args w)
    (fun m os dk hd x y => (sortedCmp_any _ x y).mono fun e w' ⟨he, q, os', hq⟩ => ⟨he, q, os', hq⟩)
    h.holds hgs (Nat.zero_le _) (by simp) (by simp; omega)
  have hs : Es.toArray.size = Es.length := by simp
  rw [hs] at hc
  refine Calls.mono hc fun e w' ⟨he, n, os, hw⟩ => ?_
  subst he hw
  have key : (Go.Sort.insertionSort (ltOf fun x y : FE => cmpF x.f y.f) Es.toArray 0 Es.length) = (insAll ltE [] Es).toArray := by
    have := insertionSort_is ltE Es.toArray
    have e2 : ltOf (fun x y : FE => cmpF x.f y.f) = ltE := ltOfE
    rw [e2, ← hs, ← this]
  have := OwnR.sorted (n := n) (os := os) h (Es' := insAll ltE [] Es) (by rw [insAll_length]; simp)
  unfold sortWorldK
  rw [key]
  exact ⟨rfl, this⟩
end Go.Proofs.Ytibojlpeaolfbaa
