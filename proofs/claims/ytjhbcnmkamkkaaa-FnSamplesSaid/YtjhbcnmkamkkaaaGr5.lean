/- Walks on a seat of gathers: a row of indices put in order by the library. -/
import Derived.Test.YtjhbcnmkamkkaaaGr4
namespace Go.Proofs.Ytjhbcnmkamkkaaa
open Go Go.RowKit Go.Shelf
open Go.Sort (grow putRow putCells mapBlock onCells Holds)

def intV (k : Nat) : Value := .int .i64 (k : Nat)
def OwnJ (w : World) (B : Nat) (v : Value) (js : List Nat) : Prop := w.ownsRow B 3 1 v js.length (js.map intV)
theorem OwnJ.kept {w w' : World} {B : Nat} {v : Value} {L : List Nat} (h : OwnJ w B v L) (hb : Below w.heap.size w w') : OwnJ w' B v L :=
  ownsRow_same h fun k hk => hb.block k (World.ownsRow.lt h k hk).2
theorem OwnJ.rd {w : World} {B : Nat} {v : Value} {L : List Nat} (h : OwnJ w B v L) : RdJ w v L := by
  have h0 := h
  rcases h.2 with ⟨rfl, hn⟩ | ⟨g, cap, cur, rfl, hb, hg, hn, _⟩
  · exact ⟨none, 0, by rw [hn], by omega, fun _ => rfl, fun j hj => by omega⟩
  · refine ⟨_, cap, rfl, hn, fun h => (by cases h), fun j hj => ⟨g, 0, _, rfl, ?_, rfl⟩⟩
    rw [Nat.zero_add, World.ownsRow.cellAt h0 j (by omega)]
    simp [intV, List.getElem?_map, List.getD_eq_getElem?_getD, List.getElem?_eq_getElem hj]
theorem Try.infoJ : (Try.prog.info? 3).map (fun i => (i.zero, i.size, i.bytes)) = some (some (.int .i64 0), 1, 8) := by kernel_rfl
def ltP (P : List Nat) (i j : Nat) : Bool := FloatKind.f32.format.order (P.getD i 0) (P.getD j 0) == some Ordering.lt
def encF {n : Nat} (x : Fin n) : Value := intV x.val
theorem take_put {α : Type} [Inhabited α] (enc : α → Value) (cur : Array Value) (F : Array α) (n : Nat) (hF : F.size = n) (h : n ≤ cur.size) : (putCells enc 0 F cur).toList.take n = F.toList.map enc := by
  apply List.ext_getElem?
  intro j
  by_cases hj : j < n
  · rw [List.getElem?_take_of_lt hj, Array.getElem?_toList, List.getElem?_map, Array.getElem?_toList]
    simp [putCells, hF, hj, show j < cur.size by omega, show j < F.size by omega]
  · rw [List.getElem?_take_eq_none (by omega), List.getElem?_eq_none (by simp; omega)]
theorem heap_put {α : Type} [Inhabited α] (enc : α → Value) (w : World) (m g : Nat) (d : Array α) (k : Nat) (h : k ≠ g) : ((putRow enc w g 0 d).drewN m).heap[k]? = w.heap[k]? := by
  have : g ≠ k := fun e => h e.symm
  show (putRow enc w g 0 d).heap[k]? = _
  simp [putRow, mapBlock, Array.getElem?_modify, this]
theorem OwnJ.sorted {w : World} {B g cap m n : Nat} [Inhabited (Fin n)] {ds ds' : List (Fin n)} (h : OwnJ w B (.slice (some ⟨g, 0, none⟩) ds.length cap) (ds.map Fin.val)) (hl : ds'.length = ds.length) :
    OwnJ ((putRow encF w g 0 ds'.toArray).drewN m) B (.slice (some ⟨g, 0, none⟩) ds.length cap) (ds'.map Fin.val) ∧ Chg w ((putRow encF w g 0 ds'.toArray).drewN m) (fun k => k = g) := by
  obtain ⟨h1, h2⟩ := h
  rw [List.length_map] at h2
  rcases h2 with ⟨h0, -⟩ | ⟨g', cap', cur, hv, hb, hg, hn, hc, hs, ht⟩
  · cases h0
  · obtain ⟨rfl, rfl⟩ : g = g' ∧ cap = cap' := by cases hv; exact ⟨rfl, rfl⟩
    have hheap : ((putRow encF w g 0 ds'.toArray).drewN m).heap[g]? = some (.cells (putCells encF 0 ds'.toArray cur) 3 (0, 0)) := by
      show (putRow encF w g 0 ds'.toArray).heap[g]? = _
      simp [putRow, mapBlock, Array.getElem?_modify, hg, onCells]
    refine ⟨⟨by simp, .inr ⟨g, cap, _, by rw [List.length_map, hl], hb, hheap, by rw [List.length_map, hl]; exact hn, hc, by simp [putCells, hs], ?_⟩⟩, ⟨rfl, rfl, rfl, by show w.heap.size ≤ (putRow encF w g 0 ds'.toArray).heap.size; simp [putRow, mapBlock], fun k hk hne => heap_put encF w m g _ k hne⟩⟩
    rw [List.length_map, Nat.mul_one, take_put encF cur _ ds'.length (by simp) (by rw [hs, hl]; omega)]
    simp [encF]
/-- What the sort asks of the closure: in each world that differs in the row alone, it compares two places. -/
def SortOk (w : World) (g gb : Nat) (P : List Nat) : Prop :=
  ∀ wq, (∀ k, k < w.heap.size → k ≠ g → wq.heap[k]? = w.heap[k]?) → ∀ i j, i < P.length → j < P.length →
    Calls Try.prog 93 #[.int .i64 i, .int .i64 j, .pointer (some ⟨gb, 0, none⟩)] wq fun e w' => e = .returned (.int .i64 (cmpO (P.getD i 0) (P.getD j 0))) ∧ ∃ q, w' = wq.drewN q
theorem cmpO_lt (x y : Nat) : decide (cmpO x y < 0) = (FloatKind.f32.format.order x y == some Ordering.lt) := by
  unfold cmpO
  cases FloatKind.f32.format.order x y with
  | none => rfl
  | some q => cases q <;> rfl
theorem ltOfP (P : List Nat) (n : Nat) : (ltOf fun x y : Fin n => cmpO (P.getD x.val 0) (P.getD y.val 0)) = fun x y => ltP P x.val y.val := by
  funext x y
  exact cmpO_lt _ _
theorem insSortJ_any (w : World) (B g cap gb : Nat) (P : List Nat) (hp : 0 < P.length) (ds : List (Fin P.length)) (h : OwnJ w B (.slice (some ⟨g, 0, none⟩) ds.length cap) (ds.map Fin.val)) (hl : ds.length ≤ 1000) (hk : SortOk w g gb P) :
    Calls Try.prog 131 #[.slice (some ⟨g, 0, none⟩) ds.length cap, .int .i64 0, .int .i64 ds.length, .func (.func 93) #[] #[.pointer (some ⟨gb, 0, none⟩)]] w fun e w' =>
      e = .returned (.tuple #[]) ∧ OwnJ w' B (.slice (some ⟨g, 0, none⟩) ds.length cap) (insAll (ltP P) [] (ds.map Fin.val)) ∧ Chg w w' (fun k => k = g) := by
  haveI : Inhabited (Fin P.length) := ⟨⟨0, hp⟩⟩
  have h0 : w.ownsRow B 3 1 (.slice (some ⟨g, 0, none⟩) ds.length cap) ds.length ((ds.map Fin.val).map intV) := by have := h; unfold OwnJ at this; rwa [List.length_map] at this
  have hc := Any.insertionSortCmpFunc_one Try.laysN20 (encF (n := P.length)) (fun x => rfl) (fun x y => cmpO (P.getD x.val 0) (P.getD y.val 0)) 93 #[.pointer (some ⟨gb, 0, none⟩)] g 0 cap 0 ds.length ds.toArray w
    (fun args w => run_enter Try.func93 (by kernel_rfl) (by kernel_rfl) args w)
    (fun m os dk hd x y => hk _ (fun k hk hne => by
      unfold sortWorld
      rw [Go.Sort.heap_grow_old _ _ (by simpa [putRow, mapBlock, Sort.ahead] using hk)]
      have : g ≠ k := fun e => hne e.symm
      simp [putRow, mapBlock, Sort.ahead, Array.getElem?_modify, this]) x.val y.val x.isLt y.isLt)
    (fun j hj => by
      have hj' : j < ds.length := by simpa using hj
      rw [Nat.zero_add]
      refine ⟨?_, World.ownsRow.frozenAt h0 j⟩
      rw [World.ownsRow.cellAt h0 j (by simpa using hj'), getElem!_pos _ j (by simpa using hj')]
      simp [hj', encF])
    (Nat.zero_le _) (by simp) (by simp; omega)
  have hs : ds.toArray.size = ds.length := by simp
  rw [hs] at hc
  refine Calls.mono hc fun e w' ⟨he, n, hw⟩ => ?_
  subst he hw
  have key : (Go.Sort.insertionSort (ltOf fun x y : Fin P.length => cmpO (P.getD x.val 0) (P.getD y.val 0)) ds.toArray 0 ds.length) = (insAll (fun x y : Fin P.length => ltP P x.val y.val) [] ds).toArray := by
    have := insertionSort_is (fun x y : Fin P.length => ltP P x.val y.val) ds.toArray
    rw [ltOfP, ← hs, ← this]
  have := OwnJ.sorted (m := n) h (ds' := insAll (fun x y : Fin P.length => ltP P x.val y.val) [] ds) (by rw [insAll_length]; simp)
  rw [insAll_map (fun x y : Fin P.length => ltP P x.val y.val) Fin.val (ltP P) (fun _ _ => rfl)] at this
  rw [key]
  exact ⟨rfl, this⟩
set_option maxRecDepth 100000 in
set_option maxHeartbeats 800000 in
theorem stableJ_any (w : World) (B g cap gb : Nat) (P : List Nat) (hp : 0 < P.length) (ds : List (Fin P.length)) (h : OwnJ w B (.slice (some ⟨g, 0, none⟩) ds.length cap) (ds.map Fin.val)) (hl : ds.length ≤ 12) (hk : SortOk w g gb P) :
    Calls Try.prog 118 #[.slice (some ⟨g, 0, none⟩) ds.length cap, .int .i64 ds.length, .func (.func 93) #[] #[.pointer (some ⟨gb, 0, none⟩)]] w fun e w' =>
      e = .returned (.tuple #[]) ∧ OwnJ w' B (.slice (some ⟨g, 0, none⟩) ds.length cap) (insAll (ltP P) [] (ds.map Fin.val)) ∧ Chg w w' (fun k => k = g) := by
  have HK := Lib.hid (insSortJ_any w B g cap gb P hp ds h (by omega) hk)
  clear h hk
  have hz : ¬ ((20 : Int) ≤ (ds.length : Int)) := by omega
  have hz2 : ¬ ((20 : Int) < (ds.length : Int)) := by omega
  go_enter Try.func118, Try.ntmps118
  go_wp2_with fail
  refine wp_loop_rounds 1 ?_
  rw [rounds_succ]
  go_wp2_with fail
  refine HK.out.mono ?_
  clear HK
  rintro e w1 ⟨rfl, o1, g1⟩
  have O1 := Lib.hid o1
  clear o1
  go_wp2_with fail
  refine wp_loop_rounds 1 ?_
  rw [rounds_succ]
  go_wp2
  go_end0
  exact ⟨rfl, O1.out, g1⟩
set_option maxRecDepth 100000 in
set_option maxHeartbeats 800000 in
theorem sortStableJ_any (w : World) (B g cap gb : Nat) (P : List Nat) (hp : 0 < P.length) (ds : List (Fin P.length)) (h : OwnJ w B (.slice (some ⟨g, 0, none⟩) ds.length cap) (ds.map Fin.val)) (hl : ds.length ≤ 12) (hk : SortOk w g gb P) :
    Calls Try.prog 92 #[.slice (some ⟨g, 0, none⟩) ds.length cap, .func (.func 93) #[] #[.pointer (some ⟨gb, 0, none⟩)]] w fun e w' =>
      e = .returned (.tuple #[]) ∧ OwnJ w' B (.slice (some ⟨g, 0, none⟩) ds.length cap) (insAll (ltP P) [] (ds.map Fin.val)) ∧ Chg w w' (fun k => k = g) := by
  have HK := Lib.hid (stableJ_any w B g cap gb P hp ds h hl hk)
  clear h hk
  go_enter Try.func92, Try.ntmps92
  go_wp2_with fail
  refine HK.out.mono ?_
  clear HK
  rintro e w1 ⟨rfl, o1, g1⟩
  have O1 := Lib.hid o1
  clear o1
  go_wp2
  go_end0
  exact ⟨rfl, O1.out, g1⟩
end Go.Proofs.Ytjhbcnmkamkkaaa
