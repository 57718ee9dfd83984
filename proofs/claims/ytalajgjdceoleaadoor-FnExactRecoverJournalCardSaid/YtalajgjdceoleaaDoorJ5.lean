/- Walks: lines that come in: sizes, copies, equal ones. -/
import Derived.Test.YtalajgjdceoleaaDoorJ4
namespace Go.Proofs.YtalajgjdceoleaaDoor
open Go Go.RowKit

/-- What a size leaves: less than nothing, or no more than there was, and then 'ok'. -/
def Left (left : Int) (ok : Prop) (m : Int) : Prop := m = -1 ∨ (0 ≤ m ∧ m ≤ left ∧ ok)
def smallS (L : List ByteArray) : Prop := L.length ≤ 1048576 ∧ ∀ j, j < L.length → (lnAt L j).size ≤ 1048576
theorem Tryd.infoStr : (Tryd.prog.info? 9).map (fun i => (i.zero, i.size, i.bytes)) = some (some (.string ⟨#[]⟩), 1, 16) := by kernel_rfl

set_option maxRecDepth 100000 in
set_option maxHeartbeats 800000 in
theorem szStringS_any (w : World) (v : Value) (L : List ByteArray) (left : Int) (h : RdStr w v L) (h0 : 0 ≤ left) (hl : left ≤ 1048576) (hn : L.length ≤ maxLen) (hm : ∀ j, j < L.length → (lnAt L j).size ≤ maxLen) :
    Calls Tryd.prog 5 #[v, .int .i64 left] w fun e w' => ∃ m, e = .returned (.int .i64 m) ∧ Left left (smallS L) m ∧ w' = w := by
  obtain ⟨a, c, rfl, hc, -, hcell⟩ := h.opened
  have hw : IntKind.i64.wrap (left - (L.length : Int)) = left - (L.length : Int) := IntWalk.i64_in _ (by unfold maxLen at hn; omega)
  by_cases hlt : left - (L.length : Int) < 0
  · go_enter Tryd.func5, Tryd.ntmps5
    go_wp2
    go_ret
    exact ⟨_, rfl, .inl rfl, rfl⟩
  · go_enter Tryd.func5, Tryd.ntmps5
    go_wp2
    clear hw
    have hlen : L.length ≤ 1048576 := by omega
    go_loop [1, 5] (fun q i => ∃ (j : Nat) (m : Int), j ≤ L.length ∧ i = .int .i64 j ∧ q = .int .i64 m ∧ 0 ≤ m ∧ m ≤ left ∧ ∀ t, t < j → (lnAt L t).size ≤ 1048576) (fun _ i => L.length - (intOf i).toNat)
    case atStart => exact ⟨0, _, Nat.zero_le _, rfl, rfl, by omega, by omega, fun t ht => by omega⟩
    case round =>
      obtain ⟨j, m, hj, rfl, rfl, h1, h2, h3⟩ := hrel
      by_cases hlj : j < L.length
      · obtain ⟨b, o, rfl, hlb, d0⟩ := hcell j hlj
        have hmj := hm j hlj
        have H3 := Lib.hid h3
        obtain ⟨s, hse⟩ : ∃ s, lnAt L j = s := ⟨_, rfl⟩
        rw [hse] at d0 hmj
        have HSE := Lib.hid hse
        have hw2 : IntKind.i64.wrap (m - (s.size : Int)) = m - (s.size : Int) := IntWalk.i64_in _ (by unfold maxLen at hmj; omega)
        clear hcell h3 hse
        by_cases hlt2 : m - (s.size : Int) < 0
        · go_wp2
          go_ret
          exact ⟨_, rfl, .inl rfl, rfl⟩
        · go_wp2
          refine ⟨⟨j + 1, _, by omega, by go_num, rfl, by omega, by omega, fun t ht => ?_⟩, by simp [intOf]; omega⟩
          rcases Nat.lt_or_ge t j with h4 | h4
          · exact H3.out t h4
          · obtain rfl : t = j := by omega
            rw [HSE.out]; omega
      · obtain rfl : j = L.length := by omega
        go_wp2
        go_ret
        exact ⟨_, rfl, .inr ⟨h1, h2, hlen, h3⟩, rfl⟩

def upS (L : List ByteArray) (k : Nat) : List ByteArray := (List.range L.length).map fun i => if i < k then lnAt L i else ⟨#[]⟩
theorem upS_length (L : List ByteArray) (k : Nat) : (upS L k).length = L.length := by simp [upS]
theorem upS_zero (L : List ByteArray) : upS L 0 = List.replicate L.length ⟨#[]⟩ := by
  apply List.ext_getElem?
  intro j
  by_cases hj : j < L.length
  · simp [upS, hj]
  · simp [upS, hj]
theorem upS_all (L : List ByteArray) (k : Nat) (h : L.length ≤ k) : upS L k = L := by
  apply List.ext_getElem?
  intro j
  by_cases hj : j < L.length
  · simp [upS, hj, show j < k by omega, lnAt]
  · simp [upS, hj, List.getElem?_eq_none (show L.length ≤ j by omega)]
theorem upS_set (L : List ByteArray) (k : Nat) : (upS L k).set k (lnAt L k) = upS L (k + 1) := by
  apply List.ext_getElem?
  intro j
  rw [List.getElem?_set]
  by_cases hj : j < L.length
  · by_cases hkj : k = j
    · subst hkj
      simp [upS, hj]
    · rw [if_neg hkj]
      simp only [upS, List.getElem?_map, List.getElem?_range hj, Option.map_some]
      by_cases h1 : j < k
      · rw [if_pos h1, if_pos (by omega)]
      · rw [if_neg h1, if_neg (by omega)]
  · have e1 : (upS L k)[j]? = none := List.getElem?_eq_none (by rw [upS_length]; omega)
    have e2 : (upS L (k + 1))[j]? = none := List.getElem?_eq_none (by rw [upS_length]; omega)
    rw [e1, e2]
    split
    · rw [if_neg (by rw [upS_length]; omega)]
    · rfl
/-- 'make([]string, n)'. -/
theorem wpList_mkS {ops : Array Oper} {rest : List Oper} {o : Oper} {a : Act} {w : World} {Q : Exit → Act → World → Prop} (hg : o.guard = none) (l c : Operand)
    (hop : o.op = Op.makeSlice 22 l c) (B : Nat) (kl kc : IntKind) (L C : Int) (n : Nat) (hl : a.eval l = .int kl L) (hc : a.eval c = .int kc C) (hL : L = (n : Int)) (hC : C = (n : Int)) (hn : n ≤ 1048576) (hB : B ≤ w.heap.size)
    (h : ∀ w', OwnStr w' B (.slice (some ⟨w.heap.size, 0, none⟩) n n) (List.replicate n ⟨#[]⟩) → Below w.heap.size w w' → w.heap.size < w'.heap.size → wpList Tryd.prog ops Q rest (a.put o.dst (.slice (some ⟨w.heap.size, 0, none⟩) n n)) w') : wpList Tryd.prog ops Q (o :: rest) a w := by
  obtain ⟨i0, hi, hz0, hz1, hz2⟩ := info_parts Tryd.infoStr
  refine wpList_make_full w hg l c 22 hop B 9 i0 (.string ⟨#[]⟩) 1 Tryd.underlying22 hi hz0 hz1 kl kc L C n hl hc hL hC (by rw [hz2]; omega) (by unfold maxLen; omega) hB ?_
  intro w' h1 h2
  have e : (madeCells (Value.string ⟨#[]⟩).cells (n * 1)).toList = (List.replicate n (⟨#[]⟩ : ByteArray)).map Value.string := by
    rw [Nat.mul_one]
    show (madeCells #[Value.string ⟨#[]⟩] n).toList = _
    rw [toList_madeCells_one]; simp
  rw [e] at h1
  have hlt := (h1.lt w.heap.size rfl).2
  exact h w' (by unfold OwnStr; rw [List.length_replicate]; exact h1) ((Below.refl _ _).grown h2 (Nat.le_refl _) fun k hk => (by cases hk)) hlt

set_option maxRecDepth 100000 in
set_option maxHeartbeats 800000 in
theorem toStringS_any (w : World) (v : Value) (L : List ByteArray) (hL : RdStr w v L) (hmax : L.length ≤ 1048576) :
    Calls Tryd.prog 7 #[v] w fun e w' => ∃ v', e = .returned v' ∧ OwnStr w' w.heap.size v' L ∧ Below w.heap.size w w' := by
  obtain ⟨a, c, rfl, hc, hz, hcell⟩ := hL.opened
  clear hz
  go_enter Tryd.func7, Tryd.ntmps7
  go_wp2_with (refine wpList_mkS rfl _ _ rfl w.heap.size _ _ _ _ L.length rfl rfl rfl rfl hmax (Nat.le_refl _) ?_; intro w1 h1 hb1 hs1)
  go_loopw [4] (fun i wr => ∃ k : Nat, k ≤ L.length ∧ i = .int .i64 k ∧ OwnStr wr w.heap.size (.slice (some ⟨w.heap.size, 0, none⟩) L.length L.length) (upS L k) ∧ Below w.heap.size w wr) (fun i _ => L.length - (intOf i).toNat)
  case atStart => exact ⟨0, Nat.zero_le _, rfl, by rw [upS_zero]; exact h1, hb1⟩
  case round =>
    obtain ⟨k, hk, rfl, ho, hbr⟩ := hrel
    by_cases hlt : k < L.length
    · obtain ⟨b, o, rfl, hlb, c1⟩ := hcell k hlt
      have c1' : wr.cell? ⟨b, o + k, none⟩ = some (.string (lnAt L k)) := ((bcell hbr).1 _ _ hlb).trans c1
      have hw0 : wr.ownsRow w.heap.size 9 1 (.slice (some ⟨w.heap.size, 0, none⟩) L.length L.length) L.length ((upS L k).map Value.string) := by
        have h5 := ho
        unfold OwnStr at h5
        rw [upS_length] at h5
        exact h5
      have c3 : wr.cell? ⟨w.heap.size, k, none⟩ = some (.string ((upS L k).getD k ⟨#[]⟩)) := by
        rw [World.ownsRow.cellAt hw0 k (by omega)]
        simp [List.getElem?_map, List.getElem?_eq_getElem (show k < (upS L k).length by rw [upS_length]; exact hlt)]
      have hfr : wr.frozen? ⟨w.heap.size, k, none⟩ = false := World.ownsRow.frozenAt hw0 k
      have ho' := Lib.hid hw0
      clear ho hw0 hcell h1 c1
      go_wp2
      refine ⟨⟨k + 1, by omega, by go_num, ?_, hbr.setCell (Nat.le_refl _) _⟩, by simp [intOf]; omega⟩
      have h2 := (ho'.out.stored k (.string (lnAt L k))).1
      rw [← upS_set]
      unfold OwnStr
      rw [List.length_set, List.map_set, upS_length]
      exact h2
    · go_wp2
      go_ret
      rw [upS_all _ _ (by omega)] at ho
      exact ⟨_, rfl, ho, hbr⟩

set_option maxRecDepth 100000 in
set_option maxHeartbeats 800000 in
theorem eqStringS_any (w : World) (v1 v2 : Value) (L : List ByteArray) (h1 : RdStr w v1 L) (h2 : RdStr w v2 L) (hmax : L.length ≤ 1048576) :
    Calls Tryd.prog 9 #[v1, v2] w fun e w' => e = .returned (.bool true) ∧ ∃ n, w' = w.drewN n := by
  obtain ⟨a1, c1, rfl, -, -, hcell1⟩ := h1.opened
  obtain ⟨a2, c2, rfl, -, -, hcell2⟩ := h2.opened
  go_enter Tryd.func9, Tryd.ntmps9
  go_wp2_with fail
  go_loopw [5] (fun i wr => ∃ k n : Nat, k ≤ L.length ∧ i = .int .i64 k ∧ wr = w.drewN n) (fun i _ => L.length - (intOf i).toNat)
  case atStart => exact ⟨0, 0, Nat.zero_le _, rfl, rfl⟩
  case round =>
    obtain ⟨k, n, hk, rfl, hwr⟩ := hrel
    by_cases hlt : k < L.length
    · obtain ⟨b, o, rfl, hlb, d1⟩ := hcell1 k hlt
      obtain ⟨b', o', rfl, hlb', d2⟩ := hcell2 k hlt
      have d1' : wr.cell? ⟨b, o + k, none⟩ = some (.string (lnAt L k)) := by rw [hwr]; exact d1
      have d2' : wr.cell? ⟨b', o' + k, none⟩ = some (.string (lnAt L k)) := by rw [hwr]; exact d2
      have hwr' := Lib.hid hwr
      generalize lnAt L k = s at *
      clear hwr hcell1 hcell2 d1 d2
      go_wp2
      refine region_rel_all (by kernel_rfl) (by kernel_rfl) (Drawn wr) (fun _ _ v => v = .bool true) ⟨1, rfl⟩ ?_
      repeat (refine wpRel_draw rfl rfl (fun nq K hK => ?_); go_wp2)
      refine wpRel_nil ?_
      rintro w4 ⟨n4, hw4⟩
      have hw4' := Lib.hid hw4
      clear hw4
      go_wp2
      exact ⟨⟨k + 1, n + n4, by omega, by go_num, by rw [hw4'.out, hwr'.out, World.drewN_drewN]⟩, by simp [intOf]; omega⟩
    · go_wp2
      go_ret
      exact ⟨rfl, n, by first | exact hwr | rfl⟩
end Go.Proofs.YtalajgjdceoleaaDoor
