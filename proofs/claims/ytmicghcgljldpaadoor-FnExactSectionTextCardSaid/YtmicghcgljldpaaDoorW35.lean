/- Walks: texts of lists of numbers. -/
import Derived.Test.YtmicghcgljldpaaDoorW34
import Derived.Test.YtmicghcgljldpaaDoorW32
namespace Go.Proofs.YtmicghcgljldpaaDoor
open Go Go.RowKit

def txt (L : List Nat) (j : Nat) : List UInt8 := Lib.join ((L.take j).map (digs 8)) [44]
theorem txt_one (L : List Nat) (h : 0 < L.length) : txt L 1 = digs 8 (L.getD 0 0) := by
  cases L with
  | nil => cases h
  | cons x r => exact Lib.join_one _ _
theorem txt_succ (L : List Nat) (j : Nat) (h1 : 1 ≤ j) (h : j < L.length) : txt L (j + 1) = txt L j ++ ([44] ++ digs 8 (L.getD j 0)) := by
  cases L with
  | nil => cases h
  | cons x r =>
    obtain ⟨j, rfl⟩ : ∃ i, j = i + 1 := ⟨j - 1, by omega⟩
    have hj : j < r.length := by simpa using h
    unfold txt
    rw [List.take_succ_cons, List.take_succ_cons, List.map_cons, List.map_cons, Lib.join_cons, Lib.join_cons, List.map_take, List.map_take,
      Lib.joinTail_take_succ [44] (r.map (digs 8)) j (digs 8 (r.getD j 0)) (by simp [List.getElem?_map, List.getD_eq_getElem?_getD, List.getElem?_eq_getElem hj])]
    simp [List.append_assoc]
theorem txt_length (L : List Nat) (j : Nat) (h1 : 1 ≤ j) (h : j ≤ L.length) : (txt L j).length + 1 = 9 * j := by
  induction j with
  | zero => omega
  | succ j ih =>
    rcases Nat.eq_zero_or_pos j with rfl | hj
    · rw [txt_one L (by omega), digs_length]
    · rw [txt_succ L j hj (by omega), List.length_append, List.length_append, digs_length]
      have := ih hj (by omega)
      simp only [List.length_singleton]
      omega
theorem getD_in {L : List Nat} {j : Nat} (h : j < L.length) : L.getD j 0 = L[j] := by simp [List.getD_eq_getElem?_getD, List.getElem?_eq_getElem h]
def numT (L : List Nat) : ByteArray := if L = [] then ⟨#[110, 111, 110, 101]⟩ else ⟨(txt L L.length).toArray⟩
theorem numT_nil : numT [] = ⟨#[110, 111, 110, 101]⟩ := rfl
theorem numT_cons {L : List Nat} (h : 0 < L.length) : numT L = ⟨(txt L L.length).toArray⟩ := by
  unfold numT
  rw [if_neg (by intro e; rw [e] at h; cases h)]

set_option maxRecDepth 100000 in
set_option maxHeartbeats 800000 in
theorem l01NText_any (w : World) (v : Value) (L : List Nat) (h : RdF w v L) (hm : L.length ≤ 1048576) :
    Calls Tryd.prog 52 #[v] w fun e w' => e = .returned (.string (numT L)) ∧ Below w.heap.size w w' := by
  obtain ⟨a, c, rfl, hc, -, hcell⟩ := h.opened
  have H := Lib.hid h
  clear h
  by_cases hl : 0 < L.length
  · rw [numT_cons hl]
    obtain ⟨b, o, r0, rfl, d0, f0⟩ := hcell 0 hl
    rw [Nat.add_zero] at d0
    have hz : ((L.length : Int) == 0) = false := beq_eq_false_iff_ne.2 (by omega)
    have hx8 := hexT_size
    go_enter Tryd.func52, Tryd.ntmps52
    go_wp2_with fail
    refine (l01Hex_any w r0 _ f0).mono ?_
    rintro e w1 ⟨rfl, b1⟩
    clear d0 hz hcell
    go_wp2_with fail
    go_loopw [3, 4] (fun s i wr => ∃ j : Nat, 1 ≤ j ∧ j ≤ L.length ∧ i = .int .i64 j ∧ s = .string ⟨(txt L j).toArray⟩ ∧ Below w.heap.size w wr) (fun _ i _ => L.length - (intOf i).toNat)
    case atStart => exact ⟨1, Nat.le_refl _, hl, rfl, by rw [txt_one L hl, getD_in hl]; rfl, b1⟩
    case round =>
      obtain ⟨wi, rfl⟩ : ∃ wi : World, wi = wr := ⟨_, rfl⟩
      obtain ⟨j, h1, hj, rfl, rfl, hb⟩ := hrel
      by_cases hlt : j < L.length
      · obtain ⟨a2, c2, hv2, -, -, hcell2⟩ := (H.out.mono hb).opened
        obtain ⟨b', o', r, hb', d, f⟩ := hcell2 j hlt
        obtain ⟨rfl, rfl⟩ : a2 = some ⟨b, o, none⟩ ∧ c2 = c := by cases hv2; exact ⟨rfl, rfl⟩
        obtain ⟨rfl, rfl⟩ : b = b' ∧ o = o' := by cases hb'; exact ⟨rfl, rfl⟩
        obtain ⟨S, hS⟩ : ∃ S : ByteArray, (⟨(txt L j).toArray⟩ : ByteArray) = S := ⟨_, rfl⟩
        rw [hS]
        have hSs : S.size + 1 = 9 * j := by
          rw [← hS, ← txt_length L j h1 hj]
          show (txt L j).toArray.size + 1 = _
          rw [List.size_toArray]
        have HS := Lib.hid hS
        clear hcell2 hS hv2 hb'
        go_wp2_with fail
        refine (l01Hex_any wi r _ f).mono ?_
        rintro e w2 ⟨rfl, b2⟩
        clear d
        go_wp2
        refine ⟨⟨j + 1, by omega, by omega, by go_num, ?_, hb.trans (b2.mono hb.size)⟩, by simp [intOf]; omega⟩
        rw [txt_succ L j h1 hlt, ← bytes_append, ← HS.out, ← bytes_append, getD_in hlt]
        rfl
      · obtain rfl : j = L.length := by omega
        go_wp2
        go_ret
        exact ⟨rfl, hb⟩
  · obtain rfl : L = [] := List.eq_nil_of_length_eq_zero (by omega)
    go_enter Tryd.func52, Tryd.ntmps52
    go_wp2
    go_ret
    exact ⟨rfl, Below.refl _ _⟩
end Go.Proofs.YtmicghcgljldpaaDoor
