/- Plain: texts of numbers and of sections are read back; longer ones are none. -/
import Derived.Test.YtlpmkgcknopgoaaGreatDoorNr
import Derived.Test.YtlpmkgcknopgoaaGreatDoorBtx
import Derived.Lib.Join
namespace Go.Proofs.YtlpmkgcknopgoaaGreatDoor
open Go Go.RowKit

def txt (L : List Nat) (j : Nat) : List UInt8 := Lib.join ((L.take j).map (digs 8)) [44]
theorem txt_one (L : List Nat) (h : 0 < L.length) : txt L 1 = digs 8 (L.getD 0 0) := by
  cases L with
  | nil => cases h
  | cons x r => exact Lib.join_one _ _
theorem txt_succ (L : List Nat) (j : Nat) (h1 : 1 ≤ j) (h : j < L.length) : txt L (j + 1) = txt L j ++ ([44] ++ digs 8 (L.getD j 0)) := by
  cases L with
  | nil => cases h
  | cons x r =>
    obtain ⟨j, rfl⟩ : ∃ i, j = i + 1 := ⟨j - 1, by omega⟩
    have hj : j < r.length := by simpa using h
    unfold txt
    rw [List.take_succ_cons, List.take_succ_cons, List.map_cons, List.map_cons, Lib.join_cons, Lib.join_cons, List.map_take, List.map_take,
      Lib.joinTail_take_succ [44] (r.map (digs 8)) j (digs 8 (r.getD j 0)) (by simp [List.getElem?_map, List.getD_eq_getElem?_getD, List.getElem?_eq_getElem hj])]
    simp [List.append_assoc]
theorem txt_length (L : List Nat) (j : Nat) (h1 : 1 ≤ j) (h : j ≤ L.length) : (txt L j).length + 1 = 9 * j := by
  induction j with
  | zero => omega
  | succ j ih =>
    rcases Nat.eq_zero_or_pos j with rfl | hj
    · rw [txt_one L (by omega), digs_length]
    · rw [txt_succ L j hj (by omega), List.length_append, List.length_append, digs_length]
      have := ih hj (by omega)
      simp only [List.length_singleton]
      omega
theorem getD_in {L : List Nat} {j : Nat} (h : j < L.length) : L.getD j 0 = L[j] := by simp [List.getD_eq_getElem?_getD, List.getElem?_eq_getElem h]
def numT (L : List Nat) : ByteArray := if L = [] then ⟨#[110, 111, 110, 101]⟩ else ⟨(txt L L.length).toArray⟩
theorem numT_nil : numT [] = ⟨#[110, 111, 110, 101]⟩ := rfl
theorem numT_cons {L : List Nat} (h : 0 < L.length) : numT L = ⟨(txt L L.length).toArray⟩ := by
  unfold numT
  rw [if_neg (by intro e; rw [e] at h; cases h)]

theorem cutL_join (m : UInt8) : ∀ (x : List UInt8) (r : List (List UInt8)), m ∉ x → (∀ p ∈ r, m ∉ p) → cutL m (Lib.join (x :: r) [m]) = x :: r
  | x, [], hx, _ => by rw [Lib.join_one, cutL_miss hx]
  | x, y :: r, hx, hr => by
    have ih := cutL_join m y r (hr y (by simp)) (fun p hp => hr p (by simp [hp]))
    rw [Lib.join_cons] at ih ⊢
    have e : x ++ Lib.joinTail [m] (y :: r) = x ++ m :: (y ++ Lib.joinTail [m] r) := by simp [Lib.joinTail]
    rw [e, cutL_hit _ hx, ih]
/-- Canonical words. -/
def Wrd (L : List Nat) : Prop := ∀ x ∈ L, x < 4294967296 ∧ can .f32 x = x
theorem digs_mem (k n : Nat) : ∀ c ∈ digs k n, ∃ d, d < 16 ∧ c = digH d := by
  induction k generalizing n with
  | zero => intro c hc; simp [digs] at hc
  | succ k ih =>
    intro c hc
    rw [digs] at hc
    rcases List.mem_append.1 hc with h | h
    · exact ih _ c h
    · exact ⟨n % 16, Nat.mod_lt _ (by decide), List.mem_singleton.1 h⟩
theorem digs_no (k x : Nat) (m : UInt8) (h : ∀ d, d < 16 → digH d ≠ m) : m ∉ digs k x := fun hm => by
  obtain ⟨d, hd, e⟩ := digs_mem k x m hm
  exact h d hd e.symm
theorem digH_44 : ∀ d, d < 16 → digH d ≠ 44 := by
  have : ∀ d : Fin 16, digH d.1 ≠ 44 := by decide
  exact fun d h => this ⟨d, h⟩
theorem cut_numT {L : List Nat} (h : 0 < L.length) : cutB 44 (numT L) = L.map hexT := by
  rw [numT_cons h]
  unfold cutB txt
  rw [List.take_length]
  match L, h with
  | x :: r, _ =>
    show List.map mkB (cutL 44 (Lib.join (digs 8 x :: r.map (digs 8)) [44])) = _
    rw [cutL_join 44 (digs 8 x) (r.map (digs 8)) (digs_no 8 x 44 digH_44) (fun p hp => by
      obtain ⟨y, -, rfl⟩ := List.mem_map.1 hp
      exact digs_no 8 y 44 digH_44)]
    rw [List.map_cons, List.map_cons, List.map_map]
    rfl
theorem allR_hex : ∀ {L : List Nat}, Wrd L → allR (L.map hexT) = some L
  | [], _ => rfl
  | x :: r, h => by
    have h1 := h x (by simp)
    simp only [List.map_cons, allR, rb_some (show IsH (hexT x) x from ⟨h1.1, h1.2, rfl⟩), allR_hex (L := r) (fun y hy => h y (by simp [hy]))]
theorem numT_not {L : List Nat} (h : 0 < L.length) : ¬ numT L = noneT := fun e => by
  have h1 := congrArg ByteArray.size e
  rw [numT_cons h, Lib.size_eq] at h1
  have h2 := txt_length L L.length h (Nat.le_refl _)
  have h3 : (txt L L.length).toArray.toList.length = 4 := h1
  simp only [List.toList_toArray] at h3
  omega
theorem rn_numT {L : List Nat} (hw : Wrd L) (hl : L.length ≤ 256) : rn 256 (numT L) = some L := by
  by_cases h : 0 < L.length
  · unfold rn
    rw [if_neg (numT_not h), cut_numT h, List.length_map, if_neg (by omega), allR_hex hw]
  · obtain rfl : L = [] := List.eq_nil_of_length_eq_zero (by omega)
    unfold rn
    rw [if_pos (show numT [] = noneT from rfl)]
end Go.Proofs.YtlpmkgcknopgoaaGreatDoor
