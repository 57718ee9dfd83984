/- Walks: l08Lines. -/
import Derived.Test.YtalajgjdceoleaaSpl
import Derived.Test.YtalajgjdceoleaaLin
import Derived.OwnWalk
namespace Go.Proofs.Ytalajgjdceoleaa
open Go Go.RowKit

set_option maxRecDepth 100000 in
set_option maxHeartbeats 1600000 in
theorem l08Lines_any (w : World) (s : ByteArray) (hs : s.size ≤ 1048576) (xs : List ByteArray) (z : ByteArray) (hx : cutB 10 s = xs ++ [z]) :
    Calls Try.prog 20 #[.string s] w fun e w' => ∃ v, e = .returned (.tuple #[v, .string z]) ∧ RdStr w' v xs ∧ Below w.heap.size w w' := by
  have HX := Lib.hid hx
  have hlen : xs.length ≤ 1048576 := by
    have := cutB_len 10 s
    rw [hx, List.length_append] at this
    simp at this
    omega
  clear hx
  have HK := Lib.hid (l01Cut_any w s 10 hs)
  go_enter Try.func20, Try.ntmps20
  go_wp2_with fail
  refine HK.out.mono ?_
  clear HK
  rintro e w1 ⟨v, rfl, ho, hb⟩
  rw [HX.out] at ho
  have hr := ho.rd
  have hl : (xs ++ [z]).length = xs.length + 1 := by simp
  obtain ⟨a, c, rfl, hc, -, hcell⟩ := hr.opened
  obtain ⟨g, o, rfl, hlb, -⟩ := hcell 0 (by omega)
  have hcell' : ∀ j, j < xs.length → w1.cell? ⟨g, o + j, none⟩ = some (.string (lnAt xs j)) := fun j hj => by
    obtain ⟨b', o', e, _, h1⟩ := hcell j (by omega)
    simp only [Option.some.injEq, Addr.mk.injEq, and_true] at e
    obtain ⟨rfl, rfl⟩ := e
    rw [h1]
    congr 2
    unfold lnAt
    rw [List.getD_eq_getElem?_getD, List.getElem?_append_left hj, List.getD_eq_getElem?_getD]
  have hlast : w1.cell? ⟨g, o + xs.length, none⟩ = some (.string z) := by
    obtain ⟨b', o', e, _, h1⟩ := hcell xs.length (by omega)
    simp only [Option.some.injEq, Addr.mk.injEq, and_true] at e
    obtain ⟨rfl, rfl⟩ := e
    rw [h1]
    congr 2
    unfold lnAt
    rw [List.getD_eq_getElem?_getD, List.getElem?_append_right (Nat.le_refl _)]
    simp
  have HC := Lib.hid hcell'
  have HL := Lib.hid hlast
  clear hcell hcell' hlast hr ho
  rw [hl] at hc ⊢
  clear hl
  obtain ⟨n, hn⟩ : ∃ n, xs.length = n := ⟨_, rfl⟩
  rw [hn] at HC HL hc hlen ⊢
  have HN := Lib.hid hn
  clear hn
  go_upto_region 2 with fail
  refine region_rel_all (by kernel_rfl) (by kernel_rfl) (Below w1.heap.size w1) (fun _ _ _ => False) (Below.drewN (Below.refl _ _) 1) ?_
  repeat (refine wpRel_un rfl rfl (fun wq hq K hK => ?_); (have q0 := ((bcell hq).1 _ _ hlb).trans HL.out); go_wp2; clear q0)
  refine wpRel_nil ?_
  intro wd hbd
  go_wp2
  go_ret2
  refine ⟨_, rfl, ?_, hb.trans (hbd.mono hb.size)⟩
  unfold RdStr
  rw [HN.out]
  refine ⟨_, c, rfl, by omega, fun h => (by cases h), fun j hj => ⟨g, o, _, rfl, ?_, rfl⟩⟩
  rw [(bcell hbd).1 _ _ hlb]
  exact HC.out j hj

theorem neq_list {l : ByteArray} {b : List UInt8} (h : ¬ l = ⟨b.toArray⟩) : (l.toList == b) = false ∧ ¬ l.toList = b := by
  have h1 : ¬ l.toList = b := fun e => h (by rw [Lib.toList_data] at e; rw [← e])
  exact ⟨by rw [beq_eq_false_iff_ne]; exact h1, h1⟩
def isBad (l : ByteArray) : Bool := decide (l = ⟨#[110, 111]⟩) || decide (l = ⟨#[119, 104, 97, 116]⟩)
def badTo (xs : List ByteArray) : Nat → Nat
  | 0 => 0
  | j + 1 => badTo xs j + (if isBad (lnAt xs j) then 1 else 0)
theorem badTo_le (xs : List ByteArray) (j : Nat) : badTo xs j ≤ j := by
  induction j with
  | zero => exact Nat.le_refl _
  | succ j ih => unfold badTo; split <;> omega
/-- What CountOutputs answers. -/
def cntV (s : ByteArray) (e : Ending) : Prop :=
  ∃ xs z, cutB 10 s = xs ++ [z] ∧ e = if s.size ≤ 12000 ∧ z.size = 0 then .returned (.tuple #[.int .i64 (badTo xs xs.length : Nat), .int .i64 ((xs.length : Int) - (badTo xs xs.length : Nat)), .bool true]) else .returned (.tuple #[.int .i64 0, .int .i64 0, .bool false])
set_option maxRecDepth 100000 in
set_option maxHeartbeats 1600000 in
theorem specCount_any (w : World) (s : ByteArray) (hs : s.size ≤ 1048576) :
    Calls Try.prog 7 #[.string s] w fun e w' => cntV s e ∧ Below w.heap.size w w' := by
  obtain ⟨xs, z, hx⟩ : ∃ xs z, cutB 10 s = xs ++ [z] := ⟨_, _, (List.dropLast_concat_getLast (by intro e; have := cutB_pos 10 s; rw [e] at this; exact absurd this (by decide))).symm⟩
  have HX := Lib.hid hx
  have hlen : xs.length ≤ 1048576 := by
    have := cutB_len 10 s
    rw [hx, List.length_append] at this
    simp at this
    omega
  have HK := Lib.hid (l08Lines_any w s hs xs z hx)
  clear hx
  by_cases hbig : s.size ≤ 12000
  · go_enter Try.func7, Try.ntmps7
    go_wp2_with fail
    refine HK.out.mono ?_
    clear HK
    rintro e w1 ⟨v, rfl, hr, hb⟩
    by_cases hz : z.size = 0
    · have hz' : z = (⟨#[]⟩ : ByteArray) := by
        apply ByteArray.ext
        exact Array.eq_empty_of_size_eq_zero hz
      subst hz'
      obtain ⟨a, c, rfl, hc, -, hcell⟩ := hr.opened
      go_wp2_with fail
      go_loopw [7, 8] (fun b i wr => ∃ j : Nat, j ≤ xs.length ∧ i = .int .i64 j ∧ b = .int .i64 (badTo xs j : Nat) ∧ wr = w1) (fun _ i _ => xs.length - (intOf i).toNat)
      case atStart => exact ⟨0, Nat.zero_le _, rfl, rfl, rfl⟩
      case round =>
        obtain ⟨j, hj, rfl, rfl, rfl⟩ := hrel
        have hbl := badTo_le xs j
        by_cases hlt : j < xs.length
        · obtain ⟨b, o, rfl, hlb, d0⟩ := hcell j hlt
          have HT : Hid (badTo xs (j + 1) = badTo xs j + (if isBad (lnAt xs j) then 1 else 0)) := Lib.hid rfl
          generalize lnAt xs j = l at d0 HT
          generalize badTo xs j = bj at hbl HT ⊢
          clear hcell
          by_cases h1 : l = (⟨#[110, 111]⟩ : ByteArray)
          · subst h1
            have HT' : Hid (badTo xs (j + 1) = bj + 1) := Lib.hid (by rw [HT.out]; rfl)
            go_wp2
            refine ⟨⟨j + 1, hlt, by go_num, ?_, trivial⟩, by simp [intOf]; omega⟩
            rw [HT'.out]; rfl
          · by_cases h2 : l = (⟨#[119, 104, 97, 116]⟩ : ByteArray)
            · subst h2
              have HT' : Hid (badTo xs (j + 1) = bj + 1) := Lib.hid (by rw [HT.out]; rfl)
              clear h1
              go_wp2
              refine ⟨⟨j + 1, hlt, by go_num, ?_, trivial⟩, by simp [intOf]; omega⟩
              rw [HT'.out]; rfl
            · have HT' : Hid (badTo xs (j + 1) = bj) := Lib.hid (by rw [HT.out]; unfold isBad; rw [decide_eq_false h1, decide_eq_false h2]; rfl)
              have n1 := neq_list (b := [110, 111]) h1
              have n2 := neq_list (b := [119, 104, 97, 116]) h2
              obtain ⟨n11, n12⟩ := n1
              obtain ⟨n21, n22⟩ := n2
              clear h1 h2
              go_wp2
              refine ⟨⟨j + 1, hlt, by go_num, ?_, trivial⟩, by simp [intOf]; omega⟩
              rw [HT'.out]
        · obtain rfl : j = xs.length := by omega
          have HB : Hid (badTo xs xs.length ≤ xs.length) := Lib.hid hbl
          have HG : Hid (cntV s (.returned (.tuple #[.int .i64 (badTo xs xs.length : Nat), .int .i64 ((xs.length : Int) - (badTo xs xs.length : Nat)), .bool true]))) := Lib.hid ⟨xs, _, HX.out, (if_pos ⟨hbig, rfl⟩).symm⟩
          generalize badTo xs xs.length = bj at *
          generalize xs.length = n at *
          clear hcell
          go_wp2
          go_ret3
          exact ⟨HG.out, hb⟩
    · have hz' : ¬ z = (⟨#[]⟩ : ByteArray) := fun e => hz (by rw [e]; rfl)
      have hz2 : z.toList.isEmpty = false := by
        have := (neq_list (b := []) hz').2
        cases h : z.toList with
        | nil => exact absurd h this
        | cons a l => rfl
      have HG : Hid (cntV s (.returned (.tuple #[.int .i64 0, .int .i64 0, .bool false]))) := Lib.hid ⟨xs, z, HX.out, (if_neg (fun h => hz h.2)).symm⟩
      go_wp2
      go_ret3
      exact ⟨HG.out, hb⟩
  · have hbig' : (12000 : Int) < (s.size : Int) := by omega
    have HG : Hid (cntV s (.returned (.tuple #[.int .i64 0, .int .i64 0, .bool false]))) := Lib.hid ⟨xs, z, HX.out, (if_neg (fun h => hbig h.1)).symm⟩
    clear HK
    go_enter Try.func7, Try.ntmps7
    go_wp2
    go_ret3
    exact ⟨HG.out, Below.refl _ _⟩
end Go.Proofs.Ytalajgjdceoleaa
