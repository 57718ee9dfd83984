/- A journal that is recovered: plain lists; strings.Cut at a blank. -/
import Derived.Test.YtalajgjdceoleaaDoorJ4
import Derived.Test.YtalajgjdceoleaaDoorSpl2
import Derived.OwnWalk
namespace Go.Proofs.YtalajgjdceoleaaDoor
open Go Go.RowKit

/-- Where the first blank of a line is. -/
def spc (x : ByteArray) : Int := Lib.indexByte x.data.toList 32
/-- What is behind the first blank. -/
def lnOf (x : ByteArray) : ByteArray := x.extract ((spc x).toNat + 1) x.size
def ckR (xs : List ByteArray) : Nat → Nat
  | 0 => 0
  | j + 1 => chk (ckR xs j) (lnOf (lnAt xs j))
theorem ckR_lt (xs : List ByteArray) (j : Nat) : ckR xs j < 65003 := by
  induction j with
  | zero => show 0 < 65003; decide
  | succ j ih => exact chkN_lt _ _ _ ih
def okR (xs : List ByteArray) (j : Nat) : Prop := 0 ≤ spc (lnAt xs j) ∧ (lnAt xs j).extract 0 (spc (lnAt xs j)).toNat = decT (ckR xs (j + 1))
def recL (xs : List ByteArray) (j : Nat) : List ByteArray := (List.range j).map fun i => lnOf (lnAt xs i)
theorem recL_succ (xs : List ByteArray) (j : Nat) : recL xs (j + 1) = recL xs j ++ [lnOf (lnAt xs j)] := by
  unfold recL
  rw [List.range_succ, List.map_append]
  rfl
theorem recL_length (xs : List ByteArray) (j : Nat) : (recL xs j).length = j := by simp [recL]
def szR (xs : List ByteArray) : Nat → Nat
  | 0 => 0
  | j + 1 => szR xs j + ((lnAt xs j).size + 1)
/-- The journal at the beginning has k lines. -/
def Stop (xs : List ByteArray) (k : Nat) : Prop := k ≤ xs.length ∧ (∀ i, i < k → okR xs i) ∧ (k < xs.length → ¬ okR xs k)
theorem Stop.uniq {xs : List ByteArray} {k l : Nat} (h : Stop xs k) (g : Stop xs l) : k = l := by
  rcases Nat.lt_trichotomy k l with hl | hl | hl
  · exact absurd (g.2.1 k hl) (h.2.2 (by have := g.1; omega))
  · exact hl
  · exact absurd (h.2.1 l hl) (g.2.2 (by have := h.1; omega))
theorem spc_lt {x : ByteArray} (h : 0 ≤ spc x) : (spc x).toNat < x.size ∧ x.data.toList[(spc x).toNat]? = some 32 := by
  obtain ⟨i, hi⟩ := Int.eq_ofNat_of_zero_le h
  have h1 := (Lib.indexByte_some (l := x.data.toList) (c := 32) (show Lib.indexByte x.data.toList 32 = i from hi)).1
  rw [hi, Int.toNat_natCast]
  exact ⟨by rw [Lib.size_eq]; exact (List.getElem?_eq_some_iff.1 h1).1, h1⟩
/-- A line is what is ahead of its first blank, the blank, and what is behind. -/
theorem line_split {x : ByteArray} (h : 0 ≤ spc x) : x = x.extract 0 (spc x).toNat ++ (⟨#[32]⟩ : ByteArray) ++ lnOf x := by
  obtain ⟨h1, h2⟩ := spc_lt h
  unfold lnOf
  generalize (spc x).toNat = i at *
  have h3 := split_at h2
  apply ByteArray.ext
  apply Array.ext'
  rw [ByteArray.data_append, ByteArray.data_append, Array.toList_append, Array.toList_append, mkB_ext, mkB_list, Lib.extract_to_end, List.drop_zero, Nat.sub_zero]
  conv => lhs; rw [h3]
  simp
theorem append_left_inj' {a b c : ByteArray} : a ++ c = b ++ c ↔ a = b := by
  constructor
  · intro h
    apply ByteArray.ext
    apply Array.ext'
    have := congrArg (fun t : ByteArray => t.data.toList) h
    simp only [ByteArray.data_append, Array.toList_append] at this
    exact List.append_cancel_right this
  · rintro rfl; rfl
/-- The line that is wanted is the line that came just where the check number is. -/
theorem want_iff {x : ByteArray} (h : 0 ≤ spc x) (n : Nat) : lineT n (lnOf x) = x ++ (⟨#[10]⟩ : ByteArray) ↔ x.extract 0 (spc x).toNat = decT n := by
  unfold lineT
  rw [append_left_inj']
  conv => lhs; rhs; rw [line_split h]
  rw [append_left_inj', append_left_inj']
  exact eq_comm
/-- What strings.Cut hands back at a blank. -/
def cutV (s : ByteArray) : Value := if 0 ≤ spc s then .tuple #[.string (s.extract 0 (spc s).toNat), .string (lnOf s), .bool true] else .tuple #[.string s, .string ⟨#[]⟩, .bool false]
set_option maxRecDepth 100000 in
set_option maxHeartbeats 800000 in
theorem slCut_any (w : World) (s : ByteArray) (hs : s.size ≤ 1048576) :
    Calls Tryd.prog 35 #[.string s, .string ⟨#[32]⟩] w fun e w' => e = .returned (cutV s) ∧ Below w.heap.size w w' := by
  have HK := Lib.hid (Tryd.stringslite_Index_one s 32 w)
  by_cases h : 0 ≤ spc s
  · have HG : Hid (cutV s = .tuple #[.string (s.extract 0 (spc s).toNat), .string (lnOf s), .bool true]) := Lib.hid (if_pos h)
    have hlt := (spc_lt h).1
    unfold lnOf at HG
    have HK' : Hid (Calls Tryd.prog 29 #[.string s, .string ⟨#[32]⟩] w fun e w' => e = .returned (.int .i64 (((spc s).toNat : Nat) : Int)) ∧ w' = w) := Lib.hid (by rw [Int.toNat_of_nonneg h]; exact HK.out)
    clear HK h
    generalize (spc s).toNat = i at *
    go_enter Tryd.func35, Tryd.ntmps35
    go_wp2_with fail
    refine HK'.out.mono ?_
    clear HK'
    rintro e w1 ⟨rfl, rfl⟩
    go_upto_region 3 with fail
    refine region_rel_all (by kernel_rfl) (by kernel_rfl) (Below w1.heap.size w1) (fun _ _ _ => False) (Below.drewN (Below.refl _ _) 1) ?_
    repeat (refine wpRel_un rfl rfl (fun wq hq K hK => ?_); go_wp2)
    refine wpRel_nil ?_
    intro wd hbd
    go_wp2
    go_ret3
    refine ⟨?_, hbd⟩
    rw [HG.out]; rfl
  · have HG : Hid (cutV s = .tuple #[.string s, .string ⟨#[]⟩, .bool false]) := Lib.hid (if_neg h)
    have HK' : Hid (Calls Tryd.prog 29 #[.string s, .string ⟨#[32]⟩] w fun e w' => e = .returned (.int .i64 (spc s)) ∧ w' = w) := Lib.hid HK.out
    have hneg : ¬ (0 : Int) ≤ spc s := h
    clear HK h
    generalize spc s = i at *
    go_enter Tryd.func35, Tryd.ntmps35
    go_wp2_with fail
    refine HK'.out.mono ?_
    clear HK'
    rintro e w1 ⟨rfl, rfl⟩
    go_wp2
    go_ret3
    refine ⟨?_, Below.refl _ _⟩
    rw [HG.out]; rfl
theorem cut_any (w : World) (s : ByteArray) (hs : s.size ≤ 1048576) :
    Calls Tryd.prog 27 #[.string s, .string ⟨#[32]⟩] w fun e w' => e = .returned (cutV s) ∧ Below w.heap.size w w' := by
  have HK := Lib.hid (slCut_any w s hs)
  obtain ⟨a, b, c, hc⟩ : ∃ a b c, cutV s = .tuple #[.string a, .string b, .bool c] := by
    unfold cutV
    split
    · exact ⟨_, _, _, rfl⟩
    · exact ⟨_, _, _, rfl⟩
  rw [hc] at HK
  have HC := Lib.hid hc
  clear hc
  go_enter Tryd.func27, Tryd.ntmps27
  go_wp2_with fail
  refine HK.out.mono ?_
  rintro e w1 ⟨rfl, hb⟩
  go_wp2
  go_ret3
  refine ⟨?_, hb⟩
  rw [HC.out]; rfl
end Go.Proofs.YtalajgjdceoleaaDoor
