/- Walks on a seat of gathers: places compared; indices put in order by the library. -/
import Derived.Test.YtjhbcnmkamkkaaaGr3
import Derived.Test.YtjhbcnmkamkkaaaGs0
import Derived.Shelf.SlSortCmp.Insertion
import Derived.Deep.QuietTactic
namespace Go.Proofs.Ytjhbcnmkamkkaaa
open Go Go.RowKit Go.Shelf
open Go.Sort (grow putRow putCells mapBlock onCells Holds)

def Try.laysN20_ren : Go.Shelf.Ren := ⟨fun | 20 => 131 | n => n, fun | 0 => 0 | 3 => 3 | 4 => 4 | 22 => 103 | 24 => 3 | 25 => 106 | n => n, fun | n => n⟩
set_option maxRecDepth 100000 in
theorem Try.laysN20 : Go.Proofs.SlLaysF.n20 Try.prog Try.laysN20_ren := {
  mixed := by kernel_rfl
  f20 := ⟨"slices.insertionSortCmpFunc[int]", by decide, Try.func131.trans (congrArg some (by kernel_rfl))⟩
  t0 := Try.underlying0
  a0 := Try.isAgg0
  z0 := Try.sizeOf0
  v0 := Try.zeroValue0
  t3 := Try.underlying3
  a3 := Try.isAgg3
  z3 := Try.sizeOf3
  v3 := Try.zeroValue3
  t4 := Try.underlying4
  a4 := Try.isAgg4
  z4 := Try.sizeOf4
  v4 := Try.zeroValue4
  t22 := Try.underlying103
  a22 := Try.isAgg103
  z22 := Try.sizeOf103
  v22 := Try.zeroValue103
  a24 := Try.isAgg3
  z24 := Try.sizeOf3
  t25 := Try.underlying106
  a25 := Try.isAgg106
  z25 := Try.sizeOf106
  v25 := Try.zeroValue106 }

def cmpQ (q : Ordering) : Int := match q with | .lt => -1 | .gt => 1 | .eq => 0
def cmpO (x y : Nat) : Int := match FloatKind.f32.format.order x y with | some .lt => -1 | some .gt => 1 | _ => 0
set_option maxRecDepth 100000 in
theorem isNaNF_any (w : World) (r x : Nat) (hf : FV .f32 r x) (hn : isN .f32 x = false) :
    Calls Try.prog 119 #[.float .f32 r] w fun e w' => e = .returned (.bool false) ∧ w' = w := by
  have ht : (FloatKind.f32.format.order r r != some Ordering.eq) = false := by rw [hf.order hf, order_self hn]; rfl
  go_enter Try.func119, Try.ntmps119
  go_wp2
  go_ret
  exact ⟨rfl, rfl⟩
set_option maxRecDepth 100000 in
set_option maxHeartbeats 800000 in
theorem compareF_any (w : World) (r s x y : Nat) (hr : FV .f32 r x) (hs : FV .f32 s y) (hx : isN .f32 x = false) (hy : isN .f32 y = false) (q : Ordering) (hq : FloatKind.f32.format.order x y = some q) :
    Calls Try.prog 94 #[.float .f32 r, .float .f32 s] w fun e w' => e = .returned (.int .i64 (cmpO x y)) ∧ w' = w := by
  have hc : Hid (cmpO x y = cmpQ q) := Lib.hid (by unfold cmpO cmpQ; rw [hq]; cases q <;> rfl)
  have ho := (hr.order hs).trans hq
  have HX := Lib.hid hx
  have HY := Lib.hid hy
  clear hq hx hy
  cases q with
  | lt =>
    have t1 : (FloatKind.f32.format.order r s == some Ordering.lt) = true := by rw [ho]; rfl
    clear ho
    go_enter Try.func94, Try.ntmps94
    go_wp2_with fail
    refine (isNaNF_any w r x hr HX.out).mono ?_
    rintro e w1 ⟨rfl, rfl⟩
    go_wp2_with fail
    refine (isNaNF_any _ s y hs HY.out).mono ?_
    rintro e w1 ⟨rfl, rfl⟩
    go_wp2
    go_ret
    exact ⟨by rw [hc.out]; rfl, rfl⟩
  | gt =>
    have t1 : (FloatKind.f32.format.order r s == some Ordering.lt) = false := by rw [ho]; rfl
    have t2 : (FloatKind.f32.format.order r s == some Ordering.gt) = true := by rw [ho]; rfl
    clear ho
    go_enter Try.func94, Try.ntmps94
    go_wp2_with fail
    refine (isNaNF_any w r x hr HX.out).mono ?_
    rintro e w1 ⟨rfl, rfl⟩
    go_wp2_with fail
    refine (isNaNF_any _ s y hs HY.out).mono ?_
    rintro e w1 ⟨rfl, rfl⟩
    go_wp2
    go_ret
    exact ⟨by rw [hc.out]; rfl, rfl⟩
  | eq =>
    have t1 : (FloatKind.f32.format.order r s == some Ordering.lt) = false := by rw [ho]; rfl
    have t2 : (FloatKind.f32.format.order r s == some Ordering.gt) = false := by rw [ho]; rfl
    clear ho
    go_enter Try.func94, Try.ntmps94
    go_wp2_with fail
    refine (isNaNF_any w r x hr HX.out).mono ?_
    rintro e w1 ⟨rfl, rfl⟩
    go_wp2_with fail
    refine (isNaNF_any _ s y hs HY.out).mono ?_
    rintro e w1 ⟨rfl, rfl⟩
    go_wp2
    go_ret
    exact ⟨by rw [hc.out]; rfl, rfl⟩
/-- How the program compares two of a gather's places; the gather lies in block gb. -/
theorem sortFn_any (w : World) (gb i j : Nat) (ap : Option Addr) (cp : Nat) (P : List Nat) (hg : w.cell? ⟨gb, 1, none⟩ = some (.slice ap P.length cp)) (hP : RdF w (.slice ap P.length cp) P) (hi : i < P.length) (hj : j < P.length) (hn : P.length ≤ 16) (hf : ∀ k, k < P.length → isN .f32 (P.getD k 0) = false) (ho : ∀ k l, k < P.length → l < P.length → ∃ q, FloatKind.f32.format.order (P.getD k 0) (P.getD l 0) = some q) :
    Calls Try.prog 93 #[.int .i64 i, .int .i64 j, .pointer (some ⟨gb, 0, none⟩)] w fun e w' => e = .returned (.int .i64 (cmpO (P.getD i 0) (P.getD j 0))) ∧ ∃ q, w' = w.drewN q := by
  obtain ⟨a, c, hv, -, -, hc⟩ := hP.opened
  obtain ⟨rfl, rfl⟩ : ap = a ∧ cp = c := by cases hv; exact ⟨rfl, rfl⟩
  obtain ⟨b, o, r, rfl, d1, f1⟩ := hc i hi
  obtain ⟨b', o', s, he, d2, f2⟩ := hc j hj
  obtain ⟨rfl, rfl⟩ : b = b' ∧ o = o' := by cases he; exact ⟨rfl, rfl⟩
  obtain ⟨q, hq⟩ := ho i j hi hj
  have HC := Lib.hid (fun wq => compareF_any wq r s _ _ f1 f2 (hf i hi) (hf j hj) q hq)
  have hi2 : (i : Int) < (P.length : Int) := by omega
  have hj2 : (j : Int) < (P.length : Int) := by omega
  clear hc he hv f1 f2 hf ho hP hq
  go_enter Try.func93, Try.ntmps93
  go_wp2_with fail
  go_quiet ((go_at_call 94; exact Calls.quiet_of_same (HC.out _)))
  go_wp2
  go_ret
  exact ⟨rfl, _, rfl⟩
end Go.Proofs.Ytjhbcnmkamkkaaa
