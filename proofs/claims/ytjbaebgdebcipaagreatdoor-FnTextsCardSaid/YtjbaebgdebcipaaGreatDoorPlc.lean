/- Walks: paths are valid. -/
import Derived.Test.YtjbaebgdebcipaaGreatDoorNr
import Derived.Test.YtjbaebgdebcipaaGreatDoorAll
import Derived.Test.YtjbaebgdebcipaaGreatDoorPrim
namespace Go.Proofs.YtjbaebgdebcipaaGreatDoor
open Go Go.RowKit

def lowB2 (x : Nat) : Bool := FloatKind.f32.format.order x 3296329728 == some .gt || FloatKind.f32.format.order x 3296329728 == some .eq
def highB2 (x : Nat) : Bool := FloatKind.f32.format.order x 1148846080 == some .lt || FloatKind.f32.format.order x 1148846080 == some .eq
def placeB (x : Nat) : Bool := lowB2 x && highB2 x
theorem fvLow : FV .f32 3296329728 3296329728 := ⟨by decide, by decide +kernel⟩
theorem fvHigh : FV .f32 1148846080 1148846080 := ⟨by decide, by decide +kernel⟩
theorem lowFact {r x : Nat} (h : FV .f32 r x) : (FloatKind.f32.format.order r 3296329728 == some Ordering.gt || FloatKind.f32.format.order r 3296329728 == some Ordering.eq) = lowB2 x := by rw [h.order fvLow]; rfl
theorem highFact {r x : Nat} (h : FV .f32 r x) : (FloatKind.f32.format.order r 1148846080 == some Ordering.lt || FloatKind.f32.format.order r 1148846080 == some Ordering.eq) = highB2 x := by rw [h.order fvHigh]; rfl

set_option maxRecDepth 100000 in
set_option maxHeartbeats 400000 in
theorem noPlace_any (w : World) (r x : Nat) (hr : FV .f32 r x) :
    Calls Tryz.prog 64 #[.float .f32 r] w fun e w' => e = .returned (.bool (!placeB x)) ∧ w' = w := by
  have h1 := lowFact hr
  have h2 := highFact hr
  unfold placeB
  cases p1 : lowB2 x with
  | false =>
    rw [p1] at h1
    clear h2
    go_enter Tryz.func64, Tryz.ntmps64
    go_wp2
    go_ret
    exact ⟨rfl, rfl⟩
  | true =>
    rw [p1] at h1
    cases p2 : highB2 x with
    | false =>
      rw [p2] at h2
      go_enter Tryz.func64, Tryz.ntmps64
      go_wp2
      go_ret
      exact ⟨rfl, rfl⟩
    | true =>
      rw [p2] at h2
      go_enter Tryz.func64, Tryz.ntmps64
      go_wp2
      go_ret
      exact ⟨rfl, rfl⟩

set_option maxRecDepth 100000 in
set_option maxHeartbeats 800000 in
theorem indexP_any (w : World) (v : Value) (L : List Nat) (h : RdF w v L) (hm : L.length ≤ 1048576) :
    Calls Tryz.prog 94 #[v, .func (.func 64) #[] #[]] w fun e w' => ∃ i : Int, e = .returned (.int .i64 i) ∧ (0 ≤ i ↔ allB placeB L = false) ∧ w' = w := by
  obtain ⟨a, c, rfl, hc, -, hcell⟩ := h.opened
  clear h
  go_enter Tryz.func94, Tryz.ntmps94
  go_wp2
  go_loop [8] (fun i => ∃ k : Nat, k ≤ L.length ∧ i = .int .i64 k ∧ allTo placeB L k = true) (fun i => L.length - (intOf i).toNat)
  case atStart => exact ⟨0, Nat.zero_le _, rfl, rfl⟩
  case round =>
    obtain ⟨k, hk, rfl, hsk⟩ := hrel
    have Hsk := Lib.hid hsk
    by_cases hlt : k < L.length
    · obtain ⟨b, o, r, rfl, d0, f0⟩ := hcell k hlt
      clear hcell hsk
      go_wp2_with fail
      refine (noPlace_any w r _ f0).mono ?_
      rintro e w1 ⟨rfl, rfl⟩
      cases hx : placeB (L.getD k 0) with
      | false =>
        have Hx := Lib.hid hx
        clear hx
        go_wp2
        go_ret
        exact ⟨_, rfl, ⟨fun _ => by unfold allB; exact allTo_false hlt Hx.out, fun _ => by omega⟩, rfl⟩
      | true =>
        have Hx := Lib.hid hx
        clear hx
        go_wp2
        exact ⟨⟨k + 1, by omega, by go_num, by rw [allTo_succ, Hsk.out, Hx.out]; rfl⟩, by simp [intOf]; omega⟩
    · clear hsk
      go_wp2
      go_ret
      obtain rfl : k = L.length := by omega
      exact ⟨_, rfl, ⟨fun h => by omega, fun h => by unfold allB at h; rw [Hsk.out] at h; cases h⟩, rfl⟩

set_option maxRecDepth 100000 in
set_option maxHeartbeats 800000 in
theorem containsP_any (w : World) (v : Value) (L : List Nat) (h : RdF w v L) (hm : L.length ≤ 1048576) :
    Calls Tryz.prog 63 #[v, .func (.func 64) #[] #[]] w fun e w' => e = .returned (.bool (!allB placeB L)) ∧ w' = w := by
  go_enter Tryz.func63, Tryz.ntmps63
  go_wp2_with fail
  refine (indexP_any w v L h hm).mono ?_
  rintro e w1 ⟨i, rfl, hi, rfl⟩
  cases hb : allB placeB L with
  | false =>
    have : 0 ≤ i := hi.2 hb
    clear hi
    go_wp2
    go_ret
    exact ⟨by simp [this, hb], rfl⟩
  | true =>
    have : ¬ 0 ≤ i := fun h => by rw [hi.1 h] at hb; cases hb
    clear hi
    go_wp2
    go_ret
    exact ⟨by simp [hb]; omega, rfl⟩

/-- The four numbers of a path. -/
def RdPath (u : Value) (x0 x1 x2 x3 : Nat) : Prop := ∃ r0 r1 r2 r3, u = .agg #[.float .f32 r0, .float .f32 r1, .float .f32 r2, .float .f32 r3] ∧ FV .f32 r0 x0 ∧ FV .f32 r1 x1 ∧ FV .f32 r2 x2 ∧ FV .f32 r3 x3
theorem rd4 {w : World} {g : Nat} {t : TypeId} {r0 r1 r2 r3 x0 x1 x2 x3 : Nat} (h : w.heap[g]? = some (.cells #[.float .f32 r0, .float .f32 r1, .float .f32 r2, .float .f32 r3] t (0, 0))) (f0 : FV .f32 r0 x0) (f1 : FV .f32 r1 x1) (f2 : FV .f32 r2 x2) (f3 : FV .f32 r3 x3) :
    RdF w (.slice (some ⟨g, 0, none⟩) 4 4) [x0, x1, x2, x3] :=
  RdF.ofBlock (cs := [r0, r1, r2, r3]) (L := [x0, x1, x2, x3]) h rfl (fun j hj => by
    match j, hj with
    | 0, _ => exact f0
    | 1, _ => exact f1
    | 2, _ => exact f2
    | 3, _ => exact f3)
theorem allB4 (p : Nat → Bool) (a b c d : Nat) : allB p [a, b, c, d] = (p a && (p b && (p c && p d))) := by simp [allB, allTo, List.range_succ, Bool.and_assoc]

set_option maxRecDepth 100000 in
set_option maxHeartbeats 800000 in
theorem isPath_any (w : World) (u : Value) (x0 x1 x2 x3 : Nat) (h : RdPath u x0 x1 x2 x3) :
    Calls Tryz.prog 33 #[u] w fun e w' => e = .returned (.bool (allB placeB [x0, x1, x2, x3])) ∧ Below w.heap.size w w' := by
  obtain ⟨r0, r1, r2, r3, rfl, f0, f1, f2, f3⟩ := h
  have hb0 : Below w.heap.size w ((w.alloc (.cells #[.float .f32 r0, .float .f32 r1, .float .f32 r2, .float .f32 r3] 27)).alloc (.cells #[.float .f32 r0, .float .f32 r1, .float .f32 r2, .float .f32 r3] 25)) := by (repeat (first | exact Below.refl _ _ | (refine Below.drewN ?_ _) | (refine Below.alloc ?_ (by first | exact Nat.le_refl _ | (simp; done) | (simp; omega)) _)))
  have hh := heap2 w (.cells #[.float .f32 r0, .float .f32 r1, .float .f32 r2, .float .f32 r3] 27) (.cells #[.float .f32 r0, .float .f32 r1, .float .f32 r2, .float .f32 r3] 25)
  have hR := rd4 hh.2 f0 f1 f2 f3
  go_enter Tryz.func33, Tryz.ntmps33
  go_wp2_with fail
  refine (containsP_any _ _ [x0, x1, x2, x3] hR (by simp)).mono ?_
  rintro e w1 ⟨rfl, rfl⟩
  go_wp2
  go_ret
  exact ⟨by simp, hb0⟩

end Go.Proofs.YtjbaebgdebcipaaGreatDoor
