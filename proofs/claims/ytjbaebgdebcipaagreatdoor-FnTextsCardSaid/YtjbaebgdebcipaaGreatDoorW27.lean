/- Walks: a ground is valid. -/
import Derived.Test.YtjbaebgdebcipaaGreatDoorW26
namespace Go.Proofs.YtjbaebgdebcipaaGreatDoor
open Go Go.RowKit

theorem fvOne : FV .f32 1065353216 1065353216 := ⟨by decide, by decide +kernel⟩
theorem cell_at {w : World} {g : Nat} {cs : Array Value} {t : TypeId} (i : Nat) (h : w.heap[g]? = some (.cells cs t (0, 0))) : w.cell? ⟨g, i, none⟩ = cs[i]? := by
  simp [World.cell?, h]
theorem RdF.ofBlock {w : World} {g : Nat} {cs : List Nat} {L : List Nat} {t : TypeId} (h : w.heap[g]? = some (.cells (cs.map (Value.float .f32)).toArray t (0, 0))) (hl : cs.length = L.length) (hf : ∀ j, j < L.length → FV .f32 (cs.getD j 0) (L.getD j 0)) :
    RdF w (.slice (some ⟨g, 0, none⟩) L.length L.length) L := by
  refine ⟨_, _, rfl, Nat.le_refl _, (fun h => by cases h), fun j hj => ⟨g, 0, _, rfl, ?_, _, rfl, hf j hj⟩⟩
  rw [Nat.zero_add, cell_at j h]
  simp [List.getElem?_eq_getElem (show j < cs.length by omega), List.getD_eq_getElem?_getD]

theorem posB_eq (x : Nat) : posB x = (fin .f32 x && !leqB x) := by
  unfold posB
  cases h : fin .f32 x with
  | false => rfl
  | true => rw [fin_leq x h, Bool.not_not]
theorem allB_pos (L : List Nat) : allB posB L = (allB (fin .f32) L && allB (fun x => !leqB x) L) := by
  unfold allB
  rw [allTo_and]
  exact allTo_congr fun i _ => posB_eq _

set_option maxRecDepth 100000 in
set_option maxHeartbeats 800000 in
theorem containsF_any (w : World) (v : Value) (L : List Nat) (h : RdF w v L) (hm : L.length ≤ 1048576) :
    Calls Tryz.prog 63 #[v, .func (.func 106) #[] #[]] w fun e w' => e = .returned (.bool (!allB (fun x => !leqB x) L)) ∧ w' = w := by
  go_enter Tryz.func63, Tryz.ntmps63
  go_wp2_with fail
  refine (indexF_any w v L h hm).mono ?_
  rintro e w1 ⟨i, rfl, hi, rfl⟩
  cases hb : allB (fun x => !leqB x) L with
  | false =>
    have : 0 ≤ i := hi.2 hb
    have hd : decide (i ≥ 0) = true := by simpa using this
    clear hi
    go_wp2
    go_ret
    exact ⟨by simp [this, hb], rfl⟩
  | true =>
    have : ¬ 0 ≤ i := fun h => by rw [hi.1 h] at hb; cases hb
    clear hi
    go_wp2
    go_ret
    exact ⟨by simp [hb]; omega, rfl⟩

set_option maxRecDepth 100000 in
set_option maxHeartbeats 800000 in
theorem arePositive_any (w : World) (v : Value) (L : List Nat) (h : RdF w v L) (hm : L.length ≤ 1048576) :
    Calls Tryz.prog 80 #[v] w fun e w' => e = .returned (.bool (allB posB L)) ∧ ∃ n, w' = w.drewN n := by
  rw [allB_pos]
  go_enter Tryz.func80, Tryz.ntmps80
  go_wp2_with fail
  refine (areFinite_any w v L h hm).mono ?_
  rintro e w1 ⟨rfl, n, rfl⟩
  cases hf : allB (fin .f32) L with
  | false =>
    go_wp2
    go_ret
    exact ⟨by simp [hf], n, rfl⟩
  | true =>
    go_wp2_with fail
    refine (containsF_any _ v L (RdF.drewN h n) hm).mono ?_
    rintro e w1 ⟨rfl, rfl⟩
    go_wp2
    go_ret
    exact ⟨by simp [hf], n, rfl⟩

/-- The loss of a layer is allowed. -/
def geqB (x : Nat) : Bool := FloatKind.f32.format.order x 0 == some .gt || FloatKind.f32.format.order x 0 == some .eq
def lowB (x : Nat) : Bool := FloatKind.f32.format.order x 1065353216 == some .lt
def layV (L : List Nat) (i : Nat) : Bool := posB (L.getD (4 * i) 0) && (posB (L.getD (4 * i + 1) 0) && (posB (L.getD (4 * i + 2) 0) && (geqB (L.getD (4 * i + 3) 0) && lowB (L.getD (4 * i + 3) 0))))
def layVTo (L : List Nat) (j : Nat) : Bool := (List.range j).all (layV L)
theorem layVTo_succ (L : List Nat) (j : Nat) : layVTo L (j + 1) = (layVTo L j && layV L j) := by simp [layVTo, List.range_succ]
theorem layVTo_false {L : List Nat} {j n : Nat} (hj : j < n) (h : layV L j = false) : layVTo L n = false := by
  rw [Bool.eq_false_iff]
  intro ha
  have this : layV L j = true := List.all_eq_true.1 ha j (List.mem_range.2 hj)
  rw [h] at this
  cases this
def validG (G : GM) : Bool := decide (1 ≤ G.n) && (decide (G.n ≤ 12) && (posB G.s && (posB G.d && layVTo G.L G.n)))

set_option maxRecDepth 100000 in
set_option maxHeartbeats 800000 in
theorem badLay_any (w : World) (r0 r1 r2 r3 x0 x1 x2 x3 : Nat) (f0 : FV .f32 r0 x0) (f1 : FV .f32 r1 x1) (f2 : FV .f32 r2 x2) (f3 : FV .f32 r3 x3) :
    Calls Tryz.prog 82 #[.agg #[.float .f32 r0, .float .f32 r1, .float .f32 r2, .float .f32 r3]] w fun e w' => e = .returned (.bool (!(posB x0 && (posB x1 && (posB x2 && (geqB x3 && lowB x3)))))) ∧ Below w.heap.size w w' := by
  have hb0 : Below w.heap.size w ((w.alloc (.cells #[.float .f32 r0, .float .f32 r1, .float .f32 r2, .float .f32 r3] 77)).alloc (.cells #[.float .f32 r0, .float .f32 r1, .float .f32 r2] 25)) := by (repeat (first | exact Below.refl _ _ | (refine Below.drewN ?_ _) | (refine Below.alloc ?_ (by first | exact Nat.le_refl _ | (simp; done) | (simp; omega)) _)))
  have hh := heap2 w (.cells #[.float .f32 r0, .float .f32 r1, .float .f32 r2, .float .f32 r3] 77) (.cells #[.float .f32 r0, .float .f32 r1, .float .f32 r2] 25)
  have hR : RdF ((w.alloc (.cells #[.float .f32 r0, .float .f32 r1, .float .f32 r2, .float .f32 r3] 77)).alloc (.cells #[.float .f32 r0, .float .f32 r1, .float .f32 r2] 25)) (.slice (some ⟨w.heap.size + 1, 0, none⟩) 3 3) [x0, x1, x2] :=
    RdF.ofBlock (cs := [r0, r1, r2]) (L := [x0, x1, x2]) hh.2 rfl (fun j hj => by
      match j, hj with
      | 0, _ => exact f0
      | 1, _ => exact f1
      | 2, _ => exact f2)
  have hg : (FloatKind.f32.format.order r3 0 == some Ordering.gt || FloatKind.f32.format.order r3 0 == some Ordering.eq) = geqB x3 := by rw [f3.order (fv0 _)]; rfl
  have hl : (FloatKind.f32.format.order r3 1065353216 == some Ordering.lt) = lowB x3 := by rw [f3.order fvOne]; rfl
  have h3 : allB posB [x0, x1, x2] = (posB x0 && (posB x1 && posB x2)) := by simp [allB, allTo, List.range_succ, Bool.and_assoc]
  have e4 : (posB x0 && (posB x1 && (posB x2 && (geqB x3 && lowB x3)))) = (allB posB [x0, x1, x2] && (geqB x3 && lowB x3)) := by rw [h3]; cases posB x0 <;> cases posB x1 <;> cases posB x2 <;> rfl
  rw [e4]
  clear e4 h3
  go_enter Tryz.func82, Tryz.ntmps82
  go_wp2_with fail
  refine (arePositive_any _ _ [x0, x1, x2] hR (by simp)).mono ?_
  rintro e w1 ⟨rfl, n, hw1⟩
  obtain ⟨-, k3⟩ : True ∧ w1.cell? ⟨w.heap.size, 3, none⟩ = some (.float .f32 r3) := ⟨trivial, by rw [hw1]; exact cell_at 3 hh.1⟩
  have hb1 := Below.drewN hb0 n
  rw [← hw1] at hb1
  clear hw1 hh hR hb0
  cases hp : allB posB [x0, x1, x2] with
  | false =>
    clear hg hl
    go_wp2
    go_ret
    exact ⟨by simp [hp], hb1⟩
  | true =>
    cases hg2 : geqB x3 with
    | false =>
      rw [hg2] at hg
      clear hl
      go_wp2
      go_ret
      exact ⟨by simp [hp, hg2], hb1⟩
    | true =>
      rw [hg2] at hg
      have Hl := Lib.hid hl
      clear hl
      go_wp2
      go_ret
      exact ⟨by rw [← Hl.out]; simp [hp, hg2], hb1⟩

set_option maxRecDepth 100000 in
set_option maxHeartbeats 800000 in
theorem indexLay_any (w : World) (v : Value) (n : Nat) (L : List Nat) (h : RdLay w v n L) (hm : n ≤ 1048576) :
    Calls Tryz.prog 107 #[v, .func (.func 82) #[] #[]] w fun e w' => ∃ i : Int, e = .returned (.int .i64 i) ∧ (0 ≤ i ↔ layVTo L n = false) ∧ Below w.heap.size w w' := by
  obtain ⟨a, c, rfl, hc, -, hcell⟩ := h.opened
  clear h
  go_enter Tryz.func107, Tryz.ntmps107
  go_wp2
  go_loopw [8] (fun i wr => ∃ k : Nat, k ≤ n ∧ i = .int .i64 k ∧ layVTo L k = true ∧ Below w.heap.size w wr) (fun i _ => n - (intOf i).toNat)
  case atStart => exact ⟨0, Nat.zero_le _, rfl, rfl, Below.refl _ _⟩
  case round =>
    obtain ⟨wi, rfl⟩ : ∃ wi : World, wi = wr := ⟨_, rfl⟩
    obtain ⟨k, hk, rfl, hsk, hb⟩ := hrel
    have Hsk := Lib.hid hsk
    by_cases hlt : k < n
    · obtain ⟨b, o, r0, r1, r2, r3, rfl, hlb, d0, d1, d2, d3, f0, f1, f2, f3⟩ := hcell k hlt
      have q0 : wi.cell? ⟨b, o + k * 4, none⟩ = some (.float .f32 r0) := by rw [(bcell hb).1 _ _ hlb]; exact d0
      have q1 : wi.cell? ⟨b, o + k * 4 + 1, none⟩ = some (.float .f32 r1) := by rw [(bcell hb).1 _ _ hlb]; exact d1
      have q2 : wi.cell? ⟨b, o + k * 4 + 2, none⟩ = some (.float .f32 r2) := by rw [(bcell hb).1 _ _ hlb]; exact d2
      have q3 : wi.cell? ⟨b, o + k * 4 + 3, none⟩ = some (.float .f32 r3) := by rw [(bcell hb).1 _ _ hlb]; exact d3
      clear d0 d1 d2 d3 hcell hsk
      go_wp2_with fail
      refine (badLay_any wi r0 r1 r2 r3 _ _ _ _ f0 f1 f2 f3).mono ?_
      rintro e2 w2 ⟨rfl, b2⟩
      have hb2 := hb.trans (b2.mono hb.size)
      clear q0 q1 q2 q3
      have hv : layV L k = (posB (L.getD (4 * k) 0) && (posB (L.getD (4 * k + 1) 0) && (posB (L.getD (4 * k + 2) 0) && (geqB (L.getD (4 * k + 3) 0) && lowB (L.getD (4 * k + 3) 0))))) := rfl
      rw [← hv]
      clear hv
      cases hx : layV L k with
      | false =>
        have Hx := Lib.hid hx
        clear hx
        go_wp2
        go_ret
        exact ⟨_, rfl, ⟨fun _ => layVTo_false hlt Hx.out, fun _ => by omega⟩, hb2⟩
      | true =>
        have Hx := Lib.hid hx
        clear hx
        go_wp2
        exact ⟨⟨k + 1, by omega, by go_num, by rw [layVTo_succ, Hsk.out, Hx.out]; rfl, hb2⟩, by simp [intOf]; omega⟩
    · clear hsk
      go_wp2
      go_ret
      obtain rfl : k = n := by omega
      exact ⟨_, rfl, ⟨fun h => by omega, fun h => by rw [Hsk.out] at h; cases h⟩, hb⟩
set_option maxRecDepth 100000 in
set_option maxHeartbeats 800000 in
theorem containsLay_any (w : World) (v : Value) (n : Nat) (L : List Nat) (h : RdLay w v n L) (hm : n ≤ 1048576) :
    Calls Tryz.prog 81 #[v, .func (.func 82) #[] #[]] w fun e w' => e = .returned (.bool (!layVTo L n)) ∧ Below w.heap.size w w' := by
  go_enter Tryz.func81, Tryz.ntmps81
  go_wp2_with fail
  refine (indexLay_any w v n L h hm).mono ?_
  rintro e w1 ⟨i, rfl, hi, b1⟩
  cases hb : layVTo L n with
  | false =>
    have : 0 ≤ i := hi.2 hb
    clear hi
    go_wp2
    go_ret
    exact ⟨by simp [this, hb], b1⟩
  | true =>
    have : ¬ 0 ≤ i := fun h => by rw [hi.1 h] at hb; cases hb
    clear hi
    go_wp2
    go_ret
    exact ⟨by simp [hb]; omega, b1⟩
end Go.Proofs.YtjbaebgdebcipaaGreatDoor
