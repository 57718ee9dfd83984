/- Walks: numbers are positive: the program's, on a seat without desks. -/
import Derived.Test.YthacadbdncfocaaGatB
namespace Go.Proofs.Ythacadbdncfocaa
open Go Go.RowKit

def posB (x : Nat) : Bool := fin .f32 x && FloatKind.f32.format.order x 0 == some .gt
def leqB (x : Nat) : Bool := FloatKind.f32.format.order x 0 == some .lt || FloatKind.f32.format.order x 0 == some .eq
theorem fin_leq (x : Nat) (h : fin .f32 x = true) : leqB x = !(FloatKind.f32.format.order x 0 == some .gt) := by
  have : FloatKind.f32.format.order x 0 ≠ none := by
    obtain ⟨s0, m0, e0, h0⟩ : ∃ s m e, Ieee.single.read 0 = .number s m e := by
      have hm : (match Ieee.single.read 0 with | .number .. => true | _ => false) = true := by decide +kernel
      cases hr : Ieee.single.read 0 with
      | number s m e => exact ⟨_, _, _, rfl⟩
      | infinity s => rw [hr] at hm; cases hm
      | nan s t => rw [hr] at hm; cases hm
    show Ieee.single.order x 0 ≠ none
    unfold Ieee.Format.order
    rw [h0]
    unfold fin FloatKind.decode at h
    change (match Ieee.single.read x with | .number .. => true | _ => false) = true at h
    cases hr : Ieee.single.read x with
    | number s m e => simp [Ieee.Datum.order]
    | infinity s => rw [hr] at h; cases h
    | nan s t => rw [hr] at h; cases h
  unfold leqB
  cases ho : FloatKind.f32.format.order x 0 with
  | none => exact absurd ho this
  | some o => cases o <;> rfl

set_option maxRecDepth 100000 in
set_option maxHeartbeats 800000 in
theorem indexF_any (w : World) (v : Value) (L : List Nat) (h : RdF w v L) (hm : L.length ≤ 1048576) :
    Calls Try.prog 99 #[v, .func (.func 89) #[] #[]] w fun e w' => ∃ i : Int, e = .returned (.int .i64 i) ∧ (0 ≤ i ↔ allB (fun x => !leqB x) L = false) ∧ w' = w := by
  obtain ⟨a, c, rfl, hc, -, hcell⟩ := h.opened
  clear h
  go_enter Try.func99, Try.ntmps99
  go_wp2
  go_loop [8] (fun i => ∃ k : Nat, k ≤ L.length ∧ i = .int .i64 k ∧ allTo (fun x => !leqB x) L k = true) (fun i => L.length - (intOf i).toNat)
  case atStart => exact ⟨0, Nat.zero_le _, rfl, rfl⟩
  case round =>
    obtain ⟨k, hk, rfl, hsk⟩ := hrel
    have Hsk := Lib.hid hsk
    by_cases hlt : k < L.length
    · obtain ⟨b, o, r, rfl, d0, f0⟩ := hcell k hlt
      have hg : FloatKind.f32.format.order r 0 = FloatKind.f32.format.order (L.getD k 0) 0 := f0.order (fv0 _)
      have hle : (FloatKind.f32.format.order r 0 == some Ordering.lt || FloatKind.f32.format.order r 0 == some Ordering.eq) = leqB (L.getD k 0) := by rw [hg]; rfl
      clear hcell hsk hg
      cases hx : leqB (L.getD k 0) with
      | true =>
        rw [hx] at hle
        have Hx := Lib.hid hx
        clear hx
        go_wp2
        go_ret
        exact ⟨_, rfl, ⟨fun _ => by unfold allB; exact allTo_false hlt (by rw [Hx.out]; rfl), fun _ => by omega⟩, rfl⟩
      | false =>
        rw [hx] at hle
        have Hx := Lib.hid hx
        clear hx
        go_wp2
        exact ⟨⟨k + 1, by omega, by go_num, by rw [allTo_succ, Hsk.out, Hx.out]; rfl⟩, by simp [intOf]; omega⟩
    · clear hsk
      go_wp2
      go_ret
      obtain rfl : k = L.length := by omega
      exact ⟨_, rfl, ⟨fun h => by omega, fun h => by unfold allB at h; rw [Hsk.out] at h; cases h⟩, rfl⟩
theorem fvOne : FV .f32 1065353216 1065353216 := ⟨by decide, by decide +kernel⟩
theorem cell_at {w : World} {g : Nat} {cs : Array Value} {t : TypeId} (i : Nat) (h : w.heap[g]? = some (.cells cs t (0, 0))) : w.cell? ⟨g, i, none⟩ = cs[i]? := by
  simp [World.cell?, h]
theorem RdF.ofBlock {w : World} {g : Nat} {cs : List Nat} {L : List Nat} {t : TypeId} (h : w.heap[g]? = some (.cells (cs.map (Value.float .f32)).toArray t (0, 0))) (hl : cs.length = L.length) (hf : ∀ j, j < L.length → FV .f32 (cs.getD j 0) (L.getD j 0)) :
    RdF w (.slice (some ⟨g, 0, none⟩) L.length L.length) L := by
  refine ⟨_, _, rfl, Nat.le_refl _, (fun h => by cases h), fun j hj => ⟨g, 0, _, rfl, ?_, _, rfl, hf j hj⟩⟩
  rw [Nat.zero_add, cell_at j h]
  simp [List.getElem?_eq_getElem (show j < cs.length by omega), List.getD_eq_getElem?_getD]

theorem posB_eq (x : Nat) : posB x = (fin .f32 x && !leqB x) := by
  unfold posB
  cases h : fin .f32 x with
  | false => rfl
  | true => rw [fin_leq x h, Bool.not_not]
theorem allB_pos (L : List Nat) : allB posB L = (allB (fin .f32) L && allB (fun x => !leqB x) L) := by
  unfold allB
  rw [allTo_and]
  exact allTo_congr fun i _ => posB_eq _

set_option maxRecDepth 100000 in
set_option maxHeartbeats 800000 in
theorem containsF_any (w : World) (v : Value) (L : List Nat) (h : RdF w v L) (hm : L.length ≤ 1048576) :
    Calls Try.prog 88 #[v, .func (.func 89) #[] #[]] w fun e w' => e = .returned (.bool (!allB (fun x => !leqB x) L)) ∧ w' = w := by
  go_enter Try.func88, Try.ntmps88
  go_wp2_with fail
  refine (indexF_any w v L h hm).mono ?_
  rintro e w1 ⟨i, rfl, hi, rfl⟩
  cases hb : allB (fun x => !leqB x) L with
  | false =>
    have : 0 ≤ i := hi.2 hb
    have hd : decide (i ≥ 0) = true := by simpa using this
    clear hi
    go_wp2
    go_ret
    exact ⟨by simp [this, hb], rfl⟩
  | true =>
    have : ¬ 0 ≤ i := fun h => by rw [hi.1 h] at hb; cases hb
    clear hi
    go_wp2
    go_ret
    exact ⟨by simp [hb]; omega, rfl⟩

set_option maxRecDepth 100000 in
set_option maxHeartbeats 800000 in
theorem arePositive_any (w : World) (v : Value) (L : List Nat) (h : RdF w v L) (hm : L.length ≤ 1048576) :
    Calls Try.prog 57 #[v] w fun e w' => e = .returned (.bool (allB posB L)) ∧ ∃ n, w' = w.drewN n := by
  rw [allB_pos]
  go_enter Try.func57, Try.ntmps57
  go_wp2_with fail
  refine (areFinite_any w v L h hm).mono ?_
  rintro e w1 ⟨rfl, n, rfl⟩
  cases hf : allB (fin .f32) L with
  | false =>
    go_wp2
    go_ret
    exact ⟨by simp [hf], n, rfl⟩
  | true =>
    go_wp2_with fail
    refine (containsF_any _ v L (RdF.drewN h n) hm).mono ?_
    rintro e w1 ⟨rfl, rfl⟩
    go_wp2
    go_ret
    exact ⟨by simp [hf], n, rfl⟩
end Go.Proofs.Ythacadbdncfocaa
