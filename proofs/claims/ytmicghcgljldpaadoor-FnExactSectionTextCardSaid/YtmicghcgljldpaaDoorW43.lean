/- Walks: the text of a gather: the reference's. -/
import Derived.Test.YtmicghcgljldpaaDoorW42
import Derived.Test.YtmicghcgljldpaaDoorHb
namespace Go.Proofs.YtmicghcgljldpaaDoor
open Go Go.RowKit

def gatherHead (t : Nat) (P : List Nat) : List UInt8 := Lib.decDigits t ++ [59] ++ numB P ++ [59]
def gatherB (T : TM) : ByteArray := ⟨(gatherHead T.t.toNat T.P ++ rowsT (fun i => numB (rowAt T.Ls i)) 47 T.Ls.length).toArray⟩
theorem gatherHead_append (t : Nat) (P : List Nat) : (⟨(Lib.decDigits t).toArray⟩ : ByteArray) ++ (⟨#[59]⟩ : ByteArray) ++ numT P ++ (⟨#[59]⟩ : ByteArray) = ⟨(gatherHead t P).toArray⟩ := by
  unfold gatherHead
  rw [← bytes_append, ← bytes_append, ← bytes_append, ← numT_eq]
theorem decDigits_small (t : Nat) (h : t < 100) : (⟨(Lib.decDigits t).toArray⟩ : ByteArray).size ≤ 2 := by
  show (Lib.decDigits t).toArray.size ≤ 2
  rw [List.size_toArray]
  by_cases h1 : t < 10
  · rw [Lib.decDigits_one h1]; simp
  · rw [Lib.decDigits_two h1 h]; simp
theorem numT_size (L : List Nat) (h : L.length ≤ 1048576) : (numT L).size ≤ 9437184 := by
  have := numB_length L h
  unfold numB at this
  simpa using this

set_option maxRecDepth 100000 in
set_option maxHeartbeats 4000000 in
theorem l08Gather_any (w : World) (g : Nat) (tn : Nat) (vp vt : Value) (P : List Nat) (Ls : List (List Nat)) (c0 : w.cell? ⟨g, 0, none⟩ = some (.int .i64 tn)) (c1 : w.cell? ⟨g, 1, none⟩ = some vp) (c2 : w.cell? ⟨g, 2, none⟩ = some vt)
    (h1 : RdF w vp P) (h2 : RdSS w vt Ls) (ht : tn < 100) (m1 : P.length ≤ 1048576) (m2 : Ls.length ≤ 1048576) (m3 : ∀ j, j < Ls.length → (rowAt Ls j).length ≤ 1048576) :
    Calls Tryd.prog 46 #[.pointer (some ⟨g, 0, none⟩)] w fun e w' => e = .returned (.string (gatherB ⟨tn, P, Ls⟩)) ∧ Below w.heap.size w w' := by
  have hg := block_lt c0
  have hD := decDigits_small tn ht
  have hNP := numT_size P m1
  have HE := Lib.hid (gatherHead_append tn P)
  have C2 := Lib.hid c2
  obtain ⟨a, c, rfl, -⟩ := h1.opened
  obtain ⟨a', c', rfl, hc', -, hcell⟩ := h2.opened
  have hhead : (⟨(gatherHead tn P).toArray⟩ : ByteArray).size ≤ 9437200 := by
    rw [← gatherHead_append]
    simp only [ByteArray.size_append]
    have h59 : (⟨#[59]⟩ : ByteArray).size = 1 := rfl
    omega
  have KD : ∀ w1 : World, Calls Tryd.prog 74 #[.int .i64 tn] w1 fun e w' => e = .returned (.string ⟨(Lib.decDigits tn).toArray⟩) ∧ Below w1.heap.size w1 w' := fun w1 => l01Dec_any w1 tn (by omega)
  obtain ⟨D, hDe⟩ : ∃ D : ByteArray, (⟨(Lib.decDigits tn).toArray⟩ : ByteArray) = D := ⟨_, rfl⟩
  obtain ⟨N, hNe⟩ : ∃ N : ByteArray, numT P = N := ⟨_, rfl⟩
  have KN : ∀ (w1 : World) (v : Value), RdF w1 v P → Calls Tryd.prog 52 #[v] w1 fun e w' => e = .returned (.string (numT P)) ∧ Below w1.heap.size w1 w' := fun w1 v h => l01NText_any w1 v P h m1
  rw [hDe] at hD KD HE
  rw [hNe] at hNP HE KN
  go_enter Tryd.func46, Tryd.ntmps46
  go_upto_region 1 with fail
  go_cut [3] (fun s3 wx => s3 = .string ⟨(gatherHead tn P).toArray⟩ ∧ Below w.heap.size w wx)
  case first =>
    clear c2
    go_region_with (first
      | (go_at_call 74; refine (KD _).mono ?_; rintro e w1 ⟨rfl, b1⟩
         replace c1 := (bcell b1).1 _ _ hg |>.trans c1
         have e1 : Below w.heap.size w w1 := ⟨b1.os, b1.tape, b1.output, b1.size, b1.block⟩)
      | (go_at_call 52; refine (KN _ _ (by exact RdF.mono h1 (Below.curr e1 rfl rfl rfl rfl))).mono ?_; rintro e w2 ⟨rfl, b2⟩
         have e2 : Below w.heap.size w w2 := e1.trans (Below.mono (B := w1.heap.size) ⟨b2.os, b2.tape, b2.output, b2.size, b2.block⟩ e1.size)))
    all_goals (go_wp2_with fail; go_meet; exact ⟨by rw [← HE.out], e2⟩)
  case rest =>
  obtain ⟨rfl, b0⟩ := hcut
  obtain ⟨w0, rfl⟩ : ∃ x : World, x = wc := ⟨_, rfl⟩
  obtain ⟨H0, hH0⟩ : ∃ S : ByteArray, (⟨(gatherHead tn P).toArray⟩ : ByteArray) = S := ⟨_, rfl⟩
  rw [hH0] at hhead ⊢
  have HH := Lib.hid hH0
  clear c0 c1 c2 hH0 hD hNP
  go_wp2_with fail
  go_loopw [3, 4] (fun o i wr => ∃ j : Nat, j ≤ Ls.length ∧ i = .int .i64 j ∧ o = .string (H0 ++ ⟨(rowsT (fun i => numB (rowAt Ls i)) 47 j).toArray⟩) ∧ Below w.heap.size w wr) (fun _ i _ => Ls.length - (intOf i).toNat)
  case atStart => exact ⟨0, Nat.zero_le _, rfl, by rw [rowsT_zero, ByteArray.append_empty'], b0⟩
  case round =>
    obtain ⟨wi, rfl⟩ : ∃ wi : World, wi = wr := ⟨_, rfl⟩
    obtain ⟨j, hj, rfl, rfl, hb⟩ := hrel
    have c2 : wi.cell? ⟨g, 2, none⟩ = some (.slice a' Ls.length c') := by rw [(bcell hb).1 _ _ hg]; exact C2.out
    have hlen := rowsT_length (fun i => numB (rowAt Ls i)) 47 j 9437184 fun i hi => numB_length _ (m3 i (by omega))
    have hmul : j * (9437184 + 1) ≤ 1048576 * (9437184 + 1) := Nat.mul_le_mul_right _ (by omega)
    obtain ⟨S, hS⟩ : ∃ S : ByteArray, H0 ++ (⟨(rowsT (fun i => numB (rowAt Ls i)) 47 j).toArray⟩ : ByteArray) = S := ⟨_, rfl⟩
    have hSs : S.size ≤ 10000000000000 := by
      rw [← hS, ByteArray.size_append]
      have : (⟨(rowsT (fun i => numB (rowAt Ls i)) 47 j).toArray⟩ : ByteArray).size = (rowsT (fun i => numB (rowAt Ls i)) 47 j).length := by
        show (rowsT (fun i => numB (rowAt Ls i)) 47 j).toArray.size = _
        rw [List.size_toArray]
      omega
    rw [hS]
    have HS := Lib.hid hS
    by_cases hlt : j < Ls.length
    · obtain ⟨b, o, a2, c3, rfl, hlb, d0, R0⟩ := hcell j hlt
      have d1 : wi.cell? ⟨b, o + j, none⟩ = some (.slice a2 (rowAt Ls j).length c3) := by rw [(bcell hb).1 _ _ hlb]; exact d0
      have R1 := Lib.hid (R0.mono hb)
      have mj := m3 j hlt
      have hNj := numT_size (rowAt Ls j) mj
      clear hS hlen hmul d0 R0 hcell
      by_cases hj0 : 0 < j
      · have hj0' : (0 : Int) < (j : Int) := by omega
        go_wp2_with fail
        refine (l01NText_any wi _ (rowAt Ls j) R1.out mj).mono ?_
        rintro e w2 ⟨rfl, b2⟩
        clear d1 c2
        go_wp2
        refine ⟨⟨j + 1, by omega, by go_num, ?_, hb.trans (b2.mono hb.size)⟩, by simp [intOf]; omega⟩
        rw [rowsT_succ _ _ j hj0, ← bytes_append, ← bytes_append, ← numT_eq, ← HS.out]
        simp only [ByteArray.append_assoc]
      · obtain rfl : j = 0 := by omega
        simp only [Nat.add_zero] at d1
        go_wp2_with fail
        refine (l01NText_any wi _ (rowAt Ls 0) R1.out mj).mono ?_
        rintro e w2 ⟨rfl, b2⟩
        clear d1 c2
        go_wp2
        refine ⟨⟨1, by omega, by simp, ?_, hb.trans (b2.mono hb.size)⟩, by simp [intOf]; omega⟩
        rw [rowsT_one, ← numT_eq, ← HS.out, rowsT_zero, ByteArray.append_empty']
    · obtain rfl : j = Ls.length := by omega
      clear hS hlen hmul hcell
      go_wp2
      go_ret
      refine ⟨?_, hb⟩
      rw [← HS.out, ← HH.out]
      unfold gatherB
      rw [← bytes_append]
      rfl
end Go.Proofs.YtmicghcgljldpaaDoor
