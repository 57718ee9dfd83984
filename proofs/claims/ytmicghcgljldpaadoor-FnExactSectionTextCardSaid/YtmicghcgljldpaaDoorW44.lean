/- Walks: the text of a gather: the program's. -/
import Derived.Test.YtmicghcgljldpaaDoorW43
import Derived.Test.YtmicghcgljldpaaDoorW41
namespace Go.Proofs.YtmicghcgljldpaaDoor
open Go Go.RowKit

set_option maxRecDepth 100000 in
set_option maxHeartbeats 800000 in
theorem decimal_any (w : World) (n : Nat) (hn : n < 100) :
    Calls Tryd.prog 34 #[.int .i64 n] w fun e w' => e = .returned (.string ⟨(Lib.decDigits n).toArray⟩) ∧ w' = w := by
  have H := Lib.hid (Tryd.strconv_FormatInt_10_small n hn)
  go_enter Tryd.func34, Tryd.ntmps34
  go_wp2_with fail
  refine (H.out w).mono ?_
  rintro e w1 ⟨rfl, rfl⟩
  go_wp2
  go_ret
  exact ⟨rfl, rfl⟩

set_option maxRecDepth 100000 in
set_option maxHeartbeats 800000 in
theorem rowText_any (w : World) (v : Value) (L : List Nat) (h : RdF w v L) (hm : L.length ≤ 1048576) (hT : Tab16 w) :
    Calls Tryd.prog 79 #[v] w fun e w' => e = .returned (.string (numT L)) ∧ Below w.heap.size w w' := by
  go_enter Tryd.func79, Tryd.ntmps79
  go_wp2_with fail
  refine (numbers_any _ v L h hm hT).mono ?_
  rintro e w1 ⟨rfl, b1⟩
  go_wp2
  go_ret
  exact ⟨rfl, b1⟩

set_option maxRecDepth 100000 in
set_option maxHeartbeats 1600000 in
theorem joinedSS_any (w : World) (v : Value) (Ls : List (List Nat)) (h : RdSS w v Ls) (hl : 0 < Ls.length) (hm : Ls.length ≤ 1048576) (m3 : ∀ j, j < Ls.length → (rowAt Ls j).length ≤ 1048576) (hT : Tab16 w) :
    Calls Tryd.prog 78 #[v, .string ⟨#[47]⟩, .func (.func 79) #[] #[]] w fun e w' => e = .returned (.string ⟨(rowsT (fun i => numB (rowAt Ls i)) 47 Ls.length).toArray⟩) ∧ Below w.heap.size w w' := by
  obtain ⟨a, c, rfl, hc, -, hcell⟩ := h.opened
  have HT := Lib.hid hT
  clear h hT
  have hown0 : OwnStr w w.heap.size (.slice none 0 0) [] := World.ownsRow_nil _ _ _ _
  go_enter Tryd.func78, Tryd.ntmps78
  go_wp2_with fail
  go_loopw [7, 9, 12] (fun u _ i wr => ∃ j : Nat, j ≤ Ls.length ∧ i = .int .i64 j ∧ OwnStr wr w.heap.size u ((List.range j).map fun i => numT (rowAt Ls i)) ∧ Below w.heap.size w wr) (fun _ _ i _ => Ls.length - (intOf i).toNat)
  case atStart => exact ⟨0, Nat.zero_le _, rfl, hown0, Below.refl _ _⟩
  case round =>
    obtain ⟨wi, rfl⟩ : ∃ wi : World, wi = wr := ⟨_, rfl⟩
    obtain ⟨j, hj, rfl, ho, hb⟩ := hrel
    by_cases hlt : j < Ls.length
    · obtain ⟨b, o, a2, c3, rfl, hlb, d0, R0⟩ := hcell j hlt
      have d1 : wi.cell? ⟨b, o + j, none⟩ = some (.slice a2 (rowAt Ls j).length c3) := by rw [(bcell hb).1 _ _ hlb]; exact d0
      have R1 := Lib.hid (R0.mono hb)
      have mj := m3 j hlt
      have Ho := Lib.hid ho
      have HT2 := Lib.hid (HT.out.mono hb)
      clear hcell d0 R0 ho hown0
      go_wp2_with fail
      refine (rowText_any wi _ (rowAt Ls j) R1.out mj HT2.out).mono ?_
      rintro e w2 ⟨rfl, b2⟩
      have hb2 := hb.trans (b2.mono hb.size)
      have Ho2 := Lib.hid (OwnStr.kept Ho.out b2)
      clear d1
      go_wp2_with (at_builtin; refine wpList_push1 rfl _ _ 118 9 rfl (.string ⟨#[]⟩) 16 Tryd.underlying118 Tryd.infoStr rfl (by decide) w.heap.size _ _ _ rfl (World.ownsRow.alloc Ho2.out _) _ _ _ rfl (cell_new _ _ _) rfl (by rw [List.length_map, List.length_range]; omega) (by have := hb2.size; simp; omega) ?_; intro v2 w3 h2 g2 b3)
      refine ⟨⟨j + 1, by omega, by go_num, ?_, (hb2.alloc hb2.size _).trans b3⟩, by simp [intOf]; omega⟩
      unfold OwnStr
      rw [List.range_succ, List.map_append, List.map_append, List.length_append]
      exact h2
    · obtain rfl : j = Ls.length := by omega
      obtain ⟨g, cap, rfl, hg, hg2, hcap, hcells⟩ := ho.form (by simpa using hl)
      have htxt : Lib.join (((List.range Ls.length).map fun i => numT (rowAt Ls i)).map (·.data.toList)) (⟨#[47]⟩ : ByteArray).data.toList = rowsT (fun i => numB (rowAt Ls i)) 47 Ls.length := by
        unfold rowsT
        rw [List.map_map]
        rfl
      have hlen := rowsT_length (fun i => numB (rowAt Ls i)) 47 Ls.length 9437184 fun i hi => numB_length _ (m3 i hi)
      have hmul : Ls.length * (9437184 + 1) ≤ 1048576 * (9437184 + 1) := Nat.mul_le_mul_right _ hm
      have hj : Calls Tryd.prog 82 #[.slice (some ⟨g, 0, none⟩) ((List.range Ls.length).map fun i => numT (rowAt Ls i)).length cap, .string ⟨#[47]⟩] wi fun e w' => e = .returned (.string ⟨(rowsT (fun i => numB (rowAt Ls i)) 47 Ls.length).toArray⟩) ∧ Below wi.heap.size wi w' := by
        rw [← htxt]
        exact Tryd.strings_Join g 0 cap ((List.range Ls.length).map fun i => numT (rowAt Ls i)) ⟨#[47]⟩ wi hcells hg2 (by simp; omega) hcap (by rw [htxt]; omega)
      rw [List.length_map, List.length_range] at hj ⊢
      have Hj := Lib.hid hj
      clear hj htxt hcells ho hown0 hcell hlen hmul
      go_wp2_with fail
      refine Hj.out.mono ?_
      rintro e w2 ⟨rfl, b2⟩
      go_wp2
      go_ret
      exact ⟨rfl, hb.trans (b2.mono hb.size)⟩

set_option maxRecDepth 100000 in
set_option maxHeartbeats 4000000 in
theorem gatherText_any (w : World) (u : Value) (tn : Nat) (P : List Nat) (Ls : List (List Nat)) (h : RdT w u ⟨tn, P, Ls⟩) (ht : tn < 100) (hl : 0 < Ls.length) (hs : TM.small ⟨tn, P, Ls⟩) (hT : Tab16 w) :
    Calls Tryd.prog 49 #[u] w fun e w' => e = .returned (.string (gatherB ⟨tn, P, Ls⟩)) ∧ Below w.heap.size w w' := by
  obtain ⟨vp, vt, rfl, h1, h2⟩ := h
  obtain ⟨m1, m2, m3⟩ := hs
  simp only at *
  have hD := decDigits_small tn ht
  have hNP := numT_size P m1
  have hb0 : Below w.heap.size w (w.alloc (.cells #[.int .i64 tn, vp, vt] 55)) := by (repeat (first | exact Below.refl _ _ | (refine Below.drewN ?_ _) | (refine Below.alloc ?_ (by first | exact Nat.le_refl _ | (simp; done) | (simp; omega)) _)))
  have B := HB.new w (.cells #[.int .i64 tn, vp, vt] 55)
  go_enter Tryd.func49, Tryd.ntmps49
  go_wp2_with fail
  generalize w.alloc (.cells #[.int .i64 tn, vp, vt] 55) = w0 at *
  refine (joinedSS_any w0 vt Ls (h2.mono hb0) hl m2 m3 (hT.mono hb0)).mono ?_
  rintro e w1 ⟨rfl, b1⟩
  have hb1 := hb0.trans (b1.mono hb0.size)
  have B1 := Lib.hid (B.mono b1)
  have hlen := rowsT_length (fun i => numB (rowAt Ls i)) 47 Ls.length 9437184 fun i hi => numB_length _ (m3 i hi)
  have hmul : Ls.length * (9437184 + 1) ≤ 1048576 * (9437184 + 1) := Nat.mul_le_mul_right _ m2
  obtain ⟨S, hS⟩ : ∃ S : ByteArray, (⟨(rowsT (fun i => numB (rowAt Ls i)) 47 Ls.length).toArray⟩ : ByteArray) = S := ⟨_, rfl⟩
  have hSs : S.size ≤ 9900000000000 := by
    rw [← hS]
    show (rowsT (fun i => numB (rowAt Ls i)) 47 Ls.length).toArray.size ≤ _
    rw [List.size_toArray]
    omega
  have HE := Lib.hid (show (⟨(Lib.decDigits tn).toArray⟩ : ByteArray) ++ (⟨#[59]⟩ : ByteArray) ++ numT P ++ (⟨#[59]⟩ : ByteArray) ++ S = gatherB ⟨tn, P, Ls⟩ by
    rw [gatherHead_append, ← hS, bytes_append]
    rfl)
  rw [hS]
  have KD : ∀ w1 : World, Calls Tryd.prog 34 #[.int .i64 tn] w1 fun e w' => e = .returned (.string ⟨(Lib.decDigits tn).toArray⟩) ∧ w' = w1 := fun w1 => decimal_any w1 tn ht
  have KN : ∀ (w1 : World) (v : Value), RdF w1 v P → Tab16 w1 → Calls Tryd.prog 28 #[v] w1 fun e w' => e = .returned (.string (numT P)) ∧ Below w1.heap.size w1 w' := fun w1 v h h' => numbers_any w1 v P h m1 h'
  obtain ⟨D, hDe⟩ : ∃ D : ByteArray, (⟨(Lib.decDigits tn).toArray⟩ : ByteArray) = D := ⟨_, rfl⟩
  obtain ⟨N, hNe⟩ : ∃ N : ByteArray, numT P = N := ⟨_, rfl⟩
  rw [hDe] at hD KD HE
  rw [hNe] at hNP HE KN
  clear hS hlen hmul B
  go_upto_region 2 with fail
  go_cut [2] (fun s2 wx => s2 = .string (gatherB ⟨tn, P, Ls⟩) ∧ Below w.heap.size w wx)
  case first =>
    obtain ⟨hgl, hgh⟩ := B1.out
    obtain ⟨c0, c1, c2, -, -, -⟩ := blk3 hgh
    clear hgh
    go_region_with (first
      | (go_at_call 34; refine (KD _).mono ?_; rintro e w2 ⟨rfl, rfl⟩)
      | (go_at_call 28; refine (KN _ _ (by exact RdF.mono h1 (Below.curr hb1 rfl rfl rfl rfl)) (by exact Tab16.mono hT (Below.curr hb1 rfl rfl rfl rfl))).mono ?_; rintro e w3 ⟨rfl, b3⟩
         have e3 : Below w.heap.size w w3 := hb1.trans (Below.mono (B := w1.heap.size) ⟨b3.os, b3.tape, b3.output, b3.size, b3.block⟩ hb1.size)))
    all_goals (go_wp2_with fail; go_meet; exact ⟨by rw [← HE.out], e3⟩)
  case rest =>
  obtain ⟨rfl, b9⟩ := hcut
  go_wp2
  go_ret
  exact ⟨rfl, b9⟩

theorem validT_ticks {T : TM} (h : validT T = true) : ∃ tn : Nat, T.t = tn ∧ tn < 100 ∧ 0 < T.Ls.length := by
  unfold validT placesB at h
  simp only [Bool.and_eq_true, decide_eq_true_eq] at h
  obtain ⟨h1, h2, ⟨h3, h4, -⟩, h5, -⟩ := h
  exact ⟨T.t.toNat, by omega, by omega, by omega⟩

set_option maxRecDepth 100000 in
set_option maxHeartbeats 800000 in
theorem implGatherText_any (w : World) (u : Value) (T : TM) (h : RdT w u T) (hs : T.small) (hT : Tab16 w) :
    Calls Tryd.prog 23 #[u] w fun e w' => e = .returned (txtIf (validT T) (gatherB T)) ∧ Below w.heap.size w w' := by
  have H := Lib.hid h
  obtain ⟨vp, vt, rfl, -, -⟩ := h
  have hb0 : Below w.heap.size w (w.alloc (.cells #[.int .i64 T.t, vp, vt] 55)) := by (repeat (first | exact Below.refl _ _ | (refine Below.drewN ?_ _) | (refine Below.alloc ?_ (by first | exact Nat.le_refl _ | (simp; done) | (simp; omega)) _)))
  have B := HB.new w (.cells #[.int .i64 T.t, vp, vt] 55)
  go_enter Tryd.func23, Tryd.ntmps23
  go_wp2_with fail
  generalize w.alloc (.cells #[.int .i64 T.t, vp, vt] 55) = w0 at *
  refine (implValidGather_any w0 _ T (H.out.mono hb0) hs).mono ?_
  rintro e w1 ⟨rfl, b1⟩
  have hb1 := hb0.trans (b1.mono hb0.size)
  obtain ⟨c0, c1, c2, -, -, -⟩ := blk3 (B.mono b1).2
  clear B
  cases hp : validT T with
  | false =>
    go_wp2
    go_ret2
    exact ⟨by rw [hp]; rfl, hb1⟩
  | true =>
    obtain ⟨tn, e1, e2, e3⟩ := validT_ticks hp
    obtain ⟨t, P, Ls⟩ := T
    simp only at e1 e3
    subst e1
    go_wp2_with fail
    refine (gatherText_any w1 _ tn P Ls (H.out.mono hb1) e2 e3 hs (hT.mono hb1)).mono ?_
    rintro e w2 ⟨rfl, b2⟩
    go_wp2
    go_ret2
    exact ⟨by rw [hp]; rfl, hb1.trans (b2.mono hb1.size)⟩

set_option maxRecDepth 100000 in
set_option maxHeartbeats 800000 in
theorem specGatherText_any (w : World) (u : Value) (T : TM) (h : RdT w u T) (hs : T.small) :
    Calls Tryd.prog 21 #[u] w fun e w' => e = .returned (txtIf (validT T) (gatherB T)) ∧ Below w.heap.size w w' := by
  obtain ⟨vp, vt, rfl, h1, h2⟩ := h
  obtain ⟨t, P, Ls⟩ := T
  obtain ⟨m1, m2, m3⟩ := hs
  simp only at *
  have hb0 : Below w.heap.size w (w.alloc (.cells #[.int .i64 t, vp, vt] 55)) := by (repeat (first | exact Below.refl _ _ | (refine Below.drewN ?_ _) | (refine Below.alloc ?_ (by first | exact Nat.le_refl _ | (simp; done) | (simp; omega)) _)))
  obtain ⟨c0, c1, c2, -, -, -⟩ := blk3 (alloc_new w (.cells #[.int .i64 t, vp, vt] 55))
  go_enter Tryd.func21, Tryd.ntmps21
  go_wp2_with fail
  generalize w.alloc (.cells #[.int .i64 t, vp, vt] 55) = w0 at *
  refine (l04Is_any w0 w.heap.size 0 t vp vt P Ls c0 c1 c2 (h1.mono hb0) (h2.mono hb0) m1 m2).mono ?_
  rintro e w1 ⟨rfl, m, hw1⟩
  have hb1 : Below w.heap.size w w1 := by rw [hw1]; exact Below.drewN hb0 m
  have d0 : w1.cell? ⟨w.heap.size, 0, none⟩ = some (.int .i64 t) := by rw [hw1]; exact c0
  have d1 : w1.cell? ⟨w.heap.size, 1, none⟩ = some vp := by rw [hw1]; exact c1
  have d2 : w1.cell? ⟨w.heap.size, 2, none⟩ = some vt := by rw [hw1]; exact c2
  clear hw1 c0 c1 c2
  cases hp : validT ⟨t, P, Ls⟩ with
  | false =>
    go_wp2
    go_ret2
    exact ⟨by rw [hp]; rfl, hb1⟩
  | true =>
    obtain ⟨tn, e1, e2, e3⟩ := validT_ticks hp
    simp only at e1 e3
    subst e1
    go_wp2_with fail
    refine (l08Gather_any w1 w.heap.size tn vp vt P Ls d0 d1 d2 (h1.mono hb1) (h2.mono hb1) e2 m1 m2 m3).mono ?_
    rintro e w2 ⟨rfl, b2⟩
    go_wp2
    go_ret2
    exact ⟨by rw [hp]; rfl, hb1.trans (b2.mono hb1.size)⟩
end Go.Proofs.YtmicghcgljldpaaDoor
