/- Walks: the text of a ground: the reference's. -/
import Derived.Test.YtmicghcgljldpaaDoorW38
import Derived.Test.YtmicghcgljldpaaDoorW30
import Derived.Deep.CutRange
import Derived.Deep.DeepCutAuto
import Derived.Deep.RegionWith
namespace Go.Proofs.YtmicghcgljldpaaDoor
open Go Go.RowKit

theorem join_snoc (xs : List (List UInt8)) (x sep : List UInt8) (h : xs ≠ []) : Lib.join (xs ++ [x]) sep = Lib.join xs sep ++ (sep ++ x) := by
  cases xs with
  | nil => exact absurd rfl h
  | cons y r =>
    rw [List.cons_append, Lib.join_cons, Lib.join_cons]
    simp [Lib.joinTail, List.append_assoc]
theorem ByteArray.empty_append' (S : ByteArray) : (⟨#[]⟩ : ByteArray) ++ S = S := by
  apply ByteArray.ext
  simp [ByteArray.data_append]
def numB (L : List Nat) : List UInt8 := (numT L).data.toList
theorem numT_eq (L : List Nat) : numT L = ⟨(numB L).toArray⟩ := by unfold numB; simp
theorem numB_length (L : List Nat) (h : L.length ≤ 1048576) : (numB L).length ≤ 9437184 := by
  by_cases hl : 0 < L.length
  · unfold numB
    rw [numT_cons hl]
    have := txt_length L L.length hl (Nat.le_refl _)
    simp only [List.toList_toArray]
    omega
  · obtain rfl : L = [] := List.eq_nil_of_length_eq_zero (by omega)
    decide
/-- Texts, with a separator between them. -/
def rowsT (f : Nat → List UInt8) (sep : UInt8) (j : Nat) : List UInt8 := Lib.join ((List.range j).map f) [sep]
theorem rowsT_zero (f : Nat → List UInt8) (sep : UInt8) : rowsT f sep 0 = [] := rfl
theorem rowsT_one (f : Nat → List UInt8) (sep : UInt8) : rowsT f sep 1 = f 0 := by
  unfold rowsT
  exact Lib.join_one _ _
theorem rowsT_succ (f : Nat → List UInt8) (sep : UInt8) (j : Nat) (h : 0 < j) : rowsT f sep (j + 1) = rowsT f sep j ++ [sep] ++ f j := by
  unfold rowsT
  rw [List.range_succ, List.map_append, List.map_cons, List.map_nil, join_snoc _ _ _ (by
    intro e
    have := congrArg List.length e
    simp at this
    omega), List.append_assoc]
theorem rowsT_length (f : Nat → List UInt8) (sep : UInt8) (j m : Nat) (h : ∀ i, i < j → (f i).length ≤ m) : (rowsT f sep j).length ≤ j * (m + 1) := by
  induction j with
  | zero => simp [rowsT_zero]
  | succ j ih =>
    have h1 := ih fun i hi => h i (by omega)
    have h2 := h j (by omega)
    rw [Nat.succ_mul]
    rcases Nat.eq_zero_or_pos j with rfl | hj
    · rw [rowsT_one]; omega
    · rw [rowsT_succ f sep j hj, List.length_append, List.length_append, List.length_singleton]
      omega
/-- The four numbers of a layer. -/
def lay4L (L : List Nat) (i : Nat) : List Nat := [L.getD (4 * i) 0, L.getD (4 * i + 1) 0, L.getD (4 * i + 2) 0, L.getD (4 * i + 3) 0]
def layB (L : List Nat) (i : Nat) : List UInt8 := numB (lay4L L i)
theorem layB_length (L : List Nat) (i : Nat) : (layB L i).length = 35 := by
  have h := txt_length (lay4L L i) 4 (by decide) (by simp [lay4L])
  unfold layB numB
  rw [numT_cons (show 0 < (lay4L L i).length from by simp [lay4L])]
  show (txt (lay4L L i) 4).toArray.toList.length = 35
  simp only [List.toList_toArray]
  omega
def groundB (G : GM) : ByteArray := ⟨(rowsT (layB G.L) 47 G.n ++ [59] ++ numB [G.s, G.d]).toArray⟩

theorem rd2 {w : World} {g : Nat} {t : TypeId} {r0 r1 x0 x1 : Nat} (h : w.heap[g]? = some (.cells #[.float .f32 r0, .float .f32 r1] t (0, 0))) (f0 : FV .f32 r0 x0) (f1 : FV .f32 r1 x1) :
    RdF w (.slice (some ⟨g, 0, none⟩) 2 2) [x0, x1] :=
  RdF.ofBlock (cs := [r0, r1]) (L := [x0, x1]) h rfl (fun j hj => by
    match j, hj with
    | 0, _ => exact f0
    | 1, _ => exact f1)
theorem ground_append (G : GM) : (⟨(rowsT (layB G.L) 47 G.n).toArray⟩ : ByteArray) ++ (⟨#[59]⟩ : ByteArray) ++ numT [G.s, G.d] = groundB G := by
  rw [numT_eq]
  unfold groundB
  rw [← bytes_append, ← bytes_append]

set_option maxRecDepth 100000 in
set_option maxHeartbeats 4000000 in
theorem l08Ground_any (w : World) (g : Nat) (v : Value) (r s : Nat) (G : GM) (c0 : w.cell? ⟨g, 0, none⟩ = some v) (c1 : w.cell? ⟨g, 1, none⟩ = some (.float .f32 r)) (c2 : w.cell? ⟨g, 2, none⟩ = some (.float .f32 s))
    (l1 : RdLay w v G.n G.L) (f1 : FV .f32 r G.s) (f2 : FV .f32 s G.d) (hs : G.small) :
    Calls Tryd.prog 38 #[.pointer (some ⟨g, 0, none⟩)] w fun e w' => e = .returned (.string (groundB G)) ∧ Below w.heap.size w w' := by
  obtain ⟨n, L, x, y⟩ := G
  simp only [GM.small] at *
  obtain ⟨a, c, rfl, hc, -, hcell⟩ := l1.opened
  have hg := block_lt c0
  have C0 := Lib.hid c0
  have C1 := Lib.hid c1
  have C2 := Lib.hid c2
  clear c0 c1 c2
  go_enter Tryd.func38, Tryd.ntmps38
  go_wp2_with fail
  go_loopw [3, 4, 5] (fun o i _ wr => ∃ j : Nat, j ≤ n ∧ i = .int .i64 j ∧ o = .string ⟨(rowsT (layB L) 47 j).toArray⟩ ∧ Below w.heap.size w wr) (fun _ i _ _ => n - (intOf i).toNat)
  case atStart => exact ⟨0, Nat.zero_le _, rfl, rfl, Below.refl _ _⟩
  case round =>
    obtain ⟨wi, rfl⟩ : ∃ wi : World, wi = wr := ⟨_, rfl⟩
    obtain ⟨j, hj, rfl, rfl, hb⟩ := hrel
    have c0 : wi.cell? ⟨g, 0, none⟩ = some (.slice a n c) := by rw [(bcell hb).1 _ _ hg]; exact C0.out
    have hlen := rowsT_length (layB L) 47 j 35 fun i _ => Nat.le_of_eq (layB_length L i)
    have hmul : j * 36 ≤ 1048576 * 36 := Nat.mul_le_mul_right _ (by omega)
    obtain ⟨S, hS⟩ : ∃ S : ByteArray, (⟨(rowsT (layB L) 47 j).toArray⟩ : ByteArray) = S := ⟨_, rfl⟩
    have hSs : S.size ≤ 37748736 := by
      rw [← hS]
      show (rowsT (layB L) 47 j).toArray.size ≤ _
      rw [List.size_toArray]
      omega
    by_cases hlt : j < n
    · obtain ⟨b, o, r0, r1, r2, r3, rfl, hlb, d0, d1, d2, d3, p0, p1, p2, p3⟩ := hcell j hlt
      have q0 : wi.cell? ⟨b, o + j * 4, none⟩ = some (.float .f32 r0) := by rw [(bcell hb).1 _ _ hlb]; exact d0
      have q1 : wi.cell? ⟨b, o + j * 4 + 1, none⟩ = some (.float .f32 r1) := by rw [(bcell hb).1 _ _ hlb]; exact d1
      have q2 : wi.cell? ⟨b, o + j * 4 + 2, none⟩ = some (.float .f32 r2) := by rw [(bcell hb).1 _ _ hlb]; exact d2
      have q3 : wi.cell? ⟨b, o + j * 4 + 3, none⟩ = some (.float .f32 r3) := by rw [(bcell hb).1 _ _ hlb]; exact d3
      have hsz4 : (numT (lay4L L j)).size = 35 := by
        have := layB_length L j
        unfold layB numB at this
        simpa using this
      have HS := Lib.hid hS
      rw [hS]
      clear hS hlen hmul d0 d1 d2 d3 hcell
      by_cases hj0 : 0 < j
      · have hj0' : (0 : Int) < (j : Int) := by omega
        have hS2 : ∃ S2 : ByteArray, S ++ (⟨#[47]⟩ : ByteArray) = S2 := ⟨_, rfl⟩
        go_wp2
        refine region_rel_pull 1 17 (by kernel_rfl) (by kernel_rfl) (Drawn wi) (fun _ _ _ => False) ⟨1, rfl⟩ ?_
        simp only [List.take_succ_cons, List.take_zero, List.drop_succ_cons, List.drop_zero]
        repeat (refine wpRel_draw rfl rfl (fun nq K hK => ?_); go_wp2)
        refine wpRel_nil ?_
        rintro wd ⟨nd, hwd⟩
        have hbd : Below w.heap.size w wd := by rw [hwd]; exact Below.drewN hb nd
        have hR := rd4 (alloc_new wd (.cells #[.float .f32 r0, .float .f32 r1, .float .f32 r2, .float .f32 r3] 22)) p0 p1 p2 p3
        have hb1 : Below w.heap.size w (wd.alloc (.cells #[.float .f32 r0, .float .f32 r1, .float .f32 r2, .float .f32 r3] 22)) := hbd.alloc hbd.size _
        clear hwd q0 q1 q2 q3 c0 hS2
        go_wp2_with fail
        refine (l01NText_any _ _ (lay4L L j) hR (by simp [lay4L])).mono ?_
        rintro e w2 ⟨rfl, b2⟩
        go_wp2
        simp only [noPanic]
        go_wp2
        refine ⟨⟨j + 1, by omega, by go_num, ?_, hb1.trans (b2.mono hb1.size)⟩, by simp [intOf]; omega⟩
        rw [rowsT_succ _ _ j hj0, ← bytes_append, ← bytes_append, HS.out]
        unfold layB
        rw [← numT_eq]
      · obtain rfl : j = 0 := by omega
        have hS0 : S = ⟨#[]⟩ := by rw [← HS.out]; rfl
        simp only [Nat.zero_mul, Nat.add_zero] at q0 q1 q2 q3
        have HS0 := Lib.hid hS0
        clear hS0
        go_wp2
        refine region_rel_pull 1 17 (by kernel_rfl) (by kernel_rfl) (Drawn wi) (fun _ _ _ => False) ⟨1, rfl⟩ ?_
        simp only [List.take_succ_cons, List.take_zero, List.drop_succ_cons, List.drop_zero]
        repeat (refine wpRel_draw rfl rfl (fun nq K hK => ?_); go_wp2)
        refine wpRel_nil ?_
        rintro wd ⟨nd, hwd⟩
        have hbd : Below w.heap.size w wd := by rw [hwd]; exact Below.drewN hb nd
        have hR := rd4 (alloc_new wd (.cells #[.float .f32 r0, .float .f32 r1, .float .f32 r2, .float .f32 r3] 22)) p0 p1 p2 p3
        have hb1 : Below w.heap.size w (wd.alloc (.cells #[.float .f32 r0, .float .f32 r1, .float .f32 r2, .float .f32 r3] 22)) := hbd.alloc hbd.size _
        clear hwd q0 q1 q2 q3 c0 hj0
        go_wp2_with fail
        refine (l01NText_any _ _ (lay4L L 0) hR (by simp [lay4L])).mono ?_
        rintro e w2 ⟨rfl, b2⟩
        go_wp2
        simp only [noPanic]
        go_wp2
        refine ⟨⟨1, by omega, by simp, ?_, hb1.trans (b2.mono hb1.size)⟩, by simp [intOf]; omega⟩
        rw [HS0.out, rowsT_one]
        unfold layB
        rw [← numT_eq, ByteArray.empty_append']
    · obtain rfl : j = n := by omega
      rw [hS]
      have HS := Lib.hid hS
      have c1 : wi.cell? ⟨g, 1, none⟩ = some (.float .f32 r) := by rw [(bcell hb).1 _ _ hg]; exact C1.out
      have c2 : wi.cell? ⟨g, 2, none⟩ = some (.float .f32 s) := by rw [(bcell hb).1 _ _ hg]; exact C2.out
      clear hS hlen hmul hcell
      go_upto_region 9 with fail
      go_cut [2] (fun s2 wx => s2 = .string (groundB ⟨j, L, x, y⟩) ∧ Below wi.heap.size wi wx)
      case first =>
        have hR := rd2 (alloc_new wi (.cells #[.float .f32 r, .float .f32 s] 22)) f1 f2
        have hb1 : Below wi.heap.size wi (wi.alloc (.cells #[.float .f32 r, .float .f32 s] 22)) := (Below.refl _ _).alloc (Nat.le_refl _) _
        have hN : (numT [x, y]).size = 17 := by
          have := txt_length [x, y] 2 (by decide) (by simp)
          rw [numT_cons (by simp)]
          show (txt [x, y] 2).toArray.size = 17
          rw [List.size_toArray]
          omega
        have HE : Hid (S ++ (⟨#[59]⟩ : ByteArray) ++ numT [x, y] = groundB ⟨j, L, x, y⟩) := Lib.hid (by rw [← HS.out]; exact ground_append ⟨j, L, x, y⟩)
        go_region_with (first
          | (go_at_call 52; refine (l01NText_any _ _ [x, y] (by exact hR) (by simp)).mono ?_; rintro e w9 ⟨rfl, b9⟩; have c9 : Below wi.heap.size wi w9 := hb1.trans (Below.mono (B := (wi.alloc (.cells #[.float .f32 r, .float .f32 s] 22)).heap.size) ⟨b9.os, b9.tape, b9.output, b9.size, b9.block⟩ hb1.size)))
        all_goals (go_wp2_with fail; go_meet; exact ⟨by rw [← HE.out], c9⟩)
      case rest =>
      obtain ⟨rfl, b9⟩ := hcut
      go_wp2
      go_ret
      exact ⟨rfl, hb.trans (b9.mono hb.size)⟩
end Go.Proofs.YtmicghcgljldpaaDoor
