/- Walks: copies that the laws make of lists of lists, gathers and desks. -/
import Derived.Test.YtmicghcgljldpaaDoorL6
namespace Go.Proofs.YtmicghcgljldpaaDoor
open Go Go.RowKit

/-- The first k of a new list, and the others of an old one. -/
def mixD (new old : List D1) (k : Nat) : List D1 := (List.range old.length).map fun i => if i < k then new.getD i default else old.getD i default
theorem mixD_length (new old : List D1) (k : Nat) : (mixD new old k).length = old.length := by simp [mixD]
theorem mixD_zero (new old : List D1) : mixD new old 0 = old := by
  apply List.ext_getElem?
  intro i
  by_cases hi : i < old.length
  · simp [mixD, List.getElem?_map, List.getElem?_range hi, hi]
  · simp [mixD, List.getElem?_eq_none (Nat.le_of_not_lt hi), hi]
theorem mixD_all (new old : List D1) (k : Nat) (h : old.length ≤ k) (he : new.length = old.length) : mixD new old k = new := by
  apply List.ext_getElem?
  intro i
  by_cases hi : i < old.length
  · simp [mixD, List.getElem?_map, List.getElem?_range hi, show i < k by omega, show i < new.length by omega]
  · simp [mixD, hi, List.getElem?_eq_none (show new.length ≤ i by omega)]
theorem mixD_getD (new old : List D1) (k i : Nat) (h : i < old.length) : (mixD new old k).getD i default = if i < k then new.getD i default else old.getD i default := by
  simp [mixD, List.getD_eq_getElem?_getD, List.getElem?_map, List.getElem?_range h]
theorem mixD_set (new old : List D1) (k : Nat) : (mixD new old k).set k (new.getD k default) = mixD new old (k + 1) := by
  apply List.ext_getElem?
  intro i
  by_cases hi : i < old.length
  · by_cases h1 : k = i
    · subst h1; simp [mixD, List.getElem?_set, List.getElem?_map, List.getElem?_range hi, hi]
    · simp only [mixD, List.getElem?_set, List.getElem?_map, List.getElem?_range hi, if_neg h1, Option.map_some]
      by_cases h2 : i < k
      · simp [h2, show i < k + 1 by omega]
      · simp [h2, show ¬ i < k + 1 by omega]
  · rw [List.getElem?_eq_none (by simp [mixD_length]; omega), List.getElem?_eq_none (by simp [mixD_length]; omega)]
theorem fs_getD (Ls : List (List Nat)) (k : Nat) (h : k < Ls.length) : (Ls.map D1.fs).getD k default = .fs (rowAt Ls k) := by
  simp [rowAt, List.getD_eq_getElem?_getD, List.getElem?_map, List.getElem?_eq_getElem h]

theorem Tryd.infoFS : (Tryd.prog.info? 30).map (fun i => (i.zero, i.size, i.bytes)) = some (some (.slice none 0 0), 1, 24) := by kernel_rfl

set_option maxRecDepth 100000 in
set_option maxHeartbeats 800000 in
theorem toFloat32SS_any (w : World) (v : Value) (Ls : List (List Nat)) (h : RdSS w v Ls) (hmax : Ls.length ≤ 1048576) (hm : ∀ j, j < Ls.length → (rowAt Ls j).length ≤ 1048576) :
    Calls Tryd.prog 47 #[v] w fun e w' => ∃ v', e = .returned v' ∧ OwnSS w' (Iv w.heap.size w'.heap.size) v' Ls ∧ Below w.heap.size w w' := by
  obtain ⟨a, c, rfl, hc, -, hcell⟩ := h.opened
  go_enter Tryd.func47, Tryd.ntmps47
  go_wp2_with (refine wpList_mkC rfl _ _ 50 30 rfl _ 1 24 Tryd.underlying50 Tryd.infoFS rfl [.fs []] rfl ?_ _ _ _ _ Ls.length rfl rfl rfl rfl hmax (by decide) ?_; (intro w S j hj; obtain rfl : j = 0 := (by omega); exact ⟨Own1.fs_ (OwnF.nil w 0) (fun k hk => by cases hk), rfl⟩); intro w1 h1 hb1 hs1)
  have h1' := OwnC.congr h1 (zeros_fs Ls.length)
  clear h1 h
  go_loopw [4] (fun i wr => ∃ k : Nat, k ≤ Ls.length ∧ i = .int .i64 k ∧ OwnC wr (Iv w.heap.size wr.heap.size) 30 1 (.slice (some ⟨w.heap.size, 0, none⟩) Ls.length Ls.length) Ls.length (mixD (Ls.map D1.fs) (List.replicate Ls.length (.fs [])) k) ∧ Below w.heap.size w wr) (fun i _ => Ls.length - (intOf i).toNat)
  case atStart => exact ⟨0, Nat.zero_le _, rfl, by rw [mixD_zero]; exact h1'.wide fun k hk => ⟨hk.1, by have := hk.2; omega⟩, hb1⟩
  case round =>
    obtain ⟨wi, rfl⟩ : ∃ wi : World, wi = wr := ⟨_, rfl⟩
    obtain ⟨k, hk, rfl, ho, hb⟩ := hrel
    clear h1'
    by_cases hlt : k < Ls.length
    · obtain ⟨b, o, a', c', rfl, hlb, d0, R0⟩ := hcell k hlt
      have q0 : wi.cell? ⟨b, o + k, none⟩ = some (.slice a' (rowAt Ls k).length c') := by rw [(bcell hb).1 _ _ hlb]; exact d0
      have R1 := Lib.hid (R0.mono hb)
      have hmk := hm k hlt
      clear d0 hcell R0 hm
      go_wp2_with fail
      refine (toFloat32S_any wi _ (rowAt Ls k) R1.out hmk).mono ?_
      rintro e2 w2 ⟨v2, rfl, o2, b2⟩
      clear q0
      have ho2 := ho.kept b2
      have hb2 := hb.trans (b2.mono hb.size)
      have hs0 := hb.size
      have hs2 := b2.size
      obtain ⟨a2, c2, rfl, -, -, -⟩ := o2.rd.opened
      have oldlt := ho.lt
      rcases ho2.form with ⟨hv, -⟩ | ⟨g, cap, hv, -, -, -, hcl, hfr⟩
      · cases hv
      · obtain ⟨rfl, rfl⟩ : w.heap.size = g ∧ Ls.length = cap := by cases hv; exact ⟨rfl, rfl⟩
        have hl4 : (mixD (Ls.map D1.fs) (List.replicate Ls.length (.fs [])) k).length = Ls.length := by rw [mixD_length, List.length_replicate]
        obtain ⟨u0, m0, -, -⟩ := hcl k (by omega)
        have z0 := hfr k
        have st := Lib.hid ((ho2.wide (S' := Iv w.heap.size w2.heap.size) fun q hq => ⟨hq.1, by have := hq.2; omega⟩).stored (j := k) (Own1.fs_ o2 fun q hq => ⟨by have := (o2.lt hq).1; omega, (o2.lt hq).2⟩)
          (fun q hq => by
            have hq1 := (o2.lt hq).1
            refine ⟨by have := oldlt w.heap.size rfl; omega, fun i ui hi hci hne e => ?_⟩
            obtain ⟨u', hu', hown, -⟩ := hcl i hi
            rw [hu'] at hci
            cases hci
            have := (hown.lt q e).1.2
            omega))
        have hsz : ∀ x, (w2.setCell ⟨w.heap.size, k, none⟩ x).heap.size = w2.heap.size := fun x => by simp [World.setCell]
        have Hsz := Lib.hid hsz
        have Hb2 := Lib.hid hb2
        clear ho ho2 hcl hfr hv hl4 hsz oldlt
        go_wp2
        refine ⟨⟨k + 1, by omega, by go_num, ?_, Hb2.out.setCell (p := ⟨w.heap.size, _, none⟩) (Nat.le_refl _) _⟩, by simp [intOf]; omega⟩
        rw [← mixD_set, fs_getD _ _ hlt, Hsz.out]
        exact st.out
    · go_wp2
      go_ret
      obtain rfl : k = Ls.length := by omega
      rw [mixD_all _ _ _ (by rw [List.length_replicate]; exact Nat.le_refl _) (by simp)] at ho
      exact ⟨_, rfl, ho, hb⟩

set_option maxRecDepth 100000 in
set_option maxHeartbeats 800000 in
theorem toGather_any (w : World) (u : Value) (T : TM) (h : RdT w u T) (hs : T.small) :
    Calls Tryd.prog 22 #[u] w fun e w' => ∃ u', e = .returned u' ∧ OwnT w' (Iv w.heap.size w'.heap.size) u' T ∧ Below w.heap.size w w' := by
  obtain ⟨vp, vt, rfl, p1, t1⟩ := h
  obtain ⟨t, P, Ls⟩ := T
  obtain ⟨n1, n2, n3⟩ := hs
  simp only at *
  obtain ⟨a, c, rfl, -, -, -⟩ := p1.opened
  obtain ⟨b, d, rfl, -, -, -⟩ := t1.opened
  have hb0 : Below w.heap.size w (((w.alloc (.cells #[.int .i64 t, .slice a P.length c, .slice b Ls.length d] 52)).alloc (.cells #[.int .i64 0, .slice none 0 0, .slice none 0 0] 55)).alloc (.cells #[.int .i64 t, .slice none 0 0, .slice none 0 0] 55)) := by (repeat (first | exact Below.refl _ _ | (refine Below.drewN ?_ _) | (refine Below.alloc ?_ (by first | exact Nat.le_refl _ | (simp; done) | (simp; omega)) _)))
  have h3 := heap3 w (.cells #[.int .i64 t, .slice a P.length c, .slice b Ls.length d] 52) (.cells #[.int .i64 0, .slice none 0 0, .slice none 0 0] 55) (.cells #[.int .i64 t, .slice none 0 0, .slice none 0 0] 55)
  have hsz : (((w.alloc (.cells #[.int .i64 t, .slice a P.length c, .slice b Ls.length d] 52)).alloc (.cells #[.int .i64 0, .slice none 0 0, .slice none 0 0] 55)).alloc (.cells #[.int .i64 t, .slice none 0 0, .slice none 0 0] 55)).heap.size = w.heap.size + 3 := by simp
  go_enter Tryd.func22, Tryd.ntmps22
  go_wp2_with fail
  generalize (((w.alloc (.cells #[.int .i64 t, .slice a P.length c, .slice b Ls.length d] 52)).alloc (.cells #[.int .i64 0, .slice none 0 0, .slice none 0 0] 55)).alloc (.cells #[.int .i64 t, .slice none 0 0, .slice none 0 0] 55)) = w0 at *
  refine (toFloat32S_any w0 _ P (p1.mono hb0) n1).mono ?_
  rintro e1 w1 ⟨v1, rfl, o1, b1⟩
  obtain ⟨a1, c1, rfl, -, -, -⟩ := o1.rd.opened
  have hb1 := hb0.trans (b1.mono hb0.size)
  have s1 := b1.size
  have l6 := (b1.block w.heap.size (by omega)).trans h3.1
  have m6 := (b1.block (w.heap.size + 1) (by omega)).trans h3.2.1
  have n6 := (b1.block (w.heap.size + 1 + 1) (by omega)).trans h3.2.2
  obtain ⟨-, -, g2, -, -, -⟩ := blk3 l6
  obtain ⟨-, g4, -, -, g5, -⟩ := blk3 n6
  go_wp2_with fail
  have P1 := (Put.one n6 1 (.slice a1 P.length c1)).cs (cs' := #[.int .i64 t, .slice a1 P.length c1, .slice none 0 0]) (by simp)
  generalize w1.setCell ⟨w.heap.size + 1 + 1, 1, none⟩ (.slice a1 P.length c1) = w2 at *
  have z1 := P1.size
  have hb2 := Below.chg hb1 P1.chg (fun k hk => by omega) hb1.size
  have o2 : OwnF w2 w0.heap.size (.slice a1 P.length c1) P := o1.chg P1.chg fun k hk e => by have := (o1.lt hk).1; omega
  have l7 := (P1.chg.block w.heap.size (by omega) (by omega)).trans l6
  have m7 := (P1.chg.block (w.heap.size + 1) (by omega) (by omega)).trans m6
  have ob1 : ∀ k, (Value.slice a1 P.length c1).ownBlock = some k → w0.heap.size ≤ k ∧ k < w1.heap.size := fun k hk => o1.lt hk
  clear l6 m6 n6 g2 g4 g5
  refine (toFloat32SS_any w2 _ Ls (t1.mono hb2) n2 n3).mono ?_
  rintro e3 w3 ⟨v3, rfl, o3, b3⟩
  obtain ⟨a3, c3, rfl, -⟩ := OwnC.rd o3
  have hb3 := hb2.trans (b3.mono hb2.size)
  have s3 := b3.size
  have m8 := (b3.block (w.heap.size + 1) (by omega)).trans m7
  have n8 := (b3.block (w.heap.size + 1 + 1) (by omega)).trans P1.heap
  obtain ⟨g0, g1, g2, g3, g4, g5⟩ := blk3 n8
  obtain ⟨i0, i1, i2, i3, i4, i5⟩ := blk3 m8
  have o5 : OwnF w3 w0.heap.size (.slice a1 P.length c1) P := o2.kept b3
  have Ob1 := Lib.hid ob1
  clear o1 o2 ob1
  go_wp2
  have P3 := (Put.one n8 2 (.slice a3 Ls.length c3)).cs (cs' := #[.int .i64 t, .slice a1 P.length c1, .slice a3 Ls.length c3]) (by simp)
  have P4 := put3 ((P3.chg.block (w.heap.size + 1) (by omega) (by omega)).trans m8) (.int .i64 t) (.slice a1 P.length c1) (.slice a3 Ls.length c3)
  generalize w3.setCell ⟨w.heap.size + 1 + 1, 2, none⟩ (.slice a3 Ls.length c3) = w4 at *
  generalize (((w4.setCell ⟨w.heap.size + 1, 0, none⟩ (.int .i64 t)).setCell ⟨w.heap.size + 1, 1, none⟩ (.slice a1 P.length c1)).setCell ⟨w.heap.size + 1, 2, none⟩ (.slice a3 Ls.length c3)) = w5 at *
  have z3 := P3.size
  have z4 := P4.size
  have ob := Ob1.out
  refine bodyPost_ret (results_cell_row (g := w.heap.size + 1) rfl _ _ _ _ _ _ (by rfl) P4.heap Tryd.underlying55 rfl (by kernel_rfl)) rfl ?_
  refine ⟨_, rfl, ⟨.slice a1 P.length c1, .slice a3 Ls.length c3, Iv w0.heap.size w1.heap.size, Iv w2.heap.size w3.heap.size, rfl, ?_, fun k hk => ob k hk, ?_, fun k hk => ⟨by have := hk.1; omega, by have := hk.2; omega⟩, fun k hk => ⟨by have := hk.1; omega, by have := hk.2; omega⟩, fun k h1 h2 => by have := h1.2; have := h2.1; omega⟩,
    Below.chg (Below.chg hb3 P3.chg (fun k hk => by omega) hb3.size) P4.chg (fun k hk => by omega) (by omega)⟩
  · exact ((o5.chg P3.chg fun k hk e => by have := ob k hk; omega).chg P4.chg fun k hk e => by have := ob k hk; omega).mono (Nat.zero_le _)
  · exact OwnC.chg (OwnC.chg o3 P3.chg fun k hk e => by have := hk.1; omega) P4.chg fun k hk e => by have := hk.1; omega
end Go.Proofs.YtmicghcgljldpaaDoor
