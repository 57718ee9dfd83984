/- Sections: sizes, copies, equal ones; those that came in. -/
import Derived.Test.YtmicghcgljldpaaDoorW47
import Derived.Test.YtmicghcgljldpaaDoorL7
import Derived.Test.YtmicghcgljldpaaDoorOpnK
namespace Go.Proofs.YtmicghcgljldpaaDoor
open Go Go.RowKit

set_option maxRecDepth 100000 in
set_option maxHeartbeats 800000 in
theorem szSection_any (w : World) (u : Value) (S : SM) (left : Int) (h : RdS w u S) (h0 : 0 ≤ left) (hl : left ≤ 1048576) (hn : S.V.length ≤ maxLen) :
    Calls Tryd.prog 10 #[u, .int .i64 left] w fun e w' => ∃ m, e = .returned (.int .i64 m) ∧ Left left (S.V.length ≤ 1048576) m ∧ Below w.heap.size w w' := by
  obtain ⟨v, rfl, p1⟩ := h
  obtain ⟨x, y, V⟩ := S
  simp only at *
  obtain ⟨a, c, rfl, -, -, -⟩ := p1.opened
  have hb0 : Below w.heap.size w (w.alloc (.cells #[.int .i64 x, .int .i64 y, .slice a V.length c] 32)) := by (repeat (first | exact Below.refl _ _ | (refine Below.drewN ?_ _) | (refine Below.alloc ?_ (by first | exact Nat.le_refl _ | (simp; done) | (simp; omega)) _)))
  go_enter Tryd.func10, Tryd.ntmps10
  go_wp2_with fail
  refine (szFloat32S_any _ _ V left (p1.mono hb0) h0 hl hn).mono ?_
  rintro e1 w1 ⟨m1, rfl, hm1, rfl⟩
  rcases hm1 with rfl | ⟨q1, q2, q3⟩
  · go_wp2
    go_ret
    exact ⟨_, rfl, .inl rfl, hb0⟩
  · go_wp2
    go_ret
    exact ⟨_, rfl, .inr ⟨q1, q2, q3⟩, hb0⟩

set_option maxRecDepth 100000 in
set_option maxHeartbeats 800000 in
theorem toSection_any (w : World) (u : Value) (S : SM) (h : RdS w u S) (hs : S.V.length ≤ 1048576) :
    Calls Tryd.prog 12 #[u] w fun e w' => ∃ u', e = .returned u' ∧ RdS w' u' S ∧ Below w.heap.size w w' := by
  obtain ⟨v, rfl, p1⟩ := h
  obtain ⟨x, y, V⟩ := S
  simp only at *
  obtain ⟨a, c, rfl, -, -, -⟩ := p1.opened
  have hb0 : Below w.heap.size w (((w.alloc (.cells #[.int .i64 x, .int .i64 y, .slice a V.length c] 32)).alloc (.cells #[.int .i64 0, .int .i64 0, .slice none 0 0] 35)).alloc (.cells #[.int .i64 x, .int .i64 y, .slice none 0 0] 35)) := by (repeat (first | exact Below.refl _ _ | (refine Below.drewN ?_ _) | (refine Below.alloc ?_ (by first | exact Nat.le_refl _ | (simp; done) | (simp; omega)) _)))
  have h3 := heap3 w (.cells #[.int .i64 x, .int .i64 y, .slice a V.length c] 32) (.cells #[.int .i64 0, .int .i64 0, .slice none 0 0] 35) (.cells #[.int .i64 x, .int .i64 y, .slice none 0 0] 35)
  have hsz : (((w.alloc (.cells #[.int .i64 x, .int .i64 y, .slice a V.length c] 32)).alloc (.cells #[.int .i64 0, .int .i64 0, .slice none 0 0] 35)).alloc (.cells #[.int .i64 x, .int .i64 y, .slice none 0 0] 35)).heap.size = w.heap.size + 3 := by simp
  go_enter Tryd.func12, Tryd.ntmps12
  go_wp2_with fail
  generalize (((w.alloc (.cells #[.int .i64 x, .int .i64 y, .slice a V.length c] 32)).alloc (.cells #[.int .i64 0, .int .i64 0, .slice none 0 0] 35)).alloc (.cells #[.int .i64 x, .int .i64 y, .slice none 0 0] 35)) = w0 at *
  refine (toFloat32S_any w0 _ V (p1.mono hb0) hs).mono ?_
  rintro e1 w1 ⟨v1, rfl, o1, b1⟩
  obtain ⟨a1, c1, rfl, -, -, -⟩ := o1.rd.opened
  have hb1 := hb0.trans (b1.mono hb0.size)
  have s1 := b1.size
  have m6 := (b1.block (w.heap.size + 1) (by omega)).trans h3.2.1
  have n6 := (b1.block (w.heap.size + 1 + 1) (by omega)).trans h3.2.2
  obtain ⟨g0, g1, g2, g3, g4, g5⟩ := blk3 n6
  obtain ⟨i0, i1, i2, i3, i4, i5⟩ := blk3 m6
  have O1 := Lib.hid o1
  clear o1
  go_wp2
  have P3 := (Put.one n6 2 (.slice a1 V.length c1)).cs (cs' := #[.int .i64 x, .int .i64 y, .slice a1 V.length c1]) (by simp)
  have P4 := put3 ((P3.chg.block (w.heap.size + 1) (by omega) (by omega)).trans m6) (.int .i64 x) (.int .i64 y) (.slice a1 V.length c1)
  generalize w1.setCell ⟨w.heap.size + 1 + 1, 2, none⟩ (.slice a1 V.length c1) = w4 at *
  generalize (((w4.setCell ⟨w.heap.size + 1, 0, none⟩ (.int .i64 x)).setCell ⟨w.heap.size + 1, 1, none⟩ (.int .i64 y)).setCell ⟨w.heap.size + 1, 2, none⟩ (.slice a1 V.length c1)) = w5 at *
  have z3 := P3.size
  have z4 := P4.size
  refine bodyPost_ret (results_cell_row (g := w.heap.size + 1) rfl _ _ _ _ _ _ (by rfl) P4.heap Tryd.underlying35 rfl (by kernel_rfl)) rfl ?_
  refine ⟨_, rfl, ⟨.slice a1 V.length c1, rfl, ?_⟩, Below.chg (Below.chg hb1 P3.chg (fun k hk => by omega) hb1.size) P4.chg (fun k hk => by omega) (by omega)⟩
  exact ((O1.out.chg P3.chg fun k hk e => by have := (O1.out.lt hk).1; omega).chg P4.chg fun k hk e => by have := (O1.out.lt hk).1; omega).rd

set_option maxRecDepth 100000 in
set_option maxHeartbeats 800000 in
theorem eqSection_any (w : World) (u1 u2 : Value) (S : SM) (h1 : RdS w u1 S) (h2 : RdS w u2 S) (hs : S.V.length ≤ 1048576) :
    Calls Tryd.prog 14 #[u1, u2] w fun e w' => e = .returned (.bool true) ∧ Below w.heap.size w w' := by
  obtain ⟨v, rfl, p1⟩ := h1
  obtain ⟨v', rfl, p2⟩ := h2
  obtain ⟨x, y, V⟩ := S
  simp only at *
  obtain ⟨a, c, rfl, -, -, -⟩ := p1.opened
  obtain ⟨a', c', rfl, -, -, -⟩ := p2.opened
  have hb0 : Below w.heap.size w ((w.alloc (.cells #[.int .i64 x, .int .i64 y, .slice a V.length c] 35)).alloc (.cells #[.int .i64 x, .int .i64 y, .slice a' V.length c'] 35)) := by (repeat (first | exact Below.refl _ _ | (refine Below.drewN ?_ _) | (refine Below.alloc ?_ (by first | exact Nat.le_refl _ | (simp; done) | (simp; omega)) _)))
  have P1 := p1.mono hb0
  have P2 := p2.mono hb0
  go_enter Tryd.func14, Tryd.ntmps14
  go_wp2_with fail
  refine (eqFloat32S_any _ _ _ V P1 P2 hs).mono ?_
  rintro e1 w1 ⟨rfl, n1, rfl⟩
  go_wp2
  go_ret
  exact ⟨rfl, Below.drewN hb0 _⟩

theorem RdS.opened {w : World} {u : Value} {S : SM} (h : RdS w u S) : ∃ a c, u = .agg #[.int .i64 S.w, .int .i64 S.d, .slice a S.V.length c] := by
  obtain ⟨v, rfl, h1⟩ := h
  obtain ⟨a, c, rfl, -⟩ := h1.opened
  exact ⟨_, _, rfl⟩

section
open Go.ChangeShapes Go.WideShapes Go.ChangeAt Go.RowKit Go.Deep
variable {H : Type} {enc : TypeId × Value → H} {w : World} {base : Nat} {spare : Nat → Bool} {held : Bool}
theorem trodS {n : Nat} {c0 c1 c2 : Value} {y : DataW H × List MemPlace} (h : DataW.trod enc Tryd.prog w base spare held n 32 [c0, c1, c2] = some y) : ∃ S : SM, RdS w (.agg #[c0, c1, c2]) S ∧ S.V.length ≤ maxLen := by
  have h1 : Tryd.prog.cellsOf 30 = 1 := by kernel_rfl
  have h3 : Tryd.prog.cellsOf 2 = 1 := by kernel_rfl
  obtain ⟨_, _, g0⟩ := trod_field Tryd.underlying32 h 0 2 0 1 rfl h3
  obtain ⟨_, _, g1⟩ := trod_field Tryd.underlying32 h 1 2 1 1 rfl h3
  obtain ⟨_, _, g2⟩ := trod_field Tryd.underlying32 h 2 30 2 1 rfl h1
  obtain ⟨t, e, -, -⟩ := DataW.trod_int Tryd.underlying2 g0
  simp at e
  subst e
  obtain ⟨t', e, -, -⟩ := DataW.trod_int Tryd.underlying2 g1
  simp at e
  subst e
  obtain ⟨L, hL, hm⟩ := trodF (v := c2) g2
  exact ⟨⟨t, t', L⟩, ⟨_, rfl, hL⟩, hm⟩
set_option maxRecDepth 100000 in
theorem open_section {r : Reach} {b0 : Nat} {v : Value} {d : DataW H} {p : List MemPlace} (hv : Value.okWide Tryd.prog w r b0 32 v) (h : DataW.Trod enc Tryd.prog w base spare held 32 v d p) :
    ∃ S : SM, RdS w v S ∧ S.V.length ≤ maxLen := by
  obtain ⟨cs, rfl, hsz⟩ := okWide_struct Tryd.underlying32 hv
  have hC : Tryd.prog.cellsOf 32 = 3 := by kernel_rfl
  obtain ⟨l⟩ := cs
  match l, hsz.trans hC with
  | [c0, c1, c2], _ =>
    obtain ⟨fuel, hf⟩ := h
    exact trodS hf
end
end Go.Proofs.YtmicghcgljldpaaDoor
