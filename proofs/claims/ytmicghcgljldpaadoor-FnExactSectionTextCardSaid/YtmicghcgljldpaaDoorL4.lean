/- Walks: how great an argument of a law is. -/
import Derived.Test.YtmicghcgljldpaaDoorL3
namespace Go.Proofs.YtmicghcgljldpaaDoor
open Go Go.RowKit

/-- What a size leaves: less than nothing, or no more than there was, and then 'ok'. -/
def Left (left : Int) (ok : Prop) (m : Int) : Prop := m = -1 ∨ (0 ≤ m ∧ m ≤ left ∧ ok)

set_option maxRecDepth 100000 in
theorem szLayerS_any (w : World) (v : Value) (n : Nat) (L : List Nat) (left : Int) (h : RdLay w v n L) (h0 : 0 ≤ left) (hl : left ≤ 1048576) (hn : n ≤ maxLen) :
    Calls Tryd.prog 36 #[v, .int .i64 left] w fun e w' => ∃ m, e = .returned (.int .i64 m) ∧ Left left (n ≤ 1048576) m ∧ w' = w := by
  obtain ⟨a, c, rfl, hc, -, -⟩ := h.opened
  have hw : IntKind.i64.wrap (left - (n : Int)) = left - (n : Int) := IntWalk.i64_in _ (by unfold maxLen at hn; omega)
  by_cases hlt : left - (n : Int) < 0
  · go_enter Tryd.func36, Tryd.ntmps36
    go_wp2
    go_ret
    exact ⟨_, rfl, .inl rfl, rfl⟩
  · go_enter Tryd.func36, Tryd.ntmps36
    go_wp2
    go_ret
    exact ⟨_, rfl, .inr ⟨by omega, by omega, by omega⟩, rfl⟩

set_option maxRecDepth 100000 in
theorem szFloat32S_any (w : World) (v : Value) (L : List Nat) (left : Int) (h : RdF w v L) (h0 : 0 ≤ left) (hl : left ≤ 1048576) (hn : L.length ≤ maxLen) :
    Calls Tryd.prog 29 #[v, .int .i64 left] w fun e w' => ∃ m, e = .returned (.int .i64 m) ∧ Left left (L.length ≤ 1048576) m ∧ w' = w := by
  obtain ⟨a, c, rfl, hc, -, -⟩ := h.opened
  have hw : IntKind.i64.wrap (left - (L.length : Int)) = left - (L.length : Int) := IntWalk.i64_in _ (by unfold maxLen at hn; omega)
  by_cases hlt : left - (L.length : Int) < 0
  · go_enter Tryd.func29, Tryd.ntmps29
    go_wp2
    go_ret
    exact ⟨_, rfl, .inl rfl, rfl⟩
  · go_enter Tryd.func29, Tryd.ntmps29
    go_wp2
    go_ret
    exact ⟨_, rfl, .inr ⟨by omega, by omega, by omega⟩, rfl⟩

set_option maxRecDepth 100000 in
set_option maxHeartbeats 800000 in
theorem szFloat32SS_any (w : World) (v : Value) (Ls : List (List Nat)) (left : Int) (h : RdSS w v Ls) (h0 : 0 ≤ left) (hl : left ≤ 1048576) (hn : Ls.length ≤ maxLen) (hm : ∀ j, j < Ls.length → (rowAt Ls j).length ≤ maxLen) :
    Calls Tryd.prog 44 #[v, .int .i64 left] w fun e w' => ∃ m, e = .returned (.int .i64 m) ∧ Left left (Ls.length ≤ 1048576 ∧ ∀ j, j < Ls.length → (rowAt Ls j).length ≤ 1048576) m ∧ w' = w := by
  obtain ⟨a, c, rfl, hc, -, hcell⟩ := h.opened
  have hw : IntKind.i64.wrap (left - (Ls.length : Int)) = left - (Ls.length : Int) := IntWalk.i64_in _ (by unfold maxLen at hn; omega)
  by_cases hlt : left - (Ls.length : Int) < 0
  · go_enter Tryd.func44, Tryd.ntmps44
    go_wp2
    go_ret
    exact ⟨_, rfl, .inl rfl, rfl⟩
  · go_enter Tryd.func44, Tryd.ntmps44
    go_wp2
    clear hw
    have hlen : Ls.length ≤ 1048576 := by omega
    go_loop [1, 5] (fun q i => ∃ (j : Nat) (m : Int), j ≤ Ls.length ∧ i = .int .i64 j ∧ q = .int .i64 m ∧ 0 ≤ m ∧ m ≤ left ∧ ∀ t, t < j → (rowAt Ls t).length ≤ 1048576) (fun _ i => Ls.length - (intOf i).toNat)
    case atStart => exact ⟨0, _, Nat.zero_le _, rfl, rfl, by omega, by omega, fun t ht => by omega⟩
    case round =>
      obtain ⟨j, m, hj, rfl, rfl, h1, h2, h3⟩ := hrel
      by_cases hlj : j < Ls.length
      · obtain ⟨b, o, a', c', rfl, hlb, d0, R0⟩ := hcell j hlj
        have hmj := hm j hlj
        clear hcell
        go_wp2_with fail
        refine (szFloat32S_any w _ (rowAt Ls j) m R0 h1 (by omega) hmj).mono ?_
        rintro e1 w1 ⟨m1, rfl, hm1, rfl⟩
        rcases hm1 with rfl | ⟨q1, q2, q3⟩
        · go_wp2
          go_ret
          exact ⟨_, rfl, .inl rfl, rfl⟩
        · go_wp2
          exact ⟨⟨j + 1, m1, by omega, by go_num, rfl, q1, by omega, fun t ht => by
            by_cases e : t = j
            · subst e; exact q3
            · exact h3 t (by omega)⟩, by simp [intOf]; omega⟩
      · go_wp2
        go_ret
        exact ⟨_, rfl, .inr ⟨h1, h2, fun t ht => h3 t (by omega)⟩, rfl⟩

set_option maxRecDepth 100000 in
set_option maxHeartbeats 800000 in
theorem szGround_any (w : World) (u : Value) (G : GM) (left : Int) (h : RdG w u G) (h0 : 0 ≤ left) (hl : left ≤ 1048576) (hn : G.n ≤ maxLen) :
    Calls Tryd.prog 15 #[u, .int .i64 left] w fun e w' => ∃ m, e = .returned (.int .i64 m) ∧ Left left G.small m ∧ Below w.heap.size w w' := by
  obtain ⟨v, r, s, rfl, l1, f1, f2⟩ := h
  obtain ⟨a, c, rfl, hc, -, -⟩ := l1.opened
  have hb0 : Below w.heap.size w (w.alloc (.cells #[.slice a G.n c, .float .f32 r, .float .f32 s] 41)) := by (repeat (first | exact Below.refl _ _ | (refine Below.drewN ?_ _) | (refine Below.alloc ?_ (by first | exact Nat.le_refl _ | (simp; done) | (simp; omega)) _)))
  go_enter Tryd.func15, Tryd.ntmps15
  go_wp2_with fail
  refine (szLayerS_any _ _ G.n G.L left (l1.mono hb0) h0 hl hn).mono ?_
  rintro e1 w1 ⟨m1, rfl, hm1, rfl⟩
  rcases hm1 with rfl | ⟨q1, q2, q3⟩
  · go_wp2
    go_ret
    exact ⟨_, rfl, .inl rfl, hb0⟩
  · go_wp2
    go_ret
    exact ⟨_, rfl, .inr ⟨q1, q2, q3⟩, hb0⟩

def TM.fits (T : TM) : Prop := T.P.length ≤ maxLen ∧ T.Ls.length ≤ maxLen ∧ ∀ j, j < T.Ls.length → (rowAt T.Ls j).length ≤ maxLen
set_option maxRecDepth 100000 in
set_option maxHeartbeats 800000 in
theorem szGather_any (w : World) (u : Value) (T : TM) (left : Int) (h : RdT w u T) (h0 : 0 ≤ left) (hl : left ≤ 1048576) (hn : T.fits) :
    Calls Tryd.prog 20 #[u, .int .i64 left] w fun e w' => ∃ m, e = .returned (.int .i64 m) ∧ Left left T.small m ∧ Below w.heap.size w w' := by
  obtain ⟨vp, vt, rfl, p1, t1⟩ := h
  obtain ⟨t, P, Ls⟩ := T
  obtain ⟨n1, n2, n3⟩ := hn
  simp only at *
  obtain ⟨a, c, rfl, -, -, -⟩ := p1.opened
  obtain ⟨b, d, rfl, -, -, -⟩ := t1.opened
  have hb0 : Below w.heap.size w (w.alloc (.cells #[.int .i64 t, .slice a P.length c, .slice b Ls.length d] 52)) := by (repeat (first | exact Below.refl _ _ | (refine Below.drewN ?_ _) | (refine Below.alloc ?_ (by first | exact Nat.le_refl _ | (simp; done) | (simp; omega)) _)))
  go_enter Tryd.func20, Tryd.ntmps20
  go_wp2_with fail
  refine (szFloat32S_any _ _ P left (p1.mono hb0) h0 hl n1).mono ?_
  rintro e1 w1 ⟨m1, rfl, hm1, rfl⟩
  rcases hm1 with rfl | ⟨q1, q2, q3⟩
  · go_wp2
    go_ret
    exact ⟨_, rfl, .inl rfl, hb0⟩
  · go_wp2_with fail
    refine (szFloat32SS_any _ _ Ls m1 (t1.mono hb0) q1 (by omega) n2 n3).mono ?_
    rintro e2 w2 ⟨m2, rfl, hm2, rfl⟩
    rcases hm2 with rfl | ⟨q4, q5, q6, q7⟩
    · go_wp2
      go_ret
      exact ⟨_, rfl, .inl rfl, hb0⟩
    · go_wp2
      go_ret
      exact ⟨_, rfl, .inr ⟨q4, by omega, q3, q6, q7⟩, hb0⟩
end Go.Proofs.YtmicghcgljldpaaDoor
