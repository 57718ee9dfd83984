/- Walks: what the laws do with gathers, grounds and desks: are they alike. -/
import Derived.Test.YtjbaebgdebcipaaGreatDoorL2
namespace Go.Proofs.YtjbaebgdebcipaaGreatDoor
open Go Go.RowKit

def rowAt (Ls : List (List Nat)) (j : Nat) : List Nat := Ls.getD j []
/-- A list of lists of floats. -/
def RdSS (w : World) (v : Value) (Ls : List (List Nat)) : Prop := RdC w v Ls.length (Ls.map D1.fs)
theorem RdSS.mono {w w' : World} {v : Value} {Ls : List (List Nat)} (h : RdSS w v Ls) (hb : Below w.heap.size w w') : RdSS w' v Ls := RdC.mono h hb
theorem RdSS.opened {w : World} {v : Value} {Ls : List (List Nat)} (h : RdSS w v Ls) :
    ∃ a c, v = .slice a Ls.length c ∧ Ls.length ≤ c ∧ (a = none → c = 0) ∧ ∀ j, j < Ls.length → ∃ b o a' c', a = some ⟨b, o, none⟩ ∧ b < w.heap.size ∧ w.cell? ⟨b, o + j, none⟩ = some (.slice a' (rowAt Ls j).length c') ∧ RdF w (.slice a' (rowAt Ls j).length c') (rowAt Ls j) := by
  obtain ⟨a, c, hv, hc, hz, hr⟩ := h
  refine ⟨a, c, hv, hc, hz, fun j hj => ?_⟩
  obtain ⟨b, o, u, ha, hu, hR⟩ := hr j (by simpa using hj)
  have e : (Ls.map D1.fs).getD j default = .fs (rowAt Ls j) := by simp [rowAt, List.getD_eq_getElem?_getD, List.getElem?_map, List.getElem?_eq_getElem hj]
  rw [e] at hR
  obtain ⟨a', c', rfl, _⟩ := RdF.opened hR
  exact ⟨b, o, a', c', ha, block_lt hu, hu, hR⟩

set_option maxRecDepth 100000 in
set_option maxHeartbeats 800000 in
theorem eqFloat32SS_any (w : World) (v1 v2 : Value) (Ls : List (List Nat)) (h1 : RdSS w v1 Ls) (h2 : RdSS w v2 Ls) (hmax : Ls.length ≤ 1048576) (hm : ∀ j, j < Ls.length → (rowAt Ls j).length ≤ 1048576) :
    Calls Tryz.prog 59 #[v1, v2] w fun e w' => e = .returned (.bool true) ∧ ∃ n, w' = w.drewN n := by
  obtain ⟨a1, c1, rfl, hc1, hz1, hcell1⟩ := h1.opened
  obtain ⟨a2, c2, rfl, hc2, hz2, hcell2⟩ := h2.opened
  clear hz1 hz2 h1 h2
  go_enter Tryz.func59, Tryz.ntmps59
  go_wp2
  go_loopw [5] (fun i wr => ∃ k q : Nat, k ≤ Ls.length ∧ i = .int .i64 k ∧ wr = w.drewN q) (fun i _ => Ls.length - (intOf i).toNat)
  case atStart => exact ⟨0, 0, Nat.zero_le _, rfl, rfl⟩
  case round =>
    obtain ⟨wi, rfl⟩ : ∃ wi : World, wi = wr := ⟨_, rfl⟩
    obtain ⟨k, q, hk, rfl, hq⟩ := hrel
    by_cases hlt : k < Ls.length
    · obtain ⟨b, o, a', c', rfl, hlb, d0, R0⟩ := hcell1 k hlt
      obtain ⟨b', o', a'', c'', rfl, hlb', g0, S0⟩ := hcell2 k hlt
      have hmk := hm k hlt
      have D0 : wi.cell? ⟨b, o + k, none⟩ = some (.slice a' (rowAt Ls k).length c') := by rw [hq]; exact d0
      have G0 : wi.cell? ⟨b', o' + k, none⟩ = some (.slice a'' (rowAt Ls k).length c'') := by rw [hq]; exact g0
      have R1 := Lib.hid (show RdF wi _ _ from by rw [hq]; exact R0)
      have S1 := Lib.hid (show RdF wi _ _ from by rw [hq]; exact S0)
      have Hq := Lib.hid hq
      clear hcell1 hcell2 hm d0 g0 R0 S0 hq
      go_wp2
      refine region_rel_all (by kernel_rfl) (by kernel_rfl) (Drawn wi) (fun _ _ v => v = .bool true) ⟨1, rfl⟩ ?_
      repeat (refine wpRel_draw rfl rfl (fun nq K hK => ?_); go_wp2)
      refine wpRel_callF #[.slice a' (rowAt Ls k).length c', .slice a'' (rowAt Ls k).length c''] Tryz.func53 (by kernel_rfl) (by kernel_rfl) (by simp [go_sem]) ⟨wi, 0, rfl⟩ ⟨_, rfl⟩ ?_ ?_
      · rintro wd ⟨nd, rfl⟩
        refine (eqFloat32S_any (wi.drewN nd) _ _ (rowAt Ls k) (RdF.drewN R1.out _) (RdF.drewN S1.out _) hmk).mono ?_
        rintro e w'' ⟨rfl, n2, rfl⟩
        exact ⟨_, rfl, rfl, nd + n2, World.drewN_drewN _ _ _⟩
      · rintro v rfl
        simp only [Act.put, List.setIfInBounds_toArray, List.set_cons_succ, List.set_cons_zero]
        repeat (refine wpRel_draw rfl rfl (fun nq K hK => ?_); go_wp2)
        refine wpRel_nil ?_
        rintro wd ⟨nd, hwd⟩
        have Hwd := Lib.hid hwd
        clear hwd
        go_wp2
        exact ⟨⟨k + 1, q + nd, by omega, by go_num, by rw [Hwd.out, Hq.out, World.drewN_drewN]⟩, by simp [intOf]; omega⟩
    · have Hq := Lib.hid hq
      clear hq
      go_wp2
      go_ret
      exact ⟨rfl, q, Hq.out⟩

/-- A ground: its layers, and what lies below. -/
structure GM where
  n : Nat
  L : List Nat
  s : Nat
  d : Nat
def GM.ok (G : GM) : Prop := G.L.length = 4 * G.n
/-- A gather: ticks, places, traces. -/
structure TM where
  t : Int
  P : List Nat
  Ls : List (List Nat)
structure KM where
  G : GM
  T : TM
def RdG (w : World) (u : Value) (G : GM) : Prop := ∃ v r s, u = .agg #[v, .float .f32 r, .float .f32 s] ∧ RdLay w v G.n G.L ∧ FV .f32 r G.s ∧ FV .f32 s G.d
def RdT (w : World) (u : Value) (T : TM) : Prop := ∃ vp vt, u = .agg #[.int .i64 T.t, vp, vt] ∧ RdF w vp T.P ∧ RdSS w vt T.Ls
def RdK (w : World) (u : Value) (K : KM) : Prop := ∃ v r s vp vt, u = .agg #[v, .float .f32 r, .float .f32 s, .int .i64 K.T.t, vp, vt] ∧ RdG w (.agg #[v, .float .f32 r, .float .f32 s]) K.G ∧ RdT w (.agg #[.int .i64 K.T.t, vp, vt]) K.T
theorem RdG.mono {w w' : World} {u : Value} {G : GM} (h : RdG w u G) (hb : Below w.heap.size w w') : RdG w' u G := by
  obtain ⟨v, r, s, hu, h1, h2, h3⟩ := h
  exact ⟨v, r, s, hu, h1.mono hb, h2, h3⟩
theorem RdT.mono {w w' : World} {u : Value} {T : TM} (h : RdT w u T) (hb : Below w.heap.size w w') : RdT w' u T := by
  obtain ⟨vp, vt, hu, h1, h2⟩ := h
  exact ⟨vp, vt, hu, h1.mono hb, h2.mono hb⟩
theorem RdK.mono {w w' : World} {u : Value} {K : KM} (h : RdK w u K) (hb : Below w.heap.size w w') : RdK w' u K := by
  obtain ⟨v, r, s, vp, vt, hu, h1, h2⟩ := h
  exact ⟨v, r, s, vp, vt, hu, h1.mono hb, h2.mono hb⟩
/-- No list is longer than 2^20. -/
def GM.small (G : GM) : Prop := G.n ≤ 1048576
def TM.small (T : TM) : Prop := T.P.length ≤ 1048576 ∧ T.Ls.length ≤ 1048576 ∧ ∀ j, j < T.Ls.length → (rowAt T.Ls j).length ≤ 1048576

set_option maxRecDepth 100000 in
set_option maxHeartbeats 800000 in
theorem eqGround_any (w : World) (u1 u2 : Value) (G : GM) (h1 : RdG w u1 G) (h2 : RdG w u2 G) (hs : G.small) :
    Calls Tryz.prog 18 #[u1, u2] w fun e w' => e = .returned (.bool true) ∧ Below w.heap.size w w' := by
  have hcv := run_widen (P := Tryz.prog) 25 81 isF32 isF64
  obtain ⟨v, r, s, rfl, l1, f1, f2⟩ := h1
  obtain ⟨v', r', s', rfl, l2, f3, f4⟩ := h2
  obtain ⟨a, c, rfl, hc, -, -⟩ := l1.opened
  obtain ⟨a', c', rfl, hc', -, -⟩ := l2.opened
  have hb0 : Below w.heap.size w ((w.alloc (.cells #[.slice a G.n c, .float .f32 r, .float .f32 s] 43)).alloc (.cells #[.slice a' G.n c', .float .f32 r', .float .f32 s'] 43)) := by (repeat (first | exact Below.refl _ _ | (refine Below.drewN ?_ _) | (refine Below.alloc ?_ (by first | exact Nat.le_refl _ | (simp; done) | (simp; omega)) _)))
  have L1 := l1.mono hb0
  have L2 := l2.mono hb0
  go_enter Tryz.func18, Tryz.ntmps18
  go_wp2_with fail
  refine (eqLayerS_any _ _ _ G.n G.L L1 L2 hs).mono ?_
  rintro e1 w1 ⟨rfl, b1⟩
  have hb1 := hb0.trans (b1.mono hb0.size)
  have k0 : w1.cell? ⟨w.heap.size, 1, none⟩ = some (.float .f32 r) := by rw [(bcell b1).1 _ _ (by simp; omega)]; simp [go_sem]
  have k1 : w1.cell? ⟨w.heap.size, 2, none⟩ = some (.float .f32 s) := by rw [(bcell b1).1 _ _ (by simp; omega)]; simp [go_sem]
  have k2 : w1.cell? ⟨w.heap.size + 1, 1, none⟩ = some (.float .f32 r') := by rw [(bcell b1).1 _ _ (by simp)]; simp [go_sem]
  have k3 : w1.cell? ⟨w.heap.size + 1, 2, none⟩ = some (.float .f32 s') := by rw [(bcell b1).1 _ _ (by simp)]; simp [go_sem]
  go_wp2_with fail
  refine (sameFloat_any _ _ _ _ (f1.wide _) (f3.wide _)).mono ?_
  rintro e2 w2 ⟨rfl, n2, rfl⟩
  go_wp2_with fail
  refine (sameFloat_any _ _ _ _ (f2.wide _) (f4.wide _)).mono ?_
  rintro e3 w3 ⟨rfl, n3, rfl⟩
  go_wp2
  go_ret
  exact ⟨rfl, Below.drewN hb1 _⟩

set_option maxRecDepth 100000 in
set_option maxHeartbeats 800000 in
theorem eqGather_any (w : World) (u1 u2 : Value) (T : TM) (h1 : RdT w u1 T) (h2 : RdT w u2 T) (hs : T.small) :
    Calls Tryz.prog 27 #[u1, u2] w fun e w' => e = .returned (.bool true) ∧ Below w.heap.size w w' := by
  obtain ⟨vp, vt, rfl, p1, t1⟩ := h1
  obtain ⟨vp', vt', rfl, p2, t2⟩ := h2
  obtain ⟨t, P, Ls⟩ := T
  obtain ⟨m1, m2, m3⟩ := hs
  simp only at *
  obtain ⟨a, c, rfl, -, -, -⟩ := p1.opened
  obtain ⟨a', c', rfl, -, -, -⟩ := p2.opened
  obtain ⟨b, d, rfl, -, -, -⟩ := t1.opened
  obtain ⟨b', d', rfl, -, -, -⟩ := t2.opened
  have hb0 : Below w.heap.size w ((w.alloc (.cells #[.int .i64 t, .slice a P.length c, .slice b Ls.length d] 52)).alloc (.cells #[.int .i64 t, .slice a' P.length c', .slice b' Ls.length d'] 52)) := by (repeat (first | exact Below.refl _ _ | (refine Below.drewN ?_ _) | (refine Below.alloc ?_ (by first | exact Nat.le_refl _ | (simp; done) | (simp; omega)) _)))
  have P1 := p1.mono hb0
  have P2 := p2.mono hb0
  go_enter Tryz.func27, Tryz.ntmps27
  go_wp2_with fail
  refine (eqFloat32S_any _ _ _ P P1 P2 m1).mono ?_
  rintro e1 w1 ⟨rfl, n1, rfl⟩
  go_wp2_with fail
  refine (eqFloat32SS_any _ _ _ Ls ((t1.mono hb0).mono (Below.drewN (Below.refl _ _) _)) ((t2.mono hb0).mono (Below.drewN (Below.refl _ _) _)) m2 m3).mono ?_
  rintro e2 w2 ⟨rfl, n2, rfl⟩
  go_wp2
  go_ret
  exact ⟨rfl, Below.drewN hb0 _⟩
end Go.Proofs.YtjbaebgdebcipaaGreatDoor
