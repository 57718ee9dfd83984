/- Walks: marks that the laws set in results, and look for: grounds, gathers, desks. -/
import Derived.Test.YtjbaebgdebcipaaGreatDoorL8
namespace Go.Proofs.YtjbaebgdebcipaaGreatDoor
open Go Go.RowKit

theorem OwnC.tight {w : World} {S : Nat → Prop} {t : TypeId} {size : Nat} {v : Value} {n : Nat} {ds : List D1} (h : OwnC w S t size v n ds) : OwnC w (fun k => S k ∧ k < w.heap.size) t size v n ds := by
  have hlt := h.lt
  obtain ⟨us, hl, hown, hv, hu, h3, h4⟩ := h
  exact ⟨us, hl, hown, fun k hk => hlt k hk, fun j hj => ⟨(hu j hj).1, fun k hk => (hu j hj).lt k hk⟩, h3, h4⟩
theorem OwnG.tight {w : World} {S : Nat → Prop} {u : Value} {G : GM} (h : OwnG w S u G) : OwnG w (fun k => S k ∧ k < w.heap.size) u G := by
  obtain ⟨v, r, s, hu, h1, h2, h3⟩ := h
  exact ⟨v, r, s, hu, h1.tight, h2, h3⟩
theorem OwnT.tight {w : World} {S : Nat → Prop} {u : Value} {T : TM} (h : OwnT w S u T) : OwnT w (fun k => S k ∧ k < w.heap.size) u T := by
  obtain ⟨vp, vt, S1, S2, hu, h1, h2, h3, h4, h5, h6⟩ := h
  exact ⟨vp, vt, fun k => S1 k ∧ k < w.heap.size, fun k => S2 k ∧ k < w.heap.size, hu, h1, fun k hk => ⟨h2 k hk, (h1.lt hk).2⟩, OwnC.tight h3, fun k hk => ⟨h4 k hk.1, hk.2⟩, fun k hk => ⟨h5 k hk.1, hk.2⟩, fun k a b => h6 k a.1 b.1⟩
theorem OwnT.wide {w : World} {S S' : Nat → Prop} {u : Value} {T : TM} (h : OwnT w S u T) (hS : ∀ k, S k → S' k) : OwnT w S' u T := by
  obtain ⟨vp, vt, S1, S2, hu, h1, h2, h3, h4, h5, h6⟩ := h
  exact ⟨vp, vt, S1, S2, hu, h1, h2, h3, fun k hk => hS k (h4 k hk), fun k hk => hS k (h5 k hk), h6⟩
theorem OwnG.wide {w : World} {S S' : Nat → Prop} {u : Value} {G : GM} (h : OwnG w S u G) (hS : ∀ k, S k → S' k) : OwnG w S' u G := by
  obtain ⟨v, r, s, hu, h1, h2, h3⟩ := h
  exact ⟨v, r, s, hu, h1.wide hS, h2, h3⟩
theorem OwnK.wide {w : World} {S S' : Nat → Prop} {u : Value} {K : KM} (h : OwnK w S u K) (hS : ∀ k, S k → S' k) : OwnK w S' u K := by
  obtain ⟨v, r, s, vp, vt, S1, S2, hu, h1, h2, h3, h4, h5⟩ := h
  exact ⟨v, r, s, vp, vt, S1, S2, hu, h1, h2, fun k hk => hS k (h3 k hk), fun k hk => hS k (h4 k hk), h5⟩
theorem ret_int {a b : Int} (h : a = b) : Ending.returned (Value.int .i64 a) = Ending.returned (Value.int .i64 b) := by rw [h]
def markG (k : Nat) (G : GM) : GM := { G with L := marks k (4 * G.n) }
def markT (k : Nat) (T : TM) : TM := { T with P := marks k T.P.length, Ls := marksS (k + T.P.length) T.Ls }
def sizeT (T : TM) : Nat := T.P.length + cntTo T.Ls T.Ls.length
def markK (k : Nat) (K : KM) : KM := ⟨markG k K.G, markT (k + 4 * K.G.n) K.T⟩
def sizeK (K : KM) : Nat := 4 * K.G.n + sizeT K.T

set_option maxRecDepth 100000 in
set_option maxHeartbeats 800000 in
theorem markGround_any (w : World) (S : Nat → Prop) (u : Value) (G : GM) (k : Nat) (h : OwnG w S u G) (hs : G.small) (hk : k ≤ 1099511627776) :
    Calls Tryz.prog 19 #[u, .int .i64 k] w fun e w' => e = .returned (.int .i64 ((k + 4 * G.n : Nat) : Int)) ∧ OwnG w' S u (markG k G) ∧ Chg w w' S := by
  obtain ⟨v, r, s, rfl, o1, f1, f2⟩ := h
  obtain ⟨a, c, rfl, -⟩ := o1.rd
  have hb0 : Below w.heap.size w (w.alloc (.cells #[.slice a G.n c, .float .f32 r, .float .f32 s] 43)) := by (repeat (first | exact Below.refl _ _ | (refine Below.drewN ?_ _) | (refine Below.alloc ?_ (by first | exact Nat.le_refl _ | (simp; done) | (simp; omega)) _)))
  go_enter Tryz.func19, Tryz.ntmps19
  go_wp2_with fail
  refine (markLayerS_any _ S _ G.n k G.L (o1.kept hb0) hs hk).mono ?_
  rintro e w1 ⟨rfl, o2, g2⟩
  go_wp2
  go_ret
  exact ⟨rfl, ⟨_, _, _, rfl, o2, f1, f2⟩, (Chg.of_below hb0 S).trans (g2.wide fun b hb => (o1.lt b hb).1)⟩

set_option maxRecDepth 100000 in
set_option maxHeartbeats 800000 in
theorem heldGround_any (w : World) (u : Value) (G : GM) (k : Nat) (h : RdG w u (markG k G)) (hs : G.small) (hk : k ≤ 1099511627776) :
    Calls Tryz.prog 20 #[u, .int .i64 k] w fun e w' => e = .returned (.int .i64 ((k + 4 * G.n : Nat) : Int)) ∧ Below w.heap.size w w' := by
  obtain ⟨v, r, s, rfl, o1, f1, f2⟩ := h
  have hb0 : Below w.heap.size w (w.alloc (.cells #[v, .float .f32 r, .float .f32 s] 43)) := by (repeat (first | exact Below.refl _ _ | (refine Below.drewN ?_ _) | (refine Below.alloc ?_ (by first | exact Nat.le_refl _ | (simp; done) | (simp; omega)) _)))
  go_enter Tryz.func20, Tryz.ntmps20
  go_wp2_with fail
  refine (heldLayerS_any _ _ k G.n (o1.mono hb0) hs hk).mono ?_
  rintro e w1 ⟨rfl, rfl⟩
  obtain ⟨N, hN⟩ : ∃ N : Nat, k + 4 * G.n = N := ⟨_, rfl⟩
  have HN := Lib.hid hN
  rw [hN]
  clear hN
  have hpos : ¬ ((N : Int) < 0) := by omega
  go_wp2
  go_ret
  exact ⟨ret_int (by have := HN.out; omega), hb0⟩

set_option maxRecDepth 100000 in
set_option maxHeartbeats 800000 in
theorem markGather_any (w : World) (S : Nat → Prop) (u : Value) (T : TM) (k : Nat) (h : OwnT w S u T) (hs : T.small) (hk : k + T.P.length + T.Ls.length * 1048576 ≤ 1099511627776) :
    Calls Tryz.prog 28 #[u, .int .i64 k] w fun e w' => e = .returned (.int .i64 ((k + sizeT T : Nat) : Int)) ∧ OwnT w' S u (markT k T) ∧ Chg w w' S := by
  obtain ⟨vp, vt, S1, S2, rfl, o1, hv1, o2, q1, q2, q3⟩ := h.tight
  have hlt1 : ∀ b, vp.ownBlock = some b → b < w.heap.size := fun b hb => (o1.lt hb).2
  obtain ⟨m1, m2, m3⟩ := hs
  have hb0 : Below w.heap.size w (w.alloc (.cells #[.int .i64 T.t, vp, vt] 52)) := by (repeat (first | exact Below.refl _ _ | (refine Below.drewN ?_ _) | (refine Below.alloc ?_ (by first | exact Nat.le_refl _ | (simp; done) | (simp; omega)) _)))
  have hh := alloc_new w (.cells #[.int .i64 T.t, vp, vt] 52)
  have hsz : (w.alloc (.cells #[.int .i64 T.t, vp, vt] 52)).heap.size = w.heap.size + 1 := World.size_alloc _ _
  go_enter Tryz.func28, Tryz.ntmps28
  go_wp2_with fail
  generalize w.alloc (.cells #[.int .i64 T.t, vp, vt] 52) = w0 at *
  refine (markFloat32S_any w0 0 _ T.P k (o1.kept hb0) m1 (by omega)).mono ?_
  rintro e w1 ⟨rfl, p1, g1⟩
  have c1 : Chg w0 w1 (Of vp) := Chg.of_grown g1 fun b hb => hb
  obtain ⟨-, -, i2, -, -, -⟩ := blk3 ((c1.block w.heap.size (by omega) (fun e => by have := hlt1 _ e; omega)).trans hh)
  have o2' := OwnC.chg (OwnC.kept o2 hb0) c1 fun b hb e => q3 b (hv1 b e) hb
  clear hh
  go_wp2_with fail
  refine (markFloat32SS_any w1 S2 _ (k + T.P.length) T.Ls o2' m2 m3 (by omega)).mono ?_
  rintro e w2 ⟨rfl, p2, g2⟩
  clear i2
  go_wp2
  go_ret
  refine ⟨ret_int (by simp only [sizeT]; omega), ⟨vp, vt, S1, S2, rfl, p1.chg g2 fun b hb => q3 b (hv1 b hb), hv1, p2, fun b hb => (q1 b hb).1, fun b hb => (q2 b hb).1, q3⟩, ?_⟩
  exact ((Chg.of_below hb0 S).trans (c1.wide fun b hb => (q1 b (hv1 b hb)).1)).trans (g2.wide fun b hb => (q2 b hb).1)

set_option maxRecDepth 100000 in
set_option maxHeartbeats 800000 in
theorem heldGather_any (w : World) (u : Value) (T : TM) (k : Nat) (h : RdT w u (markT k T)) (hs : T.small) (hk : k + T.P.length + T.Ls.length * 1048576 ≤ 1099511627776) :
    Calls Tryz.prog 29 #[u, .int .i64 k] w fun e w' => e = .returned (.int .i64 ((k + sizeT T : Nat) : Int)) ∧ Below w.heap.size w w' := by
  obtain ⟨vp, vt, rfl, o1, o2⟩ := h
  obtain ⟨m1, m2, m3⟩ := hs
  have hb0 : Below w.heap.size w (w.alloc (.cells #[.int .i64 T.t, vp, vt] 52)) := by (repeat (first | exact Below.refl _ _ | (refine Below.drewN ?_ _) | (refine Below.alloc ?_ (by first | exact Nat.le_refl _ | (simp; done) | (simp; omega)) _)))
  have ht : (markT k T).t = T.t := rfl
  rw [ht]
  clear ht
  go_enter Tryz.func29, Tryz.ntmps29
  go_wp2_with fail
  refine (heldFloat32S_any _ _ k T.P.length (o1.mono hb0) m1 (by omega)).mono ?_
  rintro e w1 ⟨rfl, rfl⟩
  have hpos : ¬ (((k + T.P.length : Nat) : Int) < 0) := by omega
  obtain ⟨N, hN⟩ : ∃ N : Nat, k + T.P.length = N := ⟨_, rfl⟩
  rw [hN] at hpos ⊢
  have o2' : RdSS w vt (marksS N T.Ls) := hN ▸ o2
  have HN := Lib.hid hN
  clear hN o2
  go_wp2_with fail
  refine (heldFloat32SS_any _ _ N T.Ls (o2'.mono hb0) m2 m3 (by have := HN.out; omega)).mono ?_
  rintro e w1 ⟨rfl, rfl⟩
  obtain ⟨M, hM⟩ : ∃ M : Nat, N + cntTo T.Ls T.Ls.length = M := ⟨_, rfl⟩
  rw [hM]
  have HM := Lib.hid hM
  clear hM hpos
  have hpos : ¬ ((M : Int) < 0) := by omega
  go_wp2
  go_ret
  exact ⟨ret_int (by have := HM.out; have := HN.out; simp only [sizeT]; omega), hb0⟩

end Go.Proofs.YtjbaebgdebcipaaGreatDoor
