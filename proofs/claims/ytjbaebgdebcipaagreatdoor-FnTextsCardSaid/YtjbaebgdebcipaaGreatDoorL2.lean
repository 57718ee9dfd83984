/- Walks: what the laws do with layers, grounds, gathers and desks: are they alike. -/
import Derived.Test.YtjbaebgdebcipaaGreatDoorTree
namespace Go.Proofs.YtjbaebgdebcipaaGreatDoor
open Go Go.RowKit


section
variable {P : Program} {ops : Array Oper} {T : FuncId → Array Value → Value → Prop} {Q : Act → Prop} {a : Act} {o : Oper} {rest : List Oper}
/-- THE CLASS of the worlds that keep what W holds. -/
theorem wpRel_under {W : World} (hp : plainOp o.op = true) (hg : Region.wanted o (yielded ops a.tmps) = true)
    (h : ∀ w, Below W.heap.size W w → ∀ K : Act → World → Prop, (∀ a', wpRel P ops (Below W.heap.size W) T Q rest a' → K a' w) → o.wp P a w K (fun _ _ _ => False)) : wpRel P ops (Below W.heap.size W) T Q (o :: rest) a :=
  wpRel_op hp hg ⟨W, Below.refl _ _⟩ fun w hw K hK => h w hw K fun a' hr => hK a' w ⟨hw, hr⟩
end

set_option maxRecDepth 100000 in
set_option maxHeartbeats 800000 in
theorem eqLayer_any (w : World) (r0 r1 r2 r3 s0 s1 s2 s3 x0 x1 x2 x3 : Nat) (hr0 : FV .f32 r0 x0) (hr1 : FV .f32 r1 x1) (hr2 : FV .f32 r2 x2) (hr3 : FV .f32 r3 x3) (hs0 : FV .f32 s0 x0) (hs1 : FV .f32 s1 x1) (hs2 : FV .f32 s2 x2) (hs3 : FV .f32 s3 x3) :
    Calls Tryz.prog 83 #[.agg #[.float .f32 r0, .float .f32 r1, .float .f32 r2, .float .f32 r3], .agg #[.float .f32 s0, .float .f32 s1, .float .f32 s2, .float .f32 s3]] w fun e w' => e = .returned (.bool true) ∧ Below w.heap.size w w' := by
  have hcv := run_widen (P := Tryz.prog) 25 81 isF32 isF64
  go_enter Tryz.func83, Tryz.ntmps83
  go_wp2_with fail
  refine (sameFloat_any _ _ _ _ (hr0.wide _) (hs0.wide _)).mono ?_
  rintro e1 w1 ⟨rfl, n1, rfl⟩
  go_wp2_with fail
  refine (sameFloat_any _ _ _ _ (hr1.wide _) (hs1.wide _)).mono ?_
  rintro e2 w2 ⟨rfl, n2, rfl⟩
  go_wp2_with fail
  refine (sameFloat_any _ _ _ _ (hr2.wide _) (hs2.wide _)).mono ?_
  rintro e3 w3 ⟨rfl, n3, rfl⟩
  go_wp2_with fail
  refine (sameFloat_any _ _ _ _ (hr3.wide _) (hs3.wide _)).mono ?_
  rintro e4 w4 ⟨rfl, n4, rfl⟩
  go_wp2
  go_ret
  refine ⟨rfl, ?_⟩
  (repeat (first | exact Below.refl _ _ | (refine Below.drewN ?_ _) | (refine Below.alloc ?_ (by first | exact Nat.le_refl _ | (simp; done) | (simp; omega)) _)))

/-- The slice v has n layers; their numbers are L. -/
def RdLay (w : World) (v : Value) (n : Nat) (L : List Nat) : Prop := L.length = 4 * n ∧ RdC w v n (L.map D1.f)
theorem RdLay.mono {w w' : World} {v : Value} {n : Nat} {L : List Nat} (h : RdLay w v n L) (hb : Below w.heap.size w w') : RdLay w' v n L := ⟨h.1, h.2.mono hb⟩
theorem RdLay.opened {w : World} {v : Value} {n : Nat} {L : List Nat} (h : RdLay w v n L) :
    ∃ a c, v = .slice a n c ∧ n ≤ c ∧ (a = none → c = 0) ∧ ∀ j, j < n → ∃ b o r0 r1 r2 r3, a = some ⟨b, o, none⟩ ∧ b < w.heap.size ∧ w.cell? ⟨b, o + j * 4, none⟩ = some (.float .f32 r0) ∧ w.cell? ⟨b, o + j * 4 + 1, none⟩ = some (.float .f32 r1) ∧
      w.cell? ⟨b, o + j * 4 + 2, none⟩ = some (.float .f32 r2) ∧ w.cell? ⟨b, o + j * 4 + 3, none⟩ = some (.float .f32 r3) ∧
      FV .f32 r0 (L.getD (4 * j) 0) ∧ FV .f32 r1 (L.getD (4 * j + 1) 0) ∧ FV .f32 r2 (L.getD (4 * j + 2) 0) ∧ FV .f32 r3 (L.getD (4 * j + 3) 0) := by
  obtain ⟨hl, a, c, hv, hc, hz, hr⟩ := h
  refine ⟨a, c, hv, hc, hz, fun j hj => ?_⟩
  have key : ∀ i, i < L.length → ∃ b o r, a = some ⟨b, o, none⟩ ∧ w.cell? ⟨b, o + i, none⟩ = some (.float .f32 r) ∧ FV .f32 r (L.getD i 0) := fun i hi => by
    obtain ⟨b, o, u, ha, hu, hR⟩ := hr i (by simpa using hi)
    have e : (L.map D1.f).getD i default = .f (L.getD i 0) := by simp [List.getD_eq_getElem?_getD, List.getElem?_map, List.getElem?_eq_getElem hi]
    rw [e] at hR
    obtain ⟨r, rfl, hf⟩ := hR
    exact ⟨b, o, r, ha, hu, hf⟩
  obtain ⟨b, o, r0, ha, c0, f0⟩ := key (4 * j) (by omega)
  obtain ⟨b1, o1, r1, ha1, c1, f1⟩ := key (4 * j + 1) (by omega)
  obtain ⟨b2, o2, r2, ha2, c2, f2⟩ := key (4 * j + 2) (by omega)
  obtain ⟨b3, o3, r3, ha3, c3, f3⟩ := key (4 * j + 3) (by omega)
  rw [ha] at ha1 ha2 ha3
  cases ha1; cases ha2; cases ha3
  refine ⟨b, o, r0, r1, r2, r3, ha, block_lt c0, ?_, ?_, ?_, ?_, f0, f1, f2, f3⟩
  · rw [← c0]; congr 2; omega
  · rw [← c1]; congr 2; omega
  · rw [← c2]; congr 2; omega
  · rw [← c3]; congr 2; omega

set_option maxRecDepth 100000 in
set_option maxHeartbeats 800000 in
theorem eqLayerS_any (w : World) (v1 v2 : Value) (n : Nat) (L : List Nat) (h1 : RdLay w v1 n L) (h2 : RdLay w v2 n L) (hmax : n ≤ 1048576) :
    Calls Tryz.prog 45 #[v1, v2] w fun e w' => e = .returned (.bool true) ∧ Below w.heap.size w w' := by
  obtain ⟨a1, c1, rfl, hc1, hz1, hcell1⟩ := h1.opened
  obtain ⟨a2, c2, rfl, hc2, hz2, hcell2⟩ := h2.opened
  clear hz1 hz2 h1 h2
  go_enter Tryz.func45, Tryz.ntmps45
  go_wp2
  go_loopw [5] (fun i wr => ∃ k : Nat, k ≤ n ∧ i = .int .i64 k ∧ Below w.heap.size w wr) (fun i _ => n - (intOf i).toNat)
  case atStart => exact ⟨0, Nat.zero_le _, rfl, Below.refl _ _⟩
  case round =>
    obtain ⟨wi, rfl⟩ : ∃ wi : World, wi = wr := ⟨_, rfl⟩
    obtain ⟨k, hk, rfl, hb⟩ := hrel
    by_cases hlt : k < n
    · obtain ⟨b, o, r0, r1, r2, r3, rfl, hlb, d0, d1, d2, d3, f0, f1, f2, f3⟩ := hcell1 k hlt
      obtain ⟨b', o', s0, s1, s2, s3, rfl, hlb', g0, g1, g2, g3, e0, e1, e2, e3⟩ := hcell2 k hlt
      clear hcell1 hcell2
      go_wp2
      refine region_rel_all (by kernel_rfl) (by kernel_rfl) (Below wi.heap.size wi) (fun _ _ v => v = .bool true) (Below.drewN (Below.refl _ _) 1) ?_
      have hs := hb.size
      have lw : ∀ wq, Below wi.heap.size wi wq → ∀ b o u, b < w.heap.size → w.cell? ⟨b, o, none⟩ = some u → wq.cell? ⟨b, o, none⟩ = some u := fun wq hq b o u hbl hu => by
        rw [(bcell hq).1 _ _ (by omega), (bcell hb).1 _ _ hbl]; exact hu
      have D0 := Lib.hid d0
      have D1' := Lib.hid d1
      have D2 := Lib.hid d2
      have D3 := Lib.hid d3
      have G0 := Lib.hid g0
      have G1 := Lib.hid g1
      have G2 := Lib.hid g2
      have G3 := Lib.hid g3
      clear d0 d1 d2 d3 g0 g1 g2 g3
      repeat (refine wpRel_under rfl rfl (fun wq hq K hK => ?_); (have q0 := lw wq hq _ _ _ hlb D0.out); (have q1 := lw wq hq _ _ _ hlb D1'.out); (have q2 := lw wq hq _ _ _ hlb D2.out); (have q3 := lw wq hq _ _ _ hlb D3.out); (have q4 := lw wq hq _ _ _ hlb' G0.out); (have q5 := lw wq hq _ _ _ hlb' G1.out); (have q6 := lw wq hq _ _ _ hlb' G2.out); (have q7 := lw wq hq _ _ _ hlb' G3.out); go_wp2; clear q0 q1 q2 q3 q4 q5 q6 q7)
      refine wpRel_callF #[.agg #[.float .f32 r0, .float .f32 r1, .float .f32 r2, .float .f32 r3], .agg #[.float .f32 s0, .float .f32 s1, .float .f32 s2, .float .f32 s3]] Tryz.func83 (by kernel_rfl) (by kernel_rfl) (by simp [go_sem]) ⟨wi, Below.refl _ _⟩ ⟨_, rfl⟩
        (fun wq hq => (eqLayer_any wq r0 r1 r2 r3 s0 s1 s2 s3 _ _ _ _ f0 f1 f2 f3 e0 e1 e2 e3).mono fun e w'' ⟨he, hb2⟩ => ⟨_, he, rfl, hq.trans (hb2.mono hq.size)⟩) ?_
      rintro v rfl
      simp only [Act.put, List.setIfInBounds_toArray, List.set_cons_succ, List.set_cons_zero]
      repeat (refine wpRel_under rfl rfl (fun wq hq K hK => ?_); go_wp2)
      refine wpRel_nil ?_
      intro wd hbd
      have hbd' := hb.trans (hbd.mono hs)
      go_wp2
      exact ⟨⟨k + 1, by omega, by go_num, hbd'⟩, by simp [intOf]; omega⟩
    · go_wp2
      go_ret
      exact ⟨rfl, hb⟩
end Go.Proofs.YtjbaebgdebcipaaGreatDoor
