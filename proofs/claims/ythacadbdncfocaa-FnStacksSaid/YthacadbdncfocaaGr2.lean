/- Walks: R8Gather. -/
import Derived.Test.YthacadbdncfocaaGr1
namespace Go.Proofs.Ythacadbdncfocaa
open Go Go.RowKit

set_option maxRecDepth 100000 in
set_option maxHeartbeats 6400000 in
theorem r8Gather_any (w : World) (v : Value) (n : Nat) (hy : RdY w v n) (hn : n ≤ 1048576) :
    Calls Try.prog 18 #[v] w fun e w' => ∃ (T : Nat) (vp vt : Value) (ps : List Int) (zss : List (List Int)), e = .returned (.agg #[.int .i64 T, vp, vt]) ∧ 2 ≤ T ∧ T ≤ 11 ∧ 1 ≤ ps.length ∧ ps.length ≤ 4 ∧ zss.length = ps.length ∧ (∀ z ∈ ps, -4 ≤ z ∧ z ≤ 12) ∧ (∀ zs ∈ zss, zs.length = T ∧ ∀ z ∈ zs, -8 ≤ z ∧ z ≤ 8) ∧ RdF w' vp (ps.map hV) ∧ RdSS w' vt (zss.map (List.map qv)) ∧ Below w.heap.size w w' := by
  have hst := run_store_float (P := Try.prog)
  have hquo := run_fquo (P := Try.prog)
  obtain ⟨ad, c, rfl, -, -⟩ := hy.opened
  obtain ⟨w0, hw0⟩ : ∃ w0, w.alloc (.cells #[.int .i64 0, .slice none 0 0, .slice none 0 0] 44) = w0 := ⟨_, rfl⟩
  have x0 : Ext w w0 := by rw [← hw0]; exact (Below.refl _ _).alloc (Nat.le_refl _) _
  have hr0 : w0.heap[w.heap.size]? = some (.cells #[.int .i64 0, .slice none 0 0, .slice none 0 0] 44 (0, 0)) := by rw [← hw0]; exact alloc_new _ _
  have z0 : w0.heap.size = w.heap.size + 1 := by rw [← hw0]; exact World.size_alloc _ _
  have HY := Lib.hid hy
  have HR0 := Lib.hid hr0
  have HX0 := Lib.hid x0
  clear hy hr0 x0
  go_enter Try.func18, Try.ntmps18
  go_wp2_with fail
  clear hw0
  refine (l00From_any w0 ad n c).mono ?_
  rintro e w1 ⟨rfl, hw1⟩
  have b1 : Ext w0 w1 := by rw [hw1]; exact (Below.refl _ _).alloc (Nat.le_refl _) _
  have hs1 : Src w1 w0.heap.size ad n c 0 := ⟨0, by rw [hw1]; exact alloc_new _ _, by decide, by decide⟩
  have z1 : w1.heap.size = w0.heap.size + 1 := by rw [hw1]; exact World.size_alloc _ _
  have B1 : Hid (Ext w w1) := Lib.hid (HX0.out.trans b1)
  have HR1 := Lib.hid ((b1.block _ (by omega)).trans HR0.out)
  rw [z0] at hs1 z1
  have HP := Lib.hid (pick_any w1 (w.heap.size + 1) ad n c 0 10 hs1 (HY.out.mono B1.out) hn (by omega) (by omega) (by decide) (by decide))
  clear hw1 hs1 b1 HR0 HX0
  go_wp2_with fail
  refine HP.out.mono ?_
  rintro e w2 ⟨t10, rfl, ht0, ht1, s2, c2⟩
  obtain ⟨T, hT, hT1, hT2⟩ : ∃ T : Nat, 2 + t10 = T ∧ 2 ≤ T ∧ T ≤ 11 := ⟨(2 + t10).toNat, by omega, by omega, by omega⟩
  have z2 := c2.size
  obtain ⟨wA, hwA⟩ : ∃ wA, w2.alloc (.cells #[] 27) = wA := ⟨_, rfl⟩
  obtain ⟨wB, hwB⟩ : ∃ wB, wA.alloc (.cells #[] 25) = wB := ⟨_, rfl⟩
  obtain ⟨w3, hw3⟩ : ∃ w3, wB.alloc (.cells #[.int .i64 T, .slice (some ⟨w2.heap.size, 0, none⟩) 0 0, .slice (some ⟨w2.heap.size + 1, 0, none⟩) 0 0] 44) = w3 := ⟨_, rfl⟩
  have xA : Ext w2 wA := by rw [← hwA]; exact (Below.refl _ _).alloc (Nat.le_refl _) _
  have xB : Ext wA wB := by rw [← hwB]; exact (Below.refl _ _).alloc (Nat.le_refl _) _
  have xC : Ext wB w3 := by rw [← hw3]; exact (Below.refl _ _).alloc (Nat.le_refl _) _
  have zA : wA.heap.size = w2.heap.size + 1 := by rw [← hwA]; exact World.size_alloc _ _
  have zB : wB.heap.size = w2.heap.size + 2 := by rw [← hwB, World.size_alloc]; omega
  have zC : w3.heap.size = w2.heap.size + 3 := by rw [← hw3, World.size_alloc]; omega
  have kA : wA.heap[w2.heap.size]? = some (.cells #[] 27 (0, 0)) := by rw [← hwA]; exact alloc_new _ _
  have kB : wB.heap[w2.heap.size + 1]? = some (.cells #[] 25 (0, 0)) := by rw [← hwB, ← zA]; exact alloc_new _ _
  have kC : w3.heap[w2.heap.size + 2]? = some (.cells #[.int .i64 T, .slice (some ⟨w2.heap.size, 0, none⟩) 0 0, .slice (some ⟨w2.heap.size + 1, 0, none⟩) 0 0] 44 (0, 0)) := by rw [← hw3, ← zB]; exact alloc_new _ _
  have G3 : Hid (GaS w w3 (w2.heap.size + 2) ad n c 1 T (.slice (some ⟨w2.heap.size, 0, none⟩) 0 0) (.slice (some ⟨w2.heap.size + 1, 0, none⟩) 0 0) [] []) := Lib.hid (by
    have x3 : Ext w2 w3 := (xA.trans xB).trans xC
    have hb2 : Below w.heap.size w w2 := Below.chg B1.out c2 (fun k hk => by omega) B1.out.size
    refine ⟨hb2.trans (x3.mono hb2.size), s2.kept (x3.block _ s2.lt), (x3.block _ (by omega)).trans ((c2.block _ (by omega) (by omega)).trans HR1.out), kC, ?_, (fun k hk => by have e : w2.heap.size = k := Option.some.inj hk; omega), ⟨fun k => k = w2.heap.size + 1, ?_, fun k hk => ⟨by omega, by omega, by omega, fun e => by have e : w2.heap.size = k := Option.some.inj e; omega⟩⟩, by omega⟩
    · exact ⟨[], rfl, (fun j hj => by cases hj), ⟨rfl, .inr ⟨w2.heap.size, 0, #[], rfl, by omega, ((xB.trans xC).block _ (by omega)).trans kA, Nat.le_refl _, by decide, rfl, rfl⟩⟩⟩
    · exact ⟨[], rfl, ⟨rfl, .inr ⟨w2.heap.size + 1, 0, #[], rfl, Nat.zero_le _, (xC.block _ (by omega)).trans kB, Nat.le_refl _, by decide, rfl, rfl⟩⟩, (fun k hk => by cases hk; rfl), (fun j hj => by cases hj), (fun i j k hi => by cases hi), (fun j k hj => by cases hj)⟩)
  obtain ⟨gb, hgb⟩ : ∃ gb, w2.heap.size + 2 = gb := ⟨_, rfl⟩
  rw [hgb] at G3
  clear s2 c2 kA kB kC xA xB xC HP HR1 B1
  go_wp2_with fail
  have HP2 := Lib.hid (pick_any w3 (w.heap.size + 1) ad n c 1 4 G3.out.s (HY.out.mono G3.out.bel) hn (by omega) (by omega) (by decide) (by decide))
  refine HP2.out.mono ?_
  rintro e w4 ⟨k4, rfl, hk0, hk1, s4, c4⟩
  obtain ⟨N, hN, hN1, hN2⟩ : ∃ N : Nat, 1 + k4 = N ∧ 1 ≤ N ∧ N ≤ 4 := ⟨(1 + k4).toNat, by omega, by omega, by omega⟩
  have G4 : Hid (GaS w w4 gb ad n c (2 + ((0 * (T + 1) : Nat) : Int)) T (.slice (some ⟨w2.heap.size, 0, none⟩) 0 0) (.slice (some ⟨w2.heap.size + 1, 0, none⟩) 0 0) [] []) := Lib.hid (by
    have h := G3.out
    have hr := (Array.getElem?_eq_some_iff.1 h.r).1
    have hp := (Array.getElem?_eq_some_iff.1 h.p).1
    have hl := h.lt
    obtain ⟨S, hS, hS2⟩ := h.ot
    have hz := c4.size
    refine ⟨Below.chg h.bel c4 (fun k hk => by omega) h.bel.size, ?_, (c4.block _ hr (by omega)).trans h.r, (c4.block _ hp (by omega)).trans h.p, h.op.chg c4 (fun k hk e => by have := (h.op.lt hk).1; omega), h.np, ⟨S, OwnC.chg hS c4 (fun k hk e => by have := (hS2 k hk).1; omega), fun k hk => ?_⟩, hl⟩
    · have := s4
      rwa [show (1 : Int) + 1 = 2 + ((0 * (T + 1) : Nat) : Int) by rw [Nat.zero_mul]; rfl] at this
    · obtain ⟨k1, k2, k3, k5⟩ := hS2 k hk
      exact ⟨k1, by omega, k3, k5⟩)
  clear G3 HP2 s4 c4 hw3 hwA hwB
  go_wp2_with fail
  clear hN hgb hT
  go_loopw [5] (fun q wr => ∃ (j : Nat) (vp vt : Value) (ps : List Int) (zss : List (List Int)), j ≤ N ∧ q = .int .i64 ((N : Int) - j) ∧ ps.length = j ∧ zss.length = j ∧ (∀ z ∈ ps, -4 ≤ z ∧ z ≤ 12) ∧ (∀ zs ∈ zss, zs.length = T ∧ ∀ z ∈ zs, -8 ≤ z ∧ z ≤ 8) ∧ GaS w wr gb ad n c (2 + ((j * (T + 1) : Nat) : Int)) T vp vt ps zss) (fun q _ => (intOf q).toNat)
  case atStart => exact ⟨0, _, _, [], [], by omega, by simp, rfl, rfl, (fun z hz => by cases hz), (fun z hz => by cases hz), G4.out⟩
  case round =>
    clear G4
    obtain ⟨wi, rfl⟩ : ∃ wi : World, wi = wr := ⟨_, rfl⟩
    obtain ⟨j, vp, vt, ps, zss, hj, rfl, hpl, hzl, hpz, hzz, hS⟩ := hrel
    have HS := Lib.hid hS
    have HPL := Lib.hid hpl
    have HZL := Lib.hid hzl
    have HPZ := Lib.hid hpz
    have HZZ := Lib.hid hzz
    obtain ⟨k0, k1, k2, -, -, -⟩ := blk3 hS.p
    have hlt := hS.lt
    clear hS hpl hzl hpz hzz
    by_cases hlt2 : j < N
    · have hjt : j * (T + 1) ≤ 48 := Nat.le_trans (Nat.mul_le_mul (show j ≤ 4 by omega) (show T + 1 ≤ 12 by omega)) (by decide)
      have HP := Lib.hid (fun (wq : World) (hq : wq.heap = wi.heap) => pick_any wq (w.heap.size + 1) ad n c (2 + ((j * (T + 1) : Nat) : Int)) 17 (HS.out.s.kept (by rw [hq])) ((HY.out.mono HS.out.bel).same hq) hn (by omega) (by omega) (by decide) (by decide))
      have hgt : ((N : Int) - j) > 0 := by omega
      go_wp2_with fail
      go_cut [3] from 23 to 32 (fun s3 wx => s3 = .pointer (some ⟨w.heap.size + 1, 0, none⟩) ∧ ∃ (p : Int) (vp' : Value), -4 ≤ p ∧ p ≤ 12 ∧ GaS w wx gb ad n c (2 + ((j * (T + 1) : Nat) : Int) + 1) T vp' vt (ps ++ [p]) zss)
      case first =>
        have hfl : gb < wi.heap.size := (Array.getElem?_eq_some_iff.1 HS.out.p).1
        refine wp_region_any (by kernel_rfl) ?_
        refine wpAny_take (i := 0) (v := .pointer (some ⟨gb, 1, none⟩)) rfl (by kernel_rfl) (by kernel_rfl) (by kernel_rfl) (fun _ _ _ h => h) (Or.inl ⟨by rfl, (by intro w; go_simp)⟩) ?_; simp only [Act.put, List.setIfInBounds_toArray, List.set_cons_zero, List.set_cons_succ]
        refine wpAny_take (i := 2) (v := .pointer (some ⟨w.heap.size + 1, 0, none⟩)) rfl (by kernel_rfl) (by kernel_rfl) (by kernel_rfl) (fun _ _ _ h => h) (Or.inl ⟨by rfl, (by intro w; go_simp)⟩) ?_; simp only [Act.put, List.setIfInBounds_toArray, List.set_cons_zero, List.set_cons_succ]
        refine wpAny_ready (rs := [1, 3]) (by kernel_rfl) (by simp) (AllReady.cons rfl (fun K hK => ?_) (AllReady.cons rfl (fun K hK => ?_) AllReady.nil))
        · (go_simp; refine hK _ _ ?_; clear hK K)
          refine wpAny_ready (rs := [3]) (by kernel_rfl) (by simp) (AllReady.cons rfl (fun K hK => ?_) AllReady.nil)
          (go_simp; go_wp2_with (go_at_call 42; go_must (refine (HP.out wi.drew rfl).mono ?_; rintro e w7 ⟨p, rfl, hp0, hp1, s7, c7⟩)))
          have e7 : w7.heap[gb]? = wi.heap[gb]? := c7.block gb hfl (by omega)
          replace k1 := (cellR_same (o := 1) e7).trans k1
          have hwp : IntKind.i64.wrap (p - 4) = p - 4 := i64_wrapR _ (by omega) (by omega)
          have HS7 := Lib.hid s7; have HC7 : Hid (Chg wi w7 (fun k => k = w.heap.size + 1)) := Lib.hid ⟨c7.os, c7.tape, c7.output, c7.size, c7.block⟩; clear s7 c7 e7
          refine wpAny_take (i := 4) (v := .int .i64 (p - 4)) rfl (by kernel_rfl) (by kernel_rfl) (by kernel_rfl) (fun _ _ _ h => h) (Or.inl ⟨by rfl, (by intro w; go_simp)⟩) ?_; simp only [Act.put, List.setIfInBounds_toArray, List.set_cons_zero, List.set_cons_succ]
          refine wpAny_take (i := 5) (v := .float .f32 (floatOfInt .f32 (p - 4))) rfl (by kernel_rfl) (by kernel_rfl) (by kernel_rfl) (fun _ _ _ h => h) (Or.inl ⟨by rfl, (by intro w; go_simp)⟩) ?_; simp only [Act.put, List.setIfInBounds_toArray, List.set_cons_zero, List.set_cons_succ]
          refine wpAny_take (i := 6) (v := .float .f32 (hV (p - 4))) rfl (by kernel_rfl) (by kernel_rfl) (by kernel_rfl) (fun _ _ _ h => h) (Or.inl ⟨by rfl, (by intro w; go_simp; exact quo_p _ _ (hV_fx _ (by omega) (by omega)).notNan w)⟩) ?_; simp only [Act.put, List.setIfInBounds_toArray, List.set_cons_zero, List.set_cons_succ]
          refine wpAny_ready (rs := [7]) (by kernel_rfl) (by simp) (AllReady.cons rfl (fun K hK => ?_) AllReady.nil)
          (go_simp; refine hK _ _ ?_; clear hK K)
          refine wpAny_tail 8 (by kernel_rfl) (by kernel_rfl) ?_
          simp only [List.drop_succ_cons, List.drop_zero]
          have hoX : OwnF (w7.alloc (.cells #[.float .f32 (hV (p - 4))] 27)) (w.heap.size + 2) vp (ps.map hV) := (HS.out.op.chg HC7.out fun k hk e => by have := (HS.out.op.lt hk).1; omega).kept ((Below.refl _ _).alloc (Nat.le_refl _) _)
          refine wpList_push rfl _ _ rfl (w.heap.size + 2) vp (ps.map hV) rfl hoX _ _ _ (hV (p - 4)) rfl (cell_new _ _ _) (hV_fv _) (by rw [List.length_map, HPL.out]; omega) (by have := HC7.out.size; have := World.size_alloc w7 (.cells #[.float .f32 (hV (p - 4))] 27); omega) ?_
          intro v9 w9 o9 g9 b9 l9; obtain ⟨a9, n9, c9, rfl⟩ : ∃ a n c, v9 = .slice a n c := (by obtain ⟨a, c, h, -⟩ := o9.rd.opened; exact ⟨a, _, c, h⟩)
          have o9' : OwnF w9 (w.heap.size + 2) (.slice a9 n9 c9) ((ps ++ [p - 4]).map hV) := by rw [List.map_append]; exact o9
          obtain ⟨ST, hp9⟩ := HS.out.push (v' := .slice a9 n9 c9) HC7.out HS7.out _ o9' g9 l9
          have HST := Lib.hid ST
          obtain ⟨q0, q1, q2, f0, f1, f2⟩ := blk3 hp9
          clear hoX o9 o9' g9 b9 l9 ST hp9 k0 k1 k2
          go_wp2_with fail
          go_meet
          exact ⟨rfl, p - 4, _, by omega, by omega, HST.out⟩
        · (go_simp; go_wp2_with (go_at_call 42; go_must (refine (HP.out wi.drew rfl).mono ?_; rintro e w7 ⟨p, rfl, hp0, hp1, s7, c7⟩)))
          have e7 : w7.heap[gb]? = wi.heap[gb]? := c7.block gb hfl (by omega)
          replace k1 := (cellR_same (o := 1) e7).trans k1
          have hwp : IntKind.i64.wrap (p - 4) = p - 4 := i64_wrapR _ (by omega) (by omega)
          have HS7 := Lib.hid s7; have HC7 : Hid (Chg wi w7 (fun k => k = w.heap.size + 1)) := Lib.hid ⟨c7.os, c7.tape, c7.output, c7.size, c7.block⟩; clear s7 c7 e7
          refine wpAny_take (i := 4) (v := .int .i64 (p - 4)) rfl (by kernel_rfl) (by kernel_rfl) (by kernel_rfl) (fun _ _ _ h => h) (Or.inl ⟨by rfl, (by intro w; go_simp)⟩) ?_; simp only [Act.put, List.setIfInBounds_toArray, List.set_cons_zero, List.set_cons_succ]
          refine wpAny_take (i := 5) (v := .float .f32 (floatOfInt .f32 (p - 4))) rfl (by kernel_rfl) (by kernel_rfl) (by kernel_rfl) (fun _ _ _ h => h) (Or.inl ⟨by rfl, (by intro w; go_simp)⟩) ?_; simp only [Act.put, List.setIfInBounds_toArray, List.set_cons_zero, List.set_cons_succ]
          refine wpAny_take (i := 6) (v := .float .f32 (hV (p - 4))) rfl (by kernel_rfl) (by kernel_rfl) (by kernel_rfl) (fun _ _ _ h => h) (Or.inl ⟨by rfl, (by intro w; go_simp; exact quo_p _ _ (hV_fx _ (by omega) (by omega)).notNan w)⟩) ?_; simp only [Act.put, List.setIfInBounds_toArray, List.set_cons_zero, List.set_cons_succ]
          refine wpAny_ready (rs := [1, 7]) (by kernel_rfl) (by simp) (AllReady.cons rfl (fun K hK => ?_) (AllReady.cons rfl (fun K hK => ?_) AllReady.nil))
          · (go_simp; refine hK _ _ ?_; clear hK K)
            refine wpAny_ready (rs := [7]) (by kernel_rfl) (by simp) (AllReady.cons rfl (fun K hK => ?_) AllReady.nil)
            (go_simp; refine hK _ _ ?_; clear hK K)
            refine wpAny_tail 8 (by kernel_rfl) (by kernel_rfl) ?_
            simp only [List.drop_succ_cons, List.drop_zero]
            have hoX : OwnF (w7.alloc (.cells #[.float .f32 (hV (p - 4))] 27)) (w.heap.size + 2) vp (ps.map hV) := (HS.out.op.chg HC7.out fun k hk e => by have := (HS.out.op.lt hk).1; omega).kept ((Below.refl _ _).alloc (Nat.le_refl _) _)
            refine wpList_push rfl _ _ rfl (w.heap.size + 2) vp (ps.map hV) rfl hoX _ _ _ (hV (p - 4)) rfl (cell_new _ _ _) (hV_fv _) (by rw [List.length_map, HPL.out]; omega) (by have := HC7.out.size; have := World.size_alloc w7 (.cells #[.float .f32 (hV (p - 4))] 27); omega) ?_
            intro v9 w9 o9 g9 b9 l9; obtain ⟨a9, n9, c9, rfl⟩ : ∃ a n c, v9 = .slice a n c := (by obtain ⟨a, c, h, -⟩ := o9.rd.opened; exact ⟨a, _, c, h⟩)
            have o9' : OwnF w9 (w.heap.size + 2) (.slice a9 n9 c9) ((ps ++ [p - 4]).map hV) := by rw [List.map_append]; exact o9
            obtain ⟨ST, hp9⟩ := HS.out.push (v' := .slice a9 n9 c9) HC7.out HS7.out _ o9' g9 l9
            have HST := Lib.hid ST
            obtain ⟨q0, q1, q2, f0, f1, f2⟩ := blk3 hp9
            clear hoX o9 o9' g9 b9 l9 ST hp9 k0 k1 k2
            go_wp2_with fail
            go_meet
            exact ⟨rfl, p - 4, _, by omega, by omega, HST.out⟩
          · (go_simp; refine hK _ _ ?_; clear hK K)
            replace k1 : (w7.alloc (.cells #[.float .f32 (hV (p - 4))] 27)).cell? ⟨gb, 1, none⟩ = some vp := (cellR_same (o := 1) (Below.heap_alloc w7 _ gb (by have := HC7.out.size; omega))).trans k1
            refine wpAny_ready (rs := [1]) (by kernel_rfl) (by simp) (AllReady.cons rfl (fun K hK => ?_) AllReady.nil)
            (go_simp; refine hK _ _ ?_; clear hK K)
            refine wpAny_tail 8 (by kernel_rfl) (by kernel_rfl) ?_
            simp only [List.drop_succ_cons, List.drop_zero]
            have hoX : OwnF (w7.alloc (.cells #[.float .f32 (hV (p - 4))] 27)) (w.heap.size + 2) vp (ps.map hV) := (HS.out.op.chg HC7.out fun k hk e => by have := (HS.out.op.lt hk).1; omega).kept ((Below.refl _ _).alloc (Nat.le_refl _) _)
            refine wpList_push rfl _ _ rfl (w.heap.size + 2) vp (ps.map hV) rfl hoX _ _ _ (hV (p - 4)) rfl (cell_new _ _ _) (hV_fv _) (by rw [List.length_map, HPL.out]; omega) (by have := HC7.out.size; have := World.size_alloc w7 (.cells #[.float .f32 (hV (p - 4))] 27); omega) ?_
            intro v9 w9 o9 g9 b9 l9; obtain ⟨a9, n9, c9, rfl⟩ : ∃ a n c, v9 = .slice a n c := (by obtain ⟨a, c, h, -⟩ := o9.rd.opened; exact ⟨a, _, c, h⟩)
            have o9' : OwnF w9 (w.heap.size + 2) (.slice a9 n9 c9) ((ps ++ [p - 4]).map hV) := by rw [List.map_append]; exact o9
            obtain ⟨ST, hp9⟩ := HS.out.push (v' := .slice a9 n9 c9) HC7.out HS7.out _ o9' g9 l9
            have HST := Lib.hid ST
            obtain ⟨q0, q1, q2, f0, f1, f2⟩ := blk3 hp9
            clear hoX o9 o9' g9 b9 l9 ST hp9 k0 k1 k2
            go_wp2_with fail
            go_meet
            exact ⟨rfl, p - 4, _, by omega, by omega, HST.out⟩
      case rest =>
        obtain ⟨rfl, p, vp', hp0, hp1, hS6⟩ := hcut
        have HS6 := Lib.hid hS6
        obtain ⟨S, hSS, hS2⟩ := hS6.ot
        have HSS := Lib.hid hSS
        have HSb := Lib.hid hS2
        have hgl : gb < wc.heap.size := (Array.getElem?_eq_some_iff.1 hS6.p).1
        have hsl := hS6.s.lt
        clear hS6 hSS hS2 HS HP k0 k1 k2
        obtain ⟨wT, hwT⟩ : ∃ wT, wc.alloc (.cells #[] 27) = wT := ⟨_, rfl⟩
        have xT : Ext wc wT := by rw [← hwT]; exact (Below.refl _ _).alloc (Nat.le_refl _) _
        have kT : wT.heap[wc.heap.size]? = some (.cells #[] 27 (0, 0)) := by rw [← hwT]; exact alloc_new _ _
        have XT := Lib.hid xT
        have S0 := Lib.hid (HS6.out.s.kept (xT.block _ hsl))
        have O0 : Hid (OwnF wT wc.heap.size (.slice (some ⟨wc.heap.size, 0, none⟩) 0 0) (([] : List Int).map qv)) := Lib.hid ⟨[], rfl, (fun j hj => by cases hj), ⟨rfl, .inr ⟨wc.heap.size, 0, #[], rfl, Nat.le_refl _, kT, Nat.le_refl _, by decide, rfl, rfl⟩⟩⟩
        clear xT kT
        go_wp2_with fail
        clear hwT
        go_loopw [6, 7] (fun tr q wr => ∃ (k : Nat) (zs : List Int), k ≤ T ∧ q = .int .i64 k ∧ zs.length = k ∧ (∀ z ∈ zs, -8 ≤ z ∧ z ≤ 8) ∧ Chg wc wr (fun k => k = w.heap.size + 1) ∧ Src wr (w.heap.size + 1) ad n c (2 + ((j * (T + 1) : Nat) : Int) + 1 + (k : Nat)) ∧ OwnF wr wc.heap.size tr (zs.map qv)) (fun _ q _ => T - (intOf q).toNat)
        case atStart => exact ⟨0, [], by omega, rfl, rfl, (fun z hz => by cases hz), Chg.of_below XT.out _, by have := S0.out; simpa using this, O0.out⟩
        case round =>
          clear S0 O0 XT
          obtain ⟨wk, rfl⟩ : ∃ wk : World, wk = wr := ⟨_, rfl⟩
          obtain ⟨k, zs, hk, rfl, hzl, hzs, hch, hsr, htr⟩ := hrel
          have HZs := Lib.hid hzs
          have HZl := Lib.hid hzl
          have HCh := Lib.hid hch
          have HSr := Lib.hid hsr
          have HTr := Lib.hid htr
          have hzk := hch.size
          obtain ⟨k0, k1, k2, f0, f1, f2⟩ := blk3 ((hch.block gb hgl (by omega)).trans HS6.out.p)
          clear hzs hzl hch hsr htr
          by_cases hlk : k < T
          · have hkt : (k : Int) < (T : Int) := by omega
            have hsrc := HSr.out
            have bk : Below w.heap.size w wk := Below.chg HS6.out.bel HCh.out (fun k hk => by omega) HS6.out.bel.size
            have HPk := Lib.hid (pick_any wk (w.heap.size + 1) ad n c _ 17 hsrc (HY.out.mono bk) hn (by omega) (by omega) (by decide) (by decide))
            clear hsrc bk
            go_wp2_with fail
            refine HPk.out.mono ?_
            rintro e w7 ⟨q, rfl, hq0, hq1, s7, c7⟩
            have z7 := c7.size
            have O7 := Lib.hid (HTr.out.chg c7 fun k hk e => by have := (HTr.out.lt hk).1; omega)
            have C7 := Lib.hid (HCh.out.trans c7)
            have S7 := Lib.hid s7
            clear HPk s7 c7 k0 k1 k2 f0 f1 f2
            have hfv : FV .f32 (fres .quo .f32 (floatOfInt .f32 (q - 8)) 1082130432 w7) (qv (q - 8)) := FV.op (op := .quo) (floatOfInt_fv .f32 (q - 8)) fv_four w7
            have bd : Ext w7 ((w7.drewN (fcnt .quo .f32 (floatOfInt .f32 (q - 8)) 1082130432)).alloc (.cells #[.float .f32 (fres .quo .f32 (floatOfInt .f32 (q - 8)) 1082130432 w7)] 27)) := (Below.drewN (Below.refl _ _) _).alloc (Nat.le_refl _) _
            have bz : ((w7.drewN (fcnt .quo .f32 (floatOfInt .f32 (q - 8)) 1082130432)).alloc (.cells #[.float .f32 (fres .quo .f32 (floatOfInt .f32 (q - 8)) 1082130432 w7)] 27)).heap.size = w7.heap.size + 1 := World.size_alloc _ _
            have HBD := Lib.hid bd
            clear bd
            go_wp2_with (at_builtin; go_must (refine wpList_push rfl _ _ rfl wc.heap.size _ (zs.map qv) rfl (O7.out.kept HBD.out) _ _ _ (qv (q - 8)) rfl (cell_new _ _ _) hfv (by rw [List.length_map, HZl.out]; omega) (by omega) ?_); intro v9 w9 o9 g9 b9 l9)
            have C9 : Chg ((w7.drewN (fcnt .quo .f32 (floatOfInt .f32 (q - 8)) 1082130432)).alloc (.cells #[.float .f32 (fres .quo .f32 (floatOfInt .f32 (q - 8)) 1082130432 w7)] 27)) w9 (fun k => wc.heap.size ≤ k) := Chg.of_grown g9 fun b hb => (O7.out.lt hb).1
            refine ⟨⟨k + 1, zs ++ [q - 8], by omega, by go_num, by rw [List.length_append, HZl.out]; rfl, fun z hz => ?_, (C7.out.trans (Chg.of_below HBD.out _)).only C9 (fun k hk hl => by omega), ?_, by rw [List.map_append]; exact o9⟩, by simp [intOf]; omega⟩
            · rcases List.mem_append.1 hz with h | h
              · exact HZs.out z h
              · obtain rfl := List.mem_singleton.1 h
                omega
            · have hs9 := S7.out.kept (w' := w9) (by rw [C9.block _ (by omega) (by omega), HBD.out.block _ S7.out.lt])
              have e : (2 + ((j * (T + 1) : Nat) : Int) + 1 + ((k + 1 : Nat) : Int)) = 2 + ((j * (T + 1) : Nat) : Int) + 1 + (k : Int) + 1 := by omega
              rw [e]
              exact hs9
          · obtain rfl : k = T := by omega
            have hkt : ¬ (k : Int) < (k : Int) := by omega
            obtain ⟨at_, nt, ct, htrv⟩ : ∃ a n c, u6 = .slice a n c := (by obtain ⟨a, c, h, -⟩ := HTr.out.rd.opened; exact ⟨a, _, c, h⟩)
            subst htrv
            have xa : Ext wk (wk.alloc (.cells #[.slice at_ nt ct] 25)) := (Below.refl _ _).alloc (Nat.le_refl _) _
            have hza : (wk.alloc (.cells #[.slice at_ nt ct] 25)).heap.size = wk.heap.size + 1 := World.size_alloc _ _
            have hSk : OwnSS (wk.alloc (.cells #[.slice at_ nt ct] 25)) S vt (zss.map (List.map qv)) := OwnC.kept (OwnC.chg HSS.out HCh.out fun k hk e => by have := (HSb.out k hk).1; omega) xa
            have HSk := Lib.hid hSk
            have hd1 : Own1 (wk.alloc (.cells #[.slice at_ nt ct] 25)) (fun k => wc.heap.size ≤ k) (.fs (zs.map qv)) (.slice at_ nt ct) := Own1.fs_ (HTr.out.kept xa) fun k hk => (HTr.out.lt hk).1
            have HD1 := Lib.hid hd1
            have hlen5 : (zss.map (List.map qv)).length ≤ 1048576 := by rw [List.length_map, HZL.out]; omega
            clear xa hSk hd1
            go_wp2_with (at_builtin; go_must (refine wpList_pushS rfl _ _ 42 25 rfl (.slice none 0 0) 24 Try.underlying42 Try.infoFF rfl (by decide) S wc.heap.size vt _ _ rfl HSk.out (by omega) (fun k hk => (HSb.out k hk).2.1) _ _ _ (.fs (zs.map qv)) rfl (cell_new _ _ _) rfl HD1.out hlen5 ?_); intro v9 w9 o9 g9 l9; have O9 := Lib.hid o9; have G9 := Lib.hid g9; clear o9 g9 l9; obtain ⟨ST, hp9⟩ := GaS.row (v' := v9) (zss' := zss ++ [zs]) S wc.heap.size (HS6.out.chg HCh.out HSr.out) HSb.out (by obtain ⟨us, -, -, hv, -⟩ := HSS.out; exact hv) (by omega) (by have := HS6.out.lt; omega) hgl (fun k hk => (HS6.out.op.lt hk).2) _ (by have := O9.out; unfold OwnSS; rw [List.map_append, List.map_append, List.length_append]; exact this) G9.out; obtain ⟨a9, n9, c9, hv9⟩ : ∃ a n c, v9 = .slice a n c := (by rcases OwnC.form O9.out with h | ⟨q, cp, h, -⟩; exact ⟨_, _, _, h.1⟩; exact ⟨_, _, _, h⟩); subst hv9; have HST := Lib.hid ST; clear ST k0 k1 k2 f0 f1 f2; obtain ⟨q0, q1, q2, e0, e1, e2⟩ := blk3 hp9; clear hp9)
            clear q0 q1 q2 e0 e1 e2
            refine ⟨⟨j + 1, vp', .slice a9 n9 c9, ps ++ [p], zss ++ [zs], by omega, by congr 1; omega, by rw [List.length_append, HPL.out]; rfl, by rw [List.length_append, HZL.out]; rfl, fun z hz => ?_, fun z hz => ?_, ?_⟩, by simp [intOf]; omega⟩
            · rcases List.mem_append.1 hz with h | h
              · exact HPZ.out z h
              · obtain rfl := List.mem_singleton.1 h
                exact ⟨hp0, hp1⟩
            · rcases List.mem_append.1 hz with h | h
              · exact HZZ.out z h
              · obtain rfl := List.mem_singleton.1 h
                exact ⟨HZl.out, HZs.out⟩
            · have := HST.out
              rw [show (2 : Int) + ((j * (k + 1) : Nat) : Int) + 1 + (k : Int) = 2 + (((j + 1) * (k + 1) : Nat) : Int) by rw [Nat.add_mul]; omega] at this
              exact this
    · obtain rfl : N = j := by omega
      have hgt : ¬ ((N : Int) - N) > 0 := by omega
      have PZ := put3 HS.out.r (.int .i64 T) vp vt
      obtain ⟨a1, m1, e1, rfl⟩ : ∃ a n c, vp = .slice a n c := (by obtain ⟨a, c, h, -⟩ := HS.out.op.rd.opened; exact ⟨a, _, c, h⟩)
      obtain ⟨S, hSS, hSb⟩ := HS.out.ot
      obtain ⟨a2, m2, e2, rfl⟩ : ∃ a n c, vt = .slice a n c := (by rcases OwnC.form hSS with h | ⟨q, cp, h, -⟩; exact ⟨_, _, _, h.1⟩; exact ⟨_, _, _, h⟩)
      have HPZ2 := Lib.hid PZ
      have HO1 := Lib.hid (HS.out.op.chg PZ.chg fun k hk e => by have := (HS.out.op.lt hk).1; omega).rd
      have HO2 : Hid (RdSS _ _ _) := Lib.hid (OwnC.rd (OwnC.chg hSS PZ.chg fun k hk e => by have := (hSb k hk).1; omega))
      have HB := Lib.hid (Below.chg HS.out.bel PZ.chg (fun k hk => by omega) HS.out.bel.size)
      obtain ⟨m0, m1', m2', f0, f1, f2⟩ := blk3 HS.out.r
      obtain ⟨wy, hwy⟩ : ∃ wy, ((wi.setCell ⟨w.heap.size, 0, none⟩ (.int .i64 T)).setCell ⟨w.heap.size, 1, none⟩ (.slice a1 m1 e1)).setCell ⟨w.heap.size, 2, none⟩ (.slice a2 m2 e2) = wy := ⟨_, rfl⟩
      rw [hwy] at HPZ2 HO1 HO2 HB
      clear PZ hSS hSb
      go_wp2_with fail
      obtain ⟨q0, q1, q2, -, -, -⟩ := blk3 HPZ2.out.heap
      refine bodyPost_ret (v := .agg #[.int .i64 T, .slice a1 m1 e1, .slice a2 m2 e2]) (by simp [results, Try.results18, go_sem, q0, q1, q2]) rfl ?_
      exact ⟨T, .slice a1 m1 e1, .slice a2 m2 e2, rfl, hT1, hT2, ps, by have := HPL.out; omega, by have := HPL.out; omega, zss, by rw [HPL.out, HZL.out], HPZ.out, HZZ.out, HO1.out, HO2.out, HB.out⟩
end Go.Proofs.Ythacadbdncfocaa
