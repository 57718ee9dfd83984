/- Walks: sections that the laws draw; sections that are valid, that are the same. -/
import Derived.Test.YtjhbcnmkamkkaaaTrB
import Derived.Test.YtjhbcnmkamkkaaaMkF
import Derived.Deep.RegionWith
import Derived.Deep.CutRange
namespace Go.Proofs.Ytjhbcnmkamkkaaa
open Go Go.RowKit


/-- A quarter of an integer. -/
def qT (z : Int) : Nat := fop .quo .f32 (floatOfInt .f32 z) 1082130432
theorem Src.kept {w w' : World} {g : Nat} {a : Option Addr} {n c : Nat} {t : Int} (h : Src w g a n c t) (hg : w'.heap[g]? = w.heap[g]?) : Src w' g a n c t := by
  obtain ⟨sd, h1, h2⟩ := h
  exact ⟨sd, hg.trans h1, h2⟩
theorem Src.lt {w : World} {g : Nat} {a : Option Addr} {n c : Nat} {t : Int} (h : Src w g a n c t) : g < w.heap.size := by
  obtain ⟨sd, h1, h2⟩ := h
  exact (Array.getElem?_eq_some_iff.1 h1).1
theorem RdY.same {w w' : World} {v : Value} {n : Nat} (h : RdY w v n) (he : w'.heap = w.heap) : RdY w' v n := by
  obtain ⟨a, c, hv, hc, hz, hr⟩ := h
  refine ⟨a, c, hv, hc, hz, fun j hj => ?_⟩
  obtain ⟨b, o, u, ha, hu, hR⟩ := hr j hj
  exact ⟨b, o, u, ha, by unfold World.cell? at *; rw [he]; exact hu, hR⟩
set_option maxRecDepth 100000 in
set_option maxHeartbeats 1600000 in
theorem l06Flat_any (w : World) (a b : Nat) (ha : a ≤ 5) (hb : b ≤ 5) :
    Calls Try.prog 49 #[.int .i64 a, .int .i64 b] w fun e w' => ∃ v, e = .returned (.agg #[.int .i64 a, .int .i64 b, v]) ∧ OwnF w' (w.heap.size + 1) v (List.replicate (a * b) 0) ∧ Below w.heap.size w w' := by
  have hab : a * b ≤ 25 := Nat.mul_le_mul ha hb
  have hmul : (a : Int) * (b : Int) = ((a * b : Nat) : Int) := by rw [Int.natCast_mul]
  have hwr : wrap64 ((a : Int) * (b : Int)) = ((a * b : Nat) : Int) := by rw [hmul]; unfold wrap64; omega
  generalize a * b = ab at *
  obtain ⟨W, hW⟩ : ∃ W, w.alloc (.cells #[.int .i64 0, .int .i64 0, .slice none 0 0] 27) = W := ⟨_, rfl⟩
  have HW : Hid (Below w.heap.size w W ∧ W.heap[w.heap.size]? = some (.cells #[.int .i64 0, .int .i64 0, .slice none 0 0] 27 (0, 0)) ∧ W.heap.size = w.heap.size + 1) := Lib.hid (by rw [← hW]; exact ⟨(Below.refl _ _).alloc (Nat.le_refl _) _, alloc_new _ _, World.size_alloc _ _⟩)
  go_enter Try.func49, Try.ntmps49
  go_wp2_with (refine wpList_makeF rfl _ _ 25 rfl 31 (.float .f32 0) 4 Try.underlying25 Try.infoF rfl _ _ _ _ ab rfl rfl (by first | exact hwr | exact hmul | rfl) (by first | exact hwr | exact hmul | rfl) (by omega) (by decide) ?_; intro w2 o2 x2; clear hW; have O2 := Lib.hid (OwnF.madeT o2); have B2 := Lib.hid (HW.out.1.trans (x2.mono (by have := HW.out.2.2; omega))); have h2 := (x2.block w.heap.size (by have := HW.out.2.2; omega)).trans HW.out.2.1; obtain ⟨m0, m1, m2, f0, f1, f2⟩ := blk3 h2; have HP := Lib.hid (put3 h2 (.int .i64 a) (.int .i64 b) (.slice (some ⟨W.heap.size, 0, none⟩) ab ab)); clear o2 x2 h2)
  have P := HP.out
  clear HP
  generalize (((w2.setCell ⟨w.heap.size, 0, none⟩ (.int .i64 a)).setCell ⟨w.heap.size, 1, none⟩ (.int .i64 b)).setCell ⟨w.heap.size, 2, none⟩ (.slice (some ⟨W.heap.size, 0, none⟩) ab ab)) = wy at *
  obtain ⟨q0, q1, q2, -, -, -⟩ := blk3 P.heap
  refine bodyPost_ret (v := .agg #[.int .i64 a, .int .i64 b, .slice (some ⟨W.heap.size, 0, none⟩) ab ab]) (by simp [results, Try.results49, go_sem, q0, q1, q2]) rfl ?_
  exact ⟨_, rfl, (O2.out.chg P.chg fun k hk e => by have := (O2.out.lt hk).1; have := HW.out.2.2; omega).mono (by have := HW.out.2.2; omega), Below.chg B2.out P.chg (fun k hk => by omega) B2.out.size⟩

/-- Where R8Section stands in its loop. -/
structure SecAtR (w wq : World) (g8 q cap : Nat) (ad : Option Addr) (n c a b N j : Nat) (zs : List Int) : Prop where
  bel : Below w.heap.size w wq
  z : wq.heap[w.heap.size]? = some (.cells #[.int .i64 0, .int .i64 0, .slice none 0 0] 27 (0, 0))
  s : Src wq (w.heap.size + 1) ad n c j
  p : wq.heap[g8]? = some (.cells #[.int .i64 a, .int .i64 b, .slice (some ⟨q, 0, none⟩) N cap] 27 (0, 0))
  o : OwnF wq (w.heap.size + 2) (.slice (some ⟨q, 0, none⟩) N cap) (zs.map qT ++ List.replicate (N - j) 0)
  g : w.heap.size + 1 < g8
  d : q ≠ g8
theorem SecAtR.chg {w wq wr : World} {g8 q cap : Nat} {ad : Option Addr} {n c a b N j : Nat} {zs : List Int} (h : SecAtR w wq g8 q cap ad n c a b N j zs) {t : Int} (hs : Src wr (w.heap.size + 1) ad n c t) (hc : Chg wq wr (fun k => k = w.heap.size + 1)) :
    Below w.heap.size w wr ∧ wr.heap[w.heap.size]? = some (.cells #[.int .i64 0, .int .i64 0, .slice none 0 0] 27 (0, 0)) ∧ wr.heap[g8]? = some (.cells #[.int .i64 a, .int .i64 b, .slice (some ⟨q, 0, none⟩) N cap] 27 (0, 0)) ∧ OwnF wr (w.heap.size + 2) (.slice (some ⟨q, 0, none⟩) N cap) (zs.map qT ++ List.replicate (N - j) 0) := by
  have h1 := (Array.getElem?_eq_some_iff.1 h.z).1
  have h2 := (Array.getElem?_eq_some_iff.1 h.p).1
  have h3 := h.g
  exact ⟨Below.chg h.bel hc (fun k hk => by omega) h.bel.size, (hc.block _ h1 (by omega)).trans h.z, (hc.block _ h2 (by omega)).trans h.p, h.o.chg hc fun k hk e => by have := (h.o.lt hk).1; omega⟩
theorem i64_wrapR (x : Int) (h : -1000000 ≤ x) (h2 : x ≤ 1000000) : IntKind.i64.wrap x = x := by
  simp [IntKind.wrap, IntKind.signed, IntKind.bits]
  omega
theorem cellR_same {w w' : World} {b o : Nat} (h : w'.heap[b]? = w.heap[b]?) : w'.cell? ⟨b, o, none⟩ = w.cell? ⟨b, o, none⟩ := by unfold World.cell?; rw [h]
theorem frozenR_same {w w' : World} {b o : Nat} (h : w'.heap[b]? = w.heap[b]?) : w'.frozen? ⟨b, o, none⟩ = w.frozen? ⟨b, o, none⟩ := by unfold World.frozen?; rw [h]
theorem SecAtR.step {w wq : World} {g8 q cap : Nat} {ad : Option Addr} {n c a b N j : Nat} {zs : List Int} {t : Int} (r : Nat) (z : Int) (hr : FV .f32 r (qT z)) (ht : t = ((j + 1 : Nat) : Int)) (hzl : zs.length = j) (hj : j < N)
    (hb : Below w.heap.size w wq) (hz : wq.heap[w.heap.size]? = some (.cells #[.int .i64 0, .int .i64 0, .slice none 0 0] 27 (0, 0))) (hs : Src wq (w.heap.size + 1) ad n c t) (hp : wq.heap[g8]? = some (.cells #[.int .i64 a, .int .i64 b, .slice (some ⟨q, 0, none⟩) N cap] 27 (0, 0)))
    (ho : OwnF wq (w.heap.size + 2) (.slice (some ⟨q, 0, none⟩) N cap) (zs.map qT ++ List.replicate (N - j) 0)) (hg : w.heap.size + 1 < g8) (hd : q ≠ g8) : SecAtR w (wq.setCell ⟨q, j, none⟩ (.float .f32 r)) g8 q cap ad n c a b N (j + 1) (zs ++ [z]) := by
  have hq := ho.lt (k := q) rfl
  have C : Chg wq (wq.setCell ⟨q, j, none⟩ (.float .f32 r)) (fun k => k = q) := Chg.setCell (S := fun k => k = q) (Chg.refl _ _) rfl j _
  have h1 := (Array.getElem?_eq_some_iff.1 hz).1
  have h2 := (Array.getElem?_eq_some_iff.1 hp).1
  refine ⟨Below.chg hb C (fun k hk => by omega) hb.size, (C.block _ h1 (by omega)).trans hz, ?_, (C.block _ h2 (fun e => hd e.symm)).trans hp, ?_, hg, hd⟩
  · subst ht
    exact hs.kept (C.block _ hs.lt (by omega))
  · have hl : (zs.map qT ++ List.replicate (N - j) 0).length = N := by rw [List.length_append, List.length_map, List.length_replicate]; omega
    have := ho.storedN (j := j) hl hr
    have e : (zs.map qT ++ List.replicate (N - j) 0).set j (qT z) = (zs ++ [z]).map qT ++ List.replicate (N - (j + 1)) 0 := by
      obtain ⟨m, hm⟩ : ∃ m, N - j = m + 1 := ⟨N - j - 1, by omega⟩
      rw [List.set_append_right _ _ (by rw [List.length_map]; omega), List.length_map, hzl, Nat.sub_self, hm, List.replicate_succ, List.set_cons_zero, List.map_append, show N - (j + 1) = m by omega, List.append_assoc]
      rfl
    rwa [e] at this

set_option maxRecDepth 100000 in
set_option maxHeartbeats 3200000 in
theorem r8Section_any (w : World) (v : Value) (n a b : Nat) (hy : RdY w v n) (hn : n ≤ 1048576) (ha : 1 ≤ a) (ha2 : a ≤ 5) (hb : 1 ≤ b) (hb2 : b ≤ 5) :
    Calls Try.prog 9 #[v, .int .i64 a, .int .i64 b] w fun e w' => ∃ (v' : Value) (zs : List Int), e = .returned (.agg #[.int .i64 a, .int .i64 b, v']) ∧ zs.length = a * b ∧ (∀ z ∈ zs, -8 ≤ z ∧ z ≤ 8) ∧ OwnF w' w.heap.size v' (zs.map qT) ∧ Below w.heap.size w w' := by
  have hst := run_store_float (P := Try.prog)
  have hquo := run_fquo (P := Try.prog)
  obtain ⟨ad, cc, rfl, -, -⟩ := hy.opened
  have HY := Lib.hid hy
  clear hy
  have hab : a * b ≤ 25 := Nat.mul_le_mul ha2 hb2
  have hab1 : 1 ≤ a * b := Nat.mul_le_mul ha hb
  have HFl := Lib.hid (fun wq => l06Flat_any wq a b ha2 hb2)
  generalize a * b = N at *
  obtain ⟨W, hW⟩ : ∃ W, w.alloc (.cells #[.int .i64 0, .int .i64 0, .slice none 0 0] 27) = W := ⟨_, rfl⟩
  have HW : Hid (Below w.heap.size w W ∧ W.heap[w.heap.size]? = some (.cells #[.int .i64 0, .int .i64 0, .slice none 0 0] 27 (0, 0))) := Lib.hid (by rw [← hW]; exact ⟨(Below.refl _ _).alloc (Nat.le_refl _) _, alloc_new _ _⟩)
  have hgW : W.heap.size = w.heap.size + 1 := by rw [← hW]; exact World.size_alloc _ _
  go_enter Try.func9, Try.ntmps9
  go_wp2_with fail
  clear hW
  refine (l00From_any W ad n cc).mono ?_
  rintro e w1 ⟨rfl, hw1⟩
  rw [hgW]
  have b1 : Below W.heap.size W w1 := by rw [hw1]; exact (Below.refl _ _).alloc (Nat.le_refl _) _
  have hs1 : Src w1 (w.heap.size + 1) ad n cc 0 := ⟨0, by rw [hw1, ← hgW]; exact alloc_new _ _, by decide, by decide⟩
  have z1 : w.heap.size + 2 ≤ w1.heap.size := by rw [hw1, World.size_alloc]; omega
  have HS1 := Lib.hid hs1
  have HB1 := Lib.hid (HW.out.1.trans (b1.mono (by omega)))
  have HZ1 := Lib.hid ((b1.block _ (by omega)).trans HW.out.2)
  clear hw1 b1 hs1 HW hgW
  go_wp2_with fail
  refine (HFl.out w1).mono ?_
  clear HFl
  rintro e w2 ⟨vq, rfl, o2, b2⟩
  obtain ⟨q, cap, rfl, hq1, hq2, -, -⟩ := o2.at_block (n := N) (by simp) hab1
  have HO2 := Lib.hid o2
  have HB2 := Lib.hid (HB1.out.trans (b2.mono (by omega)))
  have HZ2 := Lib.hid ((b2.block _ (by omega)).trans HZ1.out)
  have HS2 := Lib.hid (HS1.out.kept (b2.block _ (by omega)))
  have z2 := b2.size
  clear o2 b2 HB1 HZ1 HS1
  obtain ⟨wa, hwa⟩ : ∃ wa, w2.alloc (.cells #[.int .i64 0, .int .i64 0, .slice none 0 0] 27) = wa := ⟨_, rfl⟩
  have xa : Below w2.heap.size w2 wa := by rw [← hwa]; exact (Below.refl _ _).alloc (Nat.le_refl _) _
  have h9 : wa.heap[w2.heap.size]? = some (.cells #[.int .i64 0, .int .i64 0, .slice none 0 0] 27 (0, 0)) := by rw [← hwa]; exact alloc_new _ _
  have za := xa.size
  obtain ⟨g8, hg8⟩ : ∃ g8, w2.heap.size = g8 := ⟨_, rfl⟩
  have P := put3 (hg8 ▸ h9) (.int .i64 a) (.int .i64 b) (.slice (some ⟨q, 0, none⟩) N cap)
  obtain ⟨m0, m1, m2, f0, f1, f2⟩ := blk3 (hg8 ▸ h9)
  obtain ⟨wz, hwz⟩ : ∃ wz, ((wa.setCell ⟨g8, 0, none⟩ (.int .i64 a)).setCell ⟨g8, 1, none⟩ (.int .i64 b)).setCell ⟨g8, 2, none⟩ (.slice (some ⟨q, 0, none⟩) N cap) = wz := ⟨_, rfl⟩
  rw [hwz] at P
  have SZ : Hid (SecAtR w wz g8 q cap ad n cc a b N 0 []) := Lib.hid
    ⟨Below.chg (HB2.out.trans (xa.mono (by omega))) P.chg (fun k hk => by omega) (by omega), (P.chg.block _ (by omega) (by omega)).trans ((xa.block _ (by omega)).trans HZ2.out),
      (HS2.out.kept (xa.block _ (by omega))).kept (P.chg.block _ (by omega) (by omega)), P.heap, by
        have := (HO2.out.kept xa).chg P.chg (fun k hk e => by have hq9 : q = k := Option.some.inj hk; have e2 : k = g8 := e; omega)
        exact this.mono (by omega), by omega, by omega⟩
  clear P xa h9 HB2 HZ2 HS2 HO2
  go_wp2_with fail
  clear hwz hwa m0 m1 m2 f0 f1 f2
  go_loopw [9] (fun i wr => ∃ (j : Nat) (zs : List Int), j ≤ N ∧ i = .int .i64 j ∧ zs.length = j ∧ (∀ z ∈ zs, -8 ≤ z ∧ z ≤ 8) ∧ SecAtR w wr g8 q cap ad n cc a b N j zs) (fun i _ => N - (intOf i).toNat)
  case atStart => exact ⟨0, [], Nat.zero_le _, rfl, rfl, (fun z hz => by cases hz), SZ.out⟩
  case round =>
    clear SZ
    obtain ⟨wi, rfl⟩ : ∃ wi : World, wi = wr := ⟨_, rfl⟩
    obtain ⟨j, zs, hj, rfl, hzl, hz, hS⟩ := hrel
    have HS := Lib.hid hS
    have HZ := Lib.hid hz
    have HZL := Lib.hid hzl
    obtain ⟨k0, k1, k2, -, -, -⟩ := blk3 hS.p
    clear hS hz hzl
    by_cases hlt : j < N
    · have HP := Lib.hid (fun (wq : World) (hq : wq.heap = wi.heap) => pick_any wq (w.heap.size + 1) ad n cc j 17 (HS.out.s.kept (by rw [hq])) ((HY.out.mono HS.out.bel).same hq) hn (by omega) (by omega) (by decide) (by decide))
      obtain ⟨u0, hu0, hfr⟩ : ∃ u0, wi.cell? ⟨q, j, none⟩ = some u0 ∧ wi.frozen? ⟨q, j, none⟩ = false := by
        obtain ⟨q', cap', hv, -, -, -, hcl, hf⟩ := HS.out.o.at_block (n := N) (by rw [List.length_append, List.length_map, List.length_replicate, HZL.out]; omega) (by omega)
        cases hv
        obtain ⟨r, hr, -⟩ := hcl j (by rw [List.length_append, List.length_map, List.length_replicate, HZL.out]; omega)
        exact ⟨_, hr, hf j⟩
      go_wp2_with fail
      have hqlt : q < wi.heap.size := (HS.out.o.lt (k := q) rfl).2
      have hqge : w.heap.size + 2 ≤ q := (HS.out.o.lt (k := q) rfl).1
      have hg8l : g8 < wi.heap.size := (Array.getElem?_eq_some_iff.1 HS.out.p).1
      have hg8 := HS.out.g
      go_region_with (go_at_call 50; go_must (refine (HP.out wi.drew rfl).mono ?_; rintro e w3 ⟨p, rfl, hp0, hp1, s3, c3⟩; have e8 : w3.heap[g8]? = wi.heap[g8]? := c3.block g8 hg8l (by omega); have eq : w3.heap[q]? = wi.heap[q]? := c3.block q hqlt (by omega); replace k2 := (cellR_same (o := 2) e8).trans k2; replace hu0 := (cellR_same (o := j) eq).trans hu0; replace hfr := (frozenR_same (o := j) eq).trans hfr; have HS3 := Lib.hid s3; have HC3 := Lib.hid c3; clear s3 c3 e8 eq))
      all_goals
        have hwp : IntKind.i64.wrap (p - 8) = p - 8 := i64_wrapR _ (by omega) (by omega)
        rw [hwp]
        have F : FV .f32 (fres .quo .f32 (floatOfInt .f32 (p - 8)) 1082130432 w3) (qT (p - 8)) := FV.op (op := .quo) (floatOfInt_fv .f32 (p - 8)) fv_four w3
        generalize fres .quo .f32 (floatOfInt .f32 (p - 8)) 1082130432 w3 = r at *
        generalize fcnt .quo .f32 (floatOfInt .f32 (p - 8)) 1082130432 = kq at *
        have CH : Chg wi w3 (fun k => k = w.heap.size + 1) := ⟨HC3.out.os, HC3.out.tape, HC3.out.output, HC3.out.size, HC3.out.block⟩
        obtain ⟨e1, e2, e3, e4⟩ := HS.out.chg HS3.out CH
        have ST := Lib.hid (SecAtR.step (wq := w3.drewN kq) (t := (j : Int) + 1) r (p - 8) F (by omega) HZL.out hlt (Below.drewN e1 _) e2 HS3.out e3 e4 HS.out.g HS.out.d)
        clear F CH e1 e2 e3 e4 hwp
        go_wp2
        refine ⟨⟨j + 1, zs ++ [p - 8], by omega, by go_num, by rw [List.length_append, HZL.out]; rfl, fun z hz => ?_, ST.out⟩, by simp [intOf]; omega⟩
        rcases List.mem_append.1 hz with h | h
        · exact HZ.out z h
        · obtain rfl := List.mem_singleton.1 h
          omega
    · obtain rfl : j = N := by omega
      have PZ := put3 HS.out.z (.int .i64 a) (.int .i64 b) (.slice (some ⟨q, 0, none⟩) j cap)
      have HPZ := Lib.hid PZ
      obtain ⟨m0, m1, m2, f0, f1, f2⟩ := blk3 HS.out.z
      clear PZ
      go_wp2_with fail
      have PZ := HPZ.out
      clear HPZ
      generalize (((wi.setCell ⟨w.heap.size, 0, none⟩ (.int .i64 a)).setCell ⟨w.heap.size, 1, none⟩ (.int .i64 b)).setCell ⟨w.heap.size, 2, none⟩ (.slice (some ⟨q, 0, none⟩) j cap)) = wy at *
      obtain ⟨q0, q1, q2, -, -, -⟩ := blk3 PZ.heap
      refine bodyPost_ret (v := .agg #[.int .i64 a, .int .i64 b, .slice (some ⟨q, 0, none⟩) j cap]) (by simp [results, Try.results9, go_sem, q0, q1, q2]) rfl ?_
      refine ⟨_, zs, rfl, HZL.out, HZ.out, ?_, Below.chg HS.out.bel PZ.chg (fun k hk => by omega) HS.out.bel.size⟩
      have := (HS.out.o.chg PZ.chg fun k hk e => by have := (HS.out.o.lt hk).1; omega).mono (B' := w.heap.size) (by omega)
      rwa [Nat.sub_self, List.replicate_zero, List.append_nil] at this


set_option maxRecDepth 100000 in
set_option maxHeartbeats 800000 in
theorem r8At_any (w : World) (v : Value) (n : Nat) (i m : Int) (hy : RdY w v n) (hn : n ≤ 1048576) (hi : 0 ≤ i) (hi2 : i ≤ 1000) (hm : 2 ≤ m) (hm2 : m ≤ 1000) :
    Calls Try.prog 8 #[v, .int .i64 i, .int .i64 m] w fun e w' => ∃ r : Int, e = .returned (.int .i64 r) ∧ 0 ≤ r ∧ r < m ∧ w' = w := by
  obtain ⟨a, c, rfl, hc, hcell⟩ := hy.opened
  clear hy
  have hm0 : ¬ m = 0 := by omega
  have hd1 : decide (m ≤ 1) = false := by simp; omega
  by_cases hlt : i < (n : Int)
  · obtain ⟨k, rfl⟩ : ∃ k : Nat, i = k := ⟨i.toNat, by omega⟩
    obtain ⟨b, o, rfl, hlb, y, ⟨hy0, hy1⟩, hy⟩ := hcell k (by omega)
    have hr0 : 0 ≤ y % m := Int.emod_nonneg _ hm0
    have hr1 : y % m < m := Int.emod_lt_of_pos _ (by omega)
    have hd2 : decide ((k : Int) ≥ n) = false := by simp; omega
    clear hcell
    go_enter Try.func8, Try.ntmps8
    go_wp2
    go_ret
    exact ⟨y % m, rfl, hr0, hr1, rfl⟩
  · have hd2 : decide (i ≥ (n : Int)) = true := by simp; omega
    clear hcell
    go_enter Try.func8, Try.ntmps8
    go_wp2
    go_ret
    exact ⟨0, rfl, by decide, by omega, rfl⟩
set_option maxRecDepth 100000 in
set_option maxHeartbeats 400000 in
theorem r8Long_any (w : World) (a1 a2 : Option Addr) (n1 n2 c1 c2 : Nat) (h1 : n1 ≤ maxLen) (h2 : n2 ≤ maxLen) :
    Calls Try.prog 7 #[.slice a1 n1 c1, .slice a2 n2 c2] w fun e w' => e = .returned (.bool (decide (48 < n1) || decide (48 < n2))) ∧ w' = w := by
  by_cases h : 48 < n1
  · have hd : decide ((n1 : Int) > 48) = true := by simp; omega
    go_enter Try.func7, Try.ntmps7
    go_wp2
    go_ret
    exact ⟨by simp [h], rfl⟩
  · have hd : decide ((n1 : Int) > 48) = false := by simp; omega
    by_cases h3 : 48 < n2
    · have hd2 : decide ((n2 : Int) > 48) = true := by simp; omega
      go_enter Try.func7, Try.ntmps7
      go_wp2
      go_ret
      exact ⟨by simp [h3], rfl⟩
    · have hd2 : decide ((n2 : Int) > 48) = false := by simp; omega
      go_enter Try.func7, Try.ntmps7
      go_wp2
      go_ret
      exact ⟨by simp [h, h3], rfl⟩
/-- A section: its sides, its numbers. -/
structure SM where
  w : Int
  d : Int
  V : List Nat
def RdS (w : World) (u : Value) (S : SM) : Prop := ∃ v, u = .agg #[.int .i64 S.w, .int .i64 S.d, v] ∧ RdF w v S.V
theorem RdS.mono {w w' : World} {u : Value} {S : SM} (h : RdS w u S) (hb : Below w.heap.size w w') : RdS w' u S := by
  obtain ⟨v, hu, h1⟩ := h
  exact ⟨v, hu, h1.mono hb⟩
def in16 (n : Int) : Bool := decide (1 ≤ n) && decide (n ≤ 16)
def sizeB (a b : Int) : Bool := in16 a && in16 b
def validS (S : SM) : Bool := sizeB S.w S.d && ((S.V.length : Int) == S.w * S.d)

set_option maxRecDepth 100000 in
set_option maxHeartbeats 400000 in
theorem within16_any (w : World) (n : Int) :
    Calls Try.prog 60 #[.int .i64 n, .int .i64 1, .int .i64 16] w fun e w' => e = .returned (.bool (in16 n)) ∧ w' = w := by
  unfold in16
  by_cases h1 : 1 ≤ n
  · rw [decide_eq_true h1]
    go_enter Try.func60, Try.ntmps60
    go_wp2
    go_ret
    exact ⟨rfl, rfl⟩
  · rw [decide_eq_false h1]
    go_enter Try.func60, Try.ntmps60
    go_wp2
    go_ret
    exact ⟨rfl, rfl⟩

set_option maxRecDepth 100000 in
set_option maxHeartbeats 400000 in
theorem isSize_any (w : World) (a b : Int) :
    Calls Try.prog 51 #[.int .i64 a, .int .i64 b] w fun e w' => e = .returned (.bool (sizeB a b)) ∧ w' = w := by
  unfold sizeB
  go_enter Try.func51, Try.ntmps51
  go_wp2_with fail
  refine (within16_any w a).mono ?_
  rintro e w1 ⟨rfl, rfl⟩
  cases hp : in16 a with
  | false =>
    go_wp2
    go_ret
    exact ⟨by rw [hp]; rfl, rfl⟩
  | true =>
    go_wp2_with fail
    refine (within16_any _ b).mono ?_
    rintro e w1 ⟨rfl, rfl⟩
    go_wp2
    go_ret
    exact ⟨by rw [hp]; rfl, rfl⟩

theorem sizeB_bounds {a b : Int} (h : sizeB a b = true) : 1 ≤ a ∧ a ≤ 16 ∧ 1 ≤ b ∧ b ≤ 16 := by
  unfold sizeB in16 at h
  simp only [Bool.and_eq_true, decide_eq_true_eq] at h
  omega
theorem mul_bound {a b : Int} (h : sizeB a b = true) : 1 ≤ a * b ∧ a * b ≤ 256 := by
  obtain ⟨h1, h2, h3, h4⟩ := sizeB_bounds h
  have e1 : 1 * 1 ≤ a * b := Int.mul_le_mul h1 h3 (by decide) (by omega)
  have e2 : a * b ≤ 16 * 16 := Int.mul_le_mul h2 h4 (by omega) (by decide)
  omega

set_option maxRecDepth 100000 in
set_option maxHeartbeats 1600000 in
theorem validSection_any (w : World) (u : Value) (S : SM) (h : RdS w u S) :
    Calls Try.prog 53 #[u] w fun e w' => e = .returned (.bool (validS S)) ∧ Below w.heap.size w w' := by
  obtain ⟨v, rfl, h⟩ := h
  obtain ⟨a, c, rfl, -⟩ := h.opened
  obtain ⟨x, y, V⟩ := S
  unfold validS
  simp only at *
  have hb0 : Below w.heap.size w (w.alloc (.cells #[.int .i64 x, .int .i64 y, .slice a V.length c] 27)) := by (repeat (first | exact Below.refl _ _ | (refine Below.drewN ?_ _) | (refine Below.alloc ?_ (by first | exact Nat.le_refl _ | (simp; done) | (simp; omega)) _)))
  obtain ⟨c0, c1, c2, -, -, -⟩ := blk3 (alloc_new w (.cells #[.int .i64 x, .int .i64 y, .slice a V.length c] 27))
  go_enter Try.func53, Try.ntmps53
  go_upto_region 1 with fail
  generalize w.alloc (.cells #[.int .i64 x, .int .i64 y, .slice a V.length c] 27) = w0 at *
  have hc : ∀ B : Bool, sizeB x y = B → ∀ wd, Drawn w0 wd → Calls Try.prog 51 #[.int .i64 x, .int .i64 y] wd fun e w'' => ∃ u, e = .returned u ∧ u = (if 51 = 51 then .bool B else .int .i64 V.length) ∧ Drawn w0 w'' := by
    rintro B hB wd ⟨nd, rfl⟩
    refine (isSize_any (w0.drewN nd) x y).mono ?_
    rintro e w'' ⟨rfl, rfl⟩
    exact ⟨_, rfl, by rw [hB]; rfl, nd, rfl⟩
  have hc2 : ∀ B : Bool, ∀ wd, Drawn w0 wd → Calls Try.prog 68 #[.slice a V.length c] wd fun e w'' => ∃ u, e = .returned u ∧ u = (if 68 = 51 then .bool B else .int .i64 V.length) ∧ Drawn w0 w'' := by
    rintro B wd ⟨nd, rfl⟩
    refine (lengthF_any (w0.drewN nd) a V.length c).mono ?_
    rintro e w'' ⟨rfl, rfl⟩
    exact ⟨_, rfl, rfl, nd, rfl⟩
  cases hp : sizeB x y with
  | false =>
    have HC := Lib.hid (hc false hp)
    have Hp := Lib.hid hp
    clear hc hc2 hp
    refine region_rel_all (by kernel_rfl) (by kernel_rfl) (Drawn w0) (fun f _ v => v = (if f = 51 then .bool false else .int .i64 V.length)) ⟨1, rfl⟩ ?_
    repeat (refine wpRel_draw rfl rfl (fun nq K hK => ?_); go_wp2)
    refine wpRel_callF #[.int .i64 x, .int .i64 y] Try.func51 (by kernel_rfl) (by kernel_rfl) (by simp [go_sem]) ⟨w0, 0, rfl⟩ ⟨_, rfl⟩ HC.out ?_
    rintro v rfl
    simp only [Act.put, List.setIfInBounds_toArray, List.set_cons_succ, List.set_cons_zero, if_true]
    repeat (first | (refine wpRel_draw rfl rfl (fun nq K hK => ?_); go_wp2) | (refine wpRel_skip rfl ?_; simp only [Act.put, List.setIfInBounds_toArray, List.set_cons_succ, List.set_cons_zero]))
    refine wpRel_nil ?_
    rintro wd ⟨nd, hwd⟩
    have Hwd := Lib.hid hwd
    clear hwd
    go_wp2
    go_ret
    exact ⟨by rw [Hp.out]; rfl, by rw [Hwd.out]; exact Below.drewN hb0 nd⟩
  | true =>
    have HC := Lib.hid (hc true hp)
    have HC2 := Lib.hid (hc2 true)
    obtain ⟨q1, q2⟩ := mul_bound hp
    have hw : IntKind.i64.wrap (x * y) = x * y := IntWalk.i64_in _ (by omega)
    have Hp := Lib.hid hp
    clear hc hc2 hp
    refine region_rel_all (by kernel_rfl) (by kernel_rfl) (Drawn w0) (fun f _ v => v = (if f = 51 then .bool true else .int .i64 V.length)) ⟨1, rfl⟩ ?_
    repeat (refine wpRel_draw rfl rfl (fun nq K hK => ?_); go_wp2)
    refine wpRel_callF #[.int .i64 x, .int .i64 y] Try.func51 (by kernel_rfl) (by kernel_rfl) (by simp [go_sem]) ⟨w0, 0, rfl⟩ ⟨_, rfl⟩ HC.out ?_
    rintro v rfl
    simp only [Act.put, List.setIfInBounds_toArray, List.set_cons_succ, List.set_cons_zero, if_true]
    repeat (first | (refine wpRel_draw rfl rfl (fun nq K hK => ?_); go_wp2) | (refine wpRel_skip rfl ?_; simp only [Act.put, List.setIfInBounds_toArray, List.set_cons_succ, List.set_cons_zero]))
    refine wpRel_callG #[.slice a V.length c] rfl Try.func68 (by kernel_rfl) (by kernel_rfl) (by simp [go_sem]) ⟨w0, 0, rfl⟩ ⟨_, rfl⟩ HC2.out ?_
    rintro v rfl
    simp only [Act.put, List.setIfInBounds_toArray, List.set_cons_succ, List.set_cons_zero, if_neg (show ¬ 68 = 51 by decide)]
    repeat (first | (refine wpRel_draw rfl rfl (fun nq K hK => ?_); go_wp2) | (refine wpRel_skip rfl ?_; simp only [Act.put, List.setIfInBounds_toArray, List.set_cons_succ, List.set_cons_zero]))
    refine wpRel_nil ?_
    rintro wd ⟨nd, hwd⟩
    have Hwd := Lib.hid hwd
    clear hwd
    go_wp2
    go_ret
    exact ⟨by rw [Hp.out]; rfl, by rw [Hwd.out]; exact Below.drewN hb0 nd⟩
theorem heap2 (w : World) (A B : Obj) : ((w.alloc A).alloc B).heap[w.heap.size]? = some A ∧ ((w.alloc A).alloc B).heap[w.heap.size + 1]? = some B := by
  have s1 : (w.alloc A).heap.size = w.heap.size + 1 := World.size_alloc _ _
  refine ⟨?_, ?_⟩
  · rw [Below.heap_alloc _ _ _ (by omega), heap_alloc_new]
  · rw [← s1, heap_alloc_new]
set_option maxRecDepth 100000 in
theorem sameNumber_any (w : World) (r s x y : Nat) (hr : FV .f32 r x) (hs : FV .f32 s y) :
    Calls Try.prog 105 #[.float .f32 r, .float .f32 s] w fun e w' => e = .returned (.bool (x == y)) ∧ w' = w := by
  rw [← beq_cast]
  go_enter Try.func105, Try.ntmps105
  go_wp2_with fail
  refine (bitsOf_any w r x hr).mono ?_
  rintro e1 w1 ⟨rfl, rfl⟩
  go_wp2_with fail
  refine (bitsOf_any _ s y hs).mono ?_
  rintro e2 w2 ⟨rfl, rfl⟩
  go_wp2
  go_ret
  exact ⟨rfl, rfl⟩



/-- The first j numbers are the same. -/
def sameTo (A B : List Nat) (j : Nat) : Bool := (List.range j).all fun i => A.getD i 0 == B.getD i 0
def sameL (A B : List Nat) : Bool := A.length == B.length && sameTo A B A.length
theorem sameTo_succ (A B : List Nat) (j : Nat) : sameTo A B (j + 1) = (sameTo A B j && (A.getD j 0 == B.getD j 0)) := by simp [sameTo, List.range_succ]
theorem sameTo_false {A B : List Nat} {j n : Nat} (hj : j < n) (h : (A.getD j 0 == B.getD j 0) = false) : sameTo A B n = false := by
  rw [Bool.eq_false_iff]
  intro hc
  have := List.all_eq_true.1 hc j (List.mem_range.2 hj)
  rw [h] at this
  cases this
theorem sameL_len {A B : List Nat} (h : A.length ≠ B.length) : sameL A B = false := by simp [sameL, h]


set_option maxRecDepth 100000 in
set_option maxHeartbeats 800000 in
theorem equalF_any (w : World) (v1 v2 : Value) (A B : List Nat) (h1 : RdF w v1 A) (h2 : RdF w v2 B) (hm : A.length ≤ 1048576) (hm2 : B.length ≤ 1048576) :
    Calls Try.prog 104 #[v1, v2, .func (.func 105) #[] #[]] w fun e w' => e = .returned (.bool (sameL A B)) ∧ w' = w := by
  obtain ⟨a1, c1, rfl, hc1, -, hcell1⟩ := h1.opened
  obtain ⟨a2, c2, rfl, hc2, -, hcell2⟩ := h2.opened
  clear h1 h2
  by_cases hl : A.length = B.length
  · have hne : ((A.length : Int) != (B.length : Int)) = false := by rw [hl]; simp
    have Hl := Lib.hid hl
    clear hl
    go_enter Try.func104, Try.ntmps104
    go_wp2
    go_loop [17] (fun i => ∃ k : Nat, k ≤ A.length ∧ i = .int .i64 k ∧ sameTo A B k = true) (fun i => A.length - (intOf i).toNat)
    case atStart => exact ⟨0, Nat.zero_le _, rfl, rfl⟩
    case round =>
      obtain ⟨k, hk, rfl, hsk⟩ := hrel
      have Hsk := Lib.hid hsk
      by_cases hlt : k < A.length
      · have hlt2 : k < B.length := by have := Hl.out; omega
        obtain ⟨b, o, r, rfl, d0, f0⟩ := hcell1 k hlt
        obtain ⟨b', o', s, rfl, g0, e0⟩ := hcell2 k hlt2
        clear hcell1 hcell2 hsk
        go_wp2_with fail
        refine (sameNumber_any w r s _ _ f0 e0).mono ?_
        rintro e1 w1 ⟨rfl, hw1⟩
        subst hw1
        cases hxy : (A.getD k 0 == B.getD k 0) with
        | true =>
          have Hxy := Lib.hid hxy
          clear hxy
          go_wp2
          exact ⟨⟨k + 1, by omega, by go_num, by rw [sameTo_succ, Hsk.out, Hxy.out]; rfl⟩, by simp [intOf]; omega⟩
        | false =>
          have Hxy := Lib.hid hxy
          clear hxy
          go_wp2
          go_ret
          exact ⟨by unfold sameL; rw [sameTo_false hlt Hxy.out, Bool.and_false]; rfl, rfl⟩
      · clear hsk
        go_wp2
        go_ret
        obtain rfl : k = A.length := by omega
        exact ⟨by unfold sameL; rw [Hsk.out, Hl.out]; simp, rfl⟩
  · have hne : ((A.length : Int) != (B.length : Int)) = true := by simp; omega
    have hs := sameL_len hl
    rw [hs]
    clear hs
    go_enter Try.func104, Try.ntmps104
    go_wp2
    go_ret
    exact ⟨rfl, rfl⟩

set_option maxRecDepth 100000 in
set_option maxHeartbeats 800000 in
theorem sameList_any (w : World) (v1 v2 : Value) (A B : List Nat) (h1 : RdF w v1 A) (h2 : RdF w v2 B) (hm : A.length ≤ 1048576) (hm2 : B.length ≤ 1048576) :
    Calls Try.prog 62 #[v1, v2] w fun e w' => e = .returned (.bool (sameL A B)) ∧ w' = w := by
  go_enter Try.func62, Try.ntmps62
  go_wp2_with fail
  refine (equalF_any w v1 v2 A B h1 h2 hm hm2).mono ?_
  rintro e1 w1 ⟨rfl, hw1⟩
  subst hw1
  go_wp2
  go_ret
  exact ⟨rfl, rfl⟩
set_option maxRecDepth 100000 in
set_option maxHeartbeats 800000 in
theorem sameSection_any (w : World) (x y : Int) (u v : Value) (A B : List Nat) (h1 : RdF w u A) (h2 : RdF w v B) (hm : A.length ≤ 1048576) (hm2 : B.length ≤ 1048576) :
    Calls Try.prog 15 #[.agg #[.int .i64 x, .int .i64 y, u], .agg #[.int .i64 x, .int .i64 y, v]] w fun e w' => e = .returned (.bool (sameL A B)) ∧ Below w.heap.size w w' := by
  obtain ⟨W, hW⟩ : ∃ W, ((w.alloc (.cells #[.int .i64 x, .int .i64 y, u] 27)).alloc (.cells #[.int .i64 x, .int .i64 y, v] 27)) = W := ⟨_, rfl⟩
  have X0 : Hid (Below w.heap.size w W) := Lib.hid (by rw [← hW]; exact ((Below.refl _ _).alloc (Nat.le_refl _) _).alloc (by rw [World.size_alloc]; omega) _)
  have HE := Lib.hid (sameList_any W u v A B (h1.mono X0.out) (h2.mono X0.out) hm hm2)
  obtain ⟨a1, c1, rfl, -⟩ := h1.opened
  obtain ⟨a2, c2, rfl, -⟩ := h2.opened
  clear h1 h2
  obtain ⟨g0, g1⟩ := heap2 w (.cells #[.int .i64 x, .int .i64 y, .slice a1 A.length c1] 27) (.cells #[.int .i64 x, .int .i64 y, .slice a2 B.length c2] 27)
  rw [hW] at g0 g1
  obtain ⟨k0, k1, k2, -, -, -⟩ := blk3 g0
  obtain ⟨j0, j1, j2, -, -, -⟩ := blk3 g1
  clear g0 g1
  go_enter Try.func15, Try.ntmps15
  go_wp2_with fail
  clear hW
  refine HE.out.mono ?_
  rintro e w1 ⟨rfl, hw1⟩
  subst hw1
  go_wp2
  go_ret
  exact ⟨rfl, X0.out⟩
set_option maxRecDepth 100000 in
set_option maxHeartbeats 800000 in
theorem r8Equal_any (w : World) (v1 v2 : Value) (L : List Nat) (h1 : RdF w v1 L) (h2 : RdF w v2 L) (hmax : L.length ≤ 1048576) (hn : ∀ j, j < L.length → isN .f32 (L.getD j 0) = false) :
    Calls Try.prog 16 #[v1, v2] w fun e w' => e = .returned (.bool true) ∧ ∃ n, w' = w.drewN n := by
  obtain ⟨a1, c1, rfl, hc1, -, hcell1⟩ := h1.opened
  obtain ⟨a2, c2, rfl, hc2, -, hcell2⟩ := h2.opened
  clear h1 h2
  go_enter Try.func16, Try.ntmps16
  go_wp2
  go_loopw [5] (fun i wr => ∃ k q : Nat, k ≤ L.length ∧ i = .int .i64 k ∧ wr = w.drewN q) (fun i _ => L.length - (intOf i).toNat)
  case atStart => exact ⟨0, 0, Nat.zero_le _, rfl, rfl⟩
  case round =>
    obtain ⟨wi, rfl⟩ : ∃ wi : World, wi = wr := ⟨_, rfl⟩
    obtain ⟨k, q, hk, rfl, hq⟩ := hrel
    by_cases hlt : k < L.length
    · obtain ⟨b, o, r, rfl, d0, f0⟩ := hcell1 k hlt
      obtain ⟨b', o', r', rfl, g0, f1⟩ := hcell2 k hlt
      obtain rfl := f0.eq_of_not (hn k hlt)
      obtain rfl := f1.eq_of_not (hn k hlt)
      have ht : (FloatKind.f32.format.order (L.getD k 0) (L.getD k 0) != some Ordering.eq) = false := by rw [order_self (hn k hlt)]; rfl
      have D0 : wi.cell? ⟨b, o + k, none⟩ = some (.float .f32 (L.getD k 0)) := by rw [hq]; exact d0
      have G0 : wi.cell? ⟨b', o' + k, none⟩ = some (.float .f32 (L.getD k 0)) := by rw [hq]; exact g0
      have Hq := Lib.hid hq
      clear hcell1 hcell2 d0 g0 hq f0 f1 hn
      generalize L.getD k 0 = x at *
      go_wp2
      refine region_rel_all (by kernel_rfl) (by kernel_rfl) (Drawn wi) (fun _ _ _ => False) ⟨1, rfl⟩ ?_
      repeat (refine wpRel_draw rfl rfl (fun nq K hK => ?_); go_wp2)
      refine wpRel_nil ?_
      rintro wd ⟨nd, hwd⟩
      have Hwd := Lib.hid hwd
      clear hwd
      go_wp2
      exact ⟨⟨k + 1, q + nd, by omega, by go_num, by rw [Hwd.out, Hq.out, World.drewN_drewN]⟩, by simp [intOf]; omega⟩
    · have Hq := Lib.hid hq
      clear hq hn
      go_wp2
      go_ret
      exact ⟨rfl, q, Hq.out⟩
end Go.Proofs.Ytjhbcnmkamkkaaa
