/- Walks: the strongest cell of a section; a value that is put; places. -/
import Derived.Test.YtjhbcnmkamkkaaaSmD
namespace Go.Proofs.Ytjhbcnmkamkkaaa
open Go Go.RowKit

set_option maxRecDepth 100000 in
set_option maxHeartbeats 400000 in
theorem r8In_any (w : World) (i n : Nat) (h : i < n) :
    Calls Try.prog 17 #[.int .i64 i, .int .i64 n] w fun e w' => e = .returned (.int .i64 i) ∧ w' = w := by
  have hd : decide ((i : Int) ≥ n) = false := by simp; omega
  have hd0 : decide ((i : Int) < 0) = false := by simp
  go_enter Try.func17, Try.ntmps17
  go_wp2
  go_ret
  exact ⟨rfl, rfl⟩
theorem ownF_some (w : World) (L : List Nat) (h : ∀ j, j < L.length → ∃ r, FV .f32 r (L.getD j 0)) (hl : L.length ≤ 1000) : ∃ u w'', OwnF w'' w.heap.size u L ∧ Ext w w'' := by
  obtain ⟨bs, hbl, hbs⟩ := pick_list (P := fun j r => FV .f32 r (L.getD j 0)) L.length h
  refine ⟨.slice (some ⟨w.heap.size, 0, none⟩) L.length L.length, w.alloc (.cells (bs.map (Value.float .f32)).toArray 31), ⟨bs, hbl, hbs, ?_⟩, (Below.refl _ _).alloc (Nat.le_refl _) _⟩
  refine ⟨by simp [hbl], .inr ⟨w.heap.size, L.length, _, rfl, Nat.le_refl _, alloc_new _ _, Nat.le_refl _, by unfold maxLen; omega, by simp [hbl], ?_⟩⟩
  rw [Nat.mul_one, List.toList_toArray, List.take_of_length_le (by simp [hbl])]
def cloneT (A : List Nat) : FuncId → Array Value → World → Value → World → Prop := fun _ _ w u w'' => OwnF w'' w.heap.size u A
set_option maxRecDepth 100000 in
set_option maxHeartbeats 1600000 in
theorem secClone_any (w : World) (x y : Int) (v : Value) (A : List Nat) (h : RdF w v A) (hl : A.length ≤ 1000) :
    Calls Try.prog 61 #[.agg #[.int .i64 x, .int .i64 y, v]] w fun e w' => ∃ v', e = .returned (.agg #[.int .i64 x, .int .i64 y, v']) ∧ OwnF w' w.heap.size v' A ∧ Below w.heap.size w w' := by
  have H := Lib.hid h
  have HSome : Hid (∀ wq : World, ∃ u w'', OwnF w'' wq.heap.size u A ∧ Ext wq w'') := Lib.hid fun wq => ownF_some wq A (fun j hj => by
    obtain ⟨_, _, _, _, _, hc⟩ := h.opened
    obtain ⟨_, _, r, _, _, hf⟩ := hc j hj
    exact ⟨r, hf⟩) hl
  obtain ⟨ad, c, rfl, -⟩ := h.opened
  obtain ⟨W, hW⟩ : ∃ W, (w.alloc (.cells #[.int .i64 x, .int .i64 y, .slice ad A.length c] 27)).alloc (.cells #[.int .i64 0, .int .i64 0, .slice none 0 0] 27) = W := ⟨_, rfl⟩
  have X0 : Hid (Below w.heap.size w W) := Lib.hid (by rw [← hW]; exact ((Below.refl _ _).alloc (Nat.le_refl _) _).alloc (by rw [World.size_alloc]; omega) _)
  obtain ⟨g0, g1⟩ := heap2 w (.cells #[.int .i64 x, .int .i64 y, .slice ad A.length c] 27) (.cells #[.int .i64 0, .int .i64 0, .slice none 0 0] 27)
  rw [hW] at g0 g1
  have hWs : W.heap.size = w.heap.size + 2 := by rw [← hW]; simp only [World.size_alloc]
  have HG1 := Lib.hid g1
  have FX : Hid (∀ wq, Ext W.drew wq → wq.cell? ⟨w.heap.size, 0, none⟩ = some (.int .i64 x) ∧ wq.cell? ⟨w.heap.size, 1, none⟩ = some (.int .i64 y) ∧ wq.cell? ⟨w.heap.size, 2, none⟩ = some (.slice ad A.length c)) := Lib.hid fun wq hq => by
    obtain ⟨m0, m1, m2, -, -, -⟩ := blk3 ((((Ext.drew W).trans hq).block w.heap.size (by omega)).trans g0)
    exact ⟨m0, m1, m2⟩
  have HL := Lib.hid hl
  clear h g0 g1 hl
  generalize hn : A.length = n at *
  go_enter Try.func61, Try.ntmps61
  go_wp2_with fail
  refine region_grow_tail 7 (by kernel_rfl) (by kernel_rfl) (cloneT A) ?_
  simp only [List.take_succ_cons, List.take_zero, List.drop_succ_cons, List.drop_zero]
  iterate 6 (refine wpRelK_still rfl rfl (fun wq hq K hK => ?_); obtain ⟨k0, k1, k2⟩ := FX.out wq hq.1; go_wp2; clear k0 k1 k2)
  refine wpRelK_callF #[.slice ad n c] rfl Try.func64 (by kernel_rfl) (by kernel_rfl) (by simp [go_sem])
    (fun wq hq => (clone_any wq _ A (H.out.mono (X0.out.trans (((Ext.drew W).trans hq.1).mono X0.out.size))) (by have := HL.out; omega)).mono fun e w'' ⟨v', he, ho, hb⟩ => ⟨v', he, ho, hb⟩)
    (fun wq hq => HSome.out wq) ?_
  intro wa ha u w7 hT x7
  have ho7 : OwnF w7 wa.heap.size u A := hT
  obtain ⟨au, cu, rfl, -⟩ := ho7.rd.opened
  have HO7 := Lib.hid (ho7.mono (B' := w.heap.size + 2) (by have := ha.1.size; have := (Ext.drew W).size; omega))
  simp only [Act.put, List.setIfInBounds_toArray, List.set_cons_succ, List.set_cons_zero]
  clear ha x7 hT ho7
  refine wpRelK_nil ?_
  intro w8 hW8 hall
  have E7 : Ext w7 w8 := hall 6 (by decide)
  have xW : Ext W w8 := (Ext.drew W).trans hW8
  have z8 := xW.size
  have HO8 := Lib.hid (HO7.out.kept E7)
  have HB8 := Lib.hid (X0.out.trans (xW.mono (by omega)))
  have h5 := (xW.block _ (by omega)).trans HG1.out
  rw [hn] at HO8 ⊢
  have P := put3 h5 (.int .i64 x) (.int .i64 y) (.slice au n cu)
  have HP := Lib.hid P
  obtain ⟨m0, m1, m2, f0, f1, f2⟩ := blk3 h5
  have HN := Lib.hid hn
  clear P h5 hall E7 xW hW8 HO7 X0 FX HG1 hW hn
  go_wp2
  have P := HP.out
  clear HP
  generalize (((w8.setCell ⟨w.heap.size + 1, 0, none⟩ (.int .i64 x)).setCell ⟨w.heap.size + 1, 1, none⟩ (.int .i64 y)).setCell ⟨w.heap.size + 1, 2, none⟩ (.slice au n cu)) = wy at *
  obtain ⟨q0, q1, q2, -, -, -⟩ := blk3 P.heap
  refine bodyPost_ret (v := .agg #[.int .i64 x, .int .i64 y, .slice au n cu]) (by simp [results, Try.results61, go_sem, q0, q1, q2]) rfl ?_
  exact ⟨_, rfl, (HO8.out.chg P.chg fun q hq e => by have := (HO8.out.lt hq).1; omega).mono (B' := w.heap.size) (by omega), Below.chg HB8.out P.chg (fun q hq => by omega) (by omega)⟩
set_option maxRecDepth 100000 in
set_option maxHeartbeats 3200000 in
theorem strong_any (w : World) (v : Value) (A : List Nat) (a b o : Nat) (h : RdF w v A) (hl : A.length = a * b) (hN : ∀ j, isN .f32 (A.getD j 0) = false) (ha : 1 ≤ a) (ha2 : a ≤ 16) (hb : 1 ≤ b) (hb2 : b ≤ 16) (ho : bestF (A.map absC) A.length = some o) :
    Calls Try.prog 13 #[.agg #[.int .i64 a, .int .i64 b, v]] w fun e w' => e = .returned (.tuple #[.int .i64 (o % a : Nat), .int .i64 (o / a : Nat), .float .f32 (A.getD o 0), .bool true]) ∧ Below w.heap.size w w' := by
  have hab : a * b ≤ 256 := Nat.mul_le_mul ha2 hb2
  have holt := bestF_lt _ _ ho
  have H := Lib.hid h
  obtain ⟨ad, c, rfl, -⟩ := h.opened
  obtain ⟨w1, hw1⟩ : ∃ w1, w.alloc (.cells #[.int .i64 a, .int .i64 b, .slice ad A.length c] 27) = w1 := ⟨_, rfl⟩
  have b1 : Below w.heap.size w w1 := by rw [← hw1]; exact (Below.refl _ _).alloc (Nat.le_refl _) _
  have g1 : w1.heap[w.heap.size]? = some (.cells #[.int .i64 a, .int .i64 b, .slice ad A.length c] 27 (0, 0)) := by rw [← hw1]; exact alloc_new _ _
  have z1 : w1.heap.size = w.heap.size + 1 := by rw [← hw1]; exact World.size_alloc _ _
  obtain ⟨k0, k1, k2, -, -, -⟩ := blk3 g1
  have HS := Lib.hid (sizes_any w1 _ A (h.mono b1) (by omega))
  have HBest := Lib.hid (show bi (bestF (A.map absC) (A.map absC).length) = (o : Int) from by rw [List.length_map, ho]; rfl)
  have HV := Lib.hid (valid_true hl ha ha2 hb hb2)
  have HG1 := Lib.hid g1
  have HB1 := Lib.hid b1
  have HL := Lib.hid hl
  have HNN := Lib.hid hN
  clear g1 b1 h ho hl hN
  obtain ⟨n, hn⟩ : ∃ n, A.length = n := ⟨_, rfl⟩
  have hn2 : n ≤ 256 := by rw [← hn, HL.out]; exact hab
  rw [hn] at holt HS HG1 hw1 k2 ⊢
  have HLN := Lib.hid hn
  clear hn
  go_enter Try.func13, Try.ntmps13
  go_wp2_with fail
  refine HS.out.mono ?_
  rintro e w2 ⟨v2, rfl, o2, b2⟩
  have HBs := Lib.hid (best_any w2 v2 (A.map absC) o2.rd (by rw [List.length_map, HLN.out]; omega))
  rw [HBest.out] at HBs
  have HB2 := Lib.hid (HB1.out.trans (b2.mono (by omega)))
  have HG2 := Lib.hid ((b2.block _ (by omega)).trans HG1.out)
  obtain ⟨j0, j1, j2, -, -, -⟩ := blk3 HG2.out
  have z2 := b2.size
  clear o2 b2 HS HBest HG1 HB1 k0 k1 k2 hw1
  go_wp2_with fail
  refine HBs.out.mono ?_
  rintro e w0 ⟨rfl, hw0⟩
  obtain rfl : w2 = w0 := hw0.symm
  clear HBs hw0
  have KV := Lib.hid (validSection_any w2 (.agg #[.int .i64 a, .int .i64 b, .slice ad n c]) ⟨a, b, A⟩ ⟨_, rfl, by have := H.out.mono HB2.out; rwa [HLN.out] at this⟩)
  rw [HV.out] at KV
  go_wp2_with fail
  refine KV.out.mono ?_
  rintro e w3 ⟨rfl, b3⟩
  have HB3 := Lib.hid (HB2.out.trans (b3.mono (by omega)))
  have HG3 := Lib.hid ((b3.block _ (by omega)).trans HG2.out)
  obtain ⟨p0, p1, p2, -, -, -⟩ := blk3 HG3.out
  obtain ⟨a', c', hv, hc', -, hcell⟩ := (H.out.mono HB3.out).opened
  obtain ⟨rfl, rfl⟩ : ad = a' ∧ c = c' := by injection hv with e1 e2 e3; exact ⟨e1, e3⟩
  obtain ⟨bl, q, r, rfl, kr, F0⟩ := hcell o (by rw [HLN.out]; exact holt)
  obtain rfl : r = A.getD o 0 := fv_wordS F0 (HNN.out o)
  have hrem : Int.tmod (o : Int) (a : Int) = ((o % a : Nat) : Int) := by rw [Int.tmod_eq_emod_of_nonneg (by omega)]; omega
  have hquo : Int.tdiv (o : Int) (a : Int) = ((o / a : Nat) : Int) := by rw [Int.tdiv_eq_ediv_of_nonneg (by omega)]; omega
  have ha0 : ¬ (a : Int) = 0 := by omega
  obtain ⟨r, hr⟩ : ∃ r, A.getD o 0 = r := ⟨_, rfl⟩
  rw [hr] at kr
  have hm1 : o % a < 16 := by have := Nat.mod_lt o (show 0 < a by omega); omega
  have hm2 : o / a ≤ 256 := by have := Nat.div_le_self o a; omega
  obtain ⟨om, hom⟩ : ∃ om, o % a = om := ⟨_, rfl⟩
  obtain ⟨od, hod⟩ : ∃ od, o / a = od := ⟨_, rfl⟩
  rw [hom] at hrem hm1
  rw [hod] at hquo hm2
  have HOM := Lib.hid hom
  have HOD := Lib.hid hod
  have HR := Lib.hid hr
  clear hom hod hr
  clear hv hcell F0 b3 KV HB2 HG2 j0 j1 j2 hc' HV H HL HNN HLN
  go_wp2_with fail
  refine region_rel_all (by kernel_rfl) (by kernel_rfl) (Drawn w3) (fun _ _ _ => False) ⟨1, rfl⟩ ?_
  repeat (refine wpRel_draw rfl rfl (fun nq K hK => ?_); go_wp2)
  refine wpRel_nil ?_
  rintro wd ⟨nd, hwd⟩
  have Hwd := Lib.hid (show Below w.heap.size w wd from by rw [hwd]; exact Below.drewN HB3.out nd)
  clear hwd kr
  go_wp2
  refine bodyPost_ret (v := .tuple #[.int .i64 om, .int .i64 od, .float .f32 r, .bool true]) (by simp [results, Try.results13, go_sem]) rfl ?_
  exact ⟨by rw [HOM.out, HOD.out, HR.out], Hwd.out⟩
end Go.Proofs.Ytjhbcnmkamkkaaa
