/- Walks on a seat of gathers: SortGather, KeepPlaces. -/
import Derived.Test.YtjhbcnmkamkkaaaGr5
namespace Go.Proofs.Ytjhbcnmkamkkaaa
open Go Go.RowKit

theorem finRange_val (n : Nat) : (List.finRange n).map Fin.val = List.range n := by
  apply List.ext_getElem
  · simp
  · intro i h1 h2; simp
def sortJ (P : List Nat) : List Nat := insAll (ltP P) [] (List.range P.length)
theorem sortJ_length (P : List Nat) : (sortJ P).length = P.length := by simp [sortJ, insAll_length]
theorem sortJ_lt (P : List Nat) (i : Nat) (h : i < (sortJ P).length) : (sortJ P).getD i 0 < P.length := by
  have hm : (sortJ P).getD i 0 ∈ sortJ P := by
    rw [List.getD_eq_getElem?_getD, List.getElem?_eq_getElem h]
    exact List.getElem_mem h
  unfold sortJ at hm ⊢
  rw [insAll_mem] at hm
  rcases hm with hm | hm
  · cases hm
  · exact List.mem_range.1 hm
theorem RdF.heap {w w' : World} {v : Value} {L : List Nat} (h : RdF w v L) (hk : ∀ k, k < w.heap.size → w'.heap[k]? = w.heap[k]?) : RdF w' v L := by
  obtain ⟨a, c, hv, hc, hz, hr⟩ := h
  refine ⟨a, c, hv, hc, hz, fun j hj => ?_⟩
  obtain ⟨b, o, u, ha, hu, hR⟩ := hr j hj
  exact ⟨b, o, u, ha, (cellR_same (hk b (block_lt hu))).trans hu, hR⟩
set_option maxRecDepth 100000 in
set_option maxHeartbeats 6400000 in
theorem sortGather_any (w : World) (vp vt : Value) (T : TM) (hP : RdF w vp T.P) (hL : RdSS w vt T.Ls) (hl : T.Ls.length = T.P.length) (h0 : 0 < T.P.length) (hn : T.P.length ≤ 12) (hr : ∀ j, (rowAt T.Ls j).length ≤ 64) (hv : validT T = true) (hb : validT (pkT T (sortJ T.P)) = true)
    (hf : ∀ k, k < T.P.length → isN .f32 (T.P.getD k 0) = false) (ho : ∀ k l, k < T.P.length → l < T.P.length → ∃ q, FloatKind.f32.format.order (T.P.getD k 0) (T.P.getD l 0) = some q) :
    Calls Try.prog 44 #[.agg #[.int .i64 T.t, vp, vt]] w fun e w' => ∃ vp' vt', e = .returned (.tuple #[.agg #[.int .i64 T.t, vp', vt'], .bool true]) ∧ RdF w' vp' (pkP T.P (sortJ T.P)) ∧ RdSS w' vt' (pkL T.Ls (sortJ T.P)) ∧ Below w.heap.size w w' := by
  have HP := Lib.hid hP
  have HL := Lib.hid hL
  obtain ⟨a1, c1, rfl, -, -, -⟩ := hP.opened
  obtain ⟨a2, c2, rfl, -, -, -⟩ := hL.opened
  obtain ⟨W, hW⟩ : ∃ W, (w.alloc (.cells #[.int .i64 T.t, .slice a1 T.P.length c1, .slice a2 T.Ls.length c2] 59)).alloc (.cells #[.int .i64 0, .slice none 0 0, .slice none 0 0] 59) = W := ⟨_, rfl⟩
  have hG : Below w.heap.size w W := by rw [← hW]; exact ((Below.refl _ _).alloc (Nat.le_refl _) _).alloc (by rw [World.size_alloc]; omega) _
  have hbx : W.heap[w.heap.size]? = some (.cells #[.int .i64 T.t, .slice a1 T.P.length c1, .slice a2 T.Ls.length c2] 59 (0, 0)) := by
    rw [← hW]
    exact (((Below.refl _ _).alloc (Nat.le_refl _) _ : Below _ (w.alloc (.cells #[.int .i64 T.t, .slice a1 T.P.length c1, .slice a2 T.Ls.length c2] 59)) _).block w.heap.size (by rw [World.size_alloc]; omega)).trans (alloc_new _ _)
  have hby : W.heap[w.heap.size + 1]? = some (.cells #[.int .i64 0, .slice none 0 0, .slice none 0 0] 59 (0, 0)) := by
    rw [← hW]
    have := alloc_new (w.alloc (.cells #[.int .i64 T.t, .slice a1 T.P.length c1, .slice a2 T.Ls.length c2] 59)) (.cells #[.int .i64 0, .slice none 0 0, .slice none 0 0] 59)
    rw [World.size_alloc] at this
    exact this
  have hWs : W.heap.size = w.heap.size + 2 := by rw [← hW, World.size_alloc, World.size_alloc]
  have FX : Hid (∀ wq, Below W.heap.size W wq → wq.cell? ⟨w.heap.size, 0, none⟩ = some (.int .i64 T.t) ∧ wq.cell? ⟨w.heap.size, 1, none⟩ = some (.slice a1 T.P.length c1) ∧ wq.cell? ⟨w.heap.size, 2, none⟩ = some (.slice a2 T.Ls.length c2)) := Lib.hid fun wq hq => by
    obtain ⟨k0, k1, k2, -, -, -⟩ := blk3 ((hq.block w.heap.size (by omega)).trans hbx)
    exact ⟨k0, k1, k2⟩
  have HV : Hid (Calls Try.prog 42 #[.agg #[.int .i64 T.t, .slice a1 T.P.length c1, .slice a2 T.Ls.length c2]] W fun e w' => e = .returned (.bool true) ∧ Below W.heap.size W w') := Lib.hid (by
    have hb := hG
    have := implValidGather_any W _ T ⟨_, _, rfl, hP.mono hb, hL.mono hb⟩ ⟨by omega, by omega, fun j _ => by have := hr j; omega⟩
    rw [hv] at this
    exact this)
  have HBX := Lib.hid hbx
  have HBY := Lib.hid hby
  have HG := Lib.hid hG
  have HWS := Lib.hid hWs
  have HLn := Lib.hid hl
  have HVB := Lib.hid hb
  have HF := Lib.hid hf
  have HO := Lib.hid ho
  have HR := Lib.hid hr
  clear hP hL hbx hby hG hb hl hWs hv hf ho hr
  go_enter Try.func44, Try.ntmps44
  obtain ⟨k0, k1, k2⟩ := FX.out W (Below.refl _ _)
  go_wp2_with fail
  clear hW k0 k1 k2
  refine HV.out.mono ?_
  clear HV
  rintro e w1 ⟨rfl, b1⟩
  obtain ⟨k0, k1, k2⟩ := FX.out w1 b1
  have z1 := b1.size
  have B1 := Lib.hid b1
  clear b1
  go_wp2_with fail
  clear k0 k1 k2
  go_loopw [4, 13] (fun v i wr => ∃ j : Nat, j ≤ T.P.length ∧ i = .int .i64 j ∧ OwnJ wr W.heap.size v (List.range j) ∧ Below W.heap.size W wr) (fun _ i _ => T.P.length - (intOf i).toNat)
  case atStart => exact ⟨0, Nat.zero_le _, rfl, World.ownsRow_nil _ _ _ 1, B1.out⟩
  case round =>
    obtain ⟨wi, rfl⟩ : ∃ wi : World, wi = wr := ⟨_, rfl⟩
    obtain ⟨j, hj, rfl, ho, hb⟩ := hrel
    have HOj := Lib.hid ho
    have HB := Lib.hid hb
    have zi := hb.size
    clear ho hb B1
    by_cases hlt : j < T.P.length
    · have xa : Ext wi (wi.alloc (.cells #[.int .i64 j] 3)) := (Below.refl _ _).alloc (Nat.le_refl _) _
      have hOa : OwnJ (wi.alloc (.cells #[.int .i64 j] 3)) W.heap.size u4 (List.range j) := HOj.out.kept xa
      have hza : (wi.alloc (.cells #[.int .i64 j] 3)).heap.size = wi.heap.size + 1 := World.size_alloc _ _
      have HXa := Lib.hid xa
      have HOa := Lib.hid hOa
      have HZa := Lib.hid hza
      clear xa hOa hza
      go_wp2_with (at_builtin; go_must (refine wpList_push1 rfl _ _ 103 3 rfl (.int .i64 0) 8 Try.underlying103 Try.infoJ rfl (by decide) W.heap.size _ _ _ rfl HOa.out _ _ (.int .i64 j) rfl (cell_new _ _ _) rfl (by rw [List.length_range]; omega) (by have := HZa.out; omega) ?_); intro v9 w9 o9 g9 b9)
      refine ⟨⟨j + 1, by omega, by go_num, ?_, HB.out.trans ((HXa.out.mono zi).trans b9)⟩, by simp [intOf]; omega⟩
      unfold OwnJ
      rw [List.range_succ, List.map_append, List.length_append]
      exact o9
    · obtain rfl : T.P.length = j := by omega
      obtain ⟨g, cap, hv, hgB, hgs⟩ : ∃ g cap, u4 = .slice (some ⟨g, 0, none⟩) T.P.length cap ∧ W.heap.size ≤ g ∧ g < wi.heap.size := by
        rcases HOj.out.2 with ⟨-, hz⟩ | ⟨g, cap, cur, hv, hb, hg, -⟩
        · rw [List.length_range] at hz; omega
        · exact ⟨g, cap, by rw [List.length_range] at hv; exact hv, hb, (Array.getElem?_eq_some_iff.1 hg).1⟩
      subst hv
      have hbel : Below w.heap.size w wi := HG.out.trans (HB.out.mono (by have := HWS.out; omega))
      have hbox := (HB.out.block w.heap.size (by have := HWS.out; omega)).trans HBX.out
      have hs := sortStableJ_any wi W.heap.size g cap w.heap.size T.P h0 (List.finRange T.P.length) (by rw [List.length_finRange, finRange_val]; exact HOj.out) (by rw [List.length_finRange]; exact hn) (fun wq hq i j hi hj =>
        sortFn_any wq w.heap.size i j a1 c1 T.P ((cellR_same (o := 1) (hq w.heap.size (by have := HWS.out; omega) (by have := HWS.out; omega))).trans (blk3 hbox).2.1) (HP.out.heap fun k hk => (hq k (by have := HWS.out; omega) (by have := HWS.out; omega)).trans (hbel.block k hk)) hi hj (by omega) HF.out HO.out)
      rw [List.length_finRange, finRange_val] at hs
      have HS := Lib.hid hs
      have HBe := Lib.hid hbel
      have HBo := Lib.hid hbox
      clear hs hbel hbox HOj
      go_wp2_with fail
      refine HS.out.mono ?_
      clear HS
      rintro e w2 ⟨rfl, o2, c2⟩
      have o2' : OwnJ w2 W.heap.size (.slice (some ⟨g, 0, none⟩) T.P.length cap) (sortJ T.P) := o2
      have b2 : Below W.heap.size W w2 := Below.chg HB.out c2 (fun k hk => by omega) (by omega)
      have B2 := Lib.hid b2
      have hbel2 : Below w.heap.size w w2 := HG.out.trans (b2.mono (by have := HWS.out; omega))
      have z2 := c2.size
      obtain ⟨k0, k1, k2⟩ := FX.out w2 b2
      have hc := chosen_any w2 _ _ _ T (sortJ T.P) true (HP.out.mono hbel2) (HL.out.mono hbel2) o2'.rd (fun i hi => sortJ_lt T.P i hi) HLn.out (by omega) (by rw [sortJ_length]; omega) HR.out HVB.out
      have HC := Lib.hid hc
      have HB2 := Lib.hid hbel2
      clear o2 o2' b2 c2 hbel2 hc
      go_wp2_with fail
      refine HC.out.mono ?_
      clear HC
      rintro e w3 ⟨vp', vt', rfl, h3, -, b3⟩
      obtain ⟨o3, S, s3, hS⟩ := h3 trivial
      obtain ⟨ap, n1, cp, rfl⟩ : ∃ a n c, vp' = .slice a n c := (by obtain ⟨a, c, h, -⟩ := o3.rd.opened; exact ⟨a, _, c, h⟩)
      obtain ⟨at_, n2, ct, rfl⟩ : ∃ a n c, vt' = .slice a n c := (by obtain ⟨a, c, h, -⟩ := OwnC.rd s3; exact ⟨a, _, c, h⟩)
      have hy3 : w3.heap[w.heap.size + 1]? = some (.cells #[.int .i64 0, .slice none 0 0, .slice none 0 0] 59 (0, 0)) := (b3.block _ (by have := HWS.out; omega)).trans ((B2.out.block _ (by have := HWS.out; omega)).trans HBY.out)
      have PY := put3 hy3 (.int .i64 T.t) (.slice ap n1 cp) (.slice at_ n2 ct)
      obtain ⟨m0, m1, m2, f0, f1, f2⟩ := blk3 hy3
      have HPY := Lib.hid PY
      have B3 : Hid (Below w.heap.size w w3) := Lib.hid (HB2.out.trans (b3.mono HB2.out.size))
      have hlt1 : w.heap.size + 1 < w3.heap.size := (Array.getElem?_eq_some_iff.1 hy3).1
      have O3 := Lib.hid o3
      have S3 := Lib.hid s3
      have HS3 := Lib.hid hS
      clear hy3 PY b3 o3 s3 h3 k0 k1 k2 hS
      go_wp2_with fail
      have PY := HPY.out
      clear HPY
      generalize (((w3.setCell ⟨w.heap.size + 1, 0, none⟩ (.int .i64 T.t)).setCell ⟨w.heap.size + 1, 1, none⟩ (.slice ap n1 cp)).setCell ⟨w.heap.size + 1, 2, none⟩ (.slice at_ n2 ct)) = wz2 at *
      obtain ⟨q0, q1, q2, -, -, -⟩ := blk3 PY.heap
      refine bodyPost_ret (v := .tuple #[.agg #[.int .i64 T.t, .slice ap n1 cp, .slice at_ n2 ct], .bool true]) (by simp [results, Try.results44, go_sem, q0, q1, q2]) rfl ?_
      exact ⟨_, _, rfl, (O3.out.chg PY.chg fun k hk e => by have := (O3.out.lt hk).1; have := HWS.out; omega).rd, OwnC.rd (OwnC.chg S3.out PY.chg fun k hk e => by have := HS3.out k hk; have := HWS.out; omega), Below.chg B3.out PY.chg (fun k hk => by omega) (by omega)⟩

/-- Which of the places lie between two numbers. -/
def Keeps (P : List Nat) (lo hi : Nat) (keep : Nat → Bool) : Prop :=
  ∀ j, j < P.length → ∃ b1 b2, (FloatKind.f32.format.order (P.getD j 0) lo == some Ordering.gt || FloatKind.f32.format.order (P.getD j 0) lo == some Ordering.eq) = b1 ∧ (FloatKind.f32.format.order (P.getD j 0) hi == some Ordering.lt || FloatKind.f32.format.order (P.getD j 0) hi == some Ordering.eq) = b2 ∧ keep j = (b1 && b2)
theorem keep_lt (keep : Nat → Bool) (n i : Nat) (h : i < ((List.range n).filter keep).length) : ((List.range n).filter keep).getD i 0 < n := by
  have hm : ((List.range n).filter keep).getD i 0 ∈ (List.range n).filter keep := by
    rw [List.getD_eq_getElem?_getD, List.getElem?_eq_getElem h]
    exact List.getElem_mem h
  exact List.mem_range.1 (List.mem_filter.1 hm).1
theorem keep_len (keep : Nat → Bool) (n : Nat) : ((List.range n).filter keep).length ≤ n := by
  have := List.length_filter_le keep (List.range n)
  rwa [List.length_range] at this
theorem keep_succ (keep : Nat → Bool) (n : Nat) (b : Bool) (h : keep n = b) : (List.range (n + 1)).filter keep = (List.range n).filter keep ++ cond b [n] [] := by
  rw [List.range_succ, List.filter_append]
  cases b <;> simp [h]
set_option maxRecDepth 100000 in
set_option maxHeartbeats 6400000 in
theorem keepPlaces_any (w : World) (vp vt : Value) (T : TM) (r1 r2 lo hi : Nat) (keep : Nat → Bool) (b : Bool) (hlo : FV .f32 r1 lo) (hhi : FV .f32 r2 hi) (hk : Keeps T.P lo hi keep) (hP : RdF w vp T.P) (hL : RdSS w vt T.Ls) (hl : T.Ls.length = T.P.length) (hn : T.P.length ≤ 12) (hr : ∀ j, (rowAt T.Ls j).length ≤ 64) (hv : validT T = true) (hb : validT (pkT T ((List.range T.P.length).filter keep)) = b) (hb2 : b = !((List.range T.P.length).filter keep).isEmpty) :
    Calls Try.prog 46 #[.agg #[.int .i64 T.t, vp, vt], .float .f32 r1, .float .f32 r2] w fun e w' => ∃ t' ap np cp at_ ct, e = .returned (.tuple #[.agg #[.int .i64 t', .slice ap np cp, .slice at_ ((List.range T.P.length).filter keep).length ct], .bool b]) ∧ Below w.heap.size w w' := by
  have HP := Lib.hid hP
  have HL := Lib.hid hL
  obtain ⟨a1, c1, rfl, -, -, -⟩ := hP.opened
  obtain ⟨a2, c2, rfl, -, -, -⟩ := hL.opened
  obtain ⟨W, hW⟩ : ∃ W, (w.alloc (.cells #[.int .i64 T.t, .slice a1 T.P.length c1, .slice a2 T.Ls.length c2] 59)).alloc (.cells #[.int .i64 0, .slice none 0 0, .slice none 0 0] 59) = W := ⟨_, rfl⟩
  have hG : Below w.heap.size w W := by rw [← hW]; exact ((Below.refl _ _).alloc (Nat.le_refl _) _).alloc (by rw [World.size_alloc]; omega) _
  have hbx : W.heap[w.heap.size]? = some (.cells #[.int .i64 T.t, .slice a1 T.P.length c1, .slice a2 T.Ls.length c2] 59 (0, 0)) := by
    rw [← hW]
    exact (((Below.refl _ _).alloc (Nat.le_refl _) _ : Below _ (w.alloc (.cells #[.int .i64 T.t, .slice a1 T.P.length c1, .slice a2 T.Ls.length c2] 59)) _).block w.heap.size (by rw [World.size_alloc]; omega)).trans (alloc_new _ _)
  have hby : W.heap[w.heap.size + 1]? = some (.cells #[.int .i64 0, .slice none 0 0, .slice none 0 0] 59 (0, 0)) := by
    rw [← hW]
    have := alloc_new (w.alloc (.cells #[.int .i64 T.t, .slice a1 T.P.length c1, .slice a2 T.Ls.length c2] 59)) (.cells #[.int .i64 0, .slice none 0 0, .slice none 0 0] 59)
    rw [World.size_alloc] at this
    exact this
  have hWs : W.heap.size = w.heap.size + 2 := by rw [← hW, World.size_alloc, World.size_alloc]
  have FX : Hid (∀ wq, Below W.heap.size W wq → wq.cell? ⟨w.heap.size, 0, none⟩ = some (.int .i64 T.t) ∧ wq.cell? ⟨w.heap.size, 1, none⟩ = some (.slice a1 T.P.length c1) ∧ wq.cell? ⟨w.heap.size, 2, none⟩ = some (.slice a2 T.Ls.length c2)) := Lib.hid fun wq hq => by
    obtain ⟨k0, k1, k2, -, -, -⟩ := blk3 ((hq.block w.heap.size (by omega)).trans hbx)
    exact ⟨k0, k1, k2⟩
  have HV : Hid (Calls Try.prog 42 #[.agg #[.int .i64 T.t, .slice a1 T.P.length c1, .slice a2 T.Ls.length c2]] W fun e w' => e = .returned (.bool true) ∧ Below W.heap.size W w') := Lib.hid (by
    have hb := hG
    have := implValidGather_any W _ T ⟨_, _, rfl, hP.mono hb, hL.mono hb⟩ ⟨by omega, by omega, fun j _ => by have := hr j; omega⟩
    rw [hv] at this
    exact this)
  have HBY := Lib.hid hby
  have HG := Lib.hid hG
  have HWS := Lib.hid hWs
  have HLn := Lib.hid hl
  have HVB := Lib.hid hb
  have HVB2 := Lib.hid hb2
  have HR := Lib.hid hr
  have HKp := Lib.hid hk
  clear hL hbx hby hG hb hb2 hl hWs hv hr hk
  go_enter Try.func46, Try.ntmps46
  obtain ⟨k0, k1, k2⟩ := FX.out W (Below.refl _ _)
  go_wp2_with fail
  clear hW k0 k1 k2
  refine HV.out.mono ?_
  clear HV
  rintro e w1 ⟨rfl, b1⟩
  obtain ⟨k0, k1, k2⟩ := FX.out w1 b1
  have z1 := b1.size
  have B1 := Lib.hid b1
  clear b1
  go_wp2_with fail
  clear k0 k1 k2
  go_loopw [8, 18] (fun v i wr => ∃ j : Nat, j ≤ T.P.length ∧ i = .int .i64 j ∧ OwnJ wr W.heap.size v ((List.range j).filter keep) ∧ Below W.heap.size W wr) (fun _ i _ => T.P.length - (intOf i).toNat)
  case atStart => exact ⟨0, Nat.zero_le _, rfl, World.ownsRow_nil _ _ _ 1, B1.out⟩
  case round =>
    obtain ⟨wi, rfl⟩ : ∃ wi : World, wi = wr := ⟨_, rfl⟩
    obtain ⟨j, hj, rfl, ho, hb⟩ := hrel
    have HOj := Lib.hid ho
    have HB := Lib.hid hb
    have zi := hb.size
    have hbel : Below w.heap.size w wi := HG.out.trans (hb.mono (by have := HWS.out; omega))
    have HBe := Lib.hid hbel
    clear ho hb B1
    by_cases hlt : j < T.P.length
    · have hcq := hP.opened
      obtain ⟨aq, cq, hvq, -, -, hcq⟩ := hcq
      obtain ⟨b1, o1, r, ea, d1, f1⟩ := hcq j hlt
      obtain ⟨rfl, rfl⟩ : a1 = aq ∧ c1 = cq := by cases hvq; exact ⟨rfl, rfl⟩
      subst ea
      have e1 := ((bcell hbel).1 _ (o1 + j) (block_lt d1)).trans d1
      obtain ⟨p1, p2, hp1, hp2, hkj⟩ := HKp.out j hlt
      rw [← f1.order hlo] at hp1
      rw [← f1.order hhi] at hp2
      have HKj := Lib.hid (keep_succ keep j _ hkj)
      have hlen := keep_len keep j
      clear hvq hcq d1 f1 hbel hkj hlo hhi hP
      cases p1 with
      | false =>
        clear hp2
        go_wp2_with fail
        refine ⟨⟨j + 1, by omega, by go_num, ?_, HB.out⟩, by simp [intOf]; omega⟩
        rw [HKj.out, Bool.false_and]
        simpa using HOj.out
      | true =>
        cases p2 with
        | false =>
          go_wp2_with fail
          refine ⟨⟨j + 1, by omega, by go_num, ?_, HB.out⟩, by simp [intOf]; omega⟩
          rw [HKj.out, Bool.and_false]
          simpa using HOj.out
        | true =>
          have xa : Ext wi (wi.alloc (.cells #[.int .i64 j] 3)) := (Below.refl _ _).alloc (Nat.le_refl _) _
          have hOa : OwnJ (wi.alloc (.cells #[.int .i64 j] 3)) W.heap.size u8 ((List.range j).filter keep) := HOj.out.kept xa
          have hza : (wi.alloc (.cells #[.int .i64 j] 3)).heap.size = wi.heap.size + 1 := World.size_alloc _ _
          have HXa := Lib.hid xa
          have HOa := Lib.hid hOa
          have HZa := Lib.hid hza
          clear xa hOa hza
          go_wp2_with (at_builtin; go_must (refine wpList_push1 rfl _ _ 103 3 rfl (.int .i64 0) 8 Try.underlying103 Try.infoJ rfl (by decide) W.heap.size _ _ _ rfl HOa.out _ _ (.int .i64 j) rfl (cell_new _ _ _) rfl (by omega) (by have := HZa.out; omega) ?_); intro v9 w9 o9 g9 b9)
          refine ⟨⟨j + 1, by omega, by go_num, ?_, HB.out.trans ((HXa.out.mono zi).trans b9)⟩, by simp [intOf]; omega⟩
          rw [HKj.out]
          unfold OwnJ
          rw [List.map_append, List.length_append]
          exact o9
    · obtain rfl : T.P.length = j := by omega
      obtain ⟨js, hjs⟩ : ∃ js, (List.range T.P.length).filter keep = js := ⟨_, rfl⟩
      have hjl := keep_len keep T.P.length
      have hjt := keep_lt keep T.P.length
      rw [hjs] at hjl hjt HOj HVB HVB2
      obtain ⟨k0, k1, k2⟩ := FX.out wi HB.out
      have hc := chosen_any wi _ _ _ T js b (HP.out.mono hbel) (HL.out.mono hbel) HOj.out.rd hjt HLn.out (by omega) (by omega) HR.out HVB.out
      obtain ⟨al, cl, hvl, -⟩ := HOj.out.rd
      subst hvl
      have HC := Lib.hid hc
      have HJ := Lib.hid hjs
      clear hc hjs hbel hjt hP hlo hhi
      go_wp2_with fail
      refine HC.out.mono ?_
      clear HC
      rintro e w3 ⟨vp', vt', rfl, h3, h4, b3⟩
      obtain ⟨ap, n1, cp, at_, ct, rfl, rfl⟩ : ∃ ap n1 cp at_ ct, vp' = .slice ap n1 cp ∧ vt' = .slice at_ js.length ct := by
        cases b with
        | false =>
          obtain ⟨rfl, rfl⟩ := h4 rfl
          have : js = [] := by simpa using HVB2.out.symm
          subst this
          exact ⟨_, _, _, _, _, rfl, rfl⟩
        | true =>
          obtain ⟨o3, S, s3, -⟩ := h3 rfl
          obtain ⟨a, c, h, -⟩ := o3.rd.opened
          obtain ⟨a', c', h', -⟩ := OwnC.rd s3
          exact ⟨a, _, c, a', c', h, by rw [h']; simp [pkL]⟩
      have hy3 : w3.heap[w.heap.size + 1]? = some (.cells #[.int .i64 0, .slice none 0 0, .slice none 0 0] 59 (0, 0)) := (b3.block _ (by have := HWS.out; omega)).trans ((HB.out.block _ (by have := HWS.out; omega)).trans HBY.out)
      obtain ⟨t', ht'⟩ : ∃ t', cond b T.t 0 = t' := ⟨_, rfl⟩
      rw [ht']
      have PY := put3 hy3 (.int .i64 t') (.slice ap n1 cp) (.slice at_ js.length ct)
      obtain ⟨m0, m1, m2, f0, f1, f2⟩ := blk3 hy3
      have HPY := Lib.hid PY
      have B3 : Hid (Below w.heap.size w w3) := Lib.hid (HBe.out.trans (b3.mono HBe.out.size))
      have hlt1 : w.heap.size + 1 < w3.heap.size := (Array.getElem?_eq_some_iff.1 hy3).1
      clear hy3 PY b3 h3 h4 k0 k1 k2 ht'
      go_wp2_with fail
      have PY := HPY.out
      clear HPY
      generalize (((w3.setCell ⟨w.heap.size + 1, 0, none⟩ (.int .i64 t')).setCell ⟨w.heap.size + 1, 1, none⟩ (.slice ap n1 cp)).setCell ⟨w.heap.size + 1, 2, none⟩ (.slice at_ js.length ct)) = wz2 at *
      obtain ⟨q0, q1, q2, -, -, -⟩ := blk3 PY.heap
      refine bodyPost_ret (v := .tuple #[.agg #[.int .i64 t', .slice ap n1 cp, .slice at_ js.length ct], .bool b]) (by simp [results, Try.results46, go_sem, q0, q1, q2]) rfl ?_
      exact ⟨t', ap, n1, cp, at_, ct, by rw [HJ.out], Below.chg B3.out PY.chg (fun k hk => by omega) (by omega)⟩
end Go.Proofs.Ytjhbcnmkamkkaaa
