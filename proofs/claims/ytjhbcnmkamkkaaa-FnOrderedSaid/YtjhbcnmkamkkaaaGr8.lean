/- Walks on a seat of gathers: MuteGather. -/
import Derived.Test.YtjhbcnmkamkkaaaGr7
import Derived.Test.YtjhbcnmkamkkaaaPos
import Derived.Test.YtjhbcnmkamkkaaaNumB
namespace Go.Proofs.Ytjhbcnmkamkkaaa
open Go Go.RowKit

/-- The list with zeros where c says so, up to k. -/
def mutTo (c : Nat → Bool) (L : List Nat) (k : Nat) : List Nat := (List.range L.length).map fun j => if j < k ∧ c j = true then 0 else L.getD j 0
theorem mutTo_length (c : Nat → Bool) (L : List Nat) (k : Nat) : (mutTo c L k).length = L.length := by simp [mutTo]
theorem mutTo_getD (c : Nat → Bool) (L : List Nat) (k j : Nat) (h : j < L.length) : (mutTo c L k).getD j 0 = if j < k ∧ c j = true then 0 else L.getD j 0 := by
  simp [mutTo, List.getD_eq_getElem?_getD, List.getElem?_map, List.getElem?_range h]
theorem list_getD_ext {A B : List Nat} (hl : A.length = B.length) (h : ∀ j, j < A.length → A.getD j 0 = B.getD j 0) : A = B := by
  apply List.ext_getElem hl
  intro i h1 h2
  have := h i h1
  rw [List.getD_eq_getElem?_getD, List.getD_eq_getElem?_getD, List.getElem?_eq_getElem h1, List.getElem?_eq_getElem h2] at this
  exact this
theorem mutTo_zero (c : Nat → Bool) (L : List Nat) : mutTo c L 0 = L :=
  list_getD_ext (mutTo_length _ _ _) fun j hj => by
    rw [mutTo_length] at hj
    rw [mutTo_getD _ _ _ _ hj, if_neg (by omega)]
theorem mutTo_no (c : Nat → Bool) (L : List Nat) (k : Nat) (h : c k = false) : mutTo c L (k + 1) = mutTo c L k :=
  list_getD_ext (by rw [mutTo_length, mutTo_length]) fun j hj => by
    rw [mutTo_length] at hj
    rw [mutTo_getD _ _ _ _ hj, mutTo_getD _ _ _ _ hj]
    by_cases hjk : j = k
    · subst hjk
      rw [if_neg (by rw [h]; simp), if_neg (by omega)]
    · by_cases h2 : j < k
      · by_cases h3 : c j = true
        · rw [if_pos ⟨by omega, h3⟩, if_pos ⟨h2, h3⟩]
        · rw [if_neg (fun q => h3 q.2), if_neg (fun q => h3 q.2)]
      · rw [if_neg (by omega), if_neg (by omega)]
theorem mutTo_yes (c : Nat → Bool) (L : List Nat) (k : Nat) (h : c k = true) : mutTo c L (k + 1) = (mutTo c L k).set k 0 :=
  list_getD_ext (by rw [List.length_set, mutTo_length, mutTo_length]) fun j hj => by
    rw [mutTo_length] at hj
    have e : ((mutTo c L k).set k 0).getD j 0 = if k = j then 0 else (mutTo c L k).getD j 0 := by
      simp only [List.getD_eq_getElem?_getD, List.getElem?_set]
      by_cases hjk : k = j
      · subst hjk
        rw [if_pos rfl, if_pos rfl, if_pos (by rw [mutTo_length]; exact hj)]; rfl
      · rw [if_neg hjk, if_neg hjk]
    rw [e, mutTo_getD _ _ _ _ hj, mutTo_getD _ _ _ _ hj]
    by_cases hjk : k = j
    · subst hjk
      rw [if_pos rfl, if_pos ⟨by omega, h⟩]
    · rw [if_neg hjk]
      by_cases h2 : j < k
      · by_cases h3 : c j = true
        · rw [if_pos ⟨by omega, h3⟩, if_pos ⟨h2, h3⟩]
        · rw [if_neg (fun q => h3 q.2), if_neg (fun q => h3 q.2)]
      · rw [if_neg (by omega), if_neg (by omega)]
/-- Which numbers come too early. -/
def early (p sp k : Nat) : Bool := FloatKind.f32.format.order (floatOfInt .f32 (k : Nat)) (fop .quo .f32 (absC p) sp) == some Ordering.lt
def absT (x : Nat) (f : FuncId) (args : Array Value) (v : Value) : Prop := ∃ q, v = .float .f32 q ∧ FV .f32 q (absC x)
set_option maxRecDepth 100000 in
set_option maxHeartbeats 1600000 in
theorem muteFn_any (w : World) (v : Value) (r p s sp bs : Nat) (L : List Nat) (hL : RdF w v L) (hr : FV .f32 r p) (hs : FV .f32 s sp) (hb : w.cell? ⟨bs, 0, none⟩ = some (.float .f32 s)) (hn : L.length ≤ 64) :
    Calls Try.prog 100 #[v, .float .f32 r, .pointer (some ⟨bs, 0, none⟩)] w fun e w' => ∃ v', e = .returned v' ∧ OwnF w' w.heap.size v' (mutTo (early p sp) L L.length) ∧ Ext w w' := by
  have hquo := run_fquo (P := Try.prog)
  have hst := run_store_float (P := Try.prog)
  have hbs := block_lt hb
  have HB := Lib.hid hb
  have HC := Lib.hid (clone_any w v L hL (by omega))
  obtain ⟨a, c, rfl, -, -, -⟩ := hL.opened
  clear hL hb
  go_enter Try.func100, Try.ntmps100
  go_wp2_with fail
  refine HC.out.mono ?_
  clear HC
  rintro e w1 ⟨v1, rfl, o1, b1⟩
  obtain ⟨a1, c1, rfl, -, -, -⟩ := o1.rd.opened
  have O1 := Lib.hid o1
  have B1 := Lib.hid b1
  clear o1 b1
  go_wp2_with fail
  go_loopw [12] (fun i wr => ∃ k : Nat, k ≤ L.length ∧ i = .int .i64 k ∧ OwnF wr w.heap.size (.slice a1 L.length c1) (mutTo (early p sp) L k) ∧ Ext w wr) (fun i _ => L.length - (intOf i).toNat)
  case atStart => exact ⟨0, Nat.zero_le _, rfl, by rw [mutTo_zero]; exact O1.out, B1.out⟩
  case round =>
    obtain ⟨wi, rfl⟩ : ∃ wi : World, wi = wr := ⟨_, rfl⟩
    obtain ⟨k, hk, rfl, ho, hx⟩ := hrel
    have HO := Lib.hid ho
    have HX := Lib.hid hx
    have HBi := Lib.hid (((bcell hx).1 _ 0 hbs).trans HB.out)
    clear ho hx O1 B1
    by_cases hlt : k < L.length
    · have KEY : Hid (∀ q, FV .f32 q (absC p) → ∀ wq, (FloatKind.f32.format.order (floatOfInt .f32 (k : Nat)) (fres .quo .f32 q s wq) == some Ordering.lt) = early p sp k) := Lib.hid fun q hq wq => by
        rw [(floatOfInt_fv .f32 (k : Nat)).order (FV.op hq hs wq)]; rfl
      have hb := HBi.out
      cases he : early p sp k with
      | true =>
        have HE := Lib.hid he
        clear he
        go_wp2_with fail
        refine region_rel_all (by kernel_rfl) (by kernel_rfl) (Drawn wi) (absT p) ⟨1, rfl⟩ ?_
        iterate 3 (refine wpRel_draw rfl rfl (fun nq K hK => ?_); go_wp2)
        refine wpRel_callF #[.float .f32 r] Try.func101 (by kernel_rfl) (by kernel_rfl) (by simp [go_sem]) ⟨wi, 0, rfl⟩ (by obtain ⟨q, n, h1, h2⟩ := run_narrow_abs (P := Try.prog) 51 31 (by kernel_rfl) (by kernel_rfl) r p hr wi wi; exact ⟨_, q, rfl, h2⟩)
          (fun wq hq => (absolute_any wq r p hr).mono fun e w'' ⟨q, n, he, hf, hw⟩ => by
            obtain ⟨m, hm⟩ := hq
            exact ⟨_, he, ⟨q, rfl, hf⟩, m + n, by rw [hw, hm, World.drewN_drewN]⟩) ?_
        rintro v2 ⟨q, rfl, hq⟩
        simp only [Act.put, List.setIfInBounds_toArray, List.set_cons_succ, List.set_cons_zero]
        have hk2 := KEY.out q hq
        rw [HE.out] at hk2
        iterate 3 (refine wpRel_draw rfl rfl (fun nq K hK => ?_); go_wp2)
        refine wpRel_nil ?_
        rintro wd ⟨nd, hwd⟩
        have HOd : Hid (OwnF wd w.heap.size (.slice a1 L.length c1) (mutTo (early p sp) L k)) := Lib.hid (by rw [hwd]; exact HO.out.drewN nd)
        have HXd : Hid (Ext w wd) := Lib.hid (by rw [hwd]; exact Below.drewN HX.out nd)
        clear hwd hk2 hb
        obtain ⟨g, cap, hv, hgB, hgs, -, hcd, hfd⟩ := HOd.out.at_block (mutTo_length (early p sp) L k) (by omega)
        obtain ⟨rfl, rfl⟩ : a1 = some ⟨g, 0, none⟩ ∧ c1 = cap := by cases hv; exact ⟨rfl, rfl⟩
        obtain ⟨r0, hc0, -⟩ := hcd k (by rw [mutTo_length]; exact hlt)
        have hf0 := hfd k
        have HST := Lib.hid (HOd.out.storedN (mutTo_length (early p sp) L k) (j := k) (fv0 .f32))
        clear hv hcd hfd
        go_wp2_with fail
        refine ⟨⟨k + 1, by omega, by go_num, ?_, ?_⟩, by simp [intOf]; omega⟩
        · rw [mutTo_yes _ _ _ HE.out]; exact HST.out
        · exact Below.chg HXd.out ((Chg.refl wd (fun b => b = g)).setCell rfl k _) (fun b hb => by omega) HXd.out.size
      | false =>
        have HE := Lib.hid he
        clear he
        go_wp2_with fail
        refine region_rel_all (by kernel_rfl) (by kernel_rfl) (Drawn wi) (absT p) ⟨1, rfl⟩ ?_
        iterate 3 (refine wpRel_draw rfl rfl (fun nq K hK => ?_); go_wp2)
        refine wpRel_callF #[.float .f32 r] Try.func101 (by kernel_rfl) (by kernel_rfl) (by simp [go_sem]) ⟨wi, 0, rfl⟩ (by obtain ⟨q, n, h1, h2⟩ := run_narrow_abs (P := Try.prog) 51 31 (by kernel_rfl) (by kernel_rfl) r p hr wi wi; exact ⟨_, q, rfl, h2⟩)
          (fun wq hq => (absolute_any wq r p hr).mono fun e w'' ⟨q, n, he, hf, hw⟩ => by
            obtain ⟨m, hm⟩ := hq
            exact ⟨_, he, ⟨q, rfl, hf⟩, m + n, by rw [hw, hm, World.drewN_drewN]⟩) ?_
        rintro v2 ⟨q, rfl, hq⟩
        simp only [Act.put, List.setIfInBounds_toArray, List.set_cons_succ, List.set_cons_zero]
        have hk2 := KEY.out q hq
        rw [HE.out] at hk2
        iterate 3 (refine wpRel_draw rfl rfl (fun nq K hK => ?_); go_wp2)
        refine wpRel_nil ?_
        rintro wd ⟨nd, hwd⟩
        have HOd : Hid (OwnF wd w.heap.size (.slice a1 L.length c1) (mutTo (early p sp) L k)) := Lib.hid (by rw [hwd]; exact HO.out.drewN nd)
        have HXd : Hid (Ext w wd) := Lib.hid (by rw [hwd]; exact Below.drewN HX.out nd)
        clear hwd hk2 hb
        go_wp2_with fail
        refine ⟨⟨k + 1, by omega, by go_num, ?_, HXd.out⟩, by simp [intOf]; omega⟩
        rw [mutTo_no _ _ _ HE.out]; exact HOd.out
    · obtain rfl : L.length = k := by omega
      go_wp2_with fail
      go_ret
      exact ⟨_, rfl, HO.out, HX.out⟩
/-- The traces, what comes too early muted. -/
def mutF (T : TM) (sp i : Nat) : List Nat := mutTo (early (T.P.getD i 0) sp) (rowAt T.Ls i) (rowAt T.Ls i).length
theorem mutF_fine (w : World) (vt : Value) (T : TM) (sp : Nat) (hL : RdSS w vt T.Ls) (hr : ∀ j, (rowAt T.Ls j).length ≤ 64) (i : Nat) (hi : i < T.Ls.length) : (mutF T sp i).length ≤ 64 ∧ ∀ j, j < (mutF T sp i).length → ∃ r, FV .f32 r ((mutF T sp i).getD j 0) := by
  unfold mutF
  rw [mutTo_length]
  refine ⟨hr i, fun j hj => ?_⟩
  rw [mutTo_getD _ _ _ _ hj]
  split
  · exact ⟨0, fv0 .f32⟩
  · obtain ⟨_, _, -, -, -, hc⟩ := hL.opened
    obtain ⟨b, o, a', c', -, -, -, hR⟩ := hc i hi
    obtain ⟨_, _, -, -, -, hc2⟩ := hR.opened
    obtain ⟨b2, o2, r, -, -, hf⟩ := hc2 j hj
    exact ⟨r, hf⟩
set_option maxRecDepth 100000 in
set_option maxHeartbeats 1600000 in
theorem isGather_any (w : World) (vp vt : Value) (T : TM) (s sp : Nat) (hs : FV .f32 s sp) (hpos : posB sp = true) (hP : RdF w vp T.P) (hL : RdSS w vt T.Ls) (hsm : T.small) (hv : validT T = true) :
    Calls Try.prog 99 #[.agg #[.int .i64 T.t, vp, vt], .float .f32 s] w fun e w' => e = .returned (.bool true) ∧ Below w.heap.size w w' := by
  have HP := Lib.hid hP
  have HL := Lib.hid hL
  obtain ⟨a1, c1, rfl, -, -, -⟩ := hP.opened
  obtain ⟨a2, c2, rfl, -, -, -⟩ := hL.opened
  have HX := Lib.hid (show Ext w (w.alloc (.cells #[.int .i64 T.t, .slice a1 T.P.length c1, .slice a2 T.Ls.length c2] 59)) from (Below.refl _ _).alloc (Nat.le_refl _) _)
  have HV := implValidGather_any (w.alloc (.cells #[.int .i64 T.t, .slice a1 T.P.length c1, .slice a2 T.Ls.length c2] 59)) (.agg #[.int .i64 T.t, .slice a1 T.P.length c1, .slice a2 T.Ls.length c2]) T ⟨_, _, rfl, HP.out.mono HX.out, HL.out.mono HX.out⟩ hsm
  rw [hv] at HV
  replace HV := Lib.hid HV
  have HA : Hid (∀ w1 : World, Calls Try.prog 79 #[.slice (some ⟨w1.heap.size, 0, none⟩) 1 1] (w1.alloc (.cells #[.float .f32 s] 31)) fun e w' => e = .returned (.bool true) ∧ ∃ n, w' = (w1.alloc (.cells #[.float .f32 s] 31)).drewN n) := Lib.hid fun w1 => by
    have := arePositive_any (w1.alloc (.cells #[.float .f32 s] 31)) (.slice (some ⟨w1.heap.size, 0, none⟩) 1 1) [sp] (OwnF.one (Nat.le_refl _) hs).rd (by simp)
    rw [show allB posB [sp] = true by simp [allB, allTo, hpos]] at this
    exact this
  clear hP hL hv hpos
  go_enter Try.func99, Try.ntmps99
  go_wp2_with fail
  refine HV.out.mono ?_
  rintro e w1 ⟨rfl, b1⟩
  have B1 := Lib.hid (show Below w.heap.size w w1 from HX.out.trans b1)
  have z1 := B1.out.size
  clear b1 HV
  go_wp2_with fail
  refine (HA.out w1).mono ?_
  rintro e w2 ⟨rfl, n, hw2⟩
  have B2 : Hid (Below w.heap.size w w2) := Lib.hid (by rw [hw2]; exact Below.drewN (Below.trans B1.out ((Below.refl _ _).alloc z1 _)) n)
  clear hw2
  go_wp2
  go_ret
  exact ⟨rfl, B2.out⟩
set_option maxRecDepth 100000 in
set_option maxHeartbeats 3200000 in
theorem muteGather_any (w : World) (vp vt : Value) (T : TM) (s sp : Nat) (hs : FV .f32 s sp) (hpos : posB sp = true) (hP : RdF w vp T.P) (hL : RdSS w vt T.Ls) (hl : T.Ls.length = T.P.length) (hn : T.P.length ≤ 16) (hr : ∀ j, (rowAt T.Ls j).length ≤ 64) (hv : validT T = true) :
    Calls Try.prog 47 #[.agg #[.int .i64 T.t, vp, vt], .float .f32 s] w fun e w' => ∃ ap np cp vt', e = .returned (.tuple #[.agg #[.int .i64 T.t, .slice ap np cp, vt'], .bool true]) ∧ RdSS w' vt' (doL (mutF T sp) T.Ls.length) ∧ Below w.heap.size w w' := by
  have HP := Lib.hid hP
  have HL := Lib.hid hL
  obtain ⟨a1, c1, rfl, -, -, -⟩ := hP.opened
  obtain ⟨a2, c2, rfl, -, -, -⟩ := hL.opened
  obtain ⟨wA, hwA⟩ : ∃ wA, w.alloc (.cells #[.int .i64 T.t, .slice a1 T.P.length c1, .slice a2 T.Ls.length c2] 59) = wA := ⟨_, rfl⟩
  obtain ⟨wB, hwB⟩ : ∃ wB, wA.alloc (.cells #[.float .f32 s] 31) = wB := ⟨_, rfl⟩
  obtain ⟨W, hW⟩ : ∃ W, wB.alloc (.cells #[.int .i64 0, .slice none 0 0, .slice none 0 0] 59) = W := ⟨_, rfl⟩
  have xA : Ext w wA := by rw [← hwA]; exact (Below.refl _ _).alloc (Nat.le_refl _) _
  have xB : Ext wA wB := by rw [← hwB]; exact (Below.refl _ _).alloc (Nat.le_refl _) _
  have xC : Ext wB W := by rw [← hW]; exact (Below.refl _ _).alloc (Nat.le_refl _) _
  have zA : wA.heap.size = w.heap.size + 1 := by rw [← hwA]; exact World.size_alloc _ _
  have zB : wB.heap.size = w.heap.size + 2 := by rw [← hwB, World.size_alloc]; omega
  have hWs : W.heap.size = w.heap.size + 3 := by rw [← hW, World.size_alloc]; omega
  have hbx : W.heap[w.heap.size]? = some (.cells #[.int .i64 T.t, .slice a1 T.P.length c1, .slice a2 T.Ls.length c2] 59 (0, 0)) := by
    refine ((xB.trans xC).block w.heap.size (by omega)).trans ?_
    rw [← hwA]; exact alloc_new _ _
  have hbs : W.heap[w.heap.size + 1]? = some (.cells #[.float .f32 s] 31 (0, 0)) := by
    refine (xC.block (w.heap.size + 1) (by omega)).trans ?_
    rw [← hwB, ← zA]; exact alloc_new _ _
  have hby : W.heap[w.heap.size + 2]? = some (.cells #[.int .i64 0, .slice none 0 0, .slice none 0 0] 59 (0, 0)) := by
    rw [← hW, ← zB]; exact alloc_new _ _
  have hG : Below w.heap.size w W := (xA.trans xB).trans xC
  have FX : Hid (∀ wq, Below W.heap.size W wq → wq.cell? ⟨w.heap.size, 0, none⟩ = some (.int .i64 T.t) ∧ wq.cell? ⟨w.heap.size, 1, none⟩ = some (.slice a1 T.P.length c1) ∧ wq.cell? ⟨w.heap.size, 2, none⟩ = some (.slice a2 T.Ls.length c2) ∧ wq.cell? ⟨w.heap.size + 1, 0, none⟩ = some (.float .f32 s)) := Lib.hid fun wq hq => by
    obtain ⟨k0, k1, k2, -, -, -⟩ := blk3 ((hq.block w.heap.size (by omega)).trans hbx)
    exact ⟨k0, k1, k2, cell_of_row wq _ 0 _ _ _ ((hq.block (w.heap.size + 1) (by omega)).trans hbs)⟩
  have HBY := Lib.hid hby
  have HG := Lib.hid hG
  have HWS := Lib.hid hWs
  have HVT : Hid (∀ wq : World, Below w.heap.size w wq → Calls Try.prog 99 #[.agg #[.int .i64 T.t, .slice a1 T.P.length c1, .slice a2 T.Ls.length c2], .float .f32 s] wq fun e w' => e = .returned (.bool true) ∧ Below wq.heap.size wq w') := Lib.hid fun wq hq =>
    isGather_any wq (.slice a1 T.P.length c1) (.slice a2 T.Ls.length c2) T s sp hs hpos (HP.out.mono hq) (HL.out.mono hq) ⟨by omega, by omega, fun j _ => by have := hr j; omega⟩ hv
  have HPos := Lib.hid hpos
  have HE := Lib.hid (fun (wq : World) (hq : Below W.heap.size W wq) => each_any wq (.slice a1 T.P.length c1) (.slice a2 T.Ls.length c2) T 100 #[.pointer (some ⟨w.heap.size + 1, 0, none⟩)] (mutF T sp) (HP.out.mono (hG.trans (hq.mono (by omega)))) (HL.out.mono (hG.trans (hq.mono (by omega)))) hl hn (mutF_fine w _ T sp HL.out hr)
    (fun args wx => run_enter Try.func100 (by kernel_rfl) (by kernel_rfl) args wx)
    (fun wx hx i hi v r hR hf => (muteFn_any wx v r _ s sp (w.heap.size + 1) _ hR hf hs (FX.out wx (hq.trans (hx.mono hq.size))).2.2.2 (hr i)).mono fun e w' h => h))
  clear hP hL hbx hby hbs hG hl hWs hv hr hpos xA xB xC zA zB
  subst hwA
  subst hwB
  go_enter Try.func47, Try.ntmps47
  obtain ⟨k0, k1, k2, k3⟩ := FX.out W (Below.refl _ _)
  go_wp2_with fail
  clear hW k0 k1 k2 k3
  refine (HVT.out W HG.out).mono ?_
  clear HVT
  rintro e w1 ⟨rfl, b1⟩
  obtain ⟨k0, k1, k2, k3⟩ := FX.out w1 b1
  have z1 := b1.size
  have HE1 := Lib.hid (HE.out w1 b1)
  have B1 := Lib.hid b1
  clear b1 HE
  go_wp2_with fail
  clear k0 k1 k2 k3
  refine HE1.out.mono ?_
  clear HE1
  rintro e w3 ⟨vp', vt', rfl, o3, ⟨S, s3, hS⟩, b3⟩
  obtain ⟨ap, n1, cp, rfl⟩ : ∃ a n c, vp' = .slice a n c := (by obtain ⟨a, c, h, -⟩ := o3.rd.opened; exact ⟨a, _, c, h⟩)
  obtain ⟨at_, n2, ct, rfl⟩ : ∃ a n c, vt' = .slice a n c := (by obtain ⟨a, c, h, -⟩ := OwnC.rd s3; exact ⟨a, _, c, h⟩)
  have hy3 : w3.heap[w.heap.size + 2]? = some (.cells #[.int .i64 0, .slice none 0 0, .slice none 0 0] 59 (0, 0)) := (b3.block _ (by have := HWS.out; omega)).trans ((B1.out.block _ (by have := HWS.out; omega)).trans HBY.out)
  have PY := put3 hy3 (.int .i64 T.t) (.slice ap n1 cp) (.slice at_ n2 ct)
  obtain ⟨m0, m1, m2, f0, f1, f2⟩ := blk3 hy3
  have HPY := Lib.hid PY
  have B3 : Hid (Below w.heap.size w w3) := Lib.hid ((HG.out.trans (B1.out.mono (by have := HWS.out; omega))).trans (b3.mono (by have := HWS.out; omega)))
  have hlt1 : w.heap.size + 2 < w3.heap.size := (Array.getElem?_eq_some_iff.1 hy3).1
  have S3 := Lib.hid s3
  have HS3 := Lib.hid hS
  clear hy3 PY b3 o3 s3 hS
  go_wp2_with fail
  have PY := HPY.out
  clear HPY
  generalize (((w3.setCell ⟨w.heap.size + 2, 0, none⟩ (.int .i64 T.t)).setCell ⟨w.heap.size + 2, 1, none⟩ (.slice ap n1 cp)).setCell ⟨w.heap.size + 2, 2, none⟩ (.slice at_ n2 ct)) = wz2 at *
  obtain ⟨q0, q1, q2, -, -, -⟩ := blk3 PY.heap
  refine bodyPost_ret (v := .tuple #[.agg #[.int .i64 T.t, .slice ap n1 cp, .slice at_ n2 ct], .bool true]) (by simp [results, Try.results47, go_sem, q0, q1, q2]) rfl ?_
  exact ⟨_, _, _, _, rfl, OwnC.rd (OwnC.chg S3.out PY.chg fun k hk e => by have := HS3.out k hk; have := HWS.out; omega), Below.chg B3.out PY.chg (fun k hk => by omega) (by omega)⟩
end Go.Proofs.Ytjhbcnmkamkkaaa
