/- Several texts in one: Gr8, Grw, Gr9, Gra, OdP, OdQ, SaP, SaT, SaQ, SaR, Tru, SfN, R8l, FinSa, PrSa. -/
import Derived.Test.YtjhbcnmkamkkaaaGr7
import Derived.Test.YtjhbcnmkamkkaaaPos
import Derived.Test.YtjhbcnmkamkkaaaNumB
import Derived.Test.YtjhbcnmkamkkaaaRelK
import Derived.Lib.AppendZeros
import Derived.Test.YtjhbcnmkamkkaaaSae
import Derived.Test.YtjhbcnmkamkkaaaDbl
import Derived.Test.YtjhbcnmkamkkaaaGr0
import Derived.Test.YtjhbcnmkamkkaaaSfS
import Derived.Test.YtjhbcnmkamkkaaaOwn
import Derived.Test.YtjhbcnmkamkkaaaSfG
import Derived.Test.YtjhbcnmkamkkaaaOpnB
import Derived.Laws.Cover2
/- Walks on a seat of gathers: MuteGather. -/
namespace Go.Proofs.Ytjhbcnmkamkkaaa
open Go Go.RowKit

/-- The list with zeros where c says so, up to k. -/
def mutTo (c : Nat → Bool) (L : List Nat) (k : Nat) : List Nat := (List.range L.length).map fun j => if j < k ∧ c j = true then 0 else L.getD j 0
theorem mutTo_length (c : Nat → Bool) (L : List Nat) (k : Nat) : (mutTo c L k).length = L.length := by simp [mutTo]
theorem mutTo_getD (c : Nat → Bool) (L : List Nat) (k j : Nat) (h : j < L.length) : (mutTo c L k).getD j 0 = if j < k ∧ c j = true then 0 else L.getD j 0 := by
  simp [mutTo, List.getD_eq_getElem?_getD, List.getElem?_map, List.getElem?_range h]
theorem list_getD_ext {A B : List Nat} (hl : A.length = B.length) (h : ∀ j, j < A.length → A.getD j 0 = B.getD j 0) : A = B := by
  apply List.ext_getElem hl
  intro i h1 h2
  have := h i h1
  rw [List.getD_eq_getElem?_getD, List.getD_eq_getElem?_getD, List.getElem?_eq_getElem h1, List.getElem?_eq_getElem h2] at this
  exact this
theorem mutTo_zero (c : Nat → Bool) (L : List Nat) : mutTo c L 0 = L :=
  list_getD_ext (mutTo_length _ _ _) fun j hj => by
    rw [mutTo_length] at hj
    rw [mutTo_getD _ _ _ _ hj, if_neg (by omega)]
theorem mutTo_no (c : Nat → Bool) (L : List Nat) (k : Nat) (h : c k = false) : mutTo c L (k + 1) = mutTo c L k :=
  list_getD_ext (by rw [mutTo_length, mutTo_length]) fun j hj => by
    rw [mutTo_length] at hj
    rw [mutTo_getD _ _ _ _ hj, mutTo_getD _ _ _ _ hj]
    by_cases hjk : j = k
    · subst hjk
      rw [if_neg (by rw [h]; simp), if_neg (by omega)]
    · by_cases h2 : j < k
      · by_cases h3 : c j = true
        · rw [if_pos ⟨by omega, h3⟩, if_pos ⟨h2, h3⟩]
        · rw [if_neg (fun q => h3 q.2), if_neg (fun q => h3 q.2)]
      · rw [if_neg (by omega), if_neg (by omega)]
theorem mutTo_yes (c : Nat → Bool) (L : List Nat) (k : Nat) (h : c k = true) : mutTo c L (k + 1) = (mutTo c L k).set k 0 :=
  list_getD_ext (by rw [List.length_set, mutTo_length, mutTo_length]) fun j hj => by
    rw [mutTo_length] at hj
    have e : ((mutTo c L k).set k 0).getD j 0 = if k = j then 0 else (mutTo c L k).getD j 0 := by
      simp only [List.getD_eq_getElem?_getD, List.getElem?_set]
      by_cases hjk : k = j
      · subst hjk
        rw [if_pos rfl, if_pos rfl, if_pos (by rw [mutTo_length]; exact hj)]; rfl
      · rw [if_neg hjk, if_neg hjk]
    rw [e, mutTo_getD _ _ _ _ hj, mutTo_getD _ _ _ _ hj]
    by_cases hjk : k = j
    · subst hjk
      rw [if_pos rfl, if_pos ⟨by omega, h⟩]
    · rw [if_neg hjk]
      by_cases h2 : j < k
      · by_cases h3 : c j = true
        · rw [if_pos ⟨by omega, h3⟩, if_pos ⟨h2, h3⟩]
        · rw [if_neg (fun q => h3 q.2), if_neg (fun q => h3 q.2)]
      · rw [if_neg (by omega), if_neg (by omega)]
/-- Which numbers come too early. -/
def early (p sp k : Nat) : Bool := FloatKind.f32.format.order (floatOfInt .f32 (k : Nat)) (fop .quo .f32 (absC p) sp) == some Ordering.lt
def absT (x : Nat) (f : FuncId) (args : Array Value) (v : Value) : Prop := ∃ q, v = .float .f32 q ∧ FV .f32 q (absC x)
set_option maxRecDepth 100000 in
set_option maxHeartbeats 1600000 in
theorem muteFn_any (w : World) (v : Value) (r p s sp bs : Nat) (L : List Nat) (hL : RdF w v L) (hr : FV .f32 r p) (hs : FV .f32 s sp) (hb : w.cell? ⟨bs, 0, none⟩ = some (.float .f32 s)) (hn : L.length ≤ 64) :
    Calls Try.prog 100 #[v, .float .f32 r, .pointer (some ⟨bs, 0, none⟩)] w fun e w' => ∃ v', e = .returned v' ∧ OwnF w' w.heap.size v' (mutTo (early p sp) L L.length) ∧ Ext w w' := by
  have hquo := run_fquo (P := Try.prog)
  have hst := run_store_float (P := Try.prog)
  have hbs := block_lt hb
  have HB := Lib.hid hb
  have HC := Lib.hid (clone_any w v L hL (by omega))
  obtain ⟨a, c, rfl, -, -, -⟩ := hL.opened
  clear hL hb
  go_enter Try.func100, Try.ntmps100
  go_wp2_with fail
  refine HC.out.mono ?_
  clear HC
  rintro e w1 ⟨v1, rfl, o1, b1⟩
  obtain ⟨a1, c1, rfl, -, -, -⟩ := o1.rd.opened
  have O1 := Lib.hid o1
  have B1 := Lib.hid b1
  clear o1 b1
  go_wp2_with fail
  go_loopw [12] (fun i wr => ∃ k : Nat, k ≤ L.length ∧ i = .int .i64 k ∧ OwnF wr w.heap.size (.slice a1 L.length c1) (mutTo (early p sp) L k) ∧ Ext w wr) (fun i _ => L.length - (intOf i).toNat)
  case atStart => exact ⟨0, Nat.zero_le _, rfl, by rw [mutTo_zero]; exact O1.out, B1.out⟩
  case round =>
    obtain ⟨wi, rfl⟩ : ∃ wi : World, wi = wr := ⟨_, rfl⟩
    obtain ⟨k, hk, rfl, ho, hx⟩ := hrel
    have HO := Lib.hid ho
    have HX := Lib.hid hx
    have HBi := Lib.hid (((bcell hx).1 _ 0 hbs).trans HB.out)
    clear ho hx O1 B1
    by_cases hlt : k < L.length
    · have KEY : Hid (∀ q, FV .f32 q (absC p) → ∀ wq, (FloatKind.f32.format.order (floatOfInt .f32 (k : Nat)) (fres .quo .f32 q s wq) == some Ordering.lt) = early p sp k) := Lib.hid fun q hq wq => by
        rw [(floatOfInt_fv .f32 (k : Nat)).order (FV.op hq hs wq)]; rfl
      have hb := HBi.out
      cases he : early p sp k with
      | true =>
        have HE := Lib.hid he
        clear he
        go_wp2_with fail
        refine region_rel_all (by kernel_rfl) (by kernel_rfl) (Drawn wi) (absT p) ⟨1, rfl⟩ ?_
        iterate 3 (refine wpRel_draw rfl rfl (fun nq K hK => ?_); go_wp2)
        refine wpRel_callF #[.float .f32 r] Try.func101 (by kernel_rfl) (by kernel_rfl) (by simp [go_sem]) ⟨wi, 0, rfl⟩ (by obtain ⟨q, n, h1, h2⟩ := run_narrow_abs (P := Try.prog) 51 31 (by kernel_rfl) (by kernel_rfl) r p hr wi wi; exact ⟨_, q, rfl, h2⟩)
          (fun wq hq => (absolute_any wq r p hr).mono fun e w'' ⟨q, n, he, hf, hw⟩ => by
            obtain ⟨m, hm⟩ := hq
            exact ⟨_, he, ⟨q, rfl, hf⟩, m + n, by rw [hw, hm, World.drewN_drewN]⟩) ?_
        rintro v2 ⟨q, rfl, hq⟩
        simp only [Act.put, List.setIfInBounds_toArray, List.set_cons_succ, List.set_cons_zero]
        have hk2 := KEY.out q hq
        rw [HE.out] at hk2
        iterate 3 (refine wpRel_draw rfl rfl (fun nq K hK => ?_); go_wp2)
        refine wpRel_nil ?_
        rintro wd ⟨nd, hwd⟩
        have HOd : Hid (OwnF wd w.heap.size (.slice a1 L.length c1) (mutTo (early p sp) L k)) := Lib.hid (by rw [hwd]; exact HO.out.drewN nd)
        have HXd : Hid (Ext w wd) := Lib.hid (by rw [hwd]; exact Below.drewN HX.out nd)
        clear hwd hk2 hb
        obtain ⟨g, cap, hv, hgB, hgs, -, hcd, hfd⟩ := HOd.out.at_block (mutTo_length (early p sp) L k) (by omega)
        obtain ⟨rfl, rfl⟩ : a1 = some ⟨g, 0, none⟩ ∧ c1 = cap := by cases hv; exact ⟨rfl, rfl⟩
        obtain ⟨r0, hc0, -⟩ := hcd k (by rw [mutTo_length]; exact hlt)
        have hf0 := hfd k
        have HST := Lib.hid (HOd.out.storedN (mutTo_length (early p sp) L k) (j := k) (fv0 .f32))
        clear hv hcd hfd
        go_wp2_with fail
        refine ⟨⟨k + 1, by omega, by go_num, ?_, ?_⟩, by simp [intOf]; omega⟩
        · rw [mutTo_yes _ _ _ HE.out]; exact HST.out
        · exact Below.chg HXd.out ((Chg.refl wd (fun b => b = g)).setCell rfl k _) (fun b hb => by omega) HXd.out.size
      | false =>
        have HE := Lib.hid he
        clear he
        go_wp2_with fail
        refine region_rel_all (by kernel_rfl) (by kernel_rfl) (Drawn wi) (absT p) ⟨1, rfl⟩ ?_
        iterate 3 (refine wpRel_draw rfl rfl (fun nq K hK => ?_); go_wp2)
        refine wpRel_callF #[.float .f32 r] Try.func101 (by kernel_rfl) (by kernel_rfl) (by simp [go_sem]) ⟨wi, 0, rfl⟩ (by obtain ⟨q, n, h1, h2⟩ := run_narrow_abs (P := Try.prog) 51 31 (by kernel_rfl) (by kernel_rfl) r p hr wi wi; exact ⟨_, q, rfl, h2⟩)
          (fun wq hq => (absolute_any wq r p hr).mono fun e w'' ⟨q, n, he, hf, hw⟩ => by
            obtain ⟨m, hm⟩ := hq
            exact ⟨_, he, ⟨q, rfl, hf⟩, m + n, by rw [hw, hm, World.drewN_drewN]⟩) ?_
        rintro v2 ⟨q, rfl, hq⟩
        simp only [Act.put, List.setIfInBounds_toArray, List.set_cons_succ, List.set_cons_zero]
        have hk2 := KEY.out q hq
        rw [HE.out] at hk2
        iterate 3 (refine wpRel_draw rfl rfl (fun nq K hK => ?_); go_wp2)
        refine wpRel_nil ?_
        rintro wd ⟨nd, hwd⟩
        have HOd : Hid (OwnF wd w.heap.size (.slice a1 L.length c1) (mutTo (early p sp) L k)) := Lib.hid (by rw [hwd]; exact HO.out.drewN nd)
        have HXd : Hid (Ext w wd) := Lib.hid (by rw [hwd]; exact Below.drewN HX.out nd)
        clear hwd hk2 hb
        go_wp2_with fail
        refine ⟨⟨k + 1, by omega, by go_num, ?_, HXd.out⟩, by simp [intOf]; omega⟩
        rw [mutTo_no _ _ _ HE.out]; exact HOd.out
    · obtain rfl : L.length = k := by omega
      go_wp2_with fail
      go_ret
      exact ⟨_, rfl, HO.out, HX.out⟩
/-- The traces, what comes too early muted. -/
def mutF (T : TM) (sp i : Nat) : List Nat := mutTo (early (T.P.getD i 0) sp) (rowAt T.Ls i) (rowAt T.Ls i).length
theorem mutF_fine (w : World) (vt : Value) (T : TM) (sp : Nat) (hL : RdSS w vt T.Ls) (hr : ∀ j, (rowAt T.Ls j).length ≤ 64) (i : Nat) (hi : i < T.Ls.length) : (mutF T sp i).length ≤ 64 ∧ ∀ j, j < (mutF T sp i).length → ∃ r, FV .f32 r ((mutF T sp i).getD j 0) := by
  unfold mutF
  rw [mutTo_length]
  refine ⟨hr i, fun j hj => ?_⟩
  rw [mutTo_getD _ _ _ _ hj]
  split
  · exact ⟨0, fv0 .f32⟩
  · obtain ⟨_, _, -, -, -, hc⟩ := hL.opened
    obtain ⟨b, o, a', c', -, -, -, hR⟩ := hc i hi
    obtain ⟨_, _, -, -, -, hc2⟩ := hR.opened
    obtain ⟨b2, o2, r, -, -, hf⟩ := hc2 j hj
    exact ⟨r, hf⟩
set_option maxRecDepth 100000 in
set_option maxHeartbeats 1600000 in
theorem isGather_any (w : World) (vp vt : Value) (T : TM) (s sp : Nat) (hs : FV .f32 s sp) (hpos : posB sp = true) (hP : RdF w vp T.P) (hL : RdSS w vt T.Ls) (hsm : T.small) (hv : validT T = true) :
    Calls Try.prog 99 #[.agg #[.int .i64 T.t, vp, vt], .float .f32 s] w fun e w' => e = .returned (.bool true) ∧ Below w.heap.size w w' := by
  have HP := Lib.hid hP
  have HL := Lib.hid hL
  obtain ⟨a1, c1, rfl, -, -, -⟩ := hP.opened
  obtain ⟨a2, c2, rfl, -, -, -⟩ := hL.opened
  have HX := Lib.hid (show Ext w (w.alloc (.cells #[.int .i64 T.t, .slice a1 T.P.length c1, .slice a2 T.Ls.length c2] 59)) from (Below.refl _ _).alloc (Nat.le_refl _) _)
  have HV := implValidGather_any (w.alloc (.cells #[.int .i64 T.t, .slice a1 T.P.length c1, .slice a2 T.Ls.length c2] 59)) (.agg #[.int .i64 T.t, .slice a1 T.P.length c1, .slice a2 T.Ls.length c2]) T ⟨_, _, rfl, HP.out.mono HX.out, HL.out.mono HX.out⟩ hsm
  rw [hv] at HV
  replace HV := Lib.hid HV
  have HA : Hid (∀ w1 : World, Calls Try.prog 79 #[.slice (some ⟨w1.heap.size, 0, none⟩) 1 1] (w1.alloc (.cells #[.float .f32 s] 31)) fun e w' => e = .returned (.bool true) ∧ ∃ n, w' = (w1.alloc (.cells #[.float .f32 s] 31)).drewN n) := Lib.hid fun w1 => by
    have := arePositive_any (w1.alloc (.cells #[.float .f32 s] 31)) (.slice (some ⟨w1.heap.size, 0, none⟩) 1 1) [sp] (OwnF.one (Nat.le_refl _) hs).rd (by simp)
    rw [show allB posB [sp] = true by simp [allB, allTo, hpos]] at this
    exact this
  clear hP hL hv hpos
  go_enter Try.func99, Try.ntmps99
  go_wp2_with fail
  refine HV.out.mono ?_
  rintro e w1 ⟨rfl, b1⟩
  have B1 := Lib.hid (show Below w.heap.size w w1 from HX.out.trans b1)
  have z1 := B1.out.size
  clear b1 HV
  go_wp2_with fail
  refine (HA.out w1).mono ?_
  rintro e w2 ⟨rfl, n, hw2⟩
  have B2 : Hid (Below w.heap.size w w2) := Lib.hid (by rw [hw2]; exact Below.drewN (Below.trans B1.out ((Below.refl _ _).alloc z1 _)) n)
  clear hw2
  go_wp2
  go_ret
  exact ⟨rfl, B2.out⟩
set_option maxRecDepth 100000 in
set_option maxHeartbeats 3200000 in
theorem muteGather_any (w : World) (vp vt : Value) (T : TM) (s sp : Nat) (hs : FV .f32 s sp) (hpos : posB sp = true) (hP : RdF w vp T.P) (hL : RdSS w vt T.Ls) (hl : T.Ls.length = T.P.length) (hn : T.P.length ≤ 16) (hr : ∀ j, (rowAt T.Ls j).length ≤ 64) (hv : validT T = true) :
    Calls Try.prog 47 #[.agg #[.int .i64 T.t, vp, vt], .float .f32 s] w fun e w' => ∃ ap np cp vt', e = .returned (.tuple #[.agg #[.int .i64 T.t, .slice ap np cp, vt'], .bool true]) ∧ RdSS w' vt' (doL (mutF T sp) T.Ls.length) ∧ Below w.heap.size w w' := by
  have HP := Lib.hid hP
  have HL := Lib.hid hL
  obtain ⟨a1, c1, rfl, -, -, -⟩ := hP.opened
  obtain ⟨a2, c2, rfl, -, -, -⟩ := hL.opened
  obtain ⟨wA, hwA⟩ : ∃ wA, w.alloc (.cells #[.int .i64 T.t, .slice a1 T.P.length c1, .slice a2 T.Ls.length c2] 59) = wA := ⟨_, rfl⟩
  obtain ⟨wB, hwB⟩ : ∃ wB, wA.alloc (.cells #[.float .f32 s] 31) = wB := ⟨_, rfl⟩
  obtain ⟨W, hW⟩ : ∃ W, wB.alloc (.cells #[.int .i64 0, .slice none 0 0, .slice none 0 0] 59) = W := ⟨_, rfl⟩
  have xA : Ext w wA := by rw [← hwA]; exact (Below.refl _ _).alloc (Nat.le_refl _) _
  have xB : Ext wA wB := by rw [← hwB]; exact (Below.refl _ _).alloc (Nat.le_refl _) _
  have xC : Ext wB W := by rw [← hW]; exact (Below.refl _ _).alloc (Nat.le_refl _) _
  have zA : wA.heap.size = w.heap.size + 1 := by rw [← hwA]; exact World.size_alloc _ _
  have zB : wB.heap.size = w.heap.size + 2 := by rw [← hwB, World.size_alloc]; omega
  have hWs : W.heap.size = w.heap.size + 3 := by rw [← hW, World.size_alloc]; omega
  have hbx : W.heap[w.heap.size]? = some (.cells #[.int .i64 T.t, .slice a1 T.P.length c1, .slice a2 T.Ls.length c2] 59 (0, 0)) := by
    refine ((xB.trans xC).block w.heap.size (by omega)).trans ?_
    rw [← hwA]; exact alloc_new _ _
  have hbs : W.heap[w.heap.size + 1]? = some (.cells #[.float .f32 s] 31 (0, 0)) := by
    refine (xC.block (w.heap.size + 1) (by omega)).trans ?_
    rw [← hwB, ← zA]; exact alloc_new _ _
  have hby : W.heap[w.heap.size + 2]? = some (.cells #[.int .i64 0, .slice none 0 0, .slice none 0 0] 59 (0, 0)) := by
    rw [← hW, ← zB]; exact alloc_new _ _
  have hG : Below w.heap.size w W := (xA.trans xB).trans xC
  have FX : Hid (∀ wq, Below W.heap.size W wq → wq.cell? ⟨w.heap.size, 0, none⟩ = some (.int .i64 T.t) ∧ wq.cell? ⟨w.heap.size, 1, none⟩ = some (.slice a1 T.P.length c1) ∧ wq.cell? ⟨w.heap.size, 2, none⟩ = some (.slice a2 T.Ls.length c2) ∧ wq.cell? ⟨w.heap.size + 1, 0, none⟩ = some (.float .f32 s)) := Lib.hid fun wq hq => by
    obtain ⟨k0, k1, k2, -, -, -⟩ := blk3 ((hq.block w.heap.size (by omega)).trans hbx)
    exact ⟨k0, k1, k2, cell_of_row wq _ 0 _ _ _ ((hq.block (w.heap.size + 1) (by omega)).trans hbs)⟩
  have HBY := Lib.hid hby
  have HG := Lib.hid hG
  have HWS := Lib.hid hWs
  have HVT : Hid (∀ wq : World, Below w.heap.size w wq → Calls Try.prog 99 #[.agg #[.int .i64 T.t, .slice a1 T.P.length c1, .slice a2 T.Ls.length c2], .float .f32 s] wq fun e w' => e = .returned (.bool true) ∧ Below wq.heap.size wq w') := Lib.hid fun wq hq =>
    isGather_any wq (.slice a1 T.P.length c1) (.slice a2 T.Ls.length c2) T s sp hs hpos (HP.out.mono hq) (HL.out.mono hq) ⟨by omega, by omega, fun j _ => by have := hr j; omega⟩ hv
  have HPos := Lib.hid hpos
  have HE := Lib.hid (fun (wq : World) (hq : Below W.heap.size W wq) => each_any wq (.slice a1 T.P.length c1) (.slice a2 T.Ls.length c2) T 100 #[.pointer (some ⟨w.heap.size + 1, 0, none⟩)] (mutF T sp) (HP.out.mono (hG.trans (hq.mono (by omega)))) (HL.out.mono (hG.trans (hq.mono (by omega)))) hl hn (mutF_fine w _ T sp HL.out hr)
    (fun args wx => run_enter Try.func100 (by kernel_rfl) (by kernel_rfl) args wx)
    (fun wx hx i hi v r hR hf => (muteFn_any wx v r _ s sp (w.heap.size + 1) _ hR hf hs (FX.out wx (hq.trans (hx.mono hq.size))).2.2.2 (hr i)).mono fun e w' h => h))
  clear hP hL hbx hby hbs hG hl hWs hv hr hpos xA xB xC zA zB
  subst hwA
  subst hwB
  go_enter Try.func47, Try.ntmps47
  obtain ⟨k0, k1, k2, k3⟩ := FX.out W (Below.refl _ _)
  go_wp2_with fail
  clear hW k0 k1 k2 k3
  refine (HVT.out W HG.out).mono ?_
  clear HVT
  rintro e w1 ⟨rfl, b1⟩
  obtain ⟨k0, k1, k2, k3⟩ := FX.out w1 b1
  have z1 := b1.size
  have HE1 := Lib.hid (HE.out w1 b1)
  have B1 := Lib.hid b1
  clear b1 HE
  go_wp2_with fail
  clear k0 k1 k2 k3
  refine HE1.out.mono ?_
  clear HE1
  rintro e w3 ⟨vp', vt', rfl, o3, ⟨S, s3, hS⟩, b3⟩
  obtain ⟨ap, n1, cp, rfl⟩ : ∃ a n c, vp' = .slice a n c := (by obtain ⟨a, c, h, -⟩ := o3.rd.opened; exact ⟨a, _, c, h⟩)
  obtain ⟨at_, n2, ct, rfl⟩ : ∃ a n c, vt' = .slice a n c := (by obtain ⟨a, c, h, -⟩ := OwnC.rd s3; exact ⟨a, _, c, h⟩)
  have hy3 : w3.heap[w.heap.size + 2]? = some (.cells #[.int .i64 0, .slice none 0 0, .slice none 0 0] 59 (0, 0)) := (b3.block _ (by have := HWS.out; omega)).trans ((B1.out.block _ (by have := HWS.out; omega)).trans HBY.out)
  have PY := put3 hy3 (.int .i64 T.t) (.slice ap n1 cp) (.slice at_ n2 ct)
  obtain ⟨m0, m1, m2, f0, f1, f2⟩ := blk3 hy3
  have HPY := Lib.hid PY
  have B3 : Hid (Below w.heap.size w w3) := Lib.hid ((HG.out.trans (B1.out.mono (by have := HWS.out; omega))).trans (b3.mono (by have := HWS.out; omega)))
  have hlt1 : w.heap.size + 2 < w3.heap.size := (Array.getElem?_eq_some_iff.1 hy3).1
  have S3 := Lib.hid s3
  have HS3 := Lib.hid hS
  clear hy3 PY b3 o3 s3 hS
  go_wp2_with fail
  have PY := HPY.out
  clear HPY
  generalize (((w3.setCell ⟨w.heap.size + 2, 0, none⟩ (.int .i64 T.t)).setCell ⟨w.heap.size + 2, 1, none⟩ (.slice ap n1 cp)).setCell ⟨w.heap.size + 2, 2, none⟩ (.slice at_ n2 ct)) = wz2 at *
  obtain ⟨q0, q1, q2, -, -, -⟩ := blk3 PY.heap
  refine bodyPost_ret (v := .tuple #[.agg #[.int .i64 T.t, .slice ap n1 cp, .slice at_ n2 ct], .bool true]) (by simp [results, Try.results47, go_sem, q0, q1, q2]) rfl ?_
  exact ⟨_, _, _, _, rfl, OwnC.rd (OwnC.chg S3.out PY.chg fun k hk e => by have := HS3.out k hk; have := HWS.out; omega), Below.chg B3.out PY.chg (fun k hk => by omega) (by omega)⟩
end Go.Proofs.Ytjhbcnmkamkkaaa

/- Walks: slices.Grow from nil, slices.Concat of two lists of floats. -/
namespace Go.Proofs.Ytjhbcnmkamkkaaa
open Go Go.RowKit

/-- 'append' of some zeros to nil: the front of length 0 of what is made is owned. -/
theorem wpList_growNil {P : Program} {ops : Array Oper} {rest : List Oper} {o : Oper} {a : Act} {w : World} {Q : Exit → Act → World → Prop} (hgd : o.guard = none) (s x : Operand) (t tn : TypeId)
    (ho : o.op = .call { callee := .builtin .append, args := #[s, x], argTypes := #[t, tn] }) (e : TypeId) (z : Value) (size bytes : Nat) (kn : IntKind) (ht : P.underlying t = some (.slice e)) (htn : P.underlying tn = some (.int kn))
    (hinfo : (P.info? e).map (fun i => (i.zero, i.size, i.bytes)) = some (some z, size, bytes)) (hzs : z.cells.size = size) (hsz : 0 < size) (k : IntKind) (N : Int) (n : Nat) (hs : a.eval s = .slice none 0 0) (hx : a.eval x = .int k N) (hN : N = (n : Int)) (h0 : 0 < n) (hn : n ≤ 1048576) (hby : bytes ≤ 1000)
    (h : ∀ cap w', n ≤ cap → w'.ownsRow w.heap.size e size (.slice (some ⟨w.heap.size, 0, none⟩) 0 cap) 0 [] → Ext w w' → wpList P ops Q rest (a.put o.dst (.slice (some ⟨w.heap.size, 0, none⟩) n cap)) w') : wpList P ops Q (o :: rest) a w := by
  obtain ⟨i, hi, hz0, hz1, hz2⟩ := info_parts hinfo
  subst hN
  have hr := fun ty => Lib.run_append_nil_zeros (P := P) w t tn ty e i z k kn ht htn hi hz0 n h0 (by omega) (by omega) (by rw [hz2]; exact Nat.le_trans (Nat.mul_le_mul hn hby) (by decide))
  refine wpList_plain hgd fun K hK => ?_
  unfold Oper.wp execOp
  simp only [ho, resolve, invoke, builtin, Sem.run_bind, Sem.run_pure, Result.andThen_ok, List.map_toArray, List.map_cons, List.map_nil, hs, hx, hr]
  have hge := grownCap_ge w n 0 e
  have hlm := grownCap_le_maxLen w n 0 e (by unfold maxLen; omega)
  refine hK _ _ (h _ _ hge ?_ ?_)
  · refine ⟨by simp, .inr ⟨w.heap.size, _, _, rfl, Nat.le_refl _, (by show (w.drew.heap.push _)[w.drew.heap.size]? = _; exact Array.getElem?_push_size), Nat.zero_le _, hlm, ?_, by simp⟩⟩
    simp [Builtin.zeroCells, hzs]
    rw [← Nat.add_mul]
    congr 1
    omega
  · exact ((Below.drewN (Below.refl _ _) 1).alloc (by show w.heap.size ≤ w.heap.size; omega) _)

set_option maxRecDepth 100000 in
set_option maxHeartbeats 800000 in
theorem growF_any (w : World) (n : Nat) (h0 : 0 < n) (hn : n ≤ 1048576) :
    Calls Try.prog 120 #[.slice none 0 0, .int .i64 n] w fun e w' => ∃ cap, e = .returned (.slice (some ⟨w.heap.size, 0, none⟩) 0 cap) ∧ OwnF w' w.heap.size (.slice (some ⟨w.heap.size, 0, none⟩) 0 cap) [] ∧ Ext w w' := by
  have hp : ¬ ((n : Int) < 0) := by omega
  have hp2 : (n : Int) > 0 := by omega
  go_enter Try.func120, Try.ntmps120
  go_wp2_with (at_builtin; go_must (refine wpList_growNil rfl _ _ 25 3 rfl 31 (.float .f32 0) 1 4 .i64 Try.underlying25 Try.underlying3 Try.infoF rfl (by decide) .i64 n n rfl rfl rfl h0 hn (by decide) ?_); intro cap w1 hcap o1 x1; have O1 := Lib.hid o1; clear o1)
  go_ret
  exact ⟨_, rfl, ⟨[], rfl, (fun j hj => by cases hj), O1.out⟩, x1⟩
set_option maxRecDepth 100000 in
set_option maxHeartbeats 3200000 in
theorem concatF_any (w : World) (q : Nat) (v1 v2 : Value) (A B : List Nat) (c1 : w.cell? ⟨q, 0, none⟩ = some v1) (c2 : w.cell? ⟨q, 1, none⟩ = some v2) (h1 : RdF w v1 A) (h2 : RdF w v2 B) (hA : A.length ≤ 100000) (hB : B.length ≤ 100000) (hp : 0 < A.length) :
    Calls Try.prog 96 #[.slice (some ⟨q, 0, none⟩) 2 2] w fun e w' => ∃ v', e = .returned v' ∧ OwnF w' w.heap.size v' (A ++ B) ∧ Ext w w' := by
  have H1 := Lib.hid h1
  have H2 := Lib.hid h2
  have C1 := Lib.hid c1
  have C2 := Lib.hid c2
  have hq := block_lt c1
  obtain ⟨a1, d1, rfl, -, -⟩ := h1.opened
  obtain ⟨a2, d2, rfl, -, -⟩ := h2.opened
  have HG := Lib.hid (growF_any w (A.length + B.length) (by omega) (by omega))
  have n1 : ¬ ((A.length : Int) < 0) := by omega
  have n2 : ¬ ((A.length : Int) + (B.length : Int) < 0) := by omega
  clear h1 h2
  have hne : ¬ (A.length : Int) + (B.length : Int) < 0 := n2
  go_enter Try.func96, Try.ntmps96
  go_wp2_with fail
  go_loopw [3, 11] (fun sz i wr => wr = w ∧ ((i = .int .i64 0 ∧ sz = .int .i64 0) ∨ (i = .int .i64 1 ∧ sz = .int .i64 A.length) ∨ (i = .int .i64 2 ∧ sz = .int .i64 (A.length + B.length : Nat)))) (fun _ i _ => 2 - (intOf i).toNat)
  case atStart => exact ⟨rfl, .inl ⟨rfl, rfl⟩⟩
  case round =>
    obtain ⟨hw, hrel⟩ := hrel
    obtain rfl : w = wr := hw.symm
    clear hw
    rcases hrel with ⟨rfl, rfl⟩ | ⟨rfl, rfl⟩ | ⟨rfl, rfl⟩
    · go_wp2_with fail
      exact ⟨⟨trivial, .inr (.inl ⟨rfl, by simp⟩)⟩, by simp [intOf]⟩
    · go_wp2_with fail
      exact ⟨⟨trivial, .inr (.inr ⟨rfl, by congr 1⟩)⟩, by simp [intOf]⟩
    · clear n1 n2 hne c1 c2
      go_wp2_with fail
      refine HG.out.mono ?_
      rintro e w1 ⟨cap, rfl, o1, x1⟩
      have O1 := Lib.hid o1
      have X1 := Lib.hid x1
      clear HG o1 x1
      go_wp2_with fail
      go_loopw [6, 27] (fun o i wr => Ext w wr ∧ ((i = .int .i64 0 ∧ OwnF wr w.heap.size o []) ∨ (i = .int .i64 1 ∧ OwnF wr w.heap.size o A) ∨ (i = .int .i64 2 ∧ OwnF wr w.heap.size o (A ++ B)))) (fun _ i _ => 2 - (intOf i).toNat)
      case atStart => exact ⟨X1.out, .inl ⟨rfl, O1.out⟩⟩
      case round =>
        obtain ⟨wi, rfl⟩ : ∃ wi : World, wi = wr := ⟨_, rfl⟩
        obtain ⟨x, hrel⟩ := hrel
        have c1 := ((bcell x).1 _ _ hq).trans C1.out
        have c2 := ((bcell x).1 _ _ hq).trans C2.out
        have X := Lib.hid x
        have z := x.size
        have R1 := Lib.hid (H1.out.mono x)
        have R2 := Lib.hid (H2.out.mono x)
        clear X1 O1 x
        rcases hrel with ⟨rfl, o⟩ | ⟨rfl, o⟩ | ⟨rfl, o⟩
        · have O := Lib.hid o
          clear o c2
          go_wp2_with (at_builtin; go_must (refine wpList_pushAll rfl _ _ rfl w.heap.size _ [] rfl O.out _ A rfl R1.out (by simp) (by omega) z ?_); intro v3 w3 o3 g3 b3 l3; clear c1)
          exact ⟨⟨Below.trans X.out (b3.mono (Nat.le_refl _)), .inr (.inl ⟨rfl, by simpa using o3⟩)⟩, by simp [intOf]⟩
        · have O := Lib.hid o
          clear o c1
          go_wp2_with (at_builtin; go_must (refine wpList_pushAll rfl _ _ rfl w.heap.size _ A rfl O.out _ B rfl R2.out (by omega) (by omega) z ?_); intro v3 w3 o3 g3 b3 l3; clear c2)
          exact ⟨⟨Below.trans X.out (b3.mono (Nat.le_refl _)), .inr (.inr ⟨rfl, o3⟩)⟩, by simp [intOf]⟩
        · have O := Lib.hid o
          clear o c1 c2
          go_wp2_with fail
          go_ret
          exact ⟨_, rfl, O.out, X.out⟩
end Go.Proofs.Ytjhbcnmkamkkaaa

/- Walks on a seat of gathers: MergeGathers. -/
namespace Go.Proofs.Ytjhbcnmkamkkaaa
open Go Go.RowKit

theorem Try.infoFF2 : (Try.prog.info? 25).map (fun i => (i.zero, i.size, i.bytes)) = some (some (.slice none 0 0), 1, 24) := by kernel_rfl
/-- The cells of a row of rows. -/
def CellsS (w : World) (v : Value) (us : List Value) : Prop :=
  ∃ b o c, v = .slice (some ⟨b, o, none⟩) us.length c ∧ us.length ≤ c ∧ ∀ j, j < us.length → w.cell? ⟨b, o + j, none⟩ = some (us.getD j undef) ∧ (us.getD j undef).oneCell' = true
theorem CellsS.mono {w w' : World} {v : Value} {us : List Value} (h : CellsS w v us) (hb : Below w.heap.size w w') : CellsS w' v us := by
  obtain ⟨b, o, c, hv, hc, hr⟩ := h
  exact ⟨b, o, c, hv, hc, fun j hj => ⟨((bcell hb).1 _ _ (block_lt (hr j hj).1)).trans (hr j hj).1, (hr j hj).2⟩⟩
/-- The rows to which cells lead. -/
def RowsR (w : World) (us : List Value) (Ls : List (List Nat)) : Prop := us.length = Ls.length ∧ ∀ j, j < us.length → RdF w (us.getD j undef) (rowAt Ls j)
theorem RowsR.mono {w w' : World} {us : List Value} {Ls : List (List Nat)} (h : RowsR w us Ls) (hb : Below w.heap.size w w') : RowsR w' us Ls := ⟨h.1, fun j hj => (h.2 j hj).mono hb⟩
theorem pick_val {α : Type} (d : α) {P : Nat → α → Prop} : ∀ n, (∀ j, j < n → ∃ r, P j r) → ∃ us : List α, us.length = n ∧ ∀ j, j < n → P j (us.getD j d)
  | 0, _ => ⟨[], rfl, fun j hj => (by cases hj)⟩
  | n + 1, h => by
    obtain ⟨us, hl, hb⟩ := pick_val d n fun j hj => h j (by omega)
    obtain ⟨r, hr⟩ := h n (by omega)
    refine ⟨us ++ [r], by simp [hl], fun j hj => ?_⟩
    rw [getD_snoc]
    by_cases hlt : j < n
    · rw [if_pos (by omega)]; exact hb j hlt
    · obtain rfl : j = n := by omega
      rw [if_neg (by omega), if_pos hl.symm]; exact hr
theorem RdSS.cells {w : World} {v : Value} {Ls : List (List Nat)} (h : RdSS w v Ls) (h0 : 0 < Ls.length) : ∃ us, CellsS w v us ∧ RowsR w us Ls := by
  obtain ⟨a, c, rfl, hc, -, hr⟩ := h.opened
  obtain ⟨b, o, -, -, rfl, -⟩ := hr 0 h0
  obtain ⟨us, hl, hu⟩ := pick_val undef (P := fun j u => w.cell? ⟨b, o + j, none⟩ = some u ∧ u.oneCell' = true ∧ RdF w u (rowAt Ls j)) Ls.length (fun j hj => by
    obtain ⟨b', o', a', c', he, -, h1, h2⟩ := hr j hj
    cases he
    exact ⟨_, h1, rfl, h2⟩)
  exact ⟨us, ⟨b, o, c, by rw [hl], by rw [hl]; exact hc, fun j hj => ⟨(hu j (by omega)).1, (hu j (by omega)).2.1⟩⟩, hl, fun j hj => (hu j (by omega)).2.2⟩
/-- A row of rows of the call's own whose rows lie elsewhere is read. -/
theorem rdSS_of {w : World} {B : Nat} {v : Value} {us : List Value} {Ls : List (List Nat)} (h : w.ownsRow B 25 1 v us.length us) (hr : RowsR w us Ls) : RdSS w v Ls := by
  obtain ⟨hl, hr⟩ := hr
  unfold RdSS
  rw [← hl]
  rcases h.2 with ⟨rfl, hn⟩ | ⟨g, cap, cur, rfl, hb, hg, hn, _⟩
  · refine ⟨none, 0, by rw [hn], by omega, fun _ => rfl, fun j hj => ?_⟩
    rw [List.length_map, ← hl, hn] at hj; omega
  · refine ⟨_, cap, rfl, hn, fun h => (by cases h), fun j hj => ?_⟩
    rw [List.length_map, ← hl] at hj
    refine ⟨g, 0, us.getD j undef, rfl, ?_, ?_⟩
    · rw [Nat.zero_add, World.ownsRow.cellAt h j (by omega), List.getD_eq_getElem?_getD, List.getElem?_eq_getElem hj]; rfl
    · have e : (Ls.map D1.fs).getD j default = .fs (rowAt Ls j) := by simp [rowAt, List.getD_eq_getElem?_getD, List.getElem?_map, List.getElem?_eq_getElem (show j < Ls.length by omega)]
      rw [e]
      exact hr j hj
theorem RowsR.append {w : World} {us us' : List Value} {A B : List (List Nat)} (h : RowsR w us A) (h' : RowsR w us' B) : RowsR w (us ++ us') (A ++ B) := by
  refine ⟨by rw [List.length_append, List.length_append, h.1, h'.1], fun j hj => ?_⟩
  rw [List.length_append] at hj
  by_cases hlt : j < us.length
  · have e1 : (us ++ us').getD j undef = us.getD j undef := by simp [List.getD_eq_getElem?_getD, List.getElem?_append_left hlt]
    have e2 : rowAt (A ++ B) j = rowAt A j := by simp [rowAt, List.getD_eq_getElem?_getD, List.getElem?_append_left (show j < A.length by have := h.1; omega)]
    rw [e1, e2]; exact h.2 j hlt
  · have e1 : (us ++ us').getD j undef = us'.getD (j - us.length) undef := by simp [List.getD_eq_getElem?_getD, List.getElem?_append_right (show us.length ≤ j by omega)]
    have e2 : rowAt (A ++ B) j = rowAt B (j - us.length) := by simp [rowAt, List.getD_eq_getElem?_getD, List.getElem?_append_right (show A.length ≤ j by have := h.1; omega), h.1]
    rw [e1, e2]; exact h'.2 _ (by omega)
/-- 'append' of all of a row of rows. -/
theorem wpList_pushCells {P : Program} {ops : Array Oper} {rest : List Oper} {o : Oper} {a : Act} {w : World} {Q : Exit → Act → World → Prop} (hgd : o.guard = none) (s x : Operand) (t e : TypeId)
    (ho : o.op = .call { callee := .builtin .append, args := #[s, x], argTypes := #[t, t] }) (z : Value) (bytes : Nat) (ht : P.underlying t = some (.slice e)) (hinfo : (P.info? e).map (fun i => (i.zero, i.size, i.bytes)) = some (some z, 1, bytes))
    (hzs : z.cells.size = 1) (hby : bytes ≤ 100) (B : Nat) (v : Value) (xs us : List Value) (hs : a.eval s = v) (hown : w.ownsRow B e 1 v xs.length xs) (vx : Value) (hx : a.eval x = vx) (hc : CellsS w vx us) (hl1 : xs.length ≤ 1000000) (hl2 : us.length ≤ 1000) (hB : B ≤ w.heap.size)
    (h : ∀ v' w', w'.ownsRow B e 1 v' (xs ++ us).length (xs ++ us) → Below B w w' → wpList P ops Q rest (a.put o.dst v') w') : wpList P ops Q (o :: rest) a w := by
  obtain ⟨i0, hi, hz0, hz1, hz2⟩ := info_parts hinfo
  obtain ⟨b, o1, c, rfl, hcc, hcell⟩ := hc
  refine wpList_append_own2 hgd s x t ho B e i0 z 1 bytes ht hi hz0 hz1 hz2 hzs (by decide) v xs.length xs hs hown ⟨b, o1, none⟩ us.length c us hx (by omega) ?_ ?_ ?_ ?_ hB ?_
  · intro j y hy
    have hj := (List.getElem?_eq_some_iff.1 hy).1
    rw [Addr.add_lit, (hcell j hj).1, List.getD_eq_getElem?_getD, hy]; rfl
  · intro y hy
    obtain ⟨j, hj, rfl⟩ := List.getElem_of_mem hy
    have := (hcell j hj).2
    rwa [List.getD_eq_getElem?_getD, List.getElem?_eq_getElem hj] at this
  · unfold maxLen; omega
  · exact Nat.le_trans (Nat.mul_le_mul (by omega : xs.length + us.length ≤ 1001000) hby) (by decide)
  · intro v' w' h1 h2 _
    rw [← List.length_append] at h1
    exact h v' w' h1 ((Below.refl _ _).grown h2 hB fun k hk => (hown.lt k hk).1)
set_option maxRecDepth 100000 in
set_option maxHeartbeats 800000 in
theorem growSS_any (w : World) (n : Nat) (h0 : 0 < n) (hn : n ≤ 1048576) :
    Calls Try.prog 121 #[.slice none 0 0, .int .i64 n] w fun e w' => ∃ cap, e = .returned (.slice (some ⟨w.heap.size, 0, none⟩) 0 cap) ∧ w'.ownsRow w.heap.size 25 1 (.slice (some ⟨w.heap.size, 0, none⟩) 0 cap) 0 [] ∧ Ext w w' := by
  have hp : ¬ ((n : Int) < 0) := by omega
  have hp2 : (n : Int) > 0 := by omega
  go_enter Try.func121, Try.ntmps121
  go_wp2_with (at_builtin; go_must (refine wpList_growNil rfl _ _ 57 3 rfl 25 (.slice none 0 0) 1 24 .i64 Try.underlying57 Try.underlying3 Try.infoFF2 rfl (by decide) .i64 n n rfl rfl rfl h0 hn (by decide) ?_); intro cap w1 hcap o1 x1; have O1 := Lib.hid o1; clear o1)
  go_ret
  exact ⟨_, rfl, O1.out, x1⟩
set_option maxRecDepth 100000 in
set_option maxHeartbeats 3200000 in
theorem concatSS_any (w : World) (q : Nat) (v1 v2 : Value) (A B : List Value) (c1 : w.cell? ⟨q, 0, none⟩ = some v1) (c2 : w.cell? ⟨q, 1, none⟩ = some v2) (h1 : CellsS w v1 A) (h2 : CellsS w v2 B) (hA : A.length ≤ 1000) (hB : B.length ≤ 1000) (hp : 0 < A.length) :
    Calls Try.prog 97 #[.slice (some ⟨q, 0, none⟩) 2 2] w fun e w' => ∃ v', e = .returned v' ∧ w'.ownsRow w.heap.size 25 1 v' (A ++ B).length (A ++ B) ∧ Ext w w' := by
  have H1 := Lib.hid h1
  have H2 := Lib.hid h2
  have C1 := Lib.hid c1
  have C2 := Lib.hid c2
  have hq := block_lt c1
  obtain ⟨b1, o1, d1, rfl, -, -⟩ := h1
  obtain ⟨b2, o2, d2, rfl, -, -⟩ := h2
  have HG := Lib.hid (growSS_any w (A.length + B.length) (by omega) (by omega))
  have n1 : ¬ ((A.length : Int) < 0) := by omega
  have n2 : ¬ ((A.length : Int) + (B.length : Int) < 0) := by omega
  have hne : ¬ (A.length : Int) + (B.length : Int) < 0 := n2
  go_enter Try.func97, Try.ntmps97
  go_wp2_with fail
  go_loopw [3, 11] (fun sz i wr => wr = w ∧ ((i = .int .i64 0 ∧ sz = .int .i64 0) ∨ (i = .int .i64 1 ∧ sz = .int .i64 A.length) ∨ (i = .int .i64 2 ∧ sz = .int .i64 (A.length + B.length : Nat)))) (fun _ i _ => 2 - (intOf i).toNat)
  case atStart => exact ⟨rfl, .inl ⟨rfl, rfl⟩⟩
  case round =>
    obtain ⟨hw, hrel⟩ := hrel
    obtain rfl : w = wr := hw.symm
    clear hw
    rcases hrel with ⟨rfl, rfl⟩ | ⟨rfl, rfl⟩ | ⟨rfl, rfl⟩
    · go_wp2_with fail
      exact ⟨⟨trivial, .inr (.inl ⟨rfl, by simp⟩)⟩, by simp [intOf]⟩
    · go_wp2_with fail
      exact ⟨⟨trivial, .inr (.inr ⟨rfl, by congr 1⟩)⟩, by simp [intOf]⟩
    · clear n1 n2 hne c1 c2
      go_wp2_with fail
      refine HG.out.mono ?_
      rintro e w1 ⟨cap, rfl, o1, x1⟩
      have O1 := Lib.hid o1
      have X1 := Lib.hid x1
      clear HG o1 x1
      go_wp2_with fail
      go_loopw [6, 27] (fun o i wr => Ext w wr ∧ ((i = .int .i64 0 ∧ wr.ownsRow w.heap.size 25 1 o 0 []) ∨ (i = .int .i64 1 ∧ wr.ownsRow w.heap.size 25 1 o A.length A) ∨ (i = .int .i64 2 ∧ wr.ownsRow w.heap.size 25 1 o (A ++ B).length (A ++ B)))) (fun _ i _ => 2 - (intOf i).toNat)
      case atStart => exact ⟨X1.out, .inl ⟨rfl, O1.out⟩⟩
      case round =>
        obtain ⟨wi, rfl⟩ : ∃ wi : World, wi = wr := ⟨_, rfl⟩
        obtain ⟨x, hrel⟩ := hrel
        have c1 := ((bcell x).1 _ _ hq).trans C1.out
        have c2 := ((bcell x).1 _ _ hq).trans C2.out
        have X := Lib.hid x
        have z := x.size
        have R1 := Lib.hid (H1.out.mono x)
        have R2 := Lib.hid (H2.out.mono x)
        clear X1 O1 x
        rcases hrel with ⟨rfl, o⟩ | ⟨rfl, o⟩ | ⟨rfl, o⟩
        · have O := Lib.hid o
          clear o c2
          go_wp2_with (at_builtin; go_must (refine wpList_pushCells rfl _ _ 57 25 rfl (.slice none 0 0) 24 Try.underlying57 Try.infoFF2 rfl (by decide) w.heap.size _ [] A rfl O.out _ rfl R1.out (by simp) (by omega) z ?_); intro v3 w3 o3 b3; clear c1)
          exact ⟨⟨Below.trans X.out (b3.mono (Nat.le_refl _)), .inr (.inl ⟨rfl, by simpa using o3⟩)⟩, by simp [intOf]⟩
        · have O := Lib.hid o
          clear o c1
          go_wp2_with (at_builtin; go_must (refine wpList_pushCells rfl _ _ 57 25 rfl (.slice none 0 0) 24 Try.underlying57 Try.infoFF2 rfl (by decide) w.heap.size _ A B rfl O.out _ rfl R2.out (by omega) (by omega) z ?_); intro v3 w3 o3 b3; clear c2)
          exact ⟨⟨Below.trans X.out (b3.mono (Nat.le_refl _)), .inr (.inr ⟨rfl, o3⟩)⟩, by simp [intOf]⟩
        · have O := Lib.hid o
          clear o c1 c2
          go_wp2_with fail
          go_ret
          exact ⟨_, rfl, O.out, X.out⟩
set_option maxRecDepth 100000 in
theorem mergeFn_any (w : World) (v : Value) (r : Nat) (L : List Nat) (hL : RdF w v L) (hn : L.length ≤ 64) :
    Calls Try.prog 98 #[v, .float .f32 r] w fun e w' => ∃ v', e = .returned v' ∧ OwnF w' w.heap.size v' L ∧ Ext w w' := by
  have HC := Lib.hid (clone_any w v L hL (by omega))
  clear hL
  go_enter Try.func98, Try.ntmps98
  go_wp2_with fail
  refine HC.out.mono ?_
  rintro e w1 ⟨v1, rfl, o1, b1⟩
  have O1 := Lib.hid o1
  clear o1 HC
  go_wp2
  go_ret
  exact ⟨_, rfl, O1.out, b1⟩
end Go.Proofs.Ytjhbcnmkamkkaaa

/- Walks on a seat of gathers: MergeGathers of a gather and itself. -/
namespace Go.Proofs.Ytjhbcnmkamkkaaa
open Go Go.RowKit

def twT (T : TM) : TM := ⟨T.t, T.P ++ T.P, T.Ls ++ T.Ls⟩
/-- What the two calls hand back. -/
def mgT (P : List Nat) (us : List Value) (f : FuncId) (args : Array Value) (w : World) (u : Value) (w'' : World) : Prop :=
  (f = 96 ∧ OwnF w'' w.heap.size u (P ++ P)) ∨ (f = 97 ∧ w''.ownsRow w.heap.size 25 1 u (us ++ us).length (us ++ us))
theorem row_exists (w : World) (us : List Value) (hl : us.length ≤ maxLen) : ∃ u w'', w''.ownsRow w.heap.size 25 1 u us.length us ∧ Ext w w'' :=
  ⟨.slice (some ⟨w.heap.size, 0, none⟩) us.length us.length, w.alloc (.cells us.toArray 25), ⟨by simp, .inr ⟨w.heap.size, us.length, _, rfl, Nat.le_refl _, alloc_new _ _, Nat.le_refl _, hl, by simp, by rw [Nat.mul_one]; exact List.take_of_length_le (by simp)⟩⟩, (Below.refl _ _).alloc (Nat.le_refl _) _⟩
theorem row_apart {w : World} {B g n : Nat} {v : Value} {us : List Value} {cs : Array Value} (h : w.ownsRow B 25 1 v n us) (hg : w.heap[g]? = some (.cells cs 59 (0, 0))) : ∀ k, v.ownBlock = some k → k ≠ g := fun k hk e => by
  subst e
  rcases h.2 with ⟨rfl, -⟩ | ⟨g, cap, cur, rfl, -, hg2, -⟩
  · cases hk
  · cases hk; rw [hg] at hg2; cases hg2
set_option maxRecDepth 100000 in
set_option maxHeartbeats 6400000 in
theorem mergeGathers_any (w : World) (vp vt : Value) (T : TM) (hP : RdF w vp T.P) (hL : RdSS w vt T.Ls) (hl : T.Ls.length = T.P.length) (h0 : 0 < T.P.length) (hn : T.P.length ≤ 8) (hr : ∀ j, (rowAt T.Ls j).length ≤ 64) (hv : validT T = true) (hv2 : validT (twT T) = true) :
    Calls Try.prog 45 #[.agg #[.int .i64 T.t, vp, vt], .agg #[.int .i64 T.t, vp, vt]] w fun e w' => ∃ ap np cp at_ ct, e = .returned (.tuple #[.agg #[.int .i64 T.t, .slice ap np cp, .slice at_ (T.Ls.length + T.Ls.length) ct], .bool true]) ∧ Below w.heap.size w w' := by
  have HP := Lib.hid hP
  have HL := Lib.hid hL
  obtain ⟨us, hus, hrw⟩ := hL.cells (by omega)
  have hul : us.length = T.Ls.length := hrw.1
  have HU := Lib.hid hus
  have HRW := Lib.hid hrw
  obtain ⟨a1, c1, rfl, -, -, -⟩ := hP.opened
  obtain ⟨a2, c2, rfl, -, -, -⟩ := hL.opened
  obtain ⟨wA, hwA⟩ : ∃ wA, w.alloc (.cells #[.int .i64 T.t, .slice a1 T.P.length c1, .slice a2 T.Ls.length c2] 59) = wA := ⟨_, rfl⟩
  obtain ⟨wB, hwB⟩ : ∃ wB, wA.alloc (.cells #[.int .i64 T.t, .slice a1 T.P.length c1, .slice a2 T.Ls.length c2] 59) = wB := ⟨_, rfl⟩
  obtain ⟨W, hW⟩ : ∃ W, wB.alloc (.cells #[.int .i64 0, .slice none 0 0, .slice none 0 0] 59) = W := ⟨_, rfl⟩
  have xA : Ext w wA := by rw [← hwA]; exact (Below.refl _ _).alloc (Nat.le_refl _) _
  have xB : Ext wA wB := by rw [← hwB]; exact (Below.refl _ _).alloc (Nat.le_refl _) _
  have xC : Ext wB W := by rw [← hW]; exact (Below.refl _ _).alloc (Nat.le_refl _) _
  have zA : wA.heap.size = w.heap.size + 1 := by rw [← hwA]; exact World.size_alloc _ _
  have zB : wB.heap.size = w.heap.size + 2 := by rw [← hwB, World.size_alloc]; omega
  have hWs : W.heap.size = w.heap.size + 3 := by rw [← hW, World.size_alloc]; omega
  have hbx : W.heap[w.heap.size]? = some (.cells #[.int .i64 T.t, .slice a1 T.P.length c1, .slice a2 T.Ls.length c2] 59 (0, 0)) := by
    refine ((xB.trans xC).block w.heap.size (by omega)).trans ?_
    rw [← hwA]; exact alloc_new _ _
  have hbs : W.heap[w.heap.size + 1]? = some (.cells #[.int .i64 T.t, .slice a1 T.P.length c1, .slice a2 T.Ls.length c2] 59 (0, 0)) := by
    refine (xC.block (w.heap.size + 1) (by omega)).trans ?_
    rw [← hwB, ← zA]; exact alloc_new _ _
  have hby : W.heap[w.heap.size + 2]? = some (.cells #[.int .i64 0, .slice none 0 0, .slice none 0 0] 59 (0, 0)) := by
    rw [← hW, ← zB]; exact alloc_new _ _
  have hG : Below w.heap.size w W := (xA.trans xB).trans xC
  have FX : Hid (∀ wq, Below W.heap.size W wq → wq.cell? ⟨w.heap.size, 0, none⟩ = some (.int .i64 T.t) ∧ wq.cell? ⟨w.heap.size, 1, none⟩ = some (.slice a1 T.P.length c1) ∧ wq.cell? ⟨w.heap.size, 2, none⟩ = some (.slice a2 T.Ls.length c2)) := Lib.hid fun wq hq => by
    obtain ⟨k0, k1, k2, -, -, -⟩ := blk3 ((hq.block w.heap.size (by omega)).trans hbx)
    exact ⟨k0, k1, k2⟩
  have FY : Hid (∀ wq, Below W.heap.size W wq → wq.cell? ⟨w.heap.size + 1, 0, none⟩ = some (.int .i64 T.t) ∧ wq.cell? ⟨w.heap.size + 1, 1, none⟩ = some (.slice a1 T.P.length c1) ∧ wq.cell? ⟨w.heap.size + 1, 2, none⟩ = some (.slice a2 T.Ls.length c2)) := Lib.hid fun wq hq => by
    obtain ⟨k0, k1, k2, -, -, -⟩ := blk3 ((hq.block (w.heap.size + 1) (by omega)).trans hbs)
    exact ⟨k0, k1, k2⟩
  have HBY := Lib.hid hby
  have HG := Lib.hid hG
  have HWS := Lib.hid hWs
  have HVT : Hid (∀ wq : World, Below w.heap.size w wq → Calls Try.prog 42 #[.agg #[.int .i64 T.t, .slice a1 T.P.length c1, .slice a2 T.Ls.length c2]] wq fun e w' => e = .returned (.bool true) ∧ Below wq.heap.size wq w') := Lib.hid fun wq hq => by
    have := implValidGather_any wq (.agg #[.int .i64 T.t, .slice a1 T.P.length c1, .slice a2 T.Ls.length c2]) T ⟨_, _, rfl, HP.out.mono hq, HL.out.mono hq⟩ ⟨by omega, by omega, fun j _ => by have := hr j; omega⟩
    rw [hv] at this
    exact this
  have HV2 := Lib.hid hv2
  have HR := Lib.hid hr
  have HLN := Lib.hid hl
  have HUL := Lib.hid hul
  clear hP hL hbx hby hbs hG hl hWs hv hr hv2 xA xB xC zA zB hus hrw hul
  subst hwA
  subst hwB
  go_enter Try.func45, Try.ntmps45
  obtain ⟨k0, k1, k2⟩ := FX.out W (Below.refl _ _)
  go_wp2_with fail
  clear hW k0 k1 k2
  refine (HVT.out W HG.out).mono ?_
  rintro e w1 ⟨rfl, b1⟩
  obtain ⟨k0, k1, k2⟩ := FY.out w1 b1
  have B1 := Lib.hid b1
  have z1 := b1.size
  have HV1 := Lib.hid (HVT.out w1 (HG.out.trans (b1.mono (by have := HWS.out; omega))))
  clear b1 HVT
  go_wp2_with fail
  clear k0 k1 k2
  refine HV1.out.mono ?_
  rintro e w2 ⟨rfl, b2⟩
  have b12 : Below W.heap.size W w2 := B1.out.trans (b2.mono z1)
  obtain ⟨k0, k1, k2⟩ := FX.out w2 b12
  obtain ⟨j0, j1, j2⟩ := FY.out w2 b12
  have B2 := Lib.hid b12
  have z2 := b12.size
  clear b2 b12 HV1
  go_wp2_with fail
  clear k0 k1 k2 j0 j1 j2
  have FW : Hid (∀ wq, Ext w2.drew wq → Below W.heap.size W wq ∧ Below w.heap.size w wq) := Lib.hid fun wq hq => by
    have h1 : Below W.heap.size W wq := B2.out.trans (((Ext.drew w2).trans hq).mono z2)
    exact ⟨h1, HG.out.trans (h1.mono (by have := HWS.out; omega))⟩
  refine region_grow_tail 16 (by kernel_rfl) (by kernel_rfl) (mgT T.P us) ?_
  simp only [List.take_succ_cons, List.take_zero, List.drop_succ_cons, List.drop_zero]
  iterate 6 (refine wpRelK_still rfl rfl (fun wq hq K hK => ?_); obtain ⟨k0, k1, k2⟩ := FX.out wq (FW.out wq hq.1).1; obtain ⟨j0, j1, j2⟩ := FY.out wq (FW.out wq hq.1).1; go_wp2; clear k0 k1 k2 j0 j1 j2)
  refine wpRelK_op rfl rfl (fun w6 hq6 K hK => ?_)
  go_wp2
  refine hK _ _ ((Below.refl _ _).alloc (Nat.le_refl _) _) ?_
  clear hK K
  refine wpRelK_callF #[.slice (some ⟨w6.heap.size, 0, none⟩) 2 2] rfl Try.func96 (by kernel_rfl) (by kernel_rfl) (by simp [go_sem])
    (fun wq hq => by
      have x6 : Ext (w6.alloc (.cells #[.slice a1 T.P.length c1, .slice a1 T.P.length c1] 25)) wq := hq.dep 6 (by kernel_rfl)
      have h6 := (x6.block w6.heap.size (by rw [World.size_alloc]; omega)).trans (alloc_new _ _)
      have hb := (FW.out wq hq.1).2
      refine (concatF_any wq w6.heap.size _ _ T.P T.P (cell_of_row wq _ 0 _ _ _ h6) (cell_of_row wq _ 1 _ _ _ h6) (HP.out.mono hb) (HP.out.mono hb) (by omega) (by omega) h0).mono fun e w'' ⟨v', he, ho, hx⟩ => ⟨v', he, .inl ⟨rfl, ho⟩, hx⟩)
    (fun wq hq => by
      obtain ⟨u, w'', h1, h2⟩ := ownF_of wq (T.P ++ T.P) (by rw [List.length_append]; unfold maxLen; omega) (fun j hj => by
        obtain ⟨_, _, -, -, -, hc⟩ := HP.out.opened
        rw [List.length_append] at hj
        by_cases hlt : j < T.P.length
        · obtain ⟨_, _, r, -, -, hf⟩ := hc j hlt
          refine ⟨r, ?_⟩
          rw [List.getD_eq_getElem?_getD, List.getElem?_append_left hlt, ← List.getD_eq_getElem?_getD]; exact hf
        · obtain ⟨_, _, r, -, -, hf⟩ := hc (j - T.P.length) (by omega)
          refine ⟨r, ?_⟩
          rw [List.getD_eq_getElem?_getD, List.getElem?_append_right (by omega), ← List.getD_eq_getElem?_getD]; exact hf)
      exact ⟨u, w'', .inl ⟨rfl, h1⟩, h2⟩) ?_
  intro wq7 hq7 u7 w7 hT7 x7
  have O7 : Hid (OwnF w7 wq7.heap.size u7 (T.P ++ T.P)) := Lib.hid (by rcases hT7 with ⟨-, h⟩ | ⟨h, -⟩; exact h; cases h)
  have s7 := (FW.out wq7 hq7.1).2.size
  obtain ⟨a7, c7, hv7, -, -, -⟩ := O7.out.rd.opened
  subst hv7
  clear hT7 hq6 hq7
  simp only [Act.put, List.setIfInBounds_toArray, List.set_cons_succ, List.set_cons_zero]
  iterate 4 (refine wpRelK_still rfl rfl (fun wq hq K hK => ?_); obtain ⟨k0, k1, k2⟩ := FX.out wq (FW.out wq hq.1).1; obtain ⟨j0, j1, j2⟩ := FY.out wq (FW.out wq hq.1).1; go_wp2; clear k0 k1 k2 j0 j1 j2)
  refine wpRelK_op rfl rfl (fun w12 hq12 K hK => ?_)
  go_wp2
  refine hK _ _ ((Below.refl _ _).alloc (Nat.le_refl _) _) ?_
  clear hK K
  refine wpRelK_callF #[.slice (some ⟨w12.heap.size, 0, none⟩) 2 2] rfl Try.func97 (by kernel_rfl) (by kernel_rfl) (by simp [go_sem])
    (fun wq hq => by
      have x6 : Ext (w12.alloc (.cells #[.slice a2 T.Ls.length c2, .slice a2 T.Ls.length c2] 57)) wq := hq.dep 12 (by kernel_rfl)
      have h6 := (x6.block w12.heap.size (by rw [World.size_alloc]; omega)).trans (alloc_new _ _)
      have hb := (FW.out wq hq.1).2
      have hul := HUL.out
      have hln := HLN.out
      refine (concatSS_any wq w12.heap.size _ _ us us (cell_of_row wq _ 0 _ _ _ h6) (cell_of_row wq _ 1 _ _ _ h6) (HU.out.mono hb) (HU.out.mono hb) (by omega) (by omega) (by omega)).mono fun e w'' ⟨v', he, ho, hx⟩ => ⟨v', he, .inr ⟨rfl, ho⟩, hx⟩)
    (fun wq hq => by
      have hul := HUL.out
      have hln := HLN.out
      obtain ⟨u, w'', h1, h2⟩ := row_exists wq (us ++ us) (by rw [List.length_append]; unfold maxLen; omega)
      exact ⟨u, w'', .inr ⟨rfl, h1⟩, h2⟩) ?_
  intro wq13 hq13 u13 w13 hT13 x13
  have O13 : Hid (w13.ownsRow wq13.heap.size 25 1 u13 (us ++ us).length (us ++ us)) := Lib.hid (by rcases hT13 with ⟨h, -⟩ | ⟨-, h⟩; cases h; exact h)
  have s13 := (FW.out wq13 hq13.1).2.size
  clear hT13 hq12 hq13
  obtain ⟨n13, hn13⟩ : ∃ n, (us ++ us).length = n := ⟨_, rfl⟩
  have hn13' : n13 = T.Ls.length + T.Ls.length := by rw [← hn13, List.length_append, HUL.out]
  have HN13 := Lib.hid hn13
  rw [hn13] at O13
  clear hn13
  subst hn13'
  obtain ⟨a13, c13, hv13⟩ : ∃ a c, u13 = .slice a (T.Ls.length + T.Ls.length) c := by
    rcases O13.out.2 with ⟨h, h2⟩ | ⟨g, cap, cur, h, -⟩
    · exact ⟨none, 0, by rw [h, h2]⟩
    · exact ⟨_, _, h⟩
  subst hv13
  simp only [Act.put, List.setIfInBounds_toArray, List.set_cons_succ, List.set_cons_zero]
  refine wpRelK_still rfl rfl (fun wq hq K hK => ?_)
  go_wp2
  refine wpRelK_op rfl rfl (fun w15 hq15 K hK => ?_)
  have s15 := (FW.out w15 hq15.1).1.size
  go_wp2
  refine hK _ _ ((Below.refl _ _).alloc (Nat.le_refl _) _) ?_
  clear hK K
  refine wpRelK_nil ?_
  intro w8 hW8 hall
  have E15 : Ext (w15.alloc (.cells #[.int .i64 0, .slice none 0 0, .slice none 0 0] 59)) w8 := hall 15 (by decide)
  have E7 : Ext w7 w8 := hall 7 (by decide)
  have E13 : Ext w13 w8 := hall 13 (by decide)
  have h8 : w8.heap[w15.heap.size]? = some (.cells #[.int .i64 0, .slice none 0 0, .slice none 0 0] 59 (0, 0)) := (E15.block w15.heap.size (by rw [World.size_alloc]; omega)).trans (alloc_new _ _)
  have g8 : w15.heap.size < w8.heap.size := (Array.getElem?_eq_some_iff.1 h8).1
  obtain ⟨b8W, b8⟩ := FW.out w8 hW8
  have B8W := Lib.hid b8W
  have B8 := Lib.hid b8
  have O8 : Hid (OwnF w8 wq7.heap.size (.slice a7 (T.P ++ T.P).length c7) (T.P ++ T.P) ∧ ∀ k, (Value.slice a7 (T.P ++ T.P).length c7).ownBlock = some k → k ≠ w15.heap.size) := Lib.hid ⟨O7.out.kept E7, (O7.out.kept E7).apart h8⟩
  have o13 : w8.ownsRow wq13.heap.size 25 1 (.slice a13 (T.Ls.length + T.Ls.length) c13) (T.Ls.length + T.Ls.length) (us ++ us) := ownsRow_same O13.out fun k hk => E13.block k (World.ownsRow.lt O13.out k hk).2
  have R8 := Lib.hid o13
  have RA8 := Lib.hid (row_apart o13 h8)
  have P := put3 h8 (.int .i64 T.t) (.slice a7 (T.P ++ T.P).length c7) (.slice a13 (T.Ls.length + T.Ls.length) c13)
  have HPt := Lib.hid P
  have hn7 : (T.P ++ T.P).length = T.P.length + T.P.length := List.length_append
  rw [hn7] at HPt O8 ⊢
  clear hall hW8 b8 b8W E15 hq15 x7 x13 hq FW E7 E13 O7 O13 o13 hn7
  have hw9 : w.heap.size + 3 ≤ w15.heap.size := by have := HWS.out; omega
  generalize w15.heap.size = g9 at *
  obtain ⟨m0, m1, m2, f0, f1, f2⟩ := blk3 h8
  clear h8
  clear P
  go_wp2_with fail
  clear m0 m1 m2 f0 f1 f2
  generalize (((w8.setCell ⟨g9, 0, none⟩ (.int .i64 T.t)).setCell ⟨g9, 1, none⟩ (.slice a7 (T.P.length + T.P.length) c7)).setCell ⟨g9, 2, none⟩ (.slice a13 (T.Ls.length + T.Ls.length) c13)) = wz at *
  have zz := HPt.out.size
  have BZW : Hid (Below W.heap.size W wz) := Lib.hid (Below.chg B8W.out HPt.out.chg (fun k hk => by have := HWS.out; omega) B8W.out.size)
  have BZ : Hid (Below w.heap.size w wz) := Lib.hid (Below.chg B8.out HPt.out.chg (fun k hk => by omega) B8.out.size)
  have RZP : Hid (RdF wz (.slice a7 (T.P.length + T.P.length) c7) (T.P ++ T.P)) := Lib.hid (O8.out.1.chg HPt.out.chg fun k hk e => O8.out.2 k hk e).rd
  have RZL : Hid (RdSS wz (.slice a13 (T.Ls.length + T.Ls.length) c13) (T.Ls ++ T.Ls)) := Lib.hid (by
    have h1 : wz.ownsRow wq13.heap.size 25 1 (.slice a13 (T.Ls.length + T.Ls.length) c13) (us ++ us).length (us ++ us) := by
      rw [HN13.out]
      exact ownsRow_same R8.out fun k hk => HPt.out.chg.block k (World.ownsRow.lt R8.out k hk).2 fun e => RA8.out k hk e
    exact rdSS_of h1 ((HRW.out.mono BZ.out).append (HRW.out.mono BZ.out)))
  have HVZ : Hid (∀ wq : World, Ext wz wq → Calls Try.prog 42 #[.agg #[.int .i64 T.t, .slice a7 (T.P.length + T.P.length) c7, .slice a13 (T.Ls.length + T.Ls.length) c13]] wq fun e w' => e = .returned (.bool true) ∧ Below wq.heap.size wq w') := Lib.hid fun wq hq => by
    have hln := HLN.out
    have := implValidGather_any wq (.agg #[.int .i64 T.t, .slice a7 (T.P.length + T.P.length) c7, .slice a13 (T.Ls.length + T.Ls.length) c13]) (twT T) ⟨_, _, rfl, RZP.out.mono hq, RZL.out.mono hq⟩ ⟨by simp [twT]; omega, by simp [twT]; omega, fun j _ => by
      have h1 := HR.out j
      have h2 := HR.out (j - T.Ls.length)
      unfold twT rowAt at *
      simp only [List.getD_eq_getElem?_getD, List.getElem?_append] at *
      split <;> omega⟩
    rw [HV2.out] at this
    exact this
  have hrow : ∀ j, (rowAt (twT T).Ls j).length ≤ 64 := fun j => by
    have h1 := HR.out j
    have h2 := HR.out (j - T.Ls.length)
    unfold twT rowAt at *
    simp only [List.getD_eq_getElem?_getD, List.getElem?_append] at *
    split <;> omega
  have HEZ : Hid (∀ wq : World, Ext wz wq → Calls Try.prog 86 #[.agg #[.int .i64 T.t, .slice a7 (T.P.length + T.P.length) c7, .slice a13 (T.Ls.length + T.Ls.length) c13], .func (.func 98) #[] #[]] wq fun e w' => ∃ vp' vt', e = .returned (.agg #[.int .i64 T.t, vp', vt']) ∧ OwnF w' wq.heap.size vp' (T.P ++ T.P) ∧ (∃ S : Nat → Prop, OwnSS w' S vt' (doL (rowAt (twT T).Ls) (twT T).Ls.length) ∧ ∀ k, S k → wq.heap.size ≤ k) ∧ Below wq.heap.size wq w') := Lib.hid (fun (wq : World) (hq : Ext wz wq) => each_any wq (.slice a7 (T.P.length + T.P.length) c7) (.slice a13 (T.Ls.length + T.Ls.length) c13) (twT T) 98 #[] (rowAt (twT T).Ls) (RZP.out.mono hq) (RZL.out.mono hq) (by simp [twT, HLN.out]) (by simp [twT]; omega)
    (fun i hi => ⟨hrow i, fun j hj => by
      obtain ⟨_, _, -, -, -, hc⟩ := RZL.out.opened
      obtain ⟨b, o, a', c', -, -, -, hR⟩ := hc i hi
      obtain ⟨_, _, -, -, -, hc2⟩ := hR.opened
      obtain ⟨b2, o2, r, -, -, hf⟩ := hc2 j hj
      exact ⟨r, hf⟩⟩)
    (fun args wx => run_enter Try.func98 (by kernel_rfl) (by kernel_rfl) args wx)
    (fun wx hx i hi v r hR hf => mergeFn_any wx v r _ hR (hrow i)))
  have HSZ : Hid ((doL (rowAt (twT T).Ls) (twT T).Ls.length).length = T.Ls.length + T.Ls.length) := Lib.hid (by rw [doL_length]; simp [twT])
  obtain ⟨D, hD⟩ : ∃ D, doL (rowAt (twT T).Ls) (twT T).Ls.length = D := ⟨_, rfl⟩
  rw [hD] at HEZ HSZ
  have hex : Hid (∀ wq : World, Ext wz wq → wq.cell? ⟨g9, 0, none⟩ = some (.int .i64 T.t) ∧ wq.cell? ⟨g9, 1, none⟩ = some (.slice a7 (T.P.length + T.P.length) c7) ∧ wq.cell? ⟨g9, 2, none⟩ = some (.slice a13 (T.Ls.length + T.Ls.length) c13)) := Lib.hid fun wq hq => by
    obtain ⟨k0, k1, k2, -, -, -⟩ := blk3 ((hq.block g9 (by omega)).trans HPt.out.heap)
    exact ⟨k0, k1, k2⟩
  have g9z : g9 < wz.heap.size := by omega
  clear zz
  clear hrow hD O8 R8 RA8 HPt HV2 HRW HU
  refine (HVZ.out wz (Ext.refl _)).mono ?_
  rintro e wy ⟨rfl, by1⟩
  obtain ⟨q0, q1, q2⟩ := hex.out wy by1
  have HE1 := Lib.hid (HEZ.out wy by1)
  have BY1 : Hid (Ext wz wy) := Lib.hid by1
  have zy := by1.size
  clear by1 HVZ HEZ
  go_wp2_with fail
  refine HE1.out.mono ?_
  clear HE1
  rintro e w3 ⟨vp', vt', rfl, o3, ⟨S, s3, hS⟩, b3⟩
  obtain ⟨ap, n1, cp, rfl⟩ : ∃ a n c, vp' = .slice a n c := (by obtain ⟨a, c, h, -⟩ := o3.rd.opened; exact ⟨a, _, c, h⟩)
  obtain ⟨at_, ct, rfl⟩ : ∃ a c, vt' = .slice a (T.Ls.length + T.Ls.length) c := (by obtain ⟨a, c, h, -⟩ := OwnC.rd s3; exact ⟨a, c, by rw [h, HSZ.out]⟩)
  have hy3 : w3.heap[w.heap.size + 2]? = some (.cells #[.int .i64 0, .slice none 0 0, .slice none 0 0] 59 (0, 0)) := (b3.block _ (by omega)).trans ((BY1.out.block _ (by omega)).trans ((BZW.out.block _ (by have := HWS.out; omega)).trans HBY.out))
  have PY := put3 hy3 (.int .i64 T.t) (.slice ap n1 cp) (.slice at_ (T.Ls.length + T.Ls.length) ct)
  obtain ⟨m0, m1, m2, f0, f1, f2⟩ := blk3 hy3
  have HPY := Lib.hid PY
  have B3 : Hid (Below w.heap.size w w3) := Lib.hid (BZ.out.trans ((BY1.out.mono BZ.out.size).trans (b3.mono (by have := BZ.out.size; omega))))
  have hlt1 : w.heap.size + 2 < w3.heap.size := (Array.getElem?_eq_some_iff.1 hy3).1
  clear hy3 PY b3 o3 s3 hS q0 q1 q2
  go_wp2_with fail
  have PY := HPY.out
  clear HPY
  generalize (((w3.setCell ⟨w.heap.size + 2, 0, none⟩ (.int .i64 T.t)).setCell ⟨w.heap.size + 2, 1, none⟩ (.slice ap n1 cp)).setCell ⟨w.heap.size + 2, 2, none⟩ (.slice at_ (T.Ls.length + T.Ls.length) ct)) = wz2 at *
  obtain ⟨q0, q1, q2, -, -, -⟩ := blk3 PY.heap
  refine bodyPost_ret (v := .tuple #[.agg #[.int .i64 T.t, .slice ap n1 cp, .slice at_ (T.Ls.length + T.Ls.length) ct], .bool true]) (by simp [results, Try.results45, go_sem, q0, q1, q2]) rfl ?_
  exact ⟨_, _, _, _, _, rfl, Below.chg B3.out PY.chg (fun k hk => by omega) (by omega)⟩
end Go.Proofs.Ytjhbcnmkamkkaaa

/- FnOrdered: the plain law: a gather of halves and quarters: what is sorted, kept, muted. -/
namespace Go.Proofs.Ytjhbcnmkamkkaaa
open Go Go.RowKit

/-- A gather drawn: places in halves, traces in quarters. -/
structure GQ where
  T : Nat
  ps : List Int
  zss : List (List Int)
structure GQ.ok (g : GQ) : Prop where
  t0 : 2 ≤ g.T
  t1 : g.T ≤ 11
  n0 : 1 ≤ g.ps.length
  n1 : g.ps.length ≤ 4
  nz : g.zss.length = g.ps.length
  pz : ∀ z ∈ g.ps, -4 ≤ z ∧ z ≤ 12
  zz : ∀ zs ∈ g.zss, zs.length = g.T ∧ ∀ z ∈ zs, -8 ≤ z ∧ z ≤ 8
def GQ.tm (g : GQ) : TM := ⟨g.T, g.ps.map hV, g.zss.map (List.map qv)⟩
def pAt (ps : List Int) (k : Nat) : Int := ps.getD k 0
def zAt (zss : List (List Int)) (k : Nat) : List Int := zss.getD k []
theorem pAt_ok {ps : List Int} (h : ∀ z ∈ ps, -4 ≤ z ∧ z ≤ 12) (k : Nat) : -4 ≤ pAt ps k ∧ pAt ps k ≤ 12 := by
  unfold pAt
  rw [List.getD_eq_getElem?_getD]
  cases hk : ps[k]? with
  | none => decide
  | some z => exact h z (List.mem_of_getElem? hk)
theorem hV_zero : hV 0 = 0 := by decide +kernel
theorem getD_hV (ps : List Int) (k : Nat) : (ps.map hV).getD k 0 = hV (pAt ps k) := by
  unfold pAt
  rw [List.getD_eq_getElem?_getD, List.getD_eq_getElem?_getD, List.getElem?_map]
  cases ps[k]? with
  | none => exact hV_zero.symm
  | some z => rfl
theorem rowAt_qv (zss : List (List Int)) (k : Nat) : rowAt (zss.map (List.map qv)) k = (zAt zss k).map qv := by
  unfold rowAt zAt
  rw [List.getD_eq_getElem?_getD, List.getD_eq_getElem?_getD, List.getElem?_map]
  cases zss[k]? with
  | none => rfl
  | some z => rfl
theorem zAt_mem {zss : List (List Int)} {k : Nat} (h : k < zss.length) : zAt zss k ∈ zss := by
  unfold zAt
  rw [List.getD_eq_getElem?_getD, List.getElem?_eq_getElem h]
  exact List.getElem_mem h
theorem order_hV {a b : Int} (ha : -4 ≤ a ∧ a ≤ 12) (hb : -4 ≤ b ∧ b ≤ 12) : FloatKind.f32.format.order (hV a) (hV b) = some (compare a b) := (hV_fx a ha.1 ha.2).order (hV_fx b hb.1 hb.2)
theorem hV_notNan {a : Int} (ha : -4 ≤ a ∧ a ≤ 12) : isN .f32 (hV a) = false := (hV_fx a ha.1 ha.2).notNan
theorem hV_fin_all : ((List.range 17).all fun k => fin .f32 (hV ((k : Int) - 4))) = true := by decide +kernel
theorem hV_fin {a : Int} (ha : -4 ≤ a ∧ a ≤ 12) : fin .f32 (hV a) = true := by
  have := List.all_eq_true.1 hV_fin_all (a + 4).toNat (List.mem_range.2 (by omega))
  rwa [show (((a + 4).toNat : Nat) : Int) - 4 = a by omega] at this
theorem ltP_hV {ps : List Int} (h : ∀ z ∈ ps, -4 ≤ z ∧ z ≤ 12) : ltP (ps.map hV) = fun i j => decide (pAt ps i < pAt ps j) := by
  funext i j
  unfold ltP
  rw [getD_hV, getD_hV, order_hV (pAt_ok h i) (pAt_ok h j)]
  by_cases hlt : pAt ps i < pAt ps j
  · rw [show compare (pAt ps i) (pAt ps j) = .lt from Int.compare_eq_lt.2 hlt]; simp [hlt]
  · simp only [hlt, decide_false]
    rw [Bool.eq_false_iff]
    intro hc
    have : compare (pAt ps i) (pAt ps j) = .lt := by simpa using hc
    exact hlt (Int.compare_eq_lt.1 this)
/-- The indices in order. -/
def sJ (ps : List Int) : List Nat := insAll (fun i j => decide (pAt ps i < pAt ps j)) [] (List.range ps.length)
theorem sortJ_hV {ps : List Int} (h : ∀ z ∈ ps, -4 ≤ z ∧ z ≤ 12) : sortJ (ps.map hV) = sJ ps := by
  unfold sortJ sJ
  rw [ltP_hV h, List.length_map]
theorem sJ_perm (ps : List Int) : (sJ ps).Perm (List.range ps.length) := by
  have := insAll_perm (fun i j => decide (pAt ps i < pAt ps j)) [] (List.range ps.length)
  simpa [sJ] using this
theorem sJ_length (ps : List Int) : (sJ ps).length = ps.length := by rw [(sJ_perm ps).length_eq, List.length_range]
theorem sJ_sorted (ps : List Int) : List.Pairwise (fun a b => pAt ps a ≤ pAt ps b) (sJ ps) := insAll_sorted (pAt ps) _
theorem sJ_lt (ps : List Int) (i : Nat) (h : i < ps.length) : (sJ ps).getD i 0 < ps.length := by
  have hi : i < (sJ ps).length := by rw [sJ_length]; exact h
  have hm : (sJ ps).getD i 0 ∈ sJ ps := by
    rw [List.getD_eq_getElem?_getD, List.getElem?_eq_getElem hi]
    exact List.getElem_mem hi
  exact List.mem_range.1 ((sJ_perm ps).mem_iff.1 hm)
/-- A place and a trace. -/
def prA (ps : List Int) (zss : List (List Int)) (k : Nat) : Int × List Int := (pAt ps k, zAt zss k)
theorem sJ_next (ps : List Int) (i : Nat) (h : i + 1 < ps.length) : pAt ps ((sJ ps).getD i 0) ≤ pAt ps ((sJ ps).getD (i + 1) 0) := by
  have h1 : i + 1 < (sJ ps).length := by rw [sJ_length]; exact h
  rw [List.getD_eq_getElem?_getD, List.getD_eq_getElem?_getD, List.getElem?_eq_getElem h1, List.getElem?_eq_getElem (show i < (sJ ps).length by omega)]
  exact List.pairwise_iff_getElem.1 (sJ_sorted ps) i (i + 1) (by omega) h1 (by omega)
/-- What is chosen is valid, if anything is. -/
theorem GQ.ok.pick_valid {g : GQ} (h : g.ok) (js : List Nat) (hj : ∀ j ∈ js, j < g.ps.length) (hl : js.length ≤ 16) : validT (pkT g.tm js) = !js.isEmpty := by
  have hP : allB (fin .f32) (pkP g.tm.P js) = true := by
    unfold allB allTo
    refine List.all_eq_true.2 fun i hi => ?_
    have hi := List.mem_range.1 hi
    have hi' : i < js.length := by simpa [pkP] using hi
    have e : (pkP g.tm.P js).getD i 0 = hV (pAt g.ps (js.getD i 0)) := by
      rw [← getD_hV]
      simp [pkP, GQ.tm, List.getD_eq_getElem?_getD, List.getElem?_map, List.getElem?_eq_getElem hi']
    rw [e]
    exact hV_fin (pAt_ok h.pz _)
  have hR : rowsTo (pkL g.tm.Ls js) g.T (pkL g.tm.Ls js).length = true := by
    unfold rowsTo
    refine List.all_eq_true.2 fun i hi => ?_
    have hi := List.mem_range.1 hi
    have hi' : i < js.length := by simpa [pkL] using hi
    have e : rowAt (pkL g.tm.Ls js) i = (zAt g.zss (js.getD i 0)).map qv := by
      rw [← rowAt_qv]
      show (pkL g.tm.Ls js).getD i [] = _
      simp [pkL, GQ.tm, List.getD_eq_getElem?_getD, List.getElem?_map, List.getElem?_eq_getElem hi']
    have hm : js.getD i 0 < g.zss.length := by
      rw [h.nz]
      apply hj
      rw [List.getD_eq_getElem?_getD, List.getElem?_eq_getElem hi']
      exact List.getElem_mem hi'
    rw [e, List.length_map, (h.zz _ (zAt_mem hm)).1]
    simp
  have t0 := h.t0
  have t1 := h.t1
  have e1 : (pkP g.tm.P js).length = js.length := by simp [pkP]
  have e2 : (pkL g.tm.Ls js).length = js.length := by simp [pkL]
  have ht : (pkT g.tm js).t = (g.T : Int) := rfl
  unfold validT placesB
  rw [ht]
  show (decide (1 ≤ (g.T : Int)) && (decide ((g.T : Int) ≤ 64) && ((decide (1 ≤ (pkP g.tm.P js).length) && (decide ((pkP g.tm.P js).length ≤ 16) && allB (fin .f32) (pkP g.tm.P js))) && (decide ((pkL g.tm.Ls js).length = (pkP g.tm.P js).length) && rowsTo (pkL g.tm.Ls js) (g.T : Int) (pkL g.tm.Ls js).length)))) = _
  rw [hP, hR, e1, e2]
  cases js with
  | nil => simp
  | cons a r =>
    have a1 : (1 : Int) ≤ g.T := by omega
    have a2 : (g.T : Int) ≤ 64 := by omega
    have a3 : (a :: r).length ≤ 16 := hl
    simp [a1, a2]
    simpa using a3
theorem pk_self (P : List Nat) : pkP P (List.range P.length) = P := by
  unfold pkP
  apply List.ext_getElem
  · simp
  · intro i h1 h2
    simp [List.getD_eq_getElem?_getD, List.getElem?_eq_getElem h2]
theorem pkL_self (Ls : List (List Nat)) : pkL Ls (List.range Ls.length) = Ls := by
  unfold pkL
  apply List.ext_getElem
  · simp
  · intro i h1 h2
    simp [rowAt, List.getD_eq_getElem?_getD, List.getElem?_eq_getElem h2]
theorem GQ.ok.lens {g : GQ} (h : g.ok) : g.tm.P.length = g.ps.length ∧ g.tm.Ls.length = g.ps.length := ⟨by simp [GQ.tm], by simp [GQ.tm, h.nz]⟩
theorem GQ.ok.valid {g : GQ} (h : g.ok) : validT g.tm = true := by
  have n0 := h.n0
  have n1 := h.n1
  have := h.pick_valid (List.range g.ps.length) (fun j hj => List.mem_range.1 hj) (by rw [List.length_range]; omega)
  have e : pkT g.tm (List.range g.ps.length) = g.tm := by
    have e1 := pk_self g.tm.P
    have e2 := pkL_self g.tm.Ls
    rw [h.lens.1] at e1
    rw [h.lens.2] at e2
    unfold pkT
    rw [e1, e2]
  rw [e] at this
  rw [this]
  cases hn : g.ps.length with
  | zero => omega
  | succ m => rw [List.range_succ]; simp
theorem GQ.ok.validS {g : GQ} (h : g.ok) : validT (pkT g.tm (sortJ g.tm.P)) = true := by
  have n0 := h.n0
  have n1 := h.n1
  have e : sortJ g.tm.P = sJ g.ps := sortJ_hV h.pz
  rw [e, h.pick_valid (sJ g.ps) (fun j hj => List.mem_range.1 ((sJ_perm g.ps).mem_iff.1 hj)) (by rw [sJ_length]; omega)]
  cases hs : sJ g.ps with
  | nil => have := sJ_length g.ps; rw [hs] at this; simp at this; omega
  | cons a r => rfl
theorem GQ.ok.valid2 {g : GQ} (h : g.ok) : validT (twT g.tm) = true := by
  have n0 := h.n0
  have n1 := h.n1
  have hl := h.lens
  have := h.pick_valid (List.range g.ps.length ++ List.range g.ps.length) (fun j hj => by
    rcases List.mem_append.1 hj with h | h <;> exact List.mem_range.1 h) (by simp; omega)
  have e : pkT g.tm (List.range g.ps.length ++ List.range g.ps.length) = twT g.tm := by
    have e1 := pk_self g.tm.P
    have e2 := pkL_self g.tm.Ls
    rw [hl.1] at e1
    rw [hl.2] at e2
    unfold pkT twT
    have a1 : pkP g.tm.P (List.range g.ps.length ++ List.range g.ps.length) = pkP g.tm.P (List.range g.ps.length) ++ pkP g.tm.P (List.range g.ps.length) := by simp [pkP]
    have a2 : pkL g.tm.Ls (List.range g.ps.length ++ List.range g.ps.length) = pkL g.tm.Ls (List.range g.ps.length) ++ pkL g.tm.Ls (List.range g.ps.length) := by simp [pkL]
    rw [a1, a2, e1, e2]
  rw [e] at this
  rw [this]
  cases hn : g.ps.length with
  | zero => omega
  | succ m => rw [List.range_succ]; simp
/-- What is kept. -/
def k1 (ps : List Int) (z : Int) (j : Nat) : Bool := decide (pAt ps j ≤ z)
def k2 (ps : List Int) (z : Int) (j : Nat) : Bool := decide (z < pAt ps j)
theorem filter_parts (p q : Nat → Bool) (n : Nat) (h : ∀ j, q j = !p j) : ((List.range n).filter p).length + ((List.range n).filter q).length = n := by
  induction n with
  | zero => rfl
  | succ n ih =>
    rw [List.range_succ, List.filter_append, List.filter_append, List.length_append, List.length_append]
    cases hp : p n <;> simp [hp, h n] <;> omega
theorem k12 (ps : List Int) (z : Int) : ((List.range ps.length).filter (k1 ps z)).length + ((List.range ps.length).filter (k2 ps z)).length = ps.length :=
  filter_parts _ _ _ fun j => by unfold k1 k2; by_cases h : pAt ps j ≤ z <;> simp [h] <;> omega
/-- -1000, 1000, a quarter. -/
theorem lo_fx : Fx 1 3296329728 (-2000) := Fx.of (by decide +kernel)
theorem hi_fx : Fx 2 1148846080 4000 := Fx.of (by decide +kernel)
theorem qr_fx : Fx 2 1048576000 1 := Fx.of (by decide +kernel)
theorem lo_fv : FV .f32 3296329728 3296329728 := ⟨by decide, by decide +kernel⟩
theorem hi_fv : FV .f32 1148846080 1148846080 := ⟨by decide, by decide +kernel⟩
theorem qr_fv : FV .f32 1048576000 1048576000 := ⟨by decide, by decide +kernel⟩
def upV (z : Int) : Nat := fop .add .f32 (hV z) 1048576000
theorem hV_fx2 (z : Int) (h0 : -4 ≤ z) (h1 : z ≤ 12) : Fx 2 (hV z) (z * 2) := (hV_fx z h0 h1).fine (k := 1) (l := 1) (by decide)
theorem upV_fx (z : Int) (h0 : -4 ≤ z) (h1 : z ≤ 12) : Fx 2 (upV z) (z * 2 + 1) := (hV_fx2 z h0 h1).fopAdd qr_fx (by decide) (by omega)
theorem cmp_geq (a b : Int) : (some (compare a b) == some Ordering.gt || some (compare a b) == some Ordering.eq) = decide (b ≤ a) := by
  by_cases h1 : a < b
  · rw [show compare a b = .lt from Int.compare_eq_lt.2 h1]; simp; omega
  · by_cases h2 : a = b
    · subst h2; rw [show compare a a = .eq from Int.compare_eq_eq.2 rfl]; simp
    · rw [show compare a b = .gt from Int.compare_eq_gt.2 (by omega)]; simp; omega
theorem cmp_leq (a b : Int) : (some (compare a b) == some Ordering.lt || some (compare a b) == some Ordering.eq) = decide (a ≤ b) := by
  by_cases h1 : a < b
  · rw [show compare a b = .lt from Int.compare_eq_lt.2 h1]; simp; omega
  · by_cases h2 : a = b
    · subst h2; rw [show compare a a = .eq from Int.compare_eq_eq.2 rfl]; simp
    · rw [show compare a b = .gt from Int.compare_eq_gt.2 (by omega)]; simp; omega
theorem keeps1 {g : GQ} (h : g.ok) (z : Int) (h0 : -4 ≤ z) (h1 : z ≤ 12) : Keeps g.tm.P 3296329728 (hV z) (k1 g.ps z) := fun j hj => by
  have hp := pAt_ok h.pz j
  have e : g.tm.P.getD j 0 = hV (pAt g.ps j) := getD_hV g.ps j
  have o1 : FloatKind.f32.format.order (hV (pAt g.ps j)) 3296329728 = some (compare (pAt g.ps j) (-2000)) := (hV_fx _ hp.1 hp.2).order lo_fx
  refine ⟨_, _, rfl, rfl, ?_⟩
  rw [e, o1, order_hV hp ⟨h0, h1⟩, cmp_geq, cmp_leq]
  unfold k1
  have : decide ((-2000 : Int) ≤ pAt g.ps j) = true := by simp; omega
  rw [this, Bool.true_and]
theorem keeps2 {g : GQ} (h : g.ok) (z : Int) (h0 : -4 ≤ z) (h1 : z ≤ 12) : Keeps g.tm.P (upV z) 1148846080 (k2 g.ps z) := fun j hj => by
  have hp := pAt_ok h.pz j
  have e : g.tm.P.getD j 0 = hV (pAt g.ps j) := getD_hV g.ps j
  have o1 : FloatKind.f32.format.order (hV (pAt g.ps j)) (upV z) = some (compare (pAt g.ps j * 2) (z * 2 + 1)) := (hV_fx2 _ hp.1 hp.2).order (upV_fx z h0 h1)
  have o2 : FloatKind.f32.format.order (hV (pAt g.ps j)) 1148846080 = some (compare (pAt g.ps j * 2) 4000) := (hV_fx2 _ hp.1 hp.2).order hi_fx
  refine ⟨_, _, rfl, rfl, ?_⟩
  rw [e, o1, o2, cmp_geq, cmp_leq]
  unfold k2
  have : decide (pAt g.ps j * 2 ≤ (4000 : Int)) = true := by simp; omega
  rw [this, Bool.and_true]
  by_cases hh : z < pAt g.ps j <;> simp [hh] <;> omega
/-- How used traces are matched. -/
theorem filter_more (u u' : Nat → Bool) (k : Nat) (L : List Nat) (hn : L.Nodup) (hk : k ∈ L) (h0 : u k = false) (h1 : u' k = true) (h2 : ∀ j, j ≠ k → u' j = u j) : (L.filter u').Perm (k :: L.filter u) := by
  induction L with
  | nil => cases hk
  | cons a r ih =>
    obtain ⟨ha, hr⟩ := List.nodup_cons.1 hn
    by_cases hak : a = k
    · subst hak
      have e : r.filter u' = r.filter u := List.filter_congr fun x hx => h2 x fun e => ha (e ▸ hx)
      rw [List.filter_cons, h1, if_pos rfl, List.filter_cons, h0, e]
      simp
    · have hk' : k ∈ r := by
        rcases List.mem_cons.1 hk with h | h
        · exact absurd h.symm hak
        · exact h
      have := ih hr hk'
      rw [List.filter_cons, List.filter_cons, h2 a hak]
      cases hu : u a with
      | false => simpa using this
      | true => simpa using (List.Perm.cons a this).trans (List.Perm.swap k a _)
theorem filter_both (u : Nat → Bool) (L : List Nat) : (L.filter u ++ L.filter fun x => !u x).Perm L := by
  induction L with
  | nil => exact List.Perm.refl _
  | cons a r ih =>
    cases hu : u a with
    | true => simpa [hu] using List.Perm.cons a ih
    | false =>
      have : (r.filter u ++ a :: r.filter fun x => !u x).Perm (a :: (r.filter u ++ r.filter fun x => !u x)) := List.perm_middle
      simpa [hu] using this.trans (List.Perm.cons a ih)
/-- The first i of the sorted are matched by what is used. -/
def Mat (g : GQ) (u : Nat → Bool) (i : Nat) : Prop := (((List.range g.ps.length).filter u).map (prA g.ps g.zss)).Perm (((sJ g.ps).take i).map (prA g.ps g.zss))
theorem Mat.zero (g : GQ) : Mat g (fun _ => false) 0 := by unfold Mat; simp
theorem Mat.some {g : GQ} {u : Nat → Bool} {i : Nat} (h : Mat g u i) (hi : i < g.ps.length) : ∃ k, k < g.ps.length ∧ u k = false ∧ prA g.ps g.zss k = prA g.ps g.zss ((sJ g.ps).getD i 0) := by
  have hi' : i < (sJ g.ps).length := by rw [sJ_length]; exact hi
  have p1 := (filter_both u (List.range g.ps.length)).map (prA g.ps g.zss)
  have p2 := ((sJ_perm g.ps).symm).map (prA g.ps g.zss)
  have p3 := p1.trans p2
  rw [List.map_append, ← List.take_append_drop i (sJ g.ps), List.map_append] at p3
  have p4 := (List.perm_append_left_iff _).1 ((h.symm.append_right _).trans p3)
  have hm : prA g.ps g.zss ((sJ g.ps).getD i 0) ∈ ((sJ g.ps).drop i).map (prA g.ps g.zss) := by
    refine List.mem_map.2 ⟨_, ?_, rfl⟩
    rw [List.drop_eq_getElem_cons hi', List.getD_eq_getElem?_getD, List.getElem?_eq_getElem hi']
    exact List.mem_cons_self
  obtain ⟨k, hk, he⟩ := List.mem_map.1 (p4.mem_iff.2 hm)
  obtain ⟨hk1, hk2⟩ := List.mem_filter.1 hk
  exact ⟨k, List.mem_range.1 hk1, by simpa using hk2, he⟩
theorem Mat.next {g : GQ} {u u' : Nat → Bool} {i k : Nat} (h : Mat g u i) (hi : i < g.ps.length) (hk : k < g.ps.length) (h0 : u k = false) (h1 : u' k = true) (h2 : ∀ j, j ≠ k → u' j = u j) (he : prA g.ps g.zss k = prA g.ps g.zss ((sJ g.ps).getD i 0)) : Mat g u' (i + 1) := by
  have hi' : i < (sJ g.ps).length := by rw [sJ_length]; exact hi
  unfold Mat at *
  refine ((filter_more u u' k _ List.nodup_range (List.mem_range.2 hk) h0 h1 h2).map _).trans ?_
  rw [List.map_cons, he, take_succJ (sJ g.ps) i _ hi' rfl, List.map_append]
  refine (List.Perm.cons _ h).trans ?_
  exact (List.perm_append_comm (l₁ := [prA g.ps g.zss ((sJ g.ps).getD i 0)]))
/-- What is muted. -/
theorem early_all : ((List.range 17).all fun z => (List.range 12).all fun k => early (hV ((z : Int) - 4)) 1056964608 k == decide ((k : Int) < ((z : Int) - 4).natAbs)) = true := by decide +kernel
theorem early_is (z : Int) (h : -4 ≤ z ∧ z ≤ 12) (k : Nat) (hk : k < 12) : early (hV z) 1056964608 k = decide ((k : Int) < z.natAbs) := by
  have := List.all_eq_true.1 (List.all_eq_true.1 early_all (z + 4).toNat (List.mem_range.2 (by omega))) k (List.mem_range.2 hk)
  rw [show (((z + 4).toNat : Nat) : Int) - 4 = z by omega] at this
  simpa using this
theorem half_fv : FV .f32 1056964608 1056964608 := ⟨by decide, by decide +kernel⟩
theorem half_pos : posB 1056964608 = true := by decide +kernel
end Go.Proofs.Ytjhbcnmkamkkaaa

/- FnOrdered: rows of Booleans; lists of quarters compared. -/
namespace Go.Proofs.Ytjhbcnmkamkkaaa
open Go Go.RowKit

theorem Try.infoBo : (Try.prog.info? 4).map (fun i => (i.zero, i.size, i.bytes)) = some (some (.bool false), 1, 1) := by kernel_rfl
def OwnU (w : World) (B : Nat) (v : Value) (us : List Bool) : Prop := w.ownsRow B 4 1 v us.length (us.map Value.bool)
theorem OwnU.kept {w w' : World} {B : Nat} {v : Value} {L : List Bool} (h : OwnU w B v L) (hb : Below w.heap.size w w') : OwnU w' B v L :=
  ownsRow_same h fun k hk => hb.block k (World.ownsRow.lt h k hk).2
theorem OwnU.at {w : World} {B g n cap : Nat} {us : List Bool} (h : OwnU w B (.slice (some ⟨g, 0, none⟩) n cap) us) (hn : us.length = n) (k : Nat) (hk : k < n) : w.cell? ⟨g, k, none⟩ = some (.bool (us.getD k false)) ∧ w.frozen? ⟨g, k, none⟩ = false ∧ B ≤ g ∧ g < w.heap.size := by
  subst hn
  have h0 : w.ownsRow B 4 1 (.slice (some ⟨g, 0, none⟩) us.length cap) us.length (us.map Value.bool) := h
  refine ⟨?_, World.ownsRow.frozenAt h0 k, (World.ownsRow.lt h0 g rfl)⟩
  rw [World.ownsRow.cellAt h0 k (by omega)]
  simp [List.getElem?_map, List.getD_eq_getElem?_getD, List.getElem?_eq_getElem hk]
theorem OwnU.stored {w : World} {B g n cap : Nat} {us : List Bool} (h : OwnU w B (.slice (some ⟨g, 0, none⟩) n cap) us) (hn : us.length = n) (k : Nat) (b : Bool) : OwnU (w.setCell ⟨g, k, none⟩ (.bool b)) B (.slice (some ⟨g, 0, none⟩) n cap) (us.set k b) := by
  subst hn
  have h0 : w.ownsRow B 4 1 (.slice (some ⟨g, 0, none⟩) us.length cap) us.length (us.map Value.bool) := h
  have := (h0.stored k (.bool b)).1
  unfold OwnU
  rw [List.length_set, List.map_set]
  exact this
/-- 'make([]bool, n)'. -/
theorem wpList_mkBo {ops : Array Oper} {rest : List Oper} {o : Oper} {a : Act} {w : World} {Q : Exit → Act → World → Prop} (hg : o.guard = none) (l c : Operand)
    (hop : o.op = Op.makeSlice 69 l c) (B : Nat) (kl kc : IntKind) (L C : Int) (n : Nat) (hl : a.eval l = .int kl L) (hc : a.eval c = .int kc C) (hL : L = (n : Int)) (hC : C = (n : Int)) (hn : n ≤ 1048576) (hB : B ≤ w.heap.size)
    (h : ∀ w', OwnU w' B (.slice (some ⟨w.heap.size, 0, none⟩) n n) (List.replicate n false) → Below w.heap.size w w' → w.heap.size < w'.heap.size → wpList Try.prog ops Q rest (a.put o.dst (.slice (some ⟨w.heap.size, 0, none⟩) n n)) w') : wpList Try.prog ops Q (o :: rest) a w := by
  obtain ⟨i0, hi, hz0, hz1, hz2⟩ := info_parts Try.infoBo
  refine wpList_make_full w hg l c 69 hop B 4 i0 (.bool false) 1 Try.underlying69 hi hz0 hz1 kl kc L C n hl hc hL hC (by rw [hz2]; omega) (by unfold maxLen; omega) hB ?_
  intro w' h1 h2
  have e : (madeCells (Value.bool false).cells (n * 1)).toList = (List.replicate n false).map Value.bool := by
    rw [Nat.mul_one]
    show (madeCells #[Value.bool false] n).toList = _
    rw [toList_madeCells_one]; simp
  rw [e] at h1
  have hlt := (h1.lt w.heap.size rfl).2
  exact h w' (by unfold OwnU; rw [List.length_replicate]; exact h1) ((Below.refl _ _).grown h2 (Nat.le_refl _) fun k hk => (by cases hk)) hlt
theorem qv_notNan {a : Int} (h : -8 ≤ a ∧ a ≤ 8) : isN .f32 (qv a) = false := (qv_fx a h.1 h.2).1.notNan
theorem order_qv {a b : Int} (ha : -8 ≤ a ∧ a ≤ 8) (hb : -8 ≤ b ∧ b ≤ 8) : FloatKind.f32.format.order (qv a) (qv b) = some (compare a b) := (qv_fx a ha.1 ha.2).1.order (qv_fx b hb.1 hb.2).1
theorem cmp_ne (a b : Int) : (some (compare a b) != some Ordering.eq) = decide (a ≠ b) := by
  by_cases h : a = b
  · subst h; rw [show compare a a = .eq from Int.compare_eq_eq.2 rfl]; simp
  · have : compare a b ≠ .eq := fun e => h (Int.compare_eq_eq.1 e)
    simp [h, this]
theorem take_succ_eq {A B : List Int} (k : Nat) (h : k < A.length) (h2 : k < B.length) (h1 : A.take k = B.take k) (e : A.getD k 0 = B.getD k 0) : A.take (k + 1) = B.take (k + 1) := by
  rw [List.take_succ_eq_append_getElem h, List.take_succ_eq_append_getElem h2, h1]
  rw [List.getD_eq_getElem?_getD, List.getD_eq_getElem?_getD, List.getElem?_eq_getElem h, List.getElem?_eq_getElem h2] at e
  simp only [Option.getD_some] at e
  rw [e]
set_option maxRecDepth 100000 in
set_option maxHeartbeats 800000 in
theorem r8EqualQ_any (w : World) (v1 v2 : Value) (A B : List Int) (h1 : RdF w v1 (A.map qv)) (h2 : RdF w v2 (B.map qv)) (hl : B.length = A.length) (hmax : A.length ≤ 1000) (ha : ∀ j, j < A.length → -8 ≤ A.getD j 0 ∧ A.getD j 0 ≤ 8) (hb : ∀ j, j < A.length → -8 ≤ B.getD j 0 ∧ B.getD j 0 ≤ 8) :
    Calls Try.prog 16 #[v1, v2] w fun e w' => e = .returned (.bool (decide (A = B))) ∧ ∃ n, w' = w.drewN n := by
  obtain ⟨a1, c1, hv1, -, -, hcell1⟩ := h1.opened
  obtain ⟨a2, c2, hv2, -, -, hcell2⟩ := h2.opened
  rw [List.length_map] at hv1 hv2 hcell1 hcell2
  rw [hl] at hv2 hcell2
  subst hv1
  subst hv2
  have HLn := Lib.hid hl
  clear h1 h2 hl
  go_enter Try.func16, Try.ntmps16
  go_wp2
  go_loopw [5] (fun i wr => ∃ k q : Nat, k ≤ A.length ∧ i = .int .i64 k ∧ wr = w.drewN q ∧ A.take k = B.take k) (fun i _ => A.length - (intOf i).toNat)
  case atStart => exact ⟨0, 0, Nat.zero_le _, rfl, rfl, rfl⟩
  case round =>
    obtain ⟨wi, rfl⟩ : ∃ wi : World, wi = wr := ⟨_, rfl⟩
    obtain ⟨k, q, hk, rfl, hq, ht⟩ := hrel
    have HT := Lib.hid ht
    clear ht
    by_cases hlt : k < A.length
    · obtain ⟨b, o, r, rfl, d0, f0⟩ := hcell1 k hlt
      obtain ⟨b', o', r', rfl, g0, f1⟩ := hcell2 k hlt
      have hak := ha k hlt
      have hbk := hb k hlt
      have e0 : (A.map qv).getD k 0 = qv (A.getD k 0) := by simp [List.getD_eq_getElem?_getD, List.getElem?_map, List.getElem?_eq_getElem hlt]
      have e1 : (B.map qv).getD k 0 = qv (B.getD k 0) := by simp [List.getD_eq_getElem?_getD, List.getElem?_map, List.getElem?_eq_getElem (show k < B.length by have := HLn.out; omega)]
      rw [e0] at f0
      rw [e1] at f1
      obtain rfl := f0.eq_of_not (qv_notNan hak)
      obtain rfl := f1.eq_of_not (qv_notNan hbk)
      have ht : (FloatKind.f32.format.order (qv (A.getD k 0)) (qv (B.getD k 0)) != some Ordering.eq) = decide (A.getD k 0 ≠ B.getD k 0) := by rw [order_qv hak hbk, cmp_ne]
      have D0 : wi.cell? ⟨b, o + k, none⟩ = some (.float .f32 (qv (A.getD k 0))) := by rw [hq]; exact d0
      have G0 : wi.cell? ⟨b', o' + k, none⟩ = some (.float .f32 (qv (B.getD k 0))) := by rw [hq]; exact g0
      have Hq := Lib.hid hq
      have HD : Hid (A.getD k 0 = B.getD k 0 ∨ A.getD k 0 ≠ B.getD k 0) := Lib.hid (Decidable.em _)
      have HTk := fun e => Lib.hid (take_succ_eq k hlt (by have := HLn.out; omega) HT.out e)
      clear hcell1 hcell2 d0 g0 hq f0 f1 ha hb hak hbk e0 e1
      generalize qv (A.getD k 0) = x at *
      generalize qv (B.getD k 0) = y at *
      rcases HD.out with he | he
      · have ht' : (FloatKind.f32.format.order x y != some Ordering.eq) = false := by rw [ht, decide_eq_false (not_not_intro he)]
        have HTe := HTk he
        clear ht HTk he HD
        go_wp2
        refine region_rel_all (by kernel_rfl) (by kernel_rfl) (Drawn wi) (fun _ _ _ => False) ⟨1, rfl⟩ ?_
        repeat (refine wpRel_draw rfl rfl (fun nq K hK => ?_); go_wp2)
        refine wpRel_nil ?_
        rintro wd ⟨nd, hwd⟩
        have Hwd := Lib.hid hwd
        clear hwd
        go_wp2
        exact ⟨⟨k + 1, q + nd, by omega, by go_num, by rw [Hwd.out, Hq.out, World.drewN_drewN], HTe.out⟩, by simp [intOf]; omega⟩
      · have ht' : (FloatKind.f32.format.order x y != some Ordering.eq) = true := by rw [ht, decide_eq_true he]
        have HE := Lib.hid he
        clear ht HTk he HD
        go_wp2
        refine region_rel_all (by kernel_rfl) (by kernel_rfl) (Drawn wi) (fun _ _ _ => False) ⟨1, rfl⟩ ?_
        repeat (refine wpRel_draw rfl rfl (fun nq K hK => ?_); go_wp2)
        refine wpRel_nil ?_
        rintro wd ⟨nd, hwd⟩
        have Hwd := Lib.hid hwd
        clear hwd
        go_wp2
        go_ret
        refine ⟨?_, q + nd, by rw [Hwd.out, Hq.out, World.drewN_drewN]⟩
        have : A ≠ B := fun e => HE.out (by rw [e])
        simp [this]
    · have Hq := Lib.hid hq
      clear hq ha hb
      go_wp2
      go_ret
      refine ⟨?_, q, Hq.out⟩
      have : A = B := by
        have h := HT.out
        have hl := HLn.out
        rwa [List.take_of_length_le (by omega), List.take_of_length_le (by omega)] at h
      simp [this]
/-- What stands sorted. -/
def sp (g : GQ) (k : Nat) : Int := pAt g.ps ((sJ g.ps).getD k 0)
def sz (g : GQ) (k : Nat) : List Int := zAt g.zss ((sJ g.ps).getD k 0)
theorem sp_getD (g : GQ) (k : Nat) (h : k < g.ps.length) : (pkP g.tm.P (sJ g.ps)).getD k 0 = hV (sp g k) := by
  have hk : k < (sJ g.ps).length := by rw [sJ_length]; exact h
  unfold sp
  rw [← getD_hV]
  simp [pkP, GQ.tm, List.getD_eq_getElem?_getD, List.getElem?_map, List.getElem?_eq_getElem hk]
theorem sz_row (g : GQ) (k : Nat) (h : k < g.ps.length) : rowAt (pkL g.tm.Ls (sJ g.ps)) k = (sz g k).map qv := by
  have hk : k < (sJ g.ps).length := by rw [sJ_length]; exact h
  unfold sz
  rw [← rowAt_qv]
  show (pkL g.tm.Ls (sJ g.ps)).getD k [] = _
  simp [pkL, GQ.tm, List.getD_eq_getElem?_getD, List.getElem?_map, List.getElem?_eq_getElem hk]
theorem GQ.ok.row {g : GQ} (h : g.ok) (k : Nat) (hk : k < g.ps.length) : (zAt g.zss k).length = g.T ∧ ∀ t, t < g.T → -8 ≤ (zAt g.zss k).getD t 0 ∧ (zAt g.zss k).getD t 0 ≤ 8 := by
  obtain ⟨h1, h2⟩ := h.zz _ (zAt_mem (show k < g.zss.length by rw [h.nz]; exact hk))
  refine ⟨h1, fun t ht => ?_⟩
  apply h2
  rw [List.getD_eq_getElem?_getD, List.getElem?_eq_getElem (by omega)]
  exact List.getElem_mem _
theorem GQ.ok.srow {g : GQ} (h : g.ok) (k : Nat) (hk : k < g.ps.length) : (sz g k).length = g.T ∧ ∀ t, t < g.T → -8 ≤ (sz g k).getD t 0 ∧ (sz g k).getD t 0 ≤ 8 := h.row _ (sJ_lt g.ps k hk)
theorem GQ.ok.sp_ok {g : GQ} (h : g.ok) (k : Nat) : -4 ≤ sp g k ∧ sp g k ≤ 12 := pAt_ok h.pz _
/-- The cells of places, and of traces, that are read. -/
theorem cells_of {w : World} {a : Option Addr} {n c : Nat} {P : List Nat} {f : Nat → Int} (h : RdF w (.slice a n c) P) (hP : P.length = n) (hf : ∀ k, k < n → P.getD k 0 = hV (f k) ∧ -4 ≤ f k ∧ f k ≤ 12) (k : Nat) (hk : k < n) : ∃ b o, a = some ⟨b, o, none⟩ ∧ b < w.heap.size ∧ w.cell? ⟨b, o + k, none⟩ = some (.float .f32 (hV (f k))) := by
  obtain ⟨a', c', hv, -, -, hc⟩ := h.opened
  cases hv
  obtain ⟨b, o, r, ha, h1, h2⟩ := hc k (by omega)
  rw [(hf k hk).1] at h2
  obtain rfl := h2.eq_of_not (hV_notNan (hf k hk).2)
  exact ⟨b, o, ha, block_lt h1, h1⟩
theorem rows_of {w : World} {a : Option Addr} {n c T : Nat} {Ls : List (List Nat)} {f : Nat → List Int} (h : RdSS w (.slice a n c) Ls) (hP : Ls.length = n) (hf : ∀ k, k < n → rowAt Ls k = (f k).map qv ∧ (f k).length = T) (k : Nat) (hk : k < n) : ∃ b o a' c', a = some ⟨b, o, none⟩ ∧ b < w.heap.size ∧ w.cell? ⟨b, o + k, none⟩ = some (.slice a' T c') ∧ RdF w (.slice a' T c') ((f k).map qv) := by
  obtain ⟨a0, c0, hv, -, -, hc⟩ := h.opened
  cases hv
  obtain ⟨b, o, a', c', ha, h0, h1, h2⟩ := hc k (by omega)
  rw [(hf k hk).1, List.length_map, (hf k hk).2] at h1 h2
  exact ⟨b, o, a', c', ha, h0, h1, h2⟩
theorem cmp_eq (a b : Int) : (some (compare a b) == some Ordering.eq) = decide (a = b) := by
  by_cases h : a = b
  · subst h; rw [show compare a a = .eq from Int.compare_eq_eq.2 rfl]; simp
  · have : compare a b ≠ .eq := fun e => h (Int.compare_eq_eq.1 e)
    simp [h, this]
def boT (b : Bool) (f : FuncId) (args : Array Value) (v : Value) : Prop := v = .bool b
theorem getD_set_b (us : List Bool) (m j : Nat) (b : Bool) (hm : m < us.length) : (us.set m b).getD j false = if m = j then b else us.getD j false := by
  simp only [List.getD_eq_getElem?_getD, List.getElem?_set]
  by_cases h : m = j
  · subst h; rw [if_pos rfl, if_pos rfl, if_pos hm]; rfl
  · rw [if_neg h, if_neg h]
/-- Trace m is not the one that is looked for. -/
def Miss (g : GQ) (us : List Bool) (k m : Nat) : Prop := ∀ m', m' < m → ¬ (us.getD m' false = false ∧ pAt g.ps m' = sp g k ∧ zAt g.zss m' = sz g k)
theorem Miss.succ {g : GQ} {us : List Bool} {k m : Nat} (h : Miss g us k m) (hm : ¬ (us.getD m false = false ∧ pAt g.ps m = sp g k ∧ zAt g.zss m = sz g k)) : Miss g us k (m + 1) := fun m' hlt => by
  by_cases e : m' = m
  · subst e; exact hm
  · exact h m' (by omega)
theorem Miss.no {g : GQ} {us : List Bool} {k : Nat} (h : Miss g us k g.ps.length) (hm : Mat g (fun j => us.getD j false) k) (hk : k < g.ps.length) : False := by
  obtain ⟨m, h1, h2, h3⟩ := hm.some hk
  unfold prA at h3
  exact h m h1 ⟨h2, (Prod.mk.inj h3).1, (Prod.mk.inj h3).2⟩
theorem Mat.hit {g : GQ} {us : List Bool} {k m : Nat} (h : Mat g (fun j => us.getD j false) k) (hk : k < g.ps.length) (hm : m < g.ps.length) (hl : us.length = g.ps.length) (h0 : us.getD m false = false) (h1 : pAt g.ps m = sp g k) (h2 : zAt g.zss m = sz g k) : Mat g (fun j => (us.set m true).getD j false) (k + 1) :=
  h.next hk hm h0 (by show (us.set m true).getD m false = true; rw [getD_set_b _ _ _ _ (by omega), if_pos rfl]) (fun j hj => by show (us.set m true).getD j false = us.getD j false; rw [getD_set_b _ _ _ _ (by omega), if_neg (fun e => hj e.symm)]) (by unfold prA; rw [h1, h2]; rfl)
def MaxOf (t m : Nat) : Prop := (FloatKind.f32.format.order t (t ^^^ 2147483648) = some .lt ∧ m = t ^^^ 2147483648) ∨ (FloatKind.f32.format.order t (t ^^^ 2147483648) = some .gt ∧ m = t) ∨ (FloatKind.f32.format.order t (t ^^^ 2147483648) = some .eq ∧ (FloatKind.f32.decode t).neg = false ∧ m = t)
instance (t m : Nat) : Decidable (MaxOf t m) := by unfold MaxOf; infer_instance
theorem max_hV (z : Int) (h0 : -4 ≤ z) (h1 : z ≤ 12) : MaxOf (hV z) (hV z.natAbs) := by
  have key : ∀ i : Fin 17, MaxOf (hV ((i.1 : Int) - 4)) (hV (((i.1 : Int) - 4).natAbs : Int)) := by decide +kernel
  have := key ⟨(z + 4).toNat, by omega⟩
  simp only at this
  rwa [show (((z + 4).toNat : Nat) : Int) - 4 = z by omega] at this
theorem run_negF {P : Program} (w : World) (x : Nat) : (Op.unary .neg (.float .f32 x)).run P w = .ok (.float .f32 (x ^^^ 2147483648)) w := rfl
theorem run_maxOf {P : Program} (w : World) {ats : Array TypeId} {ty : TypeId} {t m : Nat} (h : MaxOf t m) : (Builtin.max_ ats ty #[.float .f32 t, .float .f32 (t ^^^ 2147483648)]).run P w = .ok (.float .f32 m) w := by
  have e : Builtin.max_ ats ty #[.float .f32 t, .float .f32 (t ^^^ 2147483648)] = Builtin.max2 (.float .f32 t) (.float .f32 (t ^^^ 2147483648)) := by simp [Builtin.max_]
  rw [e]
  unfold Builtin.max2
  rcases h with ⟨h, rfl⟩ | ⟨h, rfl⟩ | ⟨h, h2, rfl⟩
  · simp only [h]; rfl
  · simp only [h]; rfl
  · simp only [h, h2]; rfl
/-- Twice the size of a place. -/
def fstV (z : Int) : Nat := fop .mul .f32 1073741824 (hV z.natAbs)
theorem fst_all : ((List.range 17).all fun z => !isN .f32 (fstV ((z : Int) - 4)) && (List.range 12).all fun k =>
    ((FloatKind.f32.format.order (floatOfInt .f32 (k : Nat)) (fstV ((z : Int) - 4)) == some Ordering.lt) == decide ((k : Int) < ((z : Int) - 4).natAbs)) &&
    ((FloatKind.f32.format.order (floatOfInt .f32 (k : Nat)) (fstV ((z : Int) - 4)) == some Ordering.gt || FloatKind.f32.format.order (floatOfInt .f32 (k : Nat)) (fstV ((z : Int) - 4)) == some Ordering.eq) == !decide ((k : Int) < ((z : Int) - 4).natAbs))) = true := by decide +kernel
theorem fst_is (z : Int) (h : -4 ≤ z ∧ z ≤ 12) : isN .f32 (fstV z) = false ∧ ∀ k, k < 12 → (FloatKind.f32.format.order (floatOfInt .f32 (k : Nat)) (fstV z) == some Ordering.lt) = decide ((k : Int) < z.natAbs) ∧ (FloatKind.f32.format.order (floatOfInt .f32 (k : Nat)) (fstV z) == some Ordering.gt || FloatKind.f32.format.order (floatOfInt .f32 (k : Nat)) (fstV z) == some Ordering.eq) = !decide ((k : Int) < z.natAbs) := by
  have h1 := List.all_eq_true.1 fst_all (z + 4).toNat (List.mem_range.2 (by omega))
  rw [show (((z + 4).toNat : Nat) : Int) - 4 = z by omega, Bool.and_eq_true] at h1
  refine ⟨by simpa using h1.1, fun k hk => ?_⟩
  have h2 := List.all_eq_true.1 h1.2 k (List.mem_range.2 hk)
  rw [Bool.and_eq_true] at h2
  exact ⟨by simpa using h2.1, by simpa using h2.2⟩
/-- What stands muted. -/
theorem mut_row (g : GQ) (h : g.ok) (k : Nat) (hk : k < g.ps.length) : (mutF g.tm 1056964608 k).length = g.T ∧ ∀ t, t < g.T → (mutF g.tm 1056964608 k).getD t 0 = if (t : Int) < (pAt g.ps k).natAbs then 0 else qv ((zAt g.zss k).getD t 0) := by
  have e1 : rowAt g.tm.Ls k = (zAt g.zss k).map qv := rowAt_qv g.zss k
  have e2 : g.tm.P.getD k 0 = hV (pAt g.ps k) := getD_hV g.ps k
  have hr := h.row k hk
  have t1 := h.t1
  unfold mutF
  rw [e1, e2]
  refine ⟨by rw [mutTo_length, List.length_map, hr.1], fun t ht => ?_⟩
  rw [mutTo_getD _ _ _ _ (by rw [List.length_map, hr.1]; exact ht), List.length_map, hr.1, early_is _ (pAt_ok h.pz k) t (by omega)]
  have e3 : ((zAt g.zss k).map qv).getD t 0 = qv ((zAt g.zss k).getD t 0) := by simp [List.getD_eq_getElem?_getD, List.getElem?_map, List.getElem?_eq_getElem (show t < (zAt g.zss k).length by omega)]
  rw [e3]
  by_cases hh : (t : Int) < (pAt g.ps k).natAbs
  · rw [if_pos ⟨ht, by simpa using hh⟩, if_pos hh]
  · rw [if_neg (fun q => hh (by simpa using q.2)), if_neg hh]
theorem rows_at {w : World} {a : Option Addr} {n c T : Nat} {Ls : List (List Nat)} {F : Nat → List Nat} (h : RdSS w (.slice a n c) Ls) (hP : Ls.length = n) (hf : ∀ k, k < n → rowAt Ls k = F k ∧ (F k).length = T) (k : Nat) (hk : k < n) : ∃ b o a' c', a = some ⟨b, o, none⟩ ∧ b < w.heap.size ∧ w.cell? ⟨b, o + k, none⟩ = some (.slice a' T c') ∧ RdF w (.slice a' T c') (F k) := by
  obtain ⟨a0, c0, hv, -, -, hc⟩ := h.opened
  cases hv
  obtain ⟨b, o, a', c', ha, h0, h1, h2⟩ := hc k (by omega)
  rw [(hf k hk).1, (hf k hk).2] at h1 h2
  exact ⟨b, o, a', c', ha, h0, h1, h2⟩
theorem doL_row (F : Nat → List Nat) (n k : Nat) (h : k < n) : rowAt (doL F n) k = F k := by
  simp [rowAt, doL, List.getD_eq_getElem?_getD, List.getElem?_map, List.getElem?_range h]
theorem elem_at {w : World} {a : Option Addr} {n c x : Nat} {L : List Nat} (h : RdF w (.slice a n c) L) (hL : L.length = n) (t : Nat) (ht : t < n) (hx : L.getD t 0 = x) (hn : isN .f32 x = false) : ∃ b o, a = some ⟨b, o, none⟩ ∧ b < w.heap.size ∧ w.cell? ⟨b, o + t, none⟩ = some (.float .f32 x) := by
  obtain ⟨a', c', hv, -, -, hc⟩ := h.opened
  cases hv
  obtain ⟨b, o, r, ha, h1, h2⟩ := hc t (by omega)
  rw [hx] at h2
  obtain rfl := h2.eq_of_not hn
  exact ⟨b, o, ha, block_lt h1, h1⟩
end Go.Proofs.Ytjhbcnmkamkkaaa

/- FnSamples: the plain law: lists of quarters between their numbers; curves of closed numbers; twice a list. -/
namespace Go.Proofs.Ytjhbcnmkamkkaaa
open Go Go.RowKit

theorem Fx.sub {k x y : Nat} {a b0 : Int} (hx : Fx k x a) (hy : Fx k y b0) (hk : k ≤ 140) (h0 : (a - b0).natAbs < 16777216) : ∃ r, Ieee.single.sub x y = some r ∧ Fx k r (a - b0) := by
  obtain ⟨b, hb0⟩ : ∃ b, -b0 = b := ⟨_, rfl⟩
  have h : (a + b).natAbs < 16777216 := by omega
  rw [show a - b0 = a + b by omega]
  obtain ⟨s, m, i, hx1, -, hi0, hi1, hx2⟩ := hx
  obtain ⟨t0, n, j, hy1, -, hj0, hj1, hy20⟩ := hy
  obtain ⟨t, ht⟩ : ∃ t, (!t0) = t := ⟨_, rfl⟩
  have hy2 : sg t n * ((2 ^ (j + 149).toNat : Nat) : Int) = b * ((2 ^ (149 - k) : Nat) : Int) := by
    rw [← hb0, Int.neg_mul, ← hy20, ← ht]
    unfold sg
    cases t0 <;> simp [Int.neg_mul]
  unfold Ieee.Format.sub
  rw [hx1, hy1]
  simp only [Ieee.Datum.opposite, Ieee.Datum.sum, Option.map_some]
  rw [ht]
  rw [signed_eq, signed_eq]
  generalize hb : min i j = base
  have hb0 : -149 ≤ base := by omega
  have hT : (sg s m * ((2 ^ (i - base).toNat : Nat) : Int) + sg t n * ((2 ^ (j - base).toNat : Nat) : Int)) * ((2 ^ (base + 149).toNat : Nat) : Int) = (a + b) * ((2 ^ (149 - k) : Nat) : Int) := by
    rw [Int.add_mul, Int.add_mul, ← hx2, ← hy2, Int.mul_assoc, Int.mul_assoc, ← Int.natCast_mul, ← Int.natCast_mul, ← Nat.pow_add, ← Nat.pow_add]
    have e1 : (i - base).toNat + (base + 149).toNat = (i + 149).toNat := by omega
    have e2 : (j - base).toNat + (base + 149).toNat = (j + 149).toNat := by omega
    rw [e1, e2]
  generalize sg s m * ((2 ^ (i - base).toNat : Nat) : Int) + sg t n * ((2 ^ (j - base).toNat : Nat) : Int) = T at *
  refine ⟨_, rfl, fx_write k _ T.natAbs base (a + b) hk h ?_ (fun _ => hb0) ?_ ?_⟩
  · intro hT0
    have hT1 : T ≠ 0 := by omega
    rw [if_neg hT1]
    have p1 := two_pos (base + 149).toNat
    have p2 := two_pos (149 - k)
    constructor
    · intro hn
      have h3 := Int.mul_neg_of_neg_of_pos hn p2
      rw [← hT] at h3
      have : T < 0 := by
        by_cases h2 : T < 0
        · exact h2
        · have := Int.mul_nonneg (Int.not_lt.1 h2) (Int.le_of_lt p1); omega
      simpa using this
    · intro hd
      have hd : T < 0 := by simpa using hd
      have h3 := Int.mul_neg_of_neg_of_pos hd p1
      rw [hT] at h3
      by_cases h2 : a + b < 0
      · exact h2
      · have := Int.mul_nonneg (Int.not_lt.1 h2) (Int.le_of_lt p2); omega
  · intro _
    rw [← abs_mul, ← abs_mul, hT]
  · intro h0
    have hT0 : T = 0 := by omega
    rw [hT0, Int.zero_mul] at hT
    rcases Int.mul_eq_zero.1 hT.symm with h | h
    · exact h
    · exact absurd h (pow_cast _)
theorem Fx.fopSub {k x y : Nat} {a b : Int} (hx : Fx k x a) (hy : Fx k y b) (hk : k ≤ 140) (h : (a - b).natAbs < 16777216) : Fx k (fop .sub .f32 x y) (a - b) := by
  obtain ⟨r, h1, h2⟩ := hx.sub hy hk h
  have : fop .sub .f32 x y = r := by
    show (Ieee.single.sub x y).getD _ = r
    rw [h1]; rfl
  rw [this]; exact h2

/-- The number at or ahead of t. -/
def tJ (t : Nat) : Nat := (toI .f64 (flo (cwide t))).toNat
/-- A number, zero or neither too small nor too great. -/
def midB (f : Nat) : Bool := match Ieee.single.read f with
  | .number _ m e => decide (-149 ≤ e) && ((m == 0) || decide (2 ^ 123 ≤ m * 2 ^ (e + 149).toNat)) && decide (m * 2 ^ (e + 149).toNat < 2 ^ 150)
  | _ => false
theorem midB_val {f : Nat} (h : midB f = true) : ∃ v, Val f v ∧ (v = 0 ∨ 2 ^ 123 ≤ v.natAbs) ∧ v.natAbs < 2 ^ 150 := by
  unfold midB at h
  cases hr : Ieee.single.read f with
  | nan s t => rw [hr] at h; cases h
  | infinity s => rw [hr] at h; cases h
  | number s m e =>
    rw [hr] at h
    simp only [Bool.and_eq_true, Bool.or_eq_true, decide_eq_true_eq, beq_iff_eq] at h
    obtain ⟨⟨h1, h2⟩, h3⟩ := h
    refine ⟨_, ⟨s, m, e, hr, h1, rfl⟩, ?_, by rw [natAbs_sg]; exact h3⟩
    rcases h2 with h2 | h2
    · left; subst h2; unfold sg; cases s <;> simp
    · right; rw [natAbs_sg]; exact h2
/-- t can be asked for in every short list. -/
def tOk (t : Nat) : Bool := !geqZ t || (!isN .f32 t && (!isN .f64 (cwide t) && (toIOk .f64 (flo (cwide t)) && ((toI .f64 (flo (cwide t)) == (tJ t : Int)) && (!isN .f32 (smpF t (tJ t)) && (midB (smpF t (tJ t)) && (List.range 12).all fun n => !leqN t n || (decide (tJ t < n) && (isZ (smpF t (tJ t)) || decide (tJ t + 1 < n)))))))))
def smpR (L : List Nat) (t : Nat) : Nat := if geqZ t && leqN t L.length then (if isZ (smpF t (tJ t)) then L.getD (tJ t) 0 else smpA L t (tJ t)) else 0
/-- The numbers of a list, in quarters. -/
def Qs (L : List Nat) (z : Nat → Int) : Prop := ∀ j, j < L.length → Fx 2 (L.getD j 0) (z j) ∧ -16 ≤ z j ∧ z j ≤ 16 ∧ Cls .f32 (L.getD j 0)
theorem tOk_at {t n : Nat} (h : tOk t = true) (hn : n < 12) (h1 : geqZ t = true) (h2 : leqN t n = true) : SmpAt n t (tJ t) ∧ midB (smpF t (tJ t)) = true ∧ (isZ (smpF t (tJ t)) = false → tJ t + 1 < n) := by
  unfold tOk at h
  rw [h1] at h
  simp only [Bool.not_true, Bool.false_or, Bool.and_eq_true, Bool.not_eq_true', beq_iff_eq] at h
  obtain ⟨a1, a2, a3, a4, a5, a6, a7⟩ := h
  have a8 := List.all_eq_true.1 a7 n (List.mem_range.2 hn)
  rw [h2] at a8
  simp only [Bool.not_true, Bool.false_or, Bool.and_eq_true, decide_eq_true_eq, Bool.or_eq_true] at a8
  refine ⟨⟨h1, h2, a1, a2, a3, a4, a8.1, a5⟩, a6, fun hz => ?_⟩
  rcases a8.2 with h | h
  · rw [hz] at h; cases h
  · exact h
theorem val_q {x : Nat} {z : Int} (h : Fx 2 x z) : Val x (z * ((2 ^ 147 : Nat) : Int)) := h.val
theorem mul_pow_lt {x y a b c : Nat} (hx : x < 2 ^ a) (hy : y ≤ 2 ^ b) (h : a + b ≤ c) : x * y < 2 ^ c := by
  have h1 : x * y ≤ x * 2 ^ b := Nat.mul_le_mul_left _ hy
  have h2 : x * 2 ^ b < 2 ^ a * 2 ^ b := Nat.mul_lt_mul_of_pos_right hx (Nat.two_pow_pos _)
  rw [← Nat.pow_add] at h2
  exact Nat.lt_of_le_of_lt h1 (Nat.lt_of_lt_of_le h2 (Nat.pow_le_pow_right (by decide) h))
theorem mul_pow_le {x y a b c : Nat} (hx : 2 ^ a ≤ x) (hy : 2 ^ b ≤ y) (h : c ≤ a + b) : 2 ^ c ≤ x * y := by
  have h1 := Nat.mul_le_mul hx hy
  rw [← Nat.pow_add] at h1
  exact Nat.le_trans (Nat.pow_le_pow_right (by decide) h) h1
theorem smp_twice {L L2 : List Nat} {z : Nat → Int} {t : Nat} (hL : Qs L z) (hL2 : Qs L2 fun j => 2 * z j) (hl : L2.length = L.length) (hz8 : ∀ j, j < L.length → -8 ≤ z j ∧ z j ≤ 8) (hn : L.length < 12) (h : tOk t = true) :
    Smp L t (smpR L t) ∧ Smp L2 t (smpR L2 t) ∧ ∃ v, Val (smpR L t) v ∧ Val (smpR L2 t) (2 * v) ∧ (v = 0 ∨ 2 ^ 23 ≤ v.natAbs) ∧ v.natAbs ≤ 2 ^ 160 := by
  unfold smpR
  rw [hl]
  by_cases h1 : geqZ t = true
  · by_cases h2 : leqN t L.length = true
    · obtain ⟨ha, hm, hj⟩ := tOk_at h hn h1 h2
      have ha2 : SmpAt L2.length t (tJ t) := by rw [hl]; exact ha
      rw [h1, h2, Bool.and_self, if_pos rfl, if_pos rfl]
      obtain ⟨q1, q2, q3, q4⟩ := hL _ ha.lt
      obtain ⟨r1, -, -, r4⟩ := hL2 _ (by rw [hl]; exact ha.lt)
      have z8 := hz8 _ ha.lt
      have v1 := val_q q1
      have v2 := val_q r1
      rw [Int.mul_assoc] at v2
      cases hz : isZ (smpF t (tJ t)) with
      | true =>
        rw [if_pos rfl, if_pos rfl]
        refine ⟨.inr (.inl ⟨_, ha, hz, rfl⟩), .inr (.inl ⟨_, ha2, hz, rfl⟩), _, v1, v2, ?_, ?_⟩
        · by_cases h0 : z (tJ t) = 0
          · left; rw [h0, Int.zero_mul]
          · right
            rw [Int.natAbs_mul]
            have : 1 ≤ (z (tJ t)).natAbs := by omega
            have e : ((2 ^ 147 : Nat) : Int).natAbs = 2 ^ 147 := rfl
            rw [e]
            exact Nat.le_trans (Nat.pow_le_pow_right (by decide) (by decide : 23 ≤ 147)) (Nat.le_mul_of_pos_left _ this)
        · rw [Int.natAbs_mul]
          have e : ((2 ^ 147 : Nat) : Int).natAbs = 2 ^ 147 := rfl
          rw [e]
          have : (z (tJ t)).natAbs ≤ 2 ^ 4 := by omega
          exact Nat.le_trans (Nat.mul_le_mul_right _ this) (by rw [← Nat.pow_add]; exact Nat.pow_le_pow_right (by decide) (by decide))
      | false =>
        have hj1 := hj hz
        have hz' : ¬ (false = true) := by decide
        rw [if_neg hz', if_neg hz']
        obtain ⟨p1, p2, p3, -⟩ := hL _ hj1
        obtain ⟨s1, -, -, -⟩ := hL2 (tJ t + 1) (by rw [hl]; exact hj1)
        have y8 := hz8 _ hj1
        have d1 : Fx 2 (smpD L (tJ t)) (z (tJ t + 1) - z (tJ t)) := p1.fopSub q1 (by decide) (by omega)
        have d2 : Fx 2 (smpD L2 (tJ t)) (2 * (z (tJ t + 1) - z (tJ t))) := by
          have s1' : Fx 2 (L2.getD (tJ t + 1) 0) (2 * z (tJ t + 1)) := s1
          have r1' : Fx 2 (L2.getD (tJ t) 0) (2 * z (tJ t)) := r1
          have := s1'.fopSub r1' (by decide) (by omega)
          rwa [show 2 * z (tJ t + 1) - 2 * z (tJ t) = 2 * (z (tJ t + 1) - z (tJ t)) by omega] at this
        generalize hD : z (tJ t + 1) - z (tJ t) = D at *
        have hDb : D.natAbs ≤ 16 := by omega
        have w1 := val_q d1
        have w2 := val_q d2
        rw [Int.mul_assoc] at w2
        obtain ⟨f, f1, f2, f3⟩ := midB_val hm
        have e147 : ((2 ^ 147 : Nat) : Int).natAbs = 2 ^ 147 := rfl
        have hfa : (f * (D * ((2 ^ 147 : Nat) : Int))).natAbs = f.natAbs * (D.natAbs * 2 ^ 147) := by rw [Int.natAbs_mul, Int.natAbs_mul, e147]
        obtain ⟨b3, hb3⟩ : ∃ b : Nat, b = 302 := ⟨_, rfl⟩
        have hup : f.natAbs * (D.natAbs * 2 ^ 147) < 2 ^ b3 := by
          have g1 : D.natAbs * 2 ^ 147 ≤ 2 ^ 4 * 2 ^ 147 := Nat.mul_le_mul_right _ (by omega)
          rw [← Nat.pow_add] at g1
          exact mul_pow_lt f3 g1 (by omega)
        obtain ⟨c3, hc3⟩ : ∃ c : Nat, c = 270 := ⟨_, rfl⟩
        have hlow : f * (D * ((2 ^ 147 : Nat) : Int)) = 0 ∨ 2 ^ c3 ≤ f.natAbs * (D.natAbs * 2 ^ 147) := by
          rcases f2 with h0 | h0
          · left; rw [h0, Int.zero_mul]
          · by_cases hD0 : D = 0
            · left; rw [hD0, Int.zero_mul, Int.mul_zero]
            · right
              have g1 : 1 * 2 ^ 147 ≤ D.natAbs * 2 ^ 147 := Nat.mul_le_mul_right _ (by omega)
              rw [Nat.one_mul] at g1
              exact mul_pow_le h0 g1 (by omega)
        obtain ⟨m, m1, m2, m3, m4, m5⟩ := dbl_mul (b := b3) f1 w1 w2 (by
          rcases hlow with h | h
          · exact .inl h
          · right; rw [hfa]; exact Nat.le_trans (Nat.pow_le_pow_right (by decide) (by omega)) h) (by omega) (by rw [hfa]; exact hup)
        have hmb := m5 (by omega)
        rw [show b3 - 149 = 153 by omega] at hmb
        have hmq : ∃ q : Int, m = q * ((2 ^ 98 : Nat) : Int) := by
          rcases hlow with h | h
          · exact ⟨0, by rw [m4 h, Int.zero_mul]⟩
          · obtain ⟨c9, h9⟩ : ∃ c : Nat, c = 98 := ⟨_, rfl⟩
            have g1 := m3 c9 (by omega) (by rw [hfa]; exact Nat.le_trans (Nat.pow_le_pow_right (by decide) (by omega)) h)
            rwa [h9] at g1
        obtain ⟨q, hq⟩ := hmq
        have e98 : ((2 ^ 147 : Nat) : Int) = ((2 ^ 49 : Nat) : Int) * ((2 ^ 98 : Nat) : Int) := by rw [← Int.natCast_mul, ← Nat.pow_add]
        have hsum : z (tJ t) * ((2 ^ 147 : Nat) : Int) + m = (z (tJ t) * ((2 ^ 49 : Nat) : Int) + q) * ((2 ^ 98 : Nat) : Int) := by
          rw [hq, e98, ← Int.mul_assoc, ← Int.add_mul]
        have hzb : (z (tJ t) * ((2 ^ 147 : Nat) : Int)).natAbs ≤ 2 ^ 151 := by
          rw [Int.natAbs_mul, e147]
          exact Nat.le_trans (Nat.mul_le_mul_right _ (show (z (tJ t)).natAbs ≤ 2 ^ 4 by omega)) (by rw [← Nat.pow_add]; exact Nat.le_refl _)
        have hsb : (z (tJ t) * ((2 ^ 147 : Nat) : Int) + m).natAbs < 2 ^ 155 := by
          have g1 := Int.natAbs_add_le (z (tJ t) * ((2 ^ 147 : Nat) : Int)) m
          have g2 : (2 : Nat) ^ 151 + 2 ^ 153 < 2 ^ 155 := by decide
          omega
        obtain ⟨v, a1, a2, a3, a4⟩ := dbl_add (bd := 155) v1 m1 v2 m2 (by
          rw [hsum]
          by_cases h0 : z (tJ t) * ((2 ^ 49 : Nat) : Int) + q = 0
          · left; rw [h0, Int.zero_mul]
          · right
            rw [Int.natAbs_mul]
            have e : ((2 ^ 98 : Nat) : Int).natAbs = 2 ^ 98 := rfl
            rw [e]
            exact Nat.le_trans (Nat.pow_le_pow_right (by decide) (by decide : 23 ≤ 98)) (Nat.le_mul_of_pos_left _ (by omega))) (by decide) hsb
        refine ⟨.inr (.inr ⟨_, ha, hz, hj1, d1.notNan, m1.notNan, a1.notNan, rfl⟩), .inr (.inr ⟨_, ha2, hz, by rw [hl]; exact hj1, d2.notNan, m2.notNan, a2.notNan, rfl⟩), v, a1, a2, a3, Nat.le_trans a4 (Nat.pow_le_pow_right (by decide) (by decide))⟩
    · have h2' : leqN t L.length = false := by simpa using h2
      rw [h2', Bool.and_false]
      refine ⟨.inl ⟨.inr ⟨h1, h2'⟩, rfl⟩, .inl ⟨.inr ⟨h1, by rw [hl]; exact h2'⟩, rfl⟩, 0, (Fx.zero 0).val, (Fx.zero 0).val, .inl rfl, Nat.zero_le _⟩
  · have h1' : geqZ t = false := by simpa using h1
    rw [h1', Bool.false_and]
    exact ⟨.inl ⟨.inl h1', rfl⟩, .inl ⟨.inl h1', rfl⟩, 0, (Fx.zero 0).val, (Fx.zero 0).val, .inl rfl, Nat.zero_le _⟩
end Go.Proofs.Ytjhbcnmkamkkaaa

/- FnSamples: tables of closed curves. -/
namespace Go.Proofs.Ytjhbcnmkamkkaaa
open Go Go.RowKit

def fI (k : Nat) : Nat := floatOfInt .f32 (k : Nat)
def cT (k p : Nat) : Nat := crv (fI k) (hV (p : Nat)) 1069547520
def hT (k : Nat) : Nat := fop .add .f32 (fI k) 1056964608
theorem tab_curve : ((List.range 12).all fun k => (List.range 12).all fun p => crvOk (fI k) (hV (p : Nat)) 1069547520 && tOk (cT k p)) = true := by decide +kernel
theorem cT_ok (k p : Nat) (hk : k < 12) (hp : p < 12) : crvOk (fI k) (hV (p : Nat)) 1069547520 = true ∧ tOk (cT k p) = true := by
  have := List.all_eq_true.1 (List.all_eq_true.1 tab_curve k (List.mem_range.2 hk)) p (List.mem_range.2 hp)
  rwa [Bool.and_eq_true] at this
/-- Whole numbers, and halves. -/
def intB (k : Nat) : Bool := tOk (fI k) && (geqZ (fI k) && (isZ (smpF (fI k) (tJ (fI k))) && ((tJ (fI k) == k) && (List.range 12).all fun n => leqN (fI k) n == decide (k < n))))
theorem tab_int : ((List.range 12).all fun k => intB k && (crvOk (fI k) 0 1065353216 && ((crv (fI k) 0 1065353216 == fI k) && (bndOk (fI k) 0 1065353216 && ((rootF (bndD (fI k) 0 1065353216) == fI k) && (fop .sub .f32 (fI k) 0 == fI k)))))) = true := by decide +kernel
theorem fI_ok (k : Nat) (hk : k < 12) : (tOk (fI k) = true ∧ geqZ (fI k) = true ∧ isZ (smpF (fI k) (tJ (fI k))) = true ∧ tJ (fI k) = k ∧ ∀ n, n < 12 → leqN (fI k) n = decide (k < n)) ∧
    crvOk (fI k) 0 1065353216 = true ∧ crv (fI k) 0 1065353216 = fI k ∧ bndOk (fI k) 0 1065353216 = true ∧ rootF (bndD (fI k) 0 1065353216) = fI k ∧ fop .sub .f32 (fI k) 0 = fI k := by
  have h := List.all_eq_true.1 tab_int k (List.mem_range.2 hk)
  unfold intB at h
  simp only [Bool.and_eq_true, beq_iff_eq] at h
  obtain ⟨⟨a1, a2, a3, a4, a5⟩, b1, b2, b3, b4, b5⟩ := h
  refine ⟨⟨a1, a2, a3, a4, fun n hn => ?_⟩, b1, b2, b3, b4, b5⟩
  have := List.all_eq_true.1 a5 n (List.mem_range.2 hn)
  simpa using this
theorem tab_half : ((List.range 10).all fun k => tOk (hT k) && (geqZ (hT k) && (!isZ (smpF (hT k) (tJ (hT k))) && ((tJ (hT k) == k) && ((smpF (hT k) k == 1056964608) && (List.range 12).all fun n => leqN (hT k) n == decide (k + 1 < n)))))) = true := by decide +kernel
theorem hT_ok (k : Nat) (hk : k < 10) : tOk (hT k) = true ∧ geqZ (hT k) = true ∧ isZ (smpF (hT k) (tJ (hT k))) = false ∧ tJ (hT k) = k ∧ smpF (hT k) k = 1056964608 ∧ ∀ n, n < 12 → leqN (hT k) n = decide (k + 1 < n) := by
  have h := List.all_eq_true.1 tab_half k (List.mem_range.2 hk)
  simp only [Bool.and_eq_true, beq_iff_eq, Bool.not_eq_true'] at h
  obtain ⟨a1, a2, a3, a4, a5, a6⟩ := h
  refine ⟨a1, a2, a3, a4, a5, fun n hn => ?_⟩
  have := List.all_eq_true.1 a6 n (List.mem_range.2 hn)
  simpa using this
/-- Where events stand. -/
def tA (k p : Nat) : Nat := (toI .f64 (evA (fI k) (hV (p : Nat)) 1065353216)).toNat
theorem tab_event : ((List.range 10).all fun k => (List.range 12).all fun p => crvOk (fI k) (hV (p : Nat)) 1065353216 && (!isN .f32 (evC (fI k) (hV (p : Nat)) 1065353216) && (!isN .f64 (cwide (evC (fI k) (hV (p : Nat)) 1065353216)) &&
    (toIOk .f64 (evA (fI k) (hV (p : Nat)) 1065353216) && ((toI .f64 (evA (fI k) (hV (p : Nat)) 1065353216) == (tA k p : Int)) && ((!(p == 0) || tA k p == k) && (List.range 12).all fun n => (FloatKind.f64.format.order (evA (fI k) (hV (p : Nat)) 1065353216) (floatOfInt .f64 (n : Nat)) == some Ordering.lt) == decide (tA k p < n))))))) = true := by decide +kernel
theorem event_ok (k p : Nat) (hk : k < 10) (hp : p < 12) : EvOk (fI k) (hV (p : Nat)) 1065353216 ∧ toIOk .f64 (evA (fI k) (hV (p : Nat)) 1065353216) = true ∧ toI .f64 (evA (fI k) (hV (p : Nat)) 1065353216) = (tA k p : Int) ∧ (p = 0 → tA k p = k) ∧
    ∀ n, n < 12 → (FloatKind.f64.format.order (evA (fI k) (hV (p : Nat)) 1065353216) (floatOfInt .f64 (n : Nat)) == some Ordering.lt) = decide (tA k p < n) := by
  have h := List.all_eq_true.1 (List.all_eq_true.1 tab_event k (List.mem_range.2 hk)) p (List.mem_range.2 hp)
  simp only [Bool.and_eq_true, beq_iff_eq, Bool.not_eq_true', Bool.or_eq_true] at h
  obtain ⟨a1, a2, a3, a4, a5, a6, a7⟩ := h
  refine ⟨⟨a1, a2, a3⟩, a4, a5, fun hp0 => ?_, fun n hn => ?_⟩
  · rcases a6 with h | h
    · simp at h; exact absurd hp0 h
    · exact h
  · have := List.all_eq_true.1 a7 n (List.mem_range.2 hn)
    simpa using this
end Go.Proofs.Ytjhbcnmkamkkaaa

/- FnSamples: the plain law: twice a list; order of values; the last small things. -/
namespace Go.Proofs.Ytjhbcnmkamkkaaa
open Go Go.RowKit

theorem atQ_fx (zs : List Int) (hz : ∀ z ∈ zs, -8 ≤ z ∧ z ≤ 8) (i : Nat) : Fx 2 ((zs.map qv).getD i 0) (zs.getD i 0) ∧ -8 ≤ zs.getD i 0 ∧ zs.getD i 0 ≤ 8 := by
  by_cases h : i < zs.length
  · have e1 : (zs.map qv).getD i 0 = qv zs[i] := by simp [List.getD_eq_getElem?_getD, List.getElem?_map, List.getElem?_eq_getElem h]
    have e2 : zs.getD i 0 = zs[i] := by simp [List.getD_eq_getElem?_getD, List.getElem?_eq_getElem h]
    obtain ⟨a, b⟩ := hz _ (List.getElem_mem h)
    rw [e1, e2]
    exact ⟨(qv_fx _ a b).1, a, b⟩
  · have e1 : (zs.map qv).getD i 0 = 0 := by rw [List.getD_eq_getElem?_getD, List.getElem?_eq_none (by simp; omega)]; rfl
    have e2 : zs.getD i 0 = 0 := by rw [List.getD_eq_getElem?_getD, List.getElem?_eq_none (by omega)]; rfl
    rw [e1, e2]
    exact ⟨Fx.zero 2, by decide, by decide⟩
theorem Val.order {x y : Nat} {a b : Int} (hx : Val x a) (hy : Val y b) : Ieee.single.order x y = some (compare a b) := by
  obtain ⟨s, m, i, hx1, hi0, hx2⟩ := hx
  obtain ⟨t, n, j, hy1, hj0, hy2⟩ := hy
  unfold Ieee.Format.order
  rw [hx1, hy1]
  simp only [Ieee.Datum.order]
  rw [signed_eq, signed_eq]
  generalize hb : min i j = base
  have hb0 : -149 ≤ base := by omega
  rw [← compare_scale (sg s m * ((2 ^ (i - base).toNat : Nat) : Int)) _ _ (two_pos (base + 149).toNat), ← hx2, ← hy2]
  congr 1
  have e1 : (i - base).toNat + (base + 149).toNat = (i + 149).toNat := by omega
  have e2 : (j - base).toNat + (base + 149).toNat = (j + 149).toNat := by omega
  rw [Int.mul_assoc, ← Int.natCast_mul, ← Nat.pow_add, e1, Int.mul_assoc, ← Int.natCast_mul, ← Nat.pow_add, e2]
theorem Val.same {x y : Nat} {a : Int} (hx : Val x a) (hy : Val y a) : FloatKind.f32.format.order x y = some .eq := by
  have := hx.order hy
  rw [Int.compare_eq_eq.2 rfl] at this
  exact this
def dq (z : Int) : Nat := fop .mul .f32 1073741824 (qv z)
theorem dq_fx (z : Int) (h0 : -8 ≤ z) (h1 : z ≤ 8) : Fx 2 (dq z) (2 * z) ∧ Cls .f32 (dq z) := by
  have h2 : Fx 0 1073741824 2 := Fx.of (by decide +kernel)
  have := h2.fopMul (qv_fx z h0 h1).1 (by decide) (by omega)
  exact ⟨this, fop_cls⟩
theorem qs_one (zs : List Int) (hz : ∀ z ∈ zs, -8 ≤ z ∧ z ≤ 8) : Qs (zs.map qv) fun j => zs.getD j 0 := by
  intro j hj
  rw [List.length_map] at hj
  obtain ⟨h1, h2, h3⟩ := atQ_fx zs hz j
  refine ⟨h1, by show -16 ≤ zs.getD j 0; omega, by show zs.getD j 0 ≤ 16; omega, ?_⟩
  rw [List.getD_eq_getElem?_getD, List.getElem?_map, List.getElem?_eq_getElem hj]
  exact fop_cls
theorem qs_two (zs : List Int) (hz : ∀ z ∈ zs, -8 ≤ z ∧ z ≤ 8) : Qs (zs.map dq) fun j => 2 * zs.getD j 0 := by
  intro j hj
  show Fx 2 _ (2 * zs.getD j 0) ∧ -16 ≤ 2 * zs.getD j 0 ∧ 2 * zs.getD j 0 ≤ 16 ∧ _
  rw [List.length_map] at hj
  have hm := hz _ (List.getElem_mem hj)
  rw [List.getD_eq_getElem?_getD, List.getElem?_map, List.getElem?_eq_getElem hj, List.getD_eq_getElem?_getD (l := zs), List.getElem?_eq_getElem hj]
  obtain ⟨h1, h2⟩ := dq_fx zs[j] hm.1 hm.2
  exact ⟨h1, by show -16 ≤ 2 * zs[j]; omega, by show 2 * zs[j] ≤ 16; omega, h2⟩
theorem zs_bound (zs : List Int) (hz : ∀ z ∈ zs, -8 ≤ z ∧ z ≤ 8) (n : Nat) : ∀ j, j < n → -8 ≤ zs.getD j 0 ∧ zs.getD j 0 ≤ 8 := fun j _ => (atQ_fx zs hz j).2
theorem smpR_cls (L : List Nat) (z : Nat → Int) (t : Nat) (hL : Qs L z) : Cls .f32 (smpR L t) := by
  unfold smpR
  split
  · split
    · by_cases h : tJ t < L.length
      · exact (hL _ h).2.2.2
      · rw [List.getD_eq_getElem?_getD, List.getElem?_eq_none (by omega)]
        exact ⟨by decide, by decide +kernel⟩
    · exact fop_cls
  · exact ⟨by decide, by decide +kernel⟩
/-- What the law compares: the doubled list's number against twice the list's. -/
theorem twice_same (zs : List Int) (hz : ∀ z ∈ zs, -8 ≤ z ∧ z ≤ 8) (hn : zs.length < 12) (t : Nat) (h : tOk t = true) :
    Smp (zs.map qv) t (smpR (zs.map qv) t) ∧ Smp (zs.map dq) t (smpR (zs.map dq) t) ∧ isN .f32 (smpR (zs.map qv) t) = false ∧ isN .f32 (smpR (zs.map dq) t) = false ∧
      FloatKind.f32.format.order (smpR (zs.map dq) t) (fop .mul .f32 1073741824 (smpR (zs.map qv) t)) = some .eq ∧ isN .f32 (fop .mul .f32 1073741824 (smpR (zs.map qv) t)) = false := by
  obtain ⟨h1, h2, v, h3, h4, h5, h6⟩ := smp_twice (qs_one zs hz) (qs_two zs hz) (by rw [List.length_map, List.length_map]) (zs_bound zs hz _) (by rw [List.length_map]; exact hn) h
  have h7 := dbl_two h3 h5 161 (by decide) (Nat.lt_of_le_of_lt h6 (Nat.pow_lt_pow_right (by decide) (by decide)))
  exact ⟨h1, h2, h3.notNan, h4.notNan, h4.same h7, h7.notNan⟩
set_option maxRecDepth 100000 in
set_option maxHeartbeats 400000 in
theorem r8AtOne_any (w : World) (v : Value) (n : Nat) (i : Int) (hy : RdY w v n) (hn : n ≤ 1048576) (hi : 0 ≤ i) (hi2 : i ≤ 1000) :
    Calls Try.prog 8 #[v, .int .i64 i, .int .i64 1] w fun e w' => e = .returned (.int .i64 0) ∧ w' = w := by
  obtain ⟨a, c, rfl, hc, hcell⟩ := hy.opened
  clear hy
  by_cases hlt : i < (n : Int)
  · have hd2 : decide (i ≥ (n : Int)) = false := by simp; omega
    clear hcell
    go_enter Try.func8, Try.ntmps8
    go_wp2
    go_ret
    exact ⟨rfl, rfl⟩
  · have hd2 : decide (i ≥ (n : Int)) = true := by simp; omega
    clear hcell
    go_enter Try.func8, Try.ntmps8
    go_wp2
    go_ret
    exact ⟨rfl, rfl⟩
/-- Both draws in one. -/
theorem r8AtPos_any (w : World) (v : Value) (n : Nat) (i m : Int) (hy : RdY w v n) (hn : n ≤ 1048576) (hi : 0 ≤ i) (hi2 : i ≤ 1000) (hm : 1 ≤ m) (hm2 : m ≤ 1000) :
    Calls Try.prog 8 #[v, .int .i64 i, .int .i64 m] w fun e w' => ∃ r : Int, e = .returned (.int .i64 r) ∧ 0 ≤ r ∧ r < m ∧ w' = w := by
  by_cases h : m = 1
  · subst h
    refine (r8AtOne_any w v n i hy hn hi hi2).mono ?_
    rintro e w1 ⟨rfl, rfl⟩
    exact ⟨0, rfl, by decide, by decide, rfl⟩
  · exact r8At_any w v n i m hy hn hi hi2 (by omega) hm2
end Go.Proofs.Ytjhbcnmkamkkaaa

/- FnSamples: an event in a flat gather of three places. -/
namespace Go.Proofs.Ytjhbcnmkamkkaaa
open Go Go.RowKit

theorem run_fine {P : Program} (op : BinOp) (h : op = .add ∨ op = .sub ∨ op = .mul ∨ op = .quo) (w : World) (t : TypeId) (x y : Nat) (hn : isN .f32 (fop op .f32 x y) = false) :
    (binOp op t (.float .f32 x) (.float .f32 y)).run P w = .ok (.float .f32 (fop op .f32 x y)) w := by
  rw [run_fop op h]
  cases hq : floatBits op .f32 x y with
  | none =>
    unfold fop at hn
    rw [hq, Option.getD_none, isN_nanC] at hn
    cases hn
  | some r =>
    unfold fres fop fcnt
    rw [hq]
    rfl
/-- A gather's box. -/
theorem box3 {w wq : World} {b : Nat} {x y z : Value} (h : w.heap[b]? = some (.cells #[x, y, z] 59 (0, 0))) (hx : Ext w wq) : wq.cell? ⟨b, 0, none⟩ = some x ∧ wq.cell? ⟨b, 1, none⟩ = some y ∧ wq.cell? ⟨b, 2, none⟩ = some z := by
  have hb := (Array.getElem?_eq_some_iff.1 h).1
  obtain ⟨k0, k1, k2, -, -, -⟩ := blk3 ((hx.block b hb).trans h)
  exact ⟨k0, k1, k2⟩
def plS (p : Nat) : List Nat := [0, 1065353216, hV (p : Nat)]
def tpS (p i : Nat) : Nat := if i = 0 then 0 else if i = 1 then 2 else p
theorem tpS_lt {p i : Nat} (hp : p < 12) : tpS p i < 12 := by unfold tpS; split; · decide
                                                              split <;> omega
theorem plS_at (p i : Nat) (hi : i < 3) : (plS p).getD i 0 = hV (tpS p i : Nat) := by
  match i, hi with
  | 0, _ => show 0 = hV 0; decide +kernel
  | 1, _ => show 1065353216 = hV 2; decide +kernel
  | 2, _ => rfl
theorem plS_fin (p : Nat) (hp : p < 12) : allB (fin .f32) (plS p) = true := by
  unfold allB allTo
  rw [List.all_eq_true]
  intro i hi
  rw [plS_at p i (by simpa [plS] using hi)]
  exact hV_fin ⟨by omega, by have := tpS_lt (i := i) hp; omega⟩
def evR (n t : Nat) : List Nat := if t < n then (List.replicate n 0).set t 1077936128 else List.replicate n 0
theorem evR_length (n t : Nat) : (evR n t).length = n := by unfold evR; split <;> simp
theorem evR_at (n t j : Nat) (hj : j < n) : (evR n t).getD j 0 = if t = j then 1077936128 else 0 := by
  unfold evR
  rw [List.getD_eq_getElem?_getD]
  split
  · rw [List.getElem?_set]
    by_cases h : t = j
    · subst h; simp [hj]
    · simp [h, hj, List.getElem?_replicate]
  · have h : t ≠ j := by omega
    simp [h, hj, List.getElem?_replicate]
def tmS (n p : Nat) : TM := ⟨n, plS p, List.replicate 3 (List.replicate n 0)⟩
def evF (n k p i : Nat) : List Nat := evR n (tA k (tpS p i))
def tmE (n k p : Nat) : TM := ⟨n, plS p, doL (evF n k p) 3⟩
theorem rowAt_rep (n i : Nat) (hi : i < 3) : rowAt (List.replicate 3 (List.replicate n 0)) i = List.replicate n 0 := by
  unfold rowAt
  rw [List.getD_eq_getElem?_getD, List.getElem?_replicate, if_pos hi, Option.getD_some]
theorem rowAt_ev (n k p i : Nat) (hi : i < 3) : rowAt (doL (evF n k p) 3) i = evF n k p i := by
  unfold rowAt doL
  rw [List.getD_eq_getElem?_getD, List.getElem?_map, List.getElem?_range hi]
  rfl
theorem placesS (p : Nat) (hp : p < 12) : placesB (plS p) = true := by
  unfold placesB
  rw [plS_fin p hp]
  rfl
theorem valid_tmS (n p : Nat) (h1 : 1 ≤ n) (hn : n < 12) (hp : p < 12) : validT (tmS n p) = true := by
  have h2 : rowsTo (List.replicate 3 (List.replicate n 0)) n 3 = true := by
    unfold rowsTo
    rw [List.all_eq_true]
    intro i hi
    rw [rowAt_rep n i (by simpa using hi), List.length_replicate]
    simp
  unfold validT tmS
  simp only [List.length_replicate]
  rw [placesS p hp, h2]
  simp [plS]; omega
theorem valid_tmE (n k p : Nat) (h1 : 1 ≤ n) (hn : n < 12) (hp : p < 12) : validT (tmE n k p) = true := by
  have h2 : rowsTo (doL (evF n k p) 3) n 3 = true := by
    unfold rowsTo
    rw [List.all_eq_true]
    intro i hi
    rw [rowAt_ev n k p i (by simpa using hi)]
    unfold evF
    rw [evR_length]
    simp
  unfold validT tmE
  simp only [doL_length]
  rw [placesS p hp, h2]
  simp [plS]; omega
theorem evAllS (n k p : Nat) (hn : n < 12) (hk : k < 10) (hp : p < 12) : EvtAll (tmS n p) (fI k) 1065353216 1077936128 (evF n k p) := by
  intro i hi
  have hi3 : i < 3 := hi
  have e1 : (tmS n p).P.getD i 0 = hV (tpS p i : Nat) := plS_at p i hi3
  have e2 : rowAt (tmS n p).Ls i = List.replicate n 0 := rowAt_rep n i hi3
  rw [e1, e2]
  obtain ⟨a1, a2, a3, a4, a5⟩ := event_ok k (tpS p i) hk (tpS_lt hp)
  refine ⟨a1, hV_notNan ⟨by omega, by have := tpS_lt (i := i) hp; omega⟩, ?_, by unfold evF; rw [evR_length]; omega, ?_⟩
  · unfold Evt
    rw [List.length_replicate, a5 n hn]
    by_cases h : tA k (tpS p i) < n
    · refine .inr ⟨tA k (tpS p i), by simpa using h, a2, a3, h, ?_, ?_, ?_⟩
      · rw [List.getD_eq_getElem?_getD, List.getElem?_replicate, if_pos h]; decide +kernel
      · rw [List.getD_eq_getElem?_getD, List.getElem?_replicate, if_pos h]; decide +kernel
      · rw [List.getD_eq_getElem?_getD, List.getElem?_replicate, if_pos h]
        unfold evF evR
        rw [if_pos h, Option.getD_some, show fop .add .f32 0 1077936128 = 1077936128 by decide +kernel]
    · exact .inl ⟨by simpa using h, by unfold evF evR; rw [if_neg h]⟩
  · intro j hj
    unfold evF at hj
    rw [evR_length] at hj
    unfold evF
    rw [evR_at n _ j hj]
    split
    · exact ⟨1077936128, by decide, by decide +kernel⟩
    · exact ⟨0, by decide, by decide +kernel⟩
/-- The sum of a row, so far. -/
def sumS (t j : Nat) : Nat := if t < j then 1077936128 else 0
theorem sumS_step (n t j : Nat) (hj : j < n) : fop .add .f32 (sumS t j) ((evR n t).getD j 0) = sumS t (j + 1) ∧ isN .f32 (fop .add .f32 (sumS t j) ((evR n t).getD j 0)) = false ∧ isN .f32 ((evR n t).getD j 0) = false := by
  rw [evR_at n t j hj]
  unfold sumS
  by_cases h : t < j
  · rw [if_pos h, if_neg (by omega), if_pos (by omega)]
    decide +kernel
  · by_cases e : t = j
    · rw [if_neg h, if_pos e, if_pos (by omega)]
      decide +kernel
    · rw [if_neg h, if_neg e, if_neg (by omega)]
      decide +kernel
theorem own_at_k (n k p : Nat) (hk : k < 10) (hp : p < 12) (hkn : k < n) : (evF n k p 0).getD k 0 = 1077936128 := by
  have h : tA k (tpS p 0) = k := (event_ok k (tpS p 0) hk (tpS_lt hp)).2.2.2.1 rfl
  unfold evF
  rw [h, evR_at n k k hkn, if_pos rfl]
theorem rd_plS {w : World} {g p : Nat} (h : w.heap[g]? = some (.cells #[.float .f32 0, .float .f32 1065353216, .float .f32 (hV (p : Nat))] 31 (0, 0))) : RdF w (.slice (some ⟨g, 0, none⟩) 3 3) (plS p) := by
  refine ⟨some ⟨g, 0, none⟩, 3, rfl, Nat.le_refl _, (fun h => by cases h), fun j hj => ?_⟩
  have hj4 : j < 3 := hj
  have h1 : FV .f32 1065353216 1065353216 := ⟨by decide, by decide +kernel⟩
  have h2 : FV .f32 0 0 := ⟨by decide, by decide +kernel⟩
  match j, hj4 with
  | 0, _ => exact ⟨g, 0, .float .f32 0, rfl, by rw [Nat.zero_add, cell_of_row w g 0 _ _ _ h]; rfl, 0, rfl, h2⟩
  | 1, _ => exact ⟨g, 0, .float .f32 1065353216, rfl, by rw [Nat.zero_add, cell_of_row w g 1 _ _ _ h]; rfl, 1065353216, rfl, h1⟩
  | 2, _ => exact ⟨g, 0, .float .f32 (hV (p : Nat)), rfl, by rw [Nat.zero_add, cell_of_row w g 2 _ _ _ h]; rfl, hV (p : Nat), rfl, hV_fv _⟩
theorem nonneg_tab : ((List.range 12).all fun k => nonnegB (fI k)) = true := by decide +kernel
theorem nonneg_fI (k : Nat) (hk : k < 12) : nonnegB (fI k) = true := List.all_eq_true.1 nonneg_tab k (List.mem_range.2 hk)
theorem ev_cls (n k p i j : Nat) (hj : j < n) : isN .f32 ((evF n k p i).getD j 0) = false := by
  unfold evF
  rw [evR_at n _ j hj]
  split <;> decide +kernel
/-- A number of the event's gather. -/
theorem rows_ev {w : World} {a : Option Addr} {n k p c : Nat} (h : RdSS w (.slice a 3 c) (doL (evF n k p) 3)) (i j : Nat) (hi : i < 3) (hj : j < n) :
    ∃ b o b2 o2 c', a = some ⟨b, o, none⟩ ∧ b < w.heap.size ∧ w.cell? ⟨b, o + i, none⟩ = some (.slice (some ⟨b2, o2, none⟩) n c') ∧ b2 < w.heap.size ∧ w.cell? ⟨b2, o2 + j, none⟩ = some (.float .f32 ((evF n k p i).getD j 0)) := by
  obtain ⟨a0, c0, hv, -, -, hc⟩ := h.opened
  cases hv
  obtain ⟨b, o, a', c', ha, h0, h1, h2⟩ := hc i (by rw [doL_length]; exact hi)
  rw [rowAt_ev n k p i hi] at h1 h2
  have hl : (evF n k p i).length = n := evR_length _ _
  rw [hl] at h1 h2
  obtain ⟨b2, o2, rfl, h3, h4⟩ := elem_at h2 hl j hj rfl (ev_cls n k p i j hj)
  exact ⟨b, o, b2, o2, c', ha, h0, h1, h3, h4⟩
theorem sumS_is (t j : Nat) : sumS t j = 0 ∨ sumS t j = 1077936128 := by
  unfold sumS
  split
  · exact .inr rfl
  · exact .inl rfl
theorem small_tmE (n k p : Nat) (hn : n < 12) : (tmE n k p).small := by
  refine ⟨by show 3 ≤ 1048576; decide, by show (doL _ 3).length ≤ _; rw [doL_length]; decide, fun j hj => ?_⟩
  have hj3 : j < 3 := by rw [show (tmE n k p).Ls = doL (evF n k p) 3 from rfl, doL_length] at hj; exact hj
  rw [show (tmE n k p).Ls = doL (evF n k p) 3 from rfl, rowAt_ev n k p j hj3]
  unfold evF
  rw [evR_length]; omega
theorem small_tmS (n p : Nat) (hn : n < 12) (j : Nat) : (rowAt (tmS n p).Ls j).length ≤ 64 := by
  show (rowAt (List.replicate 3 (List.replicate n 0)) j).length ≤ 64
  by_cases h : j < 3
  · rw [rowAt_rep n j h, List.length_replicate]; omega
  · unfold rowAt
    rw [List.getD_eq_getElem?_getD, List.getElem?_eq_none (by simpa using h)]
    simp
end Go.Proofs.Ytjhbcnmkamkkaaa

/- What a law hands back. -/
namespace Go.Proofs.Ytjhbcnmkamkkaaa
open Go Go.RowKit
def TrueB (w : World) (e : Ending) (w' : World) : Prop := e = .returned (.bool true) ∧ Below w.heap.size w w'
theorem TrueB.mk {w w' : World} (h : Below w.heap.size w w') : TrueB w (.returned (.bool true)) w' := ⟨rfl, h⟩
end Go.Proofs.Ytjhbcnmkamkkaaa

/- Walks: impl.FlatGather, whatever the ticks and the places. -/
namespace Go.Proofs.Ytjhbcnmkamkkaaa
open Go Go.RowKit

set_option maxRecDepth 100000 in
set_option maxHeartbeats 3200000 in
theorem flatGatherN_any (w : World) (v : Value) (n : Nat) (P : List Nat) (h : RdF w v P) (hn1 : 1 ≤ n) (hn2 : n ≤ 64) (hp1 : 1 ≤ P.length) (hp2 : P.length ≤ 16) (hfin : allB (fin .f32) P = true) :
    Calls Try.prog 40 #[.int .i64 n, v] w fun e w' => ∃ vp vt M, e = .returned (.tuple #[.agg #[.int .i64 n, vp, vt], .bool true]) ∧ OwnF w' w.heap.size vp P ∧ (∀ k, vp.ownBlock = some k → k < M) ∧ w.heap.size ≤ M ∧ OwnSS w' (Iv M w'.heap.size) vt (List.replicate P.length (List.replicate n 0)) ∧ Below w.heap.size w w' := by
  have HR := Lib.hid h
  obtain ⟨a, c, rfl, -⟩ := h.opened
  have HLF := Lib.hid (fun wq => lengthF_any wq a P.length c)
  have HW1 := Lib.hid (fun wq => within_any wq (n : Int) 1 64)
  have HW2 := Lib.hid (fun wq => within_any wq (P.length : Int) 1 16)
  rw [show inB (n : Int) 1 64 = true by simp [inB]; omega] at HW1
  rw [show inB (P.length : Int) 1 16 = true by simp [inB]; omega] at HW2
  have HF := Lib.hid (fun wq hq => areFinite_any wq _ P (HR.out.mono hq) (by omega))
  rw [hfin] at HF
  clear h hfin
  go_enter Try.func40, Try.ntmps40
  go_wp2_with fail
  refine (HW1.out _).mono ?_
  rintro e w1 ⟨rfl, hw1⟩
  go_wp2_with fail
  refine (HLF.out _).mono ?_
  rintro e w2 ⟨rfl, hw2⟩
  go_wp2_with fail
  refine (HW2.out _).mono ?_
  rintro e w3 ⟨rfl, hw3⟩
  go_wp2_with fail
  have x0 : Below w.heap.size w (w.alloc (.cells #[.int .i64 0, .slice none 0 0, .slice none 0 0] 59)) := (Below.refl _ _).alloc (Nat.le_refl _) _
  have z0 : (w.alloc (.cells #[.int .i64 0, .slice none 0 0, .slice none 0 0] 59)).heap.size = w.heap.size + 1 := World.size_alloc _ _
  refine (HF.out _ x0).mono ?_
  rintro e w4 ⟨rfl, n4, hw4⟩
  have h4 : w4.heap[w.heap.size]? = some (.cells #[.int .i64 0, .slice none 0 0, .slice none 0 0] 59 (0, 0)) := by rw [hw4]; exact alloc_new _ _
  have z4 : w4.heap.size = w.heap.size + 1 := by rw [hw4]; exact z0
  have b4 : Below w.heap.size w w4 := by rw [hw4]; exact Below.drewN x0 _
  have H4 := Lib.hid h4
  have B4 := Lib.hid b4
  have HC := Lib.hid (clone_any w4 _ P (HR.out.mono b4) (by omega))
  clear hw4 h4 b4 x0 z0 hw1 hw2 hw3 HW1 HW2 HF HLF
  go_wp2_with fail
  refine HC.out.mono ?_
  rintro e w5 ⟨vp, rfl, o5, b5⟩
  have O5 := Lib.hid o5
  obtain ⟨gp, cp, hvp, hgp, -⟩ := o5.at_block (n := P.length) rfl (by omega)
  subst hvp
  have z5 := b5.size
  have H5 : Hid (w5.heap[w.heap.size]? = some (.cells #[.int .i64 0, .slice none 0 0, .slice none 0 0] 59 (0, 0))) := Lib.hid ((b5.block w.heap.size (by omega)).trans H4.out)
  have B5 := Lib.hid (B4.out.trans (b5.mono (by omega)))
  clear o5 b5 HC H4 B4
  go_wp2_with fail
  have z6 : (w5.alloc (.cells #[.int .i64 n, .slice (some ⟨gp, 0, none⟩) P.length cp, .slice none 0 0] 59)).heap.size = w5.heap.size + 1 := World.size_alloc _ _
  have x6 : Below w5.heap.size w5 (w5.alloc (.cells #[.int .i64 n, .slice (some ⟨gp, 0, none⟩) P.length cp, .slice none 0 0] 59)) := (Below.refl _ _).alloc (Nat.le_refl _) _
  have X6 := Lib.hid x6
  clear x6
  go_loopw [28] (fun i wr => ∃ (j : Nat) (vt : Value), j ≤ P.length ∧ i = .int .i64 j ∧ OwnSS wr (Iv (w5.heap.size + 1) wr.heap.size) vt (List.replicate j (List.replicate n 0)) ∧ wr.heap[w5.heap.size]? = some (.cells #[.int .i64 n, .slice (some ⟨gp, 0, none⟩) P.length cp, vt] 59 (0, 0)) ∧ Chg w5 wr (fun _ => False)) (fun i _ => P.length - (intOf i).toNat)
  case atStart => exact ⟨0, .slice none 0 0, Nat.zero_le _, rfl, ⟨[], rfl, World.ownsRow_nil _ 0 _ 1, (fun k hk => by cases hk), (fun j hj => by cases hj), (fun i j k hi => by cases hi), (fun j k hj => by cases hj)⟩, alloc_new _ _, Chg.of_below X6.out _⟩
  case round =>
    obtain ⟨wi, rfl⟩ : ∃ wi : World, wi = wr := ⟨_, rfl⟩
    obtain ⟨j, vt, hj, rfl, ho, hb, hc⟩ := hrel
    have HO := Lib.hid ho
    have HB := Lib.hid hb
    have HCg := Lib.hid hc
    have hgs : w5.heap.size < wi.heap.size := (Array.getElem?_eq_some_iff.1 hb).1
    by_cases hlt : j < P.length
    · clear ho hb hc
      have FX : Hid (∀ wq, Ext wi wq → wq.cell? ⟨w5.heap.size, 2, none⟩ = some vt) := Lib.hid fun wq hq => by
        obtain ⟨-, -, k2, -, -, -⟩ := blk3 ((hq.block w5.heap.size hgs).trans HB.out)
        exact k2
      have hd : decide ((j : Int) < (P.length : Int)) = true := by simp; omega
      go_wp2_with fail
      refine region_grow_tail 5 (by kernel_rfl) (by kernel_rfl) (fun _ _ _ _ _ => False) ?_
      simp only [List.take_succ_cons, List.take_zero, List.drop_succ_cons, List.drop_zero]
      iterate 3 (refine wpRelK_still rfl rfl (fun wq hq K hK => ?_); (have k2 := FX.out wq ((Ext.drew wi).trans hq.1)); go_wp2; clear k2)
      refine wpRelK_op rfl rfl (fun wa ha K hK => ?_)
      have ga : wi.heap.size ≤ wa.heap.size := ha.1.size
      refine op_make _ _ 25 rfl 31 (.float .f32 0) 4 Try.underlying25 Try.infoF rfl _ _ _ _ n rfl rfl rfl rfl (by omega) (by decide) ?_
      intro w7 o7 x7
      refine hK _ _ x7 ?_
      clear hK K
      refine wpRelK_op rfl rfl (fun wb hb2 K hK => ?_)
      have E7b : Ext w7 wb := hb2.dep 3 (by kernel_rfl)
      have gb : wi.heap.size ≤ wb.heap.size := hb2.1.size
      go_wp2
      refine hK _ _ ((Below.refl _ _).alloc (Nat.le_refl _) _) ?_
      clear hK K
      refine wpRelK_nil ?_
      intro w8 hW hall
      have E7 : Ext w7 w8 := hall 3 (by decide)
      have E8 : Ext (wb.alloc (.cells #[.slice (some ⟨wa.heap.size, 0, none⟩) n n] 25)) w8 := hall 4 (by decide)
      have xW : Ext wi w8 := (Ext.drew wi).trans hW
      have OX : Hid (OwnF w8 wa.heap.size (.slice (some ⟨wa.heap.size, 0, none⟩) n n) (List.replicate n 0)) := Lib.hid ((OwnF.made o7).kept E7)
      have hcell8 : w8.cell? ⟨wb.heap.size, 0, none⟩ = some (.slice (some ⟨wa.heap.size, 0, none⟩) n n) := cell_of_row w8 _ 0 _ _ _ ((E8.block wb.heap.size (by rw [World.size_alloc]; omega)).trans (alloc_new _ _))
      have HC8 := Lib.hid hcell8
      have XW := Lib.hid xW
      have z8 := xW.size
      have hd1 : Own1 w8 (fun k => wi.heap.size ≤ k) (.fs (List.replicate n 0)) (.slice (some ⟨wa.heap.size, 0, none⟩) n n) := Own1.fs_ OX.out fun k hk => by cases hk; exact ga
      have HD1 := Lib.hid hd1
      clear hall hW E7 E8 E7b o7 x7 hb2 ha hcell8 xW hd1
      refine wpList_pushC rfl _ _ 57 25 rfl (.slice none 0 0) 24 Try.underlying57 Try.infoFF rfl (by decide) (w5.heap.size + 1) wi.heap.size _ _ _ rfl (OwnC.kept HO.out XW.out) (by omega) (by omega) _ _ _ (.fs (List.replicate n 0)) rfl HC8.out rfl HD1.out (by simp; omega) ?_
      intro v9 w9 o9 g9 l9
      rw [List.length_replicate] at o9
      have z9 := g9.size
      obtain ⟨q9, cap9, hv9, -⟩ := (OwnC.form o9).resolve_left fun h => by have := h.2.1; omega
      subst hv9
      have hb9 : w9.heap[w5.heap.size]? = some (.cells #[.int .i64 n, .slice (some ⟨gp, 0, none⟩) P.length cp, vt] 59 (0, 0)) := by
        rw [g9.block w5.heap.size (by omega) fun e => by have := (OwnC.lt HO.out _ e.symm).1.1; omega, XW.out.block w5.heap.size hgs]
        exact HB.out
      obtain ⟨k0, k1, k2, f0, f1, f2⟩ := blk3 hb9
      have PT := (Put.one hb9 2 (.slice (some ⟨q9, 0, none⟩) (j + 1) cap9)).cs (cs' := #[.int .i64 n, .slice (some ⟨gp, 0, none⟩) P.length cp, .slice (some ⟨q9, 0, none⟩) (j + 1) cap9]) (by simp)
      have HP := Lib.hid PT
      have O9 := Lib.hid o9
      have C9 : Hid (Chg w5 w9 (fun _ => False)) := Lib.hid ((HCg.out.trans (Chg.of_below XW.out _)).only (Chg.of_grown (S := fun b => vt.ownBlock = some b) g9 fun b hb => hb) fun k hk hkl => by have := (OwnC.lt HO.out _ hk).1.1; omega)
      clear o9 g9 l9 hb9 PT
      go_wp2
      refine ⟨⟨j + 1, _, by omega, by go_num, ?_, HP.out.heap, ?_⟩, by simp [intOf]; omega⟩
      · have := OwnC.chg O9.out HP.out.chg (fun k hk e => by have := hk.1; omega)
        rw [HP.out.size]
        unfold OwnSS
        rw [List.length_replicate]
        rw [List.replicate_succ', List.map_append]
        exact this
      · exact C9.out.only HP.out.chg fun k hk hkl => by omega
    · obtain rfl : j = P.length := by omega
      have hn3 : (List.replicate P.length (List.replicate n (0 : Nat))).length = P.length := List.length_replicate
      obtain ⟨q9, cap9, hv9, -⟩ := (OwnC.form ho).resolve_left fun h => by have := h.2.1; rw [hn3] at this; omega
      rw [hn3] at hv9
      subst hv9
      obtain ⟨k0, k1, k2, -, -, -⟩ := blk3 hb
      have h5 : wi.heap[w.heap.size]? = some (.cells #[.int .i64 0, .slice none 0 0, .slice none 0 0] 59 (0, 0)) := (hc.block w.heap.size (by omega) (fun h => h)).trans H5.out
      obtain ⟨m0, m1, m2, f0, f1, f2⟩ := blk3 h5
      have PT := put3 h5 (.int .i64 n) (.slice (some ⟨gp, 0, none⟩) P.length cp) (.slice (some ⟨q9, 0, none⟩) P.length cap9)
      have OP : Hid (OwnF wi w4.heap.size (.slice (some ⟨gp, 0, none⟩) P.length cp) P) := Lib.hid (O5.out.chg hc fun k hk e => e)
      clear ho hb hc h5
      go_wp2_with fail
      generalize (((wi.setCell ⟨w.heap.size, 0, none⟩ (.int .i64 n)).setCell ⟨w.heap.size, 1, none⟩ (.slice (some ⟨gp, 0, none⟩) P.length cp)).setCell ⟨w.heap.size, 2, none⟩ (.slice (some ⟨q9, 0, none⟩) P.length cap9)) = wz at *
      obtain ⟨q0, q1, q2, -, -, -⟩ := blk3 PT.heap
      refine bodyPost_ret (v := .tuple #[.agg #[.int .i64 n, .slice (some ⟨gp, 0, none⟩) P.length cp, .slice (some ⟨q9, 0, none⟩) P.length cap9], .bool true]) (by simp [results, Try.results40, go_sem, q0, q1, q2]) rfl ?_
      refine ⟨_, _, w5.heap.size + 1, rfl, ?_, ?_, by omega, ?_, ?_⟩
      · exact (OP.out.chg PT.chg fun k hk e => by have := (OP.out.lt hk).1; omega).mono (by omega)
      · intro k hk
        have := (OwnF.lt O5.out hk).2
        omega
      · have := OwnC.chg HO.out PT.chg (fun k hk e => by have := hk.1; omega)
        exact OwnC.wide this fun k hk => ⟨by have := hk.1; omega, by rw [PT.size]; exact hk.2⟩
      · exact Below.chg (Below.chg B5.out HCg.out (fun k hk => hk.elim) (by omega)) PT.chg (fun k hk => by omega) (by omega)
end Go.Proofs.Ytjhbcnmkamkkaaa

/- Walks: R8List, however long. -/
namespace Go.Proofs.Ytjhbcnmkamkkaaa
open Go Go.RowKit

set_option maxRecDepth 100000 in
set_option maxHeartbeats 3200000 in
theorem r8ListN_any (w : World) (v : Value) (n m : Nat) (hy : RdY w v n) (hn : n ≤ 1048576) (hm : m ≤ 100) :
    Calls Try.prog 35 #[v, .int .i64 m] w fun e w' => ∃ (v' : Value) (zs : List Int), e = .returned v' ∧ zs.length = m ∧ (∀ z ∈ zs, -8 ≤ z ∧ z ≤ 8) ∧ OwnF w' w.heap.size v' (zs.map qv) ∧ Below w.heap.size w w' := by
  have hquo := run_fquo (P := Try.prog)
  obtain ⟨a, c, rfl, -, -⟩ := hy.opened
  have HY := Lib.hid hy
  clear hy
  go_enter Try.func35, Try.ntmps35
  go_wp2_with fail
  refine (l00From_any w a n c).mono ?_
  rintro e w1 ⟨rfl, hw1⟩
  have b1 : Below w.heap.size w w1 := by rw [hw1]; exact (Below.refl _ _).alloc (Nat.le_refl _) _
  have z1 : w1.heap.size = w.heap.size + 1 := by rw [hw1]; exact World.size_alloc _ _
  have hs1 : Src w1 w.heap.size a n c 0 := ⟨0, by rw [hw1]; exact alloc_new _ _, by decide, by decide⟩
  have B2 : Hid (Below w.heap.size w (w1.alloc (.cells #[] 31))) := Lib.hid (b1.trans ((Below.refl _ _).alloc (by omega) _))
  have S2 : Hid (Src (w1.alloc (.cells #[] 31)) w.heap.size a n c 0) := Lib.hid (by
    obtain ⟨sd, h1, h2⟩ := hs1
    exact ⟨sd, by rw [Below.heap_alloc _ _ _ (by omega)]; exact h1, h2⟩)
  have O2 : Hid (OwnF (w1.alloc (.cells #[] 31)) (w.heap.size + 1) (.slice (some ⟨w1.heap.size, 0, none⟩) 0 0) []) := Lib.hid ⟨[], rfl, fun j hj => (by cases hj), World.ownsRow_lit w1 #[] 0 (by omega) (by decide) rfl⟩
  rw [z1] at O2
  clear hw1 b1 hs1
  go_wp2_with fail
  go_loopw [1, 6] (fun q o wr => ∃ (j : Nat) (zs : List Int), j ≤ m ∧ zs.length = j ∧ q = .int .i64 ((m : Int) - (j : Int)) ∧ (∀ z ∈ zs, -8 ≤ z ∧ z ≤ 8) ∧ OwnF wr (w.heap.size + 1) o (zs.map qv) ∧ Src wr w.heap.size a n c j ∧ Below w.heap.size w wr) (fun q _ _ => (intOf q).toNat)
  case atStart => exact ⟨0, [], Nat.zero_le _, rfl, by first | rfl | (congr 1; omega), (fun z hz => by cases hz), O2.out, S2.out, B2.out⟩
  case round =>
    clear O2 S2 B2
    obtain ⟨wi, rfl⟩ : ∃ wi : World, wi = wr := ⟨_, rfl⟩
    obtain ⟨j, zs, hj, hzl, rfl, hz, ho, hs, hb⟩ := hrel
    have HZ := Lib.hid hz
    have HZL := Lib.hid hzl
    have HO := Lib.hid ho
    have HB := Lib.hid hb
    have hzi := hb.size
    clear hz ho
    by_cases hlt : j < m
    · have HP := Lib.hid (pick_any wi w.heap.size a n c j 17 hs (HY.out.mono hb) hn (by omega) (by omega) (by decide) (by decide))
      clear hs hb hzl
      have hgt : ((m : Int) - (j : Int)) > 0 := by omega
      go_wp2_with fail
      refine HP.out.mono ?_
      rintro e w3 ⟨p, rfl, hp0, hp1, s3, c3⟩
      have HS3 := Lib.hid s3
      have HO3 := Lib.hid (HO.out.chg c3 fun k hk e => by have := (HO.out.lt hk).1; omega)
      have z3 := c3.size
      have HB3 := Lib.hid (Below.chg HB.out c3 (fun k hk => by omega) hzi)
      clear s3 c3 HP HO HB
      have hfv : FV .f32 (fres .quo .f32 (floatOfInt .f32 (p - 8)) 1082130432 w3) (qv (p - 8)) := FV.op (op := .quo) (floatOfInt_fv .f32 (p - 8)) fv_four w3
      have bd : Below w3.heap.size w3 ((w3.drewN (fcnt .quo .f32 (floatOfInt .f32 (p - 8)) 1082130432)).alloc (.cells #[.float .f32 (fres .quo .f32 (floatOfInt .f32 (p - 8)) 1082130432 w3)] 31)) := (Below.drewN (Below.refl _ _) _).alloc (Nat.le_refl _) _
      have bz : ((w3.drewN (fcnt .quo .f32 (floatOfInt .f32 (p - 8)) 1082130432)).alloc (.cells #[.float .f32 (fres .quo .f32 (floatOfInt .f32 (p - 8)) 1082130432 w3)] 31)).heap.size = w3.heap.size + 1 := World.size_alloc _ _
      go_wp2_with (at_builtin; go_must (refine wpList_push rfl _ _ rfl (w.heap.size + 1) _ (zs.map qv) rfl (HO3.out.kept bd) _ _ _ (qv (p - 8)) rfl (cell_new _ _ _) hfv (by rw [List.length_map, HZL.out]; omega) (by omega) ?_); intro v4 w4 o4 g4 b4 l4)
      refine ⟨⟨j + 1, zs ++ [p - 8], by omega, by rw [List.length_append, HZL.out]; rfl, by congr 1; omega, fun z hz => ?_, by rw [List.map_append]; exact o4, ?_, ?_⟩, by simp [intOf]; omega⟩
      · rcases List.mem_append.1 hz with h | h
        · exact HZ.out z h
        · obtain rfl := List.mem_singleton.1 h
          omega
      · obtain ⟨sd, h1, h2⟩ := HS3.out
        have hg : w3.heap[w.heap.size]? = some _ := h1
        have hlt3 : w.heap.size < w3.heap.size := (Array.getElem?_eq_some_iff.1 h1).1
        refine ⟨sd, ?_, h2⟩
        rw [g4.block w.heap.size (by omega) fun e => by have := (HO3.out.lt e.symm).1; omega, bd.block w.heap.size (by omega)]
        exact h1
      · exact Below.trans (HB3.out.trans (bd.mono (by omega))) (b4.mono (by omega))
    · obtain rfl : j = m := by omega
      have hgt : ¬ ((j : Int) - (j : Int)) > 0 := by omega
      clear hs hb hzl
      go_wp2_with fail
      go_ret
      exact ⟨_, rfl, zs, HZL.out, HZ.out, HO.out.mono (by omega), HB.out⟩

end Go.Proofs.Ytjhbcnmkamkkaaa

/- FnSamples: the walk of the law. -/
namespace Go.Proofs.Ytjhbcnmkamkkaaa
open Go Go.RowKit

theorem one_fv : FV .f32 1065353216 1065353216 := ⟨by decide, by decide +kernel⟩
theorem zero_fv : FV .f32 0 0 := ⟨by decide, by decide +kernel⟩
theorem zs_notNan (zs : List Int) (hz : ∀ z ∈ zs, -8 ≤ z ∧ z ≤ 8) : ∀ j, j < (zs.map qv).length → isN .f32 ((zs.map qv).getD j 0) = false := fun j _ => (atQ_fx zs hz j).1.notNan
theorem dq_notNan (zs : List Int) (hz : ∀ z ∈ zs, -8 ≤ z ∧ z ≤ 8) : ∀ j, j < (zs.map dq).length → isN .f32 ((zs.map dq).getD j 0) = false := fun j hj => (qs_two zs hz j hj).1.notNan
/-- A list at its own numbers. -/
theorem own_at (zs : List Int) (hn : zs.length < 12) (k : Nat) (hk : k < zs.length) : Smp (zs.map qv) (fI k) ((zs.map qv).getD k 0) := by
  obtain ⟨⟨h1, h2, h3, h4, h5⟩, -⟩ := fI_ok k (by omega)
  have hl : leqN (fI k) (zs.map qv).length = true := by rw [List.length_map, h5 _ hn]; simpa using hk
  obtain ⟨ha, -, -⟩ := tOk_at (n := (zs.map qv).length) h1 (by rw [List.length_map]; exact hn) h2 hl
  rw [h4] at ha
  exact .inr (.inl ⟨k, ha, by rw [← h4, h4]; rw [h4] at h3; exact h3, rfl⟩)
theorem half_at (zs : List Int) (hz : ∀ z ∈ zs, -8 ≤ z ∧ z ≤ 8) (hn : zs.length < 12) (k : Nat) (hk : k + 1 < zs.length) :
    isN .f32 (hT k) = false ∧ Smp (zs.map qv) (hT k) (smpA (zs.map qv) (hT k) k) := by
  obtain ⟨h1, h2, h3, h4, h5, h6⟩ := hT_ok k (by omega)
  have hl : leqN (hT k) (zs.map qv).length = true := by rw [List.length_map, h6 _ hn]; simpa using hk
  obtain ⟨ha, -, -⟩ := tOk_at (n := (zs.map qv).length) h1 (by rw [List.length_map]; exact hn) h2 hl
  obtain ⟨q, -⟩ := twice_same zs hz hn (hT k) h1
  unfold smpR at q
  rw [h2, hl, h3, h4] at q
  exact ⟨ha.nt, q⟩
/-- What the law reckons for the half. -/
theorem half_run (zs : List Int) (hz : ∀ z ∈ zs, -8 ≤ z ∧ z ≤ 8) (k : Nat) (hk : k < 10) :
    ∃ d m, fop .sub .f32 ((zs.map qv).getD (k + 1) 0) ((zs.map qv).getD k 0) = d ∧ isN .f32 d = false ∧ fop .mul .f32 1056964608 d = m ∧ isN .f32 m = false ∧
      fop .add .f32 ((zs.map qv).getD k 0) m = smpA (zs.map qv) (hT k) k ∧ isN .f32 (smpA (zs.map qv) (hT k) k) = false := by
  obtain ⟨a1, a2, a3⟩ := atQ_fx zs hz k
  obtain ⟨b1, b2, b3⟩ := atQ_fx zs hz (k + 1)
  have h1 := b1.fopSub a1 (by decide) (by omega)
  have h2 := (Fx.of (k := 1) (r := 1056964608) (n := 1) (by decide +kernel)).fopMul h1 (by decide) (by omega)
  have h3 := (a1.fine (k := 2) (l := 1) (by decide)).fopAdd h2 (by decide) (by rw [Int.natCast_pow] at *; omega)
  have e : smpA (zs.map qv) (hT k) k = fop .add .f32 ((zs.map qv).getD k 0) (fop .mul .f32 1056964608 (fop .sub .f32 ((zs.map qv).getD (k + 1) 0) ((zs.map qv).getD k 0))) := by
    unfold smpA smpM smpD
    rw [(hT_ok k hk).2.2.2.2.1]
  exact ⟨_, _, rfl, h1.notNan, rfl, h2.notNan, e.symm, by rw [e]; exact h3.notNan⟩
theorem cells_f {w : World} {a : Option Addr} {n c : Nat} {L : List Nat} (h : RdF w (.slice a n c) L) (hL : L.length = n) (hf : ∀ k, k < L.length → isN .f32 (L.getD k 0) = false) (k : Nat) (hk : k < n) : ∃ b o, a = some ⟨b, o, none⟩ ∧ b < w.heap.size ∧ w.cell? ⟨b, o + k, none⟩ = some (.float .f32 (L.getD k 0)) := by
  obtain ⟨a', c', hv, -, -, hc⟩ := h.opened
  cases hv
  obtain ⟨b, o, r, ha, h1, h2⟩ := hc k (by omega)
  obtain rfl := h2.eq_of_not (hf k (by omega))
  exact ⟨b, o, ha, block_lt h1, h1⟩
/-- The two corrected lists. -/
theorem corr_calls (wq : World) (v v2 : Value) (zs : List Int) (p : Nat) (hp : p < 12) (hz : ∀ z ∈ zs, -8 ≤ z ∧ z ≤ 8) (hn0 : 1 ≤ zs.length) (hn : zs.length < 12) :
    (RdF wq v (zs.map qv) → Calls Try.prog 37 #[v, .float .f32 (hV (p : Nat)), .float .f32 1069547520] wq (fun e w' => ∃ a c, e = .returned (.tuple #[.slice a zs.length c, .bool true]) ∧ RdF w' (.slice a zs.length c) ((List.range zs.length).map fun k => smpR (zs.map qv) (cT k p)) ∧ Ext wq w')) ∧
    (RdF wq v2 (zs.map dq) → Calls Try.prog 37 #[v2, .float .f32 (hV (p : Nat)), .float .f32 1069547520] wq (fun e w' => ∃ a c, e = .returned (.tuple #[.slice a zs.length c, .bool true]) ∧ RdF w' (.slice a zs.length c) ((List.range zs.length).map fun k => smpR (zs.map dq) (cT k p)) ∧ Ext wq w')) := by
  have hl : (zs.map qv).length = zs.length := List.length_map ..
  have hl2 : (zs.map dq).length = zs.length := List.length_map ..
  have hv3 : FV .f32 1069547520 1069547520 := ⟨by decide, by decide +kernel⟩
  have key : ∀ L : List Nat, L.length = zs.length → ∀ e w', (∃ v', e = Ending.returned (.tuple #[v', .bool true]) ∧ OwnF w' wq.heap.size v' ((List.range L.length).map (fun k => smpR L (cT k p))) ∧ Ext wq w') → ∃ a c, e = .returned (.tuple #[.slice a zs.length c, .bool true]) ∧ RdF w' (.slice a zs.length c) ((List.range zs.length).map fun k => smpR L (cT k p)) ∧ Ext wq w' := by
    rintro L hL e w' ⟨v', rfl, h1, h2⟩
    rw [hL] at h1
    obtain ⟨a, c, rfl⟩ : ∃ a c, v' = .slice a zs.length c := by obtain ⟨a, c, h, -⟩ := h1.rd.opened; exact ⟨a, c, by rw [h, List.length_map, List.length_range]⟩
    exact ⟨a, c, rfl, h1.rd, h2⟩
  refine ⟨fun h => ?_, fun h => ?_⟩
  · exact (correctTrace_fine wq _ (zs.map qv) (hV (p : Nat)) 1069547520 (fun k => smpR (zs.map qv) (cT k p)) h (by omega) (by omega) (zs_notNan zs hz) (hV_fv _) (hV_fin ⟨by omega, by omega⟩) hv3 (by decide +kernel) (fun j hj => (cT_ok j p (by omega) hp).1)
      (fun j hj => (twice_same zs hz hn (cT j p) (cT_ok j p (by omega) hp).2).1) (fun j hj => smpR_cls _ _ _ (qs_one zs hz))).mono (key _ hl)
  · exact (correctTrace_fine wq _ (zs.map dq) (hV (p : Nat)) 1069547520 (fun k => smpR (zs.map dq) (cT k p)) h (by omega) (by omega) (dq_notNan zs hz) (hV_fv _) (hV_fin ⟨by omega, by omega⟩) hv3 (by decide +kernel) (fun j hj => (cT_ok j p (by omega) hp).1)
      (fun j hj => (twice_same zs hz hn (cT j p) (cT_ok j p (by omega) hp).2).2.1) (fun j hj => smpR_cls _ _ _ (qs_two zs hz))).mono (key _ hl2)
theorem list_same (zs : List Int) : (List.range (zs.map qv).length).map (fun j => (zs.map qv).getD j 0) = zs.map qv := by
  apply List.ext_getElem
  · simp
  · intro i h1 h2
    have h3 : i < zs.length := by simpa using h2
    simp [List.getElem?_eq_getElem h3]
theorem getD_cls (zs : List Int) (hz : ∀ z ∈ zs, -8 ≤ z ∧ z ≤ 8) (j : Nat) (hj : j < (zs.map qv).length) : Cls .f32 ((zs.map qv).getD j 0) := (qs_one zs hz j hj).2.2.2
/-- The three calls that leave the list. -/
theorem same_calls (wq : World) (v : Value) (zs : List Int) (hz : ∀ z ∈ zs, -8 ≤ z ∧ z ≤ 8) (hn0 : 1 ≤ zs.length) (hn : zs.length < 12) (h : RdF wq v (zs.map qv)) :
    Calls Try.prog 37 #[v, .float .f32 0, .float .f32 1065353216] wq (fun e w' => ∃ a c, e = .returned (.tuple #[.slice a zs.length c, .bool true]) ∧ RdF w' (.slice a zs.length c) (zs.map qv) ∧ Ext wq w') ∧
    Calls Try.prog 38 #[v, .float .f32 0, .float .f32 1065353216] wq (fun e w' => ∃ a c, e = .returned (.tuple #[.slice a zs.length c, .bool true]) ∧ RdF w' (.slice a zs.length c) (zs.map qv) ∧ Ext wq w') ∧
    Calls Try.prog 39 #[v, .float .f32 0] wq (fun e w' => ∃ a c, e = .returned (.tuple #[.slice a zs.length c, .bool true]) ∧ RdF w' (.slice a zs.length c) (zs.map qv) ∧ Ext wq w') := by
  have hl : (zs.map qv).length = zs.length := List.length_map ..
  have key : ∀ e w', (∃ v', e = Ending.returned (.tuple #[v', .bool true]) ∧ OwnF w' wq.heap.size v' ((List.range (zs.map qv).length).map (fun j => (zs.map qv).getD j 0)) ∧ Ext wq w') → ∃ a c, e = .returned (.tuple #[.slice a zs.length c, .bool true]) ∧ RdF w' (.slice a zs.length c) (zs.map qv) ∧ Ext wq w' := by
    rintro e w' ⟨v', rfl, h1, h2⟩
    rw [list_same] at h1
    obtain ⟨a, c, rfl⟩ : ∃ a c, v' = .slice a zs.length c := by obtain ⟨a, c, h, -⟩ := h1.rd.opened; exact ⟨a, c, by rw [h, hl]⟩
    exact ⟨a, c, rfl, h1.rd, h2⟩
  refine ⟨?_, ?_, ?_⟩
  · exact (correctTrace_fine wq _ (zs.map qv) 0 1065353216 (fun j => (zs.map qv).getD j 0) h (by omega) (by omega) (zs_notNan zs hz) zero_fv (by decide +kernel) one_fv (by decide +kernel) (fun j hj => (fI_ok j (by omega)).2.1)
      (fun j hj => by
        have e := (fI_ok j (by omega)).2.2.1
        show Smp _ (crv (fI j) 0 1065353216) _
        rw [e]; exact own_at zs hn j (by omega)) (fun j hj => getD_cls zs hz j hj)).mono key
  · exact (bendTrace_fine wq _ (zs.map qv) 0 1065353216 (fun j => (zs.map qv).getD j 0) h (by omega) (by omega) (zs_notNan zs hz) zero_fv (by decide +kernel) one_fv (by decide +kernel) (fun j hj => (fI_ok j (by omega)).2.2.2.1)
      (fun j hj => by
        have e := (fI_ok j (by omega)).2.2.2.2.1
        show Smp _ (rootF (bndD (fI j) 0 1065353216)) _
        rw [e]; exact own_at zs hn j (by omega)) (fun j hj => getD_cls zs hz j hj)).mono key
  · exact (moveTrace_fine wq _ (zs.map qv) 0 (fun j => (zs.map qv).getD j 0) h (by omega) (by omega) (zs_notNan zs hz)
      (fun j hj => by
        have e := (fI_ok j (by omega)).2.2.2.2.2
        show isN .f32 (fop .sub .f32 (fI j) 0) = false
        rw [e]
        have hl : leqN (fI j) (zs.map qv).length = true := by rw [hl, (fI_ok j (by omega)).1.2.2.2.2 _ hn]; simpa using (by omega : j < zs.length)
        exact (tOk_at (n := (zs.map qv).length) (fI_ok j (by omega)).1.1 (by omega) (fI_ok j (by omega)).1.2.1 hl).1.nt)
      (fun j hj => by
        have e := (fI_ok j (by omega)).2.2.2.2.2
        show Smp _ (fop .sub .f32 (fI j) 0) _
        rw [e]; exact own_at zs hn j (by omega)) (fun j hj => getD_cls zs hz j hj)).mono key
set_option maxRecDepth 100000 in
set_option maxHeartbeats 25600000 in
theorem lawSamples_any (w : World) (v1 v2 : Value) (n1 n2 : Nat) (h1 : RdY w v1 n1) (h2 : RdY w v2 n2) (m1 : n1 ≤ maxLen) (m2 : n2 ≤ maxLen) :
    Calls Try.prog 5 #[v1, v2] w (TrueB w) := by
  have H1 := Lib.hid h1
  have H2 := Lib.hid h2
  obtain ⟨a1, c1, rfl, -, -⟩ := h1.opened
  obtain ⟨a2, c2, rfl, -, -⟩ := h2.opened
  have HL := Lib.hid (r8Long_any w a1 a2 n1 n2 c1 c2 m1 m2)
  clear h1 h2 m1 m2
  cases hq : (decide (48 < n1) || decide (48 < n2)) with
  | true =>
    rw [hq] at HL
    clear hq
    go_enter Try.func5, Try.ntmps5
    go_wp2_with fail
    refine HL.out.mono ?_
    rintro e w1 ⟨rfl, hw1⟩
    obtain rfl : w = w1 := hw1.symm
    go_wp2
    go_ret
    exact TrueB.mk (Below.refl _ _)
  | false =>
    rw [hq] at HL
    have l1 : n1 ≤ 48 := by simp at hq; omega
    have l2 : n2 ≤ 48 := by simp at hq; omega
    clear hq
    go_enter Try.func5, Try.ntmps5
    go_wp2_with fail
    refine HL.out.mono ?_
    rintro e w0 ⟨rfl, hw0⟩
    obtain rfl : w = w0 := hw0.symm
    clear HL hw0
    go_wp2_with fail
    refine (r8AtPos_any w _ n2 0 10 H2.out (by omega) (by decide) (by decide) (by decide) (by decide)).mono ?_
    rintro e w1 ⟨a0, rfl, ha0, ha1, hw1⟩
    obtain rfl : w = w1 := hw1.symm
    clear hw1
    obtain ⟨n, hn⟩ : ∃ n : Nat, wrap64 (2 + a0) = (n : Int) := ⟨(2 + a0).toNat, by unfold wrap64; omega⟩
    have hn2 : 2 ≤ n := by unfold wrap64 at hn; omega
    have hn12 : n < 12 := by unfold wrap64 at hn; omega
    clear ha0 ha1
    go_wp2_with fail
    rw [hn]
    refine (r8ListN_any w _ n1 n H1.out (by omega) (by omega)).mono ?_
    rintro e w2 ⟨vl, zs, rfl, hzl, hz, hO, b2⟩
    subst hzl
    have HZ := Lib.hid hz
    have HRL := Lib.hid hO.rd
    have X2 := Lib.hid (show Ext w w2 from b2)
    obtain ⟨al, cl, rfl⟩ : ∃ a c, vl = .slice a zs.length c := by obtain ⟨a, c, h, -⟩ := hO.rd.opened; exact ⟨a, c, by rw [h, List.length_map]⟩
    clear hO b2 hz
    have wn : wrap64 ((zs.length : Int) - 1) = (zs.length : Int) - 1 := by unfold wrap64; omega
    go_wp2_with fail
    refine (r8AtPos_any w2 _ n2 1 ((zs.length : Int) - 1) (H2.out.mono X2.out) (by omega) (by decide) (by decide) (by omega) (by omega)).mono ?_
    rintro e w3 ⟨k0, rfl, hk0, hk1, hw3⟩
    obtain rfl : w2 = w3 := hw3.symm
    clear hw3
    obtain ⟨k, rfl⟩ : ∃ k : Nat, k0 = k := ⟨k0.toNat, by omega⟩
    have hk10 : k < 10 := by omega
    have hkn : k + 1 < zs.length := by omega
    clear hk0 hk1
    have hlen : (zs.map qv).length = zs.length := List.length_map ..
    go_wp2_with fail
    obtain ⟨ow, how⟩ : ∃ ow, (zs.map qv).getD k 0 = ow := ⟨_, rfl⟩
    have HOW := Lib.hid how
    refine (sampleBetween_fine w2 _ (zs.map qv) (fI k) ow HRL.out (by omega) (by omega) (zs_notNan zs HZ.out) (by rw [← how]; exact own_at zs hn12 k (by omega))).mono ?_
    clear how
    rintro e w4 ⟨rfl, u4, hw4⟩
    have X4 := Lib.hid (show Ext w w4 from by rw [hw4]; exact Below.drewN X2.out u4)
    have HRL4 := Lib.hid (show RdF w4 _ (zs.map qv) from HRL.out.mono (by rw [hw4]; exact Below.drewN (Below.refl _ _) u4))
    clear hw4 HRL
    have HH := Lib.hid (half_at zs HZ.out hn12 k hkn)
    obtain ⟨ha, hha⟩ : ∃ x, smpA (zs.map qv) (hT k) k = x := ⟨_, rfl⟩
    have HHA := Lib.hid hha
    rw [hha] at HH
    clear hha
    have hfa : ∀ wq : World, (binOp .add 31 (.float .f32 (floatOfInt .f32 (k : Nat))) (.float .f32 1056964608)).run Try.prog wq = .ok (.float .f32 (hT k)) wq := fun wq => run_fine .add (by simp) wq _ _ _ HH.out.1
    go_wp2_with fail
    clear hfa
    refine (sampleBetween_fine w4 _ (zs.map qv) (hT k) ha HRL4.out (by omega) (by omega) (zs_notNan zs HZ.out) HH.out.2).mono ?_
    rintro e w5 ⟨rfl, u5, hw5⟩
    have X5 := Lib.hid (show Ext w w5 from by rw [hw5]; exact Below.drewN X4.out u5)
    have HRL5 := Lib.hid (show RdF w5 _ (zs.map qv) from HRL4.out.mono (by rw [hw5]; exact Below.drewN (Below.refl _ _) u5))
    clear hw5 HRL4 X4
    go_wp2_with fail
    refine (same_calls w5 _ zs HZ.out (by omega) hn12 HRL5.out).1.mono ?_
    rintro e w6 ⟨aq, cs, rfl, rs, x6⟩
    have X6 := Lib.hid (Ext.trans X5.out x6)
    have HRL6 := Lib.hid (show RdF w6 _ (zs.map qv) from HRL5.out.mono x6)
    have HS6 := Lib.hid rs
    clear rs x6 X5 HRL5
    go_wp2_with fail
    refine (same_calls w6 _ zs HZ.out (by omega) hn12 HRL6.out).2.1.mono ?_
    rintro e w7 ⟨ab, cb, rfl, rs, x7⟩
    have X7 := Lib.hid (Ext.trans X6.out x7)
    have HRL7 := Lib.hid (show RdF w7 _ (zs.map qv) from HRL6.out.mono x7)
    have HS7 := Lib.hid (show RdF w7 _ (zs.map qv) from HS6.out.mono x7)
    have HB7 := Lib.hid rs
    clear rs x7 X6 HRL6 HS6
    go_wp2_with fail
    refine (same_calls w7 _ zs HZ.out (by omega) hn12 HRL7.out).2.2.mono ?_
    rintro e w8 ⟨am, cm, rfl, rs, x8⟩
    have X8 := Lib.hid (Ext.trans X7.out x8)
    have HRL8 := Lib.hid (show RdF w8 _ (zs.map qv) from HRL7.out.mono x8)
    have HS8 := Lib.hid (show RdF w8 _ (zs.map qv) from HS7.out.mono x8)
    have HB8 := Lib.hid (show RdF w8 _ (zs.map qv) from HB7.out.mono x8)
    have HM8 := Lib.hid rs
    clear rs x8 X7 HRL7 HS7 HB7
    obtain ⟨b1, o1, rfl, hb1, d1⟩ := cells_f HRL8.out hlen (zs_notNan zs HZ.out) k (by omega)
    obtain ⟨b1', o1', ha', -, d2⟩ := cells_f HRL8.out hlen (zs_notNan zs HZ.out) (k + 1) hkn
    cases ha'
    obtain ⟨dd, mm, r1, r2, r3, r4, r5, r6⟩ := half_run zs HZ.out k hk10
    rw [HOW.out] at d1 r1 r5
    rw [HHA.out] at r5 r6
    obtain ⟨ox, hox⟩ : ∃ x, (zs.map qv).getD (k + 1) 0 = x := ⟨_, rfl⟩
    rw [hox] at d2 r1
    clear hox
    have q1 := run_fine (P := Try.prog) .sub (by simp) (x := ox) (y := ow)
    rw [r1] at q1
    have q2 := run_fine (P := Try.prog) .mul (by simp) (x := 1056964608) (y := dd)
    rw [r3] at q2
    have q3 := run_fine (P := Try.prog) .add (by simp) (x := ow) (y := mm)
    rw [r5] at q3
    replace q1 := fun wq => q1 wq 31 r2
    replace q2 := fun wq => q2 wq 31 r4
    replace q3 := fun wq => q3 wq 31 r6
    have s1 : FloatKind.f32.format.order ow ow = some .eq := order_self (by rw [← HOW.out]; exact zs_notNan zs HZ.out k (by omega))
    have s2 : FloatKind.f32.format.order ha ha = some .eq := order_self r6
    have HEQ : Hid (∀ nq, ∀ v, RdF w8 v (zs.map qv) → Calls Try.prog 16 #[v, .slice (some ⟨b1, o1, none⟩) zs.length cl] (w8.drewN nq) fun e w' => e = .returned (.bool true) ∧ ∃ n, w' = (w8.drewN nq).drewN n) := Lib.hid fun nq v hv =>
      r8Equal_any (w8.drewN nq) _ _ (zs.map qv) (hv.mono (Below.drewN (Below.refl _ _) nq)) (HRL8.out.mono (Below.drewN (Below.refl _ _) nq)) (by omega) (zs_notNan zs HZ.out)
    have hi1 : (k : Int) < (zs.length : Int) := by omega
    have hi2 : (k : Int) + 1 < (zs.length : Int) := by omega
    clear r1 r2 r3 r4 r5 r6
    go_wp2_with fail
    refine region_rel_all (by kernel_rfl) (by kernel_rfl) (Drawn w8) (fun _ _ v => v = .bool true) ⟨1, rfl⟩ ?_
    iterate 49 (first | (refine wpRel_draw rfl rfl (fun nq K hK => ?_); go_wp2) | (refine wpRel_skip rfl ?_; simp only [Act.put, List.setIfInBounds_toArray, List.set_cons_succ, List.set_cons_zero]))
    refine wpRel_callG #[.slice aq zs.length cs, .slice (some ⟨b1, o1, none⟩) zs.length cl] rfl Try.func16 (by kernel_rfl) (by kernel_rfl) (by simp [go_sem]) ⟨w8, 0, rfl⟩ ⟨_, rfl⟩ (fun wq hq => by
      obtain ⟨nq, rfl⟩ := hq
      exact (HEQ.out nq _ HS8.out).mono fun e w'' ⟨he, n, hw⟩ => ⟨_, he, rfl, nq + n, by rw [hw, World.drewN_drewN]⟩) ?_
    intro vq hvq
    obtain rfl : vq = .bool true := hvq
    simp only [Act.put, List.setIfInBounds_toArray, List.set_cons_succ, List.set_cons_zero]
    iterate 5 (first | (refine wpRel_draw rfl rfl (fun nq K hK => ?_); go_wp2) | (refine wpRel_skip rfl ?_; simp only [Act.put, List.setIfInBounds_toArray, List.set_cons_succ, List.set_cons_zero]))
    refine wpRel_callG #[.slice ab zs.length cb, .slice (some ⟨b1, o1, none⟩) zs.length cl] rfl Try.func16 (by kernel_rfl) (by kernel_rfl) (by simp [go_sem]) ⟨w8, 0, rfl⟩ ⟨_, rfl⟩ (fun wq hq => by
      obtain ⟨nq, rfl⟩ := hq
      exact (HEQ.out nq _ HB8.out).mono fun e w'' ⟨he, n, hw⟩ => ⟨_, he, rfl, nq + n, by rw [hw, World.drewN_drewN]⟩) ?_
    intro vq hvq
    obtain rfl : vq = .bool true := hvq
    simp only [Act.put, List.setIfInBounds_toArray, List.set_cons_succ, List.set_cons_zero]
    iterate 5 (first | (refine wpRel_draw rfl rfl (fun nq K hK => ?_); go_wp2) | (refine wpRel_skip rfl ?_; simp only [Act.put, List.setIfInBounds_toArray, List.set_cons_succ, List.set_cons_zero]))
    refine wpRel_callG #[.slice am zs.length cm, .slice (some ⟨b1, o1, none⟩) zs.length cl] rfl Try.func16 (by kernel_rfl) (by kernel_rfl) (by simp [go_sem]) ⟨w8, 0, rfl⟩ ⟨_, rfl⟩ (fun wq hq => by
      obtain ⟨nq, rfl⟩ := hq
      exact (HEQ.out nq _ HM8.out).mono fun e w'' ⟨he, n, hw⟩ => ⟨_, he, rfl, nq + n, by rw [hw, World.drewN_drewN]⟩) ?_
    intro vq hvq
    obtain rfl : vq = .bool true := hvq
    simp only [Act.put, List.setIfInBounds_toArray, List.set_cons_succ, List.set_cons_zero]
    iterate 2 (first | (refine wpRel_draw rfl rfl (fun nq K hK => ?_); go_wp2) | (refine wpRel_skip rfl ?_; simp only [Act.put, List.setIfInBounds_toArray, List.set_cons_succ, List.set_cons_zero]))
    refine wpRel_nil ?_
    rintro wd ⟨nd, hwd⟩
    have XD : Hid (Ext w wd) := Lib.hid (by rw [hwd]; exact Below.drewN X8.out nd)
    have HRLD := Lib.hid (show RdF wd _ (zs.map qv) from HRL8.out.mono (by rw [hwd]; exact Below.drewN (Below.refl _ _) nd))
    clear hwd HEQ HRL8 X8 HS8 HB8 HM8 d1 d2 q1 q2 q3 s1 s2
    have O2 : Hid (OwnF (wd.alloc (.cells #[] 31)) wd.heap.size (.slice (some ⟨wd.heap.size, 0, none⟩) 0 0) []) := Lib.hid ⟨[], rfl, fun j hj => (by cases hj), World.ownsRow_lit wd #[] 0 (Nat.le_refl _) (by decide) rfl⟩
    have B2 : Hid (Ext wd (wd.alloc (.cells #[] 31))) := Lib.hid ((Below.refl _ _).alloc (Nat.le_refl _) _)
    have HQ : Hid (∀ j, j < zs.length → wd.cell? ⟨b1, o1 + j, none⟩ = some (.float .f32 (qv (zs.getD j 0)))) := Lib.hid fun j hj => by
      obtain ⟨b', o', ha', -, d⟩ := cells_f HRLD.out hlen (zs_notNan zs HZ.out) j hj
      cases ha'
      rw [d, List.getD_eq_getElem?_getD, List.getElem?_map, List.getD_eq_getElem?_getD, List.getElem?_eq_getElem hj]; rfl
    have hb1 : b1 < wd.heap.size := block_lt (HQ.out 0 (by omega))
    go_wp2_with fail
    go_loopw [18, 19] (fun o i wr => ∃ j : Nat, j ≤ zs.length ∧ i = .int .i64 j ∧ OwnF wr wd.heap.size o ((zs.take j).map dq) ∧ Ext wd wr) (fun _ i _ => zs.length - (intOf i).toNat)
    case atStart => exact ⟨0, Nat.zero_le _, rfl, O2.out, B2.out⟩
    case round =>
      clear O2 B2
      obtain ⟨wi, rfl⟩ : ∃ wi : World, wi = wr := ⟨_, rfl⟩
      obtain ⟨j, hj, rfl, ho, hx⟩ := hrel
      have HO := Lib.hid ho
      have HX := Lib.hid hx
      have zi := hx.size
      clear ho
      by_cases hlt : j < zs.length
      · have e1 := ((bcell hx).1 b1 (o1 + j) hb1).trans (HQ.out j hlt)
        have hz8 := (zs_bound zs HZ.out zs.length) j hlt
        have hdn := (dq_fx (zs.getD j 0) hz8.1 hz8.2).1.notNan
        have q := fun wq => run_fine (P := Try.prog) .mul (by simp) wq 31 1073741824 (qv (zs.getD j 0)) hdn
        have hi1 : (j : Int) < (zs.length : Int) := by omega
        obtain ⟨zz, hzz⟩ : ∃ z, zs.getD j 0 = z := ⟨_, rfl⟩
        obtain ⟨dz, hdz⟩ : ∃ d, fop .mul .f32 1073741824 (qv (zs.getD j 0)) = d := ⟨_, rfl⟩
        have hdf : FV .f32 dz dz := by rw [← hdz]; exact fop_cls
        have htk : (zs.take j).map dq ++ [dz] = (zs.take (j + 1)).map dq := by
          rw [List.take_add_one, List.map_append, ← hdz, List.getD_eq_getElem?_getD, List.getElem?_eq_getElem hlt]; rfl
        have HTK := Lib.hid htk
        have hlj : ((zs.take j).map dq).length = j := by rw [List.length_map, List.length_take]; omega
        rw [hdz] at q
        rw [hzz] at q e1
        have bd : Ext wi (wi.alloc (.cells #[.float .f32 dz] 31)) := (Below.refl _ _).alloc (Nat.le_refl _) _
        have bz : (wi.alloc (.cells #[.float .f32 dz] 31)).heap.size = wi.heap.size + 1 := World.size_alloc _ _
        clear hz8 hdn hdz hzz htk hx
        go_wp2_with (at_builtin; go_must (refine wpList_push rfl _ _ rfl wd.heap.size _ ((zs.take j).map dq) rfl (HO.out.kept bd) _ _ _ dz rfl (cell_new _ _ _) hdf (by rw [hlj]; omega) (by omega) ?_); intro v4 w4 o4 g4 b4 l4)
        rw [HTK.out] at o4
        exact ⟨⟨j + 1, by omega, by go_num, o4, Below.trans (HX.out.trans (Below.mono bd (by omega))) (Below.mono b4 (by omega))⟩, by simp [intOf]; omega⟩
      · obtain rfl : zs.length = j := by omega
        clear hx
        go_wp2_with fail
        have XI := Lib.hid (Ext.trans XD.out HX.out)
        have HRI := Lib.hid (show RdF wi _ (zs.map qv) from HRLD.out.mono HX.out)
        have HDI := Lib.hid (show RdF wi u18 (zs.map dq) from by have := HO.out.rd; rw [List.take_length] at this; exact this)
        clear HX HO HRLD
        refine (r8AtPos_any wi _ n2 2 12 (H2.out.mono XI.out) (by omega) (by decide) (by decide) (by decide) (by decide)).mono ?_
        rintro e w10 ⟨p0, rfl, hp0, hp1, hw10⟩
        obtain rfl : wi = w10 := hw10.symm
        clear hw10
        obtain ⟨p, rfl⟩ : ∃ p : Nat, p0 = p := ⟨p0.toNat, by omega⟩
        have hp : p < 12 := by omega
        clear hp0 hp1
        have qp := fun wq => run_fine (P := Try.prog) .quo (by simp) wq 31 (floatOfInt .f32 (p : Nat)) 1073741824 (hV_notNan (a := (p : Nat)) ⟨by omega, by omega⟩)
        rw [show fop .quo .f32 (floatOfInt .f32 (p : Nat)) 1073741824 = hV (p : Nat) from rfl] at qp
        go_wp2_with fail
        clear qp
        refine ((corr_calls wi _ u18 zs p hp HZ.out (by omega) hn12).1 HRI.out).mono ?_
        rintro e w11 ⟨aa, ca, rfl, ra, x11⟩
        have X11 := Lib.hid (Ext.trans XI.out x11)
        have HD11 := Lib.hid (show RdF w11 u18 (zs.map dq) from HDI.out.mono x11)
        have HA11 := Lib.hid ra
        clear ra x11 XI HRI HDI
        go_wp2_with fail
        refine ((corr_calls w11 u18 u18 zs p hp HZ.out (by omega) hn12).2 HD11.out).mono ?_
        rintro e w12 ⟨ab2, cb2, rfl, rb, x12⟩
        have X12 := Lib.hid (Ext.trans X11.out x12)
        have HA12 := Lib.hid (show RdF w12 _ _ from HA11.out.mono x12)
        have HB12 := Lib.hid rb
        clear rb x12 X11 HD11 HA11
        have HCA : Hid (∀ j, j < zs.length → ∃ b o, aa = some ⟨b, o, none⟩ ∧ b < w12.heap.size ∧ w12.cell? ⟨b, o + j, none⟩ = some (.float .f32 (smpR (zs.map qv) (cT j p)))) := Lib.hid fun j hj => by
          have := cells_f HA12.out (by simp) (fun i hi => by
            have hi2 : i < zs.length := by simpa using hi
            simp only [List.getD_eq_getElem?_getD, List.getElem?_map, List.getElem?_range hi2, Option.map_some, Option.getD_some]
            exact (twice_same zs HZ.out hn12 (cT i p) (cT_ok i p (by omega) hp).2).2.2.1) j hj
          simpa only [List.getD_eq_getElem?_getD, List.getElem?_map, List.getElem?_range hj, Option.map_some, Option.getD_some] using this
        have HCB : Hid (∀ j, j < zs.length → ∃ b o, ab2 = some ⟨b, o, none⟩ ∧ b < w12.heap.size ∧ w12.cell? ⟨b, o + j, none⟩ = some (.float .f32 (smpR (zs.map dq) (cT j p)))) := Lib.hid fun j hj => by
          have := cells_f HB12.out (by simp) (fun i hi => by
            have hi2 : i < zs.length := by simpa using hi
            simp only [List.getD_eq_getElem?_getD, List.getElem?_map, List.getElem?_range hi2, Option.map_some, Option.getD_some]
            exact (twice_same zs HZ.out hn12 (cT i p) (cT_ok i p (by omega) hp).2).2.2.2.1) j hj
          simpa only [List.getD_eq_getElem?_getD, List.getElem?_map, List.getElem?_range hj, Option.map_some, Option.getD_some] using this
        clear HA12 HB12
        go_wp2_with fail
        go_loopw [25] (fun i wr => ∃ j : Nat, j ≤ zs.length ∧ i = .int .i64 j ∧ Ext w12 wr) (fun i _ => zs.length - (intOf i).toNat)
        case atStart => exact ⟨0, Nat.zero_le _, rfl, Below.refl _ _⟩
        case round =>
          obtain ⟨wj, rfl⟩ : ∃ wj : World, wj = wr := ⟨_, rfl⟩
          obtain ⟨j, hj, rfl, hx⟩ := hrel
          have HX := Lib.hid hx
          by_cases hlt : j < zs.length
          · obtain ⟨ba, oa, rfl, hba, e1⟩ := HCA.out j hlt
            obtain ⟨bb, ob, rfl, hbb, e2⟩ := HCB.out j hlt
            replace e1 := ((bcell hx).1 ba (oa + j) hba).trans e1
            replace e2 := ((bcell hx).1 bb (ob + j) hbb).trans e2
            obtain ⟨-, -, -, -, heq, hnn⟩ := twice_same zs HZ.out hn12 (cT j p) (cT_ok j p (by omega) hp).2
            have q := fun wq => run_fine (P := Try.prog) .mul (by simp) wq 31 1073741824 (smpR (zs.map qv) (cT j p)) hnn
            obtain ⟨x, hxx⟩ : ∃ x, smpR (zs.map qv) (cT j p) = x := ⟨_, rfl⟩
            obtain ⟨y, hyy⟩ : ∃ y, smpR (zs.map dq) (cT j p) = y := ⟨_, rfl⟩
            rw [hxx] at e1 heq q
            rw [hyy] at e2 heq
            obtain ⟨x2, hx2⟩ : ∃ x2, fop .mul .f32 1073741824 x = x2 := ⟨_, rfl⟩
            rw [hx2] at heq q
            have hi1 : (j : Int) < (zs.length : Int) := by omega
            clear hx hnn hxx hyy hx2
            go_wp2_with fail
            refine region_rel_all (by kernel_rfl) (by kernel_rfl) (Drawn wj) (fun _ _ _ => False) ⟨1, rfl⟩ ?_
            iterate 10 (refine wpRel_draw rfl rfl (fun nq K hK => ?_); go_wp2)
            refine wpRel_nil ?_
            rintro wd2 ⟨nd2, hwd2⟩
            have XD2 : Hid (Ext w12 wd2) := Lib.hid (by rw [hwd2]; exact Below.drewN HX.out nd2)
            clear hwd2
            go_wp2_with fail
            exact ⟨⟨j + 1, by omega, by go_num, XD2.out⟩, by simp [intOf]; omega⟩
          · obtain rfl : zs.length = j := by omega
            clear hx
            go_wp2_with fail
            have XJ := Lib.hid (Ext.trans X12.out HX.out)
            clear HX HCA HCB X12 HOW HHA
            refine (flatGatherN_any _ _ zs.length (plS p) (rd_plS (alloc_new _ _)) (by omega) (by omega) (by show 1 ≤ 3; decide) (by show 3 ≤ 16; decide) (plS_fin p hp)).mono ?_
            rintro e w13 ⟨vp, vt, M, rfl, o1, -, -, o2, b13⟩
            have x13 : Ext wj w13 := Below.trans ((Below.refl _ _).alloc (Nat.le_refl _) _) (Below.mono b13 (by rw [World.size_alloc]; omega))
            obtain ⟨ap, cp, rfl⟩ : ∃ a c, vp = .slice a 3 c := by obtain ⟨a, c, h, -⟩ := o1.rd.opened; exact ⟨a, c, h⟩
            obtain ⟨at_, ct, rfl⟩ : ∃ a c, vt = .slice a 3 c := by obtain ⟨a, c, h, -⟩ := RdSS.opened (OwnC.rd o2); exact ⟨a, c, h⟩
            obtain ⟨W13, hW13⟩ : ∃ W, w13.alloc (.cells #[.int .i64 zs.length, .slice ap 3 cp, .slice at_ 3 ct] 59) = W := ⟨_, rfl⟩
            have y13 : Ext w13 W13 := by rw [← hW13]; exact (Below.refl _ _).alloc (Nat.le_refl _) _
            have HB13 : Hid (W13.heap[w13.heap.size]? = some (.cells #[.int .i64 zs.length, .slice ap 3 cp, .slice at_ 3 ct] 59 (0, 0))) := Lib.hid (by rw [← hW13]; exact alloc_new _ _)
            have X13 := Lib.hid (Ext.trans XJ.out (Ext.trans x13 y13))
            have HP13 := Lib.hid (show RdF W13 (.slice ap 3 cp) (plS p) from o1.rd.mono y13)
            have HT13 := Lib.hid (show RdSS W13 (.slice at_ 3 ct) (tmS zs.length p).Ls from RdC.mono (OwnC.rd o2) y13)
            clear o1 o2 b13 x13 y13 XJ
            obtain ⟨k0, k1, k2⟩ := box3 HB13.out (Ext.refl _)
            go_wp2_with fail
            clear hW13 k0 k1 k2
            refine (addEvent_any W13 (.slice ap 3 cp) (.slice at_ 3 ct) (tmS zs.length p) (fI k) 1065353216 1077936128 (evF zs.length k p) (floatOfInt_fv _ _) (nonneg_fI k (by omega)) one_fv (by decide +kernel) HP13.out HT13.out rfl (by show 3 ≤ 16; decide) (small_tmS _ _ hn12) (valid_tmS _ _ (by omega) hn12 hp) (evAllS _ _ _ hn12 hk10 hp)).mono ?_
            rintro e w14 ⟨ap14, np14, cp14, vt14, rfl, rP14, rL14, b14⟩
            rw [show (tmS zs.length p).t = ((zs.length : Nat) : Int) from rfl]
            obtain ⟨at14, ct14, rfl⟩ : ∃ a c, vt14 = .slice a 3 c := by obtain ⟨a, c, h, -⟩ := RdSS.opened rL14; exact ⟨a, c, h⟩
            obtain ⟨W14, hW14⟩ : ∃ W, w14.alloc (.cells #[.int .i64 zs.length, .slice ap14 np14 cp14, .slice at14 3 ct14] 59) = W := ⟨_, rfl⟩
            have y14 : Ext w14 W14 := by rw [← hW14]; exact (Below.refl _ _).alloc (Nat.le_refl _) _
            have HB14 : Hid (W14.heap[w14.heap.size]? = some (.cells #[.int .i64 zs.length, .slice ap14 np14 cp14, .slice at14 3 ct14] 59 (0, 0))) := Lib.hid (by rw [← hW14]; exact alloc_new _ _)
            have X14 := Lib.hid (Ext.trans X13.out (Ext.trans (show Ext W13 w14 from b14) y14))
            have HP14 := Lib.hid (show RdF W14 (.slice ap14 np14 cp14) (plS p) from rP14.mono y14)
            have HT14 := Lib.hid (show RdSS W14 (.slice at14 3 ct14) (doL (evF zs.length k p) 3) from RdC.mono rL14 y14)
            clear rP14 rL14 b14 y14 HB13 HP13 HT13 X13
            obtain ⟨k0, k1, k2⟩ := box3 HB14.out (Ext.refl _)
            go_wp2_with fail
            clear hW14 k0 k1 k2
            refine (implValidGather_any W14 _ (tmE zs.length k p) ⟨_, _, rfl, HP14.out, HT14.out⟩ (small_tmE _ _ _ hn12)).mono ?_
            rintro e w15 ⟨he, b15⟩
            rw [valid_tmE _ _ _ (by omega) hn12 hp] at he
            subst he
            have X15 := Lib.hid (Ext.trans X14.out (show Ext W14 w15 from b15))
            have HB15 := Lib.hid (show Hid (∀ wq, Ext w15 wq → wq.cell? ⟨w14.heap.size, 2, none⟩ = some (.slice at14 3 ct14)) from Lib.hid fun wq hq => (box3 HB14.out ((show Ext W14 w15 from b15).trans hq)).2.2)
            have HT15 := Lib.hid (show RdSS w15 (.slice at14 3 ct14) (doL (evF zs.length k p) 3) from RdC.mono HT14.out b15)
            have k2 := HB15.out.out w15 (Ext.refl _)
            clear b15 HB14 HP14 HT14 X14
            go_wp2_with fail
            clear k2
            go_loopw [30] (fun i wr => ∃ m : Nat, m ≤ 3 ∧ i = .int .i64 m ∧ Ext w15 wr) (fun i _ => 3 - (intOf i).toNat)
            case atStart => exact ⟨0, Nat.zero_le _, rfl, Ext.refl _⟩
            case round =>
              obtain ⟨wm, rfl⟩ : ∃ wm : World, wm = wr := ⟨_, rfl⟩
              obtain ⟨m, hm, rfl, hxm⟩ := hrel
              have HXM := Lib.hid hxm
              clear hxm
              by_cases hm3 : m < 3
              · have hd : decide ((m : Int) < 3) = true := by simp; omega
                have hmi : (m : Int) < 3 := by omega
                go_wp2_with fail
                go_loopw [31, 32] (fun s t wr => ∃ j : Nat, j ≤ zs.length ∧ t = .int .i64 j ∧ s = .float .f32 (sumS (tA k (tpS p m)) j) ∧ Ext w15 wr) (fun _ t _ => zs.length - (intOf t).toNat)
                case atStart => exact ⟨0, Nat.zero_le _, rfl, rfl, HXM.out⟩
                case round =>
                  obtain ⟨wt, rfl⟩ : ∃ wt : World, wt = wr := ⟨_, rfl⟩
                  obtain ⟨j, hj, rfl, rfl, hxt⟩ := hrel
                  have HXT := Lib.hid hxt
                  clear hxt
                  by_cases hlt : j < zs.length
                  · obtain ⟨be, oe, b2, o2, ce, rfl, hbe, e1, hb2, e2⟩ := rows_ev HT15.out m j hm3 hlt
                    replace e1 := ((bcell HXT.out).1 be (oe + m) hbe).trans e1
                    replace e2 := ((bcell HXT.out).1 b2 (o2 + j) hb2).trans e2
                    have k2 := HB15.out.out wt HXT.out
                    obtain ⟨s1, s2, -⟩ := sumS_step zs.length (tA k (tpS p m)) j hlt
                    have q := fun wq => run_fine (P := Try.prog) .add (by simp) wq 31 (sumS (tA k (tpS p m)) j) ((evF zs.length k p m).getD j 0) s2
                    rw [show fop .add .f32 (sumS (tA k (tpS p m)) j) ((evF zs.length k p m).getD j 0) = sumS (tA k (tpS p m)) (j + 1) from s1] at q
                    obtain ⟨s0, hs0⟩ : ∃ s0, sumS (tA k (tpS p m)) j = s0 := ⟨_, rfl⟩
                    obtain ⟨x0, hx0⟩ : ∃ x0, (evF zs.length k p m).getD j 0 = x0 := ⟨_, rfl⟩
                    rw [hs0, hx0] at q
                    rw [hx0] at e2
                    rw [hs0]
                    have hi1 : (j : Int) < (zs.length : Int) := by omega
                    clear s1 s2 hs0 hx0
                    go_wp2_with fail
                    exact ⟨⟨j + 1, by omega, by go_num, rfl, HXT.out⟩, by simp [intOf]; omega⟩
                  · obtain rfl : zs.length = j := by omega
                    have t1 : FloatKind.f32.format.order 1077936128 1077936128 = some .eq := by decide +kernel
                    have t2 : FloatKind.f32.format.order 0 1077936128 = some .lt := by decide +kernel
                    have t3 : FloatKind.f32.format.order 0 0 = some .eq := by decide +kernel
                    rcases sumS_is (tA k (tpS p m)) zs.length with hs | hs
                    · rw [hs]
                      clear hs
                      go_wp2_with fail
                      exact ⟨⟨m + 1, by omega, by go_num, HXT.out⟩, by simp [intOf]; omega⟩
                    · rw [hs]
                      clear hs
                      go_wp2_with fail
                      exact ⟨⟨m + 1, by omega, by go_num, HXT.out⟩, by simp [intOf]; omega⟩
              · obtain rfl : m = 3 := by omega
                obtain ⟨be, oe, b2, o2, ce, rfl, hbe, e1, hb2, e2⟩ := rows_ev HT15.out 0 k (by decide) (by omega)
                replace e1 := ((bcell HXM.out).1 be (oe + 0) hbe).trans e1
                replace e2 := ((bcell HXM.out).1 b2 (o2 + k) hb2).trans e2
                rw [own_at_k _ _ _ hk10 hp (by omega)] at e2
                rw [Nat.add_zero] at e1
                have k2 := HB15.out.out wm HXM.out
                have t1 : FloatKind.f32.format.order 1077936128 1077936128 = some .eq := by decide +kernel
                have hi1 : (k : Int) < (zs.length : Int) := by omega
                go_wp2_with fail
                go_ret
                exact TrueB.mk (X15.out.trans HXM.out)
end Go.Proofs.Ytjhbcnmkamkkaaa

/- FnSamples returns true for every input: no condition. -/
namespace Go.Proofs.Ytjhbcnmkamkkaaa.lawSamples
open Go.ChangeShapes Go.WideShapes Go.ChangeAt Go.RowKit

theorem own : ownKnob Try.prog.godebug = none := by kernel_rfl
theorem laidOut : laidOutB Try.prog = true := by kernel_rfl

set_option maxRecDepth 100000 in
theorem lifted (os : Os) (started : os.Started) (H : Type) (enc : TypeId × Value → H) :
    ReturnsInHanded {} Try.checked os 5 .any (Rows.fnSamplesSpec.pre6 enc Try.prog Try.f5 Rows.fnSamplesRow.domain false) (Rows.fnSamplesSpec.post enc Try.prog Try.f5 false true false false) := by
  refine returnsInHanded_of_change (C := Try.checked) own started (by kernel_rfl) Try.func5
    (ChangeSpec.witness6 (enc := enc) (C := Try.checked) false ⟨#[], #[.slice none 0 0, .slice none 0 0], []⟩ 4 (by kernel_rfl) (by kernel_rfl) (by kernel_rfl) (by kernel_rfl)) ?_
  intro W base args ds gs before hval0 hW hcnd _
  have hval : ∀ (j : Nat) t v, Try.f5.params[j]? = some t → args[j]? = some v → Value.okWide Try.prog W .any base t v := hval0
  have hW' := hW
  obtain ⟨p, q, hA0, hV, rfl, hfz, hnd⟩ := hW
  have hA : DataW.TrodAll enc Try.prog W 0 (fun _ => true) true Try.f5.params.toList args.toList ds p := hA0
  rw [Try.params5] at hA hval
  obtain ⟨v0, vs0, d0, ds0, p0, q0, hargs, rfl, rfl, h0, r0⟩ := trodAll_cons hA
  obtain ⟨v1, vs1, d1, ds1, p1, q1, rfl, rfl, rfl, h1, r1⟩ := trodAll_cons r0
  obtain ⟨rfl, rfl, rfl⟩ := trodAll_nil r1
  obtain rfl : args = #[v0, v1] := by cases args; simp_all
  obtain ⟨rfl, rfl⟩ := trodVars_none hV
  have k0 := h0
  have lt0 : ∀ x ∈ p0, x.block < W.heap.size := by obtain ⟨m, hm⟩ := k0; exact DataW.trod_lt m _ _ _ hm
  have k1 := h1
  have lt1 : ∀ x ∈ p1, x.block < W.heap.size := by obtain ⟨m, hm⟩ := k1; exact DataW.trod_lt m _ _ _ hm
  obtain ⟨a0, len0, cap0, rfl⟩ := okWide_slice Try.underlying22 (hval 0 22 v0 rfl rfl)
  obtain ⟨m0, R0⟩ := open_bytes Try.underlying22 Try.underlying5 (by kernel_rfl) h0
  obtain ⟨a1, len1, cap1, rfl⟩ := okWide_slice Try.underlying22 (hval 1 22 v1 rfl rfl)
  obtain ⟨m1, R1⟩ := open_bytes Try.underlying22 Try.underlying5 (by kernel_rfl) h1
  clear hA0 hval0
  refine (lawSamples_any W _ _ _ _ R0 R1 m0 m1).mono fun e W' ⟨he, bel⟩ => ?_
  subst he
  exact ⟨_, rfl, _, _, _, [], _, [], hW', trodAll_mk1 (shut_bool Try.underlying4 _), (trodAll_cons_mk (Below.trod laidOut (by kernel_rfl) (of_decide_eq_true (by kernel_rfl)) k0 bel lt0) (trodAll_cons_mk (Below.trod laidOut (by kernel_rfl) (of_decide_eq_true (by kernel_rfl)) k1 bel lt1) trodAll_mk0)), rfl, bel.frame _, fun h => by cases h⟩

theorem over : Rows.fnSamplesRow.holds Try.pinned (OpenSpec.ofChange Rows.fnSamplesSpec) :=
  OpenClaim.holds_of_wide 5 Try.f5 rfl rfl rfl rfl rfl rfl rfl ⟨rfl, rfl, rfl, rfl, rfl⟩ rfl rfl rfl rfl rfl (by kernel_rfl) Try.func5 (by kernel_rfl)
    (of_decide_eq_true (by kernel_rfl)) (by unfold Func.isWrapper; first | (rw [if_pos (by decide +kernel)]; kernel_rfl) | (rw [if_neg (by decide +kernel)]; exact ⟨rfl, rfl⟩))
    (fun os started H enc _ => lifted os started H enc)

/-- THE STATEMENT. -/
theorem proved : Rows.FnSamplesSaid := over
end Go.Proofs.Ytjhbcnmkamkkaaa.lawSamples

