/- Walks on a seat of gathers: AddEvent. -/
import Derived.Test.YtjhbcnmkamkkaaaSan
import Derived.Test.YtjhbcnmkamkkaaaGr7
namespace Go.Proofs.Ytjhbcnmkamkkaaa
open Go Go.RowKit

def nonnegB (x : Nat) : Bool := fin .f32 x && (FloatKind.f32.format.order x 0 == some .gt || FloatKind.f32.format.order x 0 == some .eq)
set_option maxRecDepth 100000 in
set_option maxHeartbeats 400000 in
theorem isNonNegative_any (w : World) (r x : Nat) (hr : FV .f32 r x) :
    Calls Try.prog 85 #[.float .f32 r] w fun e w' => e = .returned (.bool (nonnegB x)) ∧ ∃ n, w' = w.drewN n := by
  have hsub := run_fsub (P := Try.prog)
  have hcv := run_widen (P := Try.prog) 31 51 (by kernel_rfl) (by kernel_rfl)
  have hs : ∀ w1 w2 : World, (FloatKind.f64.format.order (fres .sub .f64 (cres r w1) (cres r w1) w2) 0 == some Ordering.eq) = fin .f32 x := fun w1 w2 => by
    rw [(FV.op (hr.wide w1) (hr.wide w1) w2).order (fv0 _), self_less, fin_wide]
  have hg : (FloatKind.f32.format.order r 0 == some Ordering.gt || FloatKind.f32.format.order r 0 == some Ordering.eq) = (FloatKind.f32.format.order x 0 == some Ordering.gt || FloatKind.f32.format.order x 0 == some Ordering.eq) := by
    rw [hr.order (fv0 _)]
  cases hf : fin .f32 x with
  | false =>
    have hn : nonnegB x = false := by unfold nonnegB; rw [hf]; rfl
    rw [hf] at hs
    rw [hn]
    go_enter Try.func85, Try.ntmps85
    go_wp2
    go_ret
    exact ⟨rfl, _, rfl⟩
  | true =>
    have hn : nonnegB x = (FloatKind.f32.format.order x 0 == some Ordering.gt || FloatKind.f32.format.order x 0 == some Ordering.eq) := by unfold nonnegB; rw [hf]; rfl
    rw [hf] at hs
    rw [hn]
    have Hg := Lib.hid hg
    clear hg hn
    go_enter Try.func85, Try.ntmps85
    go_wp2
    go_ret
    exact ⟨by rw [← Hg.out]; rfl, _, rfl⟩
/-- Where an event stands: the floor of the curve and a half. -/
def evC (s p v : Nat) : Nat := fop .add .f32 (crv s p v) 1056964608
def evA (s p v : Nat) : Nat := flo (cwide (evC s p v))
structure EvOk (s p v : Nat) : Prop where
  c : crvOk s p v = true
  n1 : isN .f32 (evC s p v) = false
  n2 : isN .f64 (cwide (evC s p v)) = false
/-- The list with the event. -/
def Evt (L : List Nat) (s p v z : Nat) (R : List Nat) : Prop :=
  ((FloatKind.f64.format.order (evA s p v) (floatOfInt .f64 (L.length : Nat)) == some Ordering.lt) = false ∧ R = L) ∨
    ∃ j : Nat, (FloatKind.f64.format.order (evA s p v) (floatOfInt .f64 (L.length : Nat)) == some Ordering.lt) = true ∧ toIOk .f64 (evA s p v) = true ∧ toI .f64 (evA s p v) = (j : Nat) ∧ j < L.length ∧ isN .f32 (L.getD j 0) = false ∧ isN .f32 (fop .add .f32 (L.getD j 0) z) = false ∧ R = L.set j (fop .add .f32 (L.getD j 0) z)
set_option maxRecDepth 100000 in
set_option maxHeartbeats 1600000 in
theorem eventFn_fine (w : World) (v0 : Value) (r p s v z b1 b2 b3 : Nat) (L R : List Nat) (hL : RdF w v0 L) (hr : FV .f32 r p) (hnp : isN .f32 p = false) (hs : w.cell? ⟨b1, 0, none⟩ = some (.float .f32 s)) (hv : w.cell? ⟨b2, 0, none⟩ = some (.float .f32 v)) (hz : w.cell? ⟨b3, 0, none⟩ = some (.float .f32 z)) (hn : L.length ≤ 64) (hok : EvOk s p v) (hE : Evt L s p v z R) :
    Calls Try.prog 87 #[v0, .float .f32 r, .pointer (some ⟨b1, 0, none⟩), .pointer (some ⟨b2, 0, none⟩), .pointer (some ⟨b3, 0, none⟩)] w fun e w' => ∃ v', e = .returned v' ∧ OwnF w' w.heap.size v' R ∧ Ext w w' := by
  obtain rfl := hr.eq_of_not hnp
  obtain ⟨oc, o1, o2⟩ := hok
  have hst := run_store_float (P := Try.prog)
  have g1 : ∀ (wq : World) (ty : TypeId), (binOp .add ty (.float .f32 (crv s r v)) (.float .f32 1056964608)).run Try.prog wq = .ok (.float .f32 (evC s r v)) wq := fun wq ty => run_fineK .f32 .add (by simp) wq ty _ _ o1
  have g2 : ∀ wq : World, (convert 31 51 (.float .f32 (evC s r v))).run Try.prog wq = .ok (.float .f64 (cwide (evC s r v))) wq := fun wq => run_wideF _ _ (by kernel_rfl) (by kernel_rfl) wq _ o1
  have HF : Hid (∀ wq, Calls Try.prog 88 #[.float .f64 (cwide (evC s r v))] wq fun e w' => e = .returned (.float .f64 (evA s r v)) ∧ w' = wq) := Lib.hid fun wq => mathFloor_any wq _ o2
  have HC := Lib.hid (fun wq => curve_fine wq s r v oc)
  have HCl := Lib.hid (clone_any w v0 L hL (by omega))
  have hlb1 := block_lt hs
  have hlb2 := block_lt hv
  have hlb3 := block_lt hz
  have HS := Lib.hid hs
  have HV := Lib.hid hv
  have HZ := Lib.hid hz
  obtain ⟨a, c, rfl, -, -, -⟩ := hL.opened
  clear hL hr hnp oc o1 o2 hs hv hz
  generalize cwide (evC s r v) = c2 at *
  generalize evC s r v = c1 at *
  go_enter Try.func87, Try.ntmps87
  go_wp2_with fail
  refine HCl.out.mono ?_
  clear HCl
  rintro e w1 ⟨v1, rfl, o1, b1'⟩
  obtain ⟨a1, c1', rfl, -, -, -⟩ := o1.rd.opened
  have O1 := Lib.hid o1
  have B1 := Lib.hid b1'
  have k1 := ((bcell b1').1 _ 0 hlb1).trans HS.out
  have k2 := ((bcell b1').1 _ 0 hlb2).trans HV.out
  have k3 := ((bcell b1').1 _ 0 hlb3).trans HZ.out
  clear o1 b1'
  go_wp2_with fail
  refine (HC.out _).mono ?_
  rintro e w2 ⟨rfl, hw2⟩
  obtain rfl : w1 = w2 := hw2.symm
  clear hw2
  go_wp2_with fail
  refine (HF.out _).mono ?_
  rintro e w2 ⟨rfl, hw2⟩
  obtain rfl : w1 = w2 := hw2.symm
  clear hw2 HC HF g1 g2
  rcases hE with ⟨hlt, rfl⟩ | ⟨j, hlt, hk, hj, hjl, hnj, hna, rfl⟩
  · go_wp2_with fail
    go_ret
    exact ⟨_, rfl, O1.out, B1.out⟩
  · have g4 : ∀ wq : World, (convert 51 3 (.float .f64 (evA s r v))).run Try.prog wq = .ok (.int .i64 (j : Nat)) wq := fun wq => by rw [run_toI _ _ (by kernel_rfl) (by kernel_rfl) wq _ _ hk, hj]
    have g5 : ∀ (wq : World) (ty : TypeId), (binOp .add ty (.float .f32 (L.getD j 0)) (.float .f32 z)).run Try.prog wq = .ok (.float .f32 (fop .add .f32 (L.getD j 0) z)) wq := fun wq ty => run_fineK .f32 .add (by simp) wq ty _ _ hna
    have hfv : FV .f32 (fop .add .f32 (L.getD j 0) z) (fop .add .f32 (L.getD j 0) z) := fop_cls
    obtain ⟨g, cap, hv, hgB, hgs, -, hcd, hfd⟩ := O1.out.at_block rfl (show 0 < L.length by omega)
    obtain ⟨rfl, rfl⟩ : a1 = some ⟨g, 0, none⟩ ∧ c1' = cap := by cases hv; exact ⟨rfl, rfl⟩
    obtain ⟨r0, hc0, hf0⟩ := hcd j hjl
    obtain rfl := hf0.eq_of_not hnj
    have hfz := hfd j
    have hji : (j : Int) < (L.length : Int) := by omega
    have HFV := Lib.hid hfv
    clear hv hcd hfd hf0 hk hj hnj hna hfv
    generalize evA s r v = fl at *
    generalize hy : fop .add .f32 (L.getD j 0) z = y at *
    generalize hx : L.getD j 0 = x at *
    have HY := Lib.hid hy
    have HX := Lib.hid hx
    clear hy hx
    go_wp2_with fail
    refine region_rel_tail 7 (by kernel_rfl) (by kernel_rfl) (Drawn w1) (fun _ _ _ => False) ⟨1, rfl⟩ ?_
    simp only [List.take_succ_cons, List.take_zero, List.drop_succ_cons, List.drop_zero]
    iterate 7 (refine wpRel_draw rfl rfl (fun nq K hK => ?_); go_wp2)
    refine wpRel_nil ?_
    rintro wd ⟨nd, hwd⟩
    have HOd : Hid (OwnF wd w.heap.size (.slice (some ⟨g, 0, none⟩) L.length c1') L) := Lib.hid (by rw [hwd]; exact O1.out.drewN nd)
    have HXd : Hid (Ext w wd) := Lib.hid (by rw [hwd]; exact Below.drewN B1.out nd)
    have hc1 : wd.cell? ⟨g, j, none⟩ = some (.float .f32 x) := by rw [hwd]; exact hc0
    have hf1 : wd.frozen? ⟨g, j, none⟩ = false := by rw [hwd]; exact hfz
    clear hwd k1 k2 k3 hc0 hfz g4 g5
    go_wp2_with fail
    go_ret
    exact ⟨_, rfl, (by rw [HX.out, HY.out]; exact HOd.out.stored HFV.out), Below.chg HXd.out ((Chg.refl wd (fun b => b = g)).setCell rfl j _) (fun b hb => by omega) HXd.out.size⟩
/-- What becomes of the traces. -/
def EvtAll (T : TM) (s v z : Nat) (F : Nat → List Nat) : Prop := ∀ i, i < T.Ls.length → EvOk s (T.P.getD i 0) v ∧ isN .f32 (T.P.getD i 0) = false ∧ Evt (rowAt T.Ls i) s (T.P.getD i 0) v z (F i) ∧ (F i).length ≤ 64 ∧ ∀ j, j < (F i).length → ∃ r, FV .f32 r ((F i).getD j 0)
set_option maxRecDepth 100000 in
set_option maxHeartbeats 3200000 in
theorem addEvent_any (w : World) (vp vt : Value) (T : TM) (s v z : Nat) (F : Nat → List Nat) (hs : FV .f32 s s) (hnn : nonnegB s = true) (hv : FV .f32 v v) (hpos : posB v = true) (hP : RdF w vp T.P) (hL : RdSS w vt T.Ls) (hl : T.Ls.length = T.P.length) (hn : T.P.length ≤ 16) (hr : ∀ j, (rowAt T.Ls j).length ≤ 64) (hvt : validT T = true) (hE : EvtAll T s v z F) :
    Calls Try.prog 41 #[.agg #[.int .i64 T.t, vp, vt], .float .f32 s, .float .f32 v, .float .f32 z] w fun e w' => ∃ ap np cp vt', e = .returned (.tuple #[.agg #[.int .i64 T.t, .slice ap np cp, vt'], .bool true]) ∧ RdF w' (.slice ap np cp) T.P ∧ RdSS w' vt' (doL F T.Ls.length) ∧ Below w.heap.size w w' := by
  have HP := Lib.hid hP
  have HL := Lib.hid hL
  obtain ⟨a1, c1, rfl, -, -, -⟩ := hP.opened
  obtain ⟨a2, c2, rfl, -, -, -⟩ := hL.opened
  obtain ⟨wA, hwA⟩ : ∃ wA, w.alloc (.cells #[.int .i64 T.t, .slice a1 T.P.length c1, .slice a2 T.Ls.length c2] 59) = wA := ⟨_, rfl⟩
  obtain ⟨wB, hwB⟩ : ∃ wB, wA.alloc (.cells #[.float .f32 s] 31) = wB := ⟨_, rfl⟩
  obtain ⟨wC, hwC⟩ : ∃ wC, wB.alloc (.cells #[.float .f32 v] 31) = wC := ⟨_, rfl⟩
  obtain ⟨wD, hwD⟩ : ∃ wD, wC.alloc (.cells #[.float .f32 z] 31) = wD := ⟨_, rfl⟩
  obtain ⟨W, hW⟩ : ∃ W, wD.alloc (.cells #[.int .i64 0, .slice none 0 0, .slice none 0 0] 59) = W := ⟨_, rfl⟩
  have xA : Ext w wA := by rw [← hwA]; exact (Below.refl _ _).alloc (Nat.le_refl _) _
  have xB : Ext wA wB := by rw [← hwB]; exact (Below.refl _ _).alloc (Nat.le_refl _) _
  have xC : Ext wB wC := by rw [← hwC]; exact (Below.refl _ _).alloc (Nat.le_refl _) _
  have xD : Ext wC wD := by rw [← hwD]; exact (Below.refl _ _).alloc (Nat.le_refl _) _
  have xE : Ext wD W := by rw [← hW]; exact (Below.refl _ _).alloc (Nat.le_refl _) _
  have zA : wA.heap.size = w.heap.size + 1 := by rw [← hwA]; exact World.size_alloc _ _
  have zB : wB.heap.size = w.heap.size + 2 := by rw [← hwB, World.size_alloc]; omega
  have zC : wC.heap.size = w.heap.size + 3 := by rw [← hwC, World.size_alloc]; omega
  have zD : wD.heap.size = w.heap.size + 4 := by rw [← hwD, World.size_alloc]; omega
  have hWs : W.heap.size = w.heap.size + 5 := by rw [← hW, World.size_alloc]; omega
  have hbx : W.heap[w.heap.size]? = some (.cells #[.int .i64 T.t, .slice a1 T.P.length c1, .slice a2 T.Ls.length c2] 59 (0, 0)) := by
    refine ((((xB.trans xC).trans xD).trans xE).block w.heap.size (by omega)).trans ?_
    rw [← hwA]; exact alloc_new _ _
  have hb1 : W.heap[w.heap.size + 1]? = some (.cells #[.float .f32 s] 31 (0, 0)) := by
    refine (((xC.trans xD).trans xE).block (w.heap.size + 1) (by omega)).trans ?_
    rw [← hwB, ← zA]; exact alloc_new _ _
  have hb2 : W.heap[w.heap.size + 2]? = some (.cells #[.float .f32 v] 31 (0, 0)) := by
    refine ((xD.trans xE).block (w.heap.size + 2) (by omega)).trans ?_
    rw [← hwC, ← zB]; exact alloc_new _ _
  have hb3 : W.heap[w.heap.size + 3]? = some (.cells #[.float .f32 z] 31 (0, 0)) := by
    refine (xE.block (w.heap.size + 3) (by omega)).trans ?_
    rw [← hwD, ← zC]; exact alloc_new _ _
  have hby : W.heap[w.heap.size + 4]? = some (.cells #[.int .i64 0, .slice none 0 0, .slice none 0 0] 59 (0, 0)) := by
    rw [← hW, ← zD]; exact alloc_new _ _
  have hG : Below w.heap.size w W := (((xA.trans xB).trans xC).trans xD).trans xE
  have FX : Hid (∀ wq, Below W.heap.size W wq → wq.cell? ⟨w.heap.size, 0, none⟩ = some (.int .i64 T.t) ∧ wq.cell? ⟨w.heap.size, 1, none⟩ = some (.slice a1 T.P.length c1) ∧ wq.cell? ⟨w.heap.size, 2, none⟩ = some (.slice a2 T.Ls.length c2) ∧ wq.cell? ⟨w.heap.size + 1, 0, none⟩ = some (.float .f32 s) ∧ wq.cell? ⟨w.heap.size + 2, 0, none⟩ = some (.float .f32 v) ∧ wq.cell? ⟨w.heap.size + 3, 0, none⟩ = some (.float .f32 z)) := Lib.hid fun wq hq => by
    obtain ⟨k0, k1, k2, -, -, -⟩ := blk3 ((hq.block w.heap.size (by omega)).trans hbx)
    exact ⟨k0, k1, k2, cell_of_row wq _ 0 _ _ _ ((hq.block (w.heap.size + 1) (by omega)).trans hb1), cell_of_row wq _ 0 _ _ _ ((hq.block (w.heap.size + 2) (by omega)).trans hb2), cell_of_row wq _ 0 _ _ _ ((hq.block (w.heap.size + 3) (by omega)).trans hb3)⟩
  have HBY := Lib.hid hby
  have HG := Lib.hid hG
  have HWS := Lib.hid hWs
  have HVT : Hid (Calls Try.prog 42 #[.agg #[.int .i64 T.t, .slice a1 T.P.length c1, .slice a2 T.Ls.length c2]] W fun e w' => e = .returned (.bool true) ∧ Below W.heap.size W w') := Lib.hid (by
    have := implValidGather_any W (.agg #[.int .i64 T.t, .slice a1 T.P.length c1, .slice a2 T.Ls.length c2]) T ⟨_, _, rfl, HP.out.mono hG, HL.out.mono hG⟩ ⟨by omega, by omega, fun j _ => by have := hr j; omega⟩
    rw [hvt] at this
    exact this)
  have HNn := Lib.hid (fun wq => isNonNegative_any wq s s hs)
  rw [hnn] at HNn
  have HA : Hid (∀ w1 : World, Calls Try.prog 79 #[.slice (some ⟨w1.heap.size, 0, none⟩) 1 1] (w1.alloc (.cells #[.float .f32 v] 31)) fun e w' => e = .returned (.bool true) ∧ ∃ n, w' = (w1.alloc (.cells #[.float .f32 v] 31)).drewN n) := Lib.hid fun w1 => by
    have := arePositive_any (w1.alloc (.cells #[.float .f32 v] 31)) (.slice (some ⟨w1.heap.size, 0, none⟩) 1 1) [v] (OwnF.one (Nat.le_refl _) hv).rd (by simp)
    rw [show allB posB [v] = true by simp [allB, allTo, hpos]] at this
    exact this
  have HE := Lib.hid (fun (wq : World) (hq : Below W.heap.size W wq) => each_any wq (.slice a1 T.P.length c1) (.slice a2 T.Ls.length c2) T 87 #[.pointer (some ⟨w.heap.size + 1, 0, none⟩), .pointer (some ⟨w.heap.size + 2, 0, none⟩), .pointer (some ⟨w.heap.size + 3, 0, none⟩)] F (HP.out.mono (hG.trans (hq.mono (by omega)))) (HL.out.mono (hG.trans (hq.mono (by omega)))) hl hn (fun i hi => (hE i hi).2.2.2)
    (fun args wx => run_enter Try.func87 (by kernel_rfl) (by kernel_rfl) args wx)
    (fun wx hx i hi v0 r hR hf => by
      have hx2 := hq.trans (hx.mono hq.size)
      obtain ⟨-, -, -, k1, k2, k3⟩ := FX.out wx hx2
      exact (eventFn_fine wx v0 r _ s v z _ _ _ _ (F i) hR hf (hE i hi).2.1 k1 k2 k3 (hr i) (hE i hi).1 (hE i hi).2.2.1).mono fun e w' h => h))
  clear hP hL hbx hb1 hb2 hb3 hby hG hl hWs hvt hr hpos hnn hs hv hE xA xB xC xD xE zA zB zC zD
  subst hwA
  subst hwB
  subst hwC
  subst hwD
  go_enter Try.func41, Try.ntmps41
  obtain ⟨k0, k1, k2, k3, k4, k5⟩ := FX.out W (Below.refl _ _)
  go_wp2_with fail
  clear hW k0 k1 k2 k3 k4 k5
  refine HVT.out.mono ?_
  clear HVT
  rintro e w1 ⟨rfl, b1⟩
  obtain ⟨k0, k1, k2, k3, k4, k5⟩ := FX.out w1 b1
  have B1 := Lib.hid b1
  clear b1
  go_wp2_with fail
  clear k0 k1 k2 k3 k4 k5
  refine (HNn.out _).mono ?_
  rintro e w2 ⟨rfl, n2, hw2⟩
  have B2 : Hid (Below W.heap.size W w2) := Lib.hid (by rw [hw2]; exact Below.drewN B1.out n2)
  clear hw2
  obtain ⟨k0, k1, k2, k3, k4, k5⟩ := FX.out w2 B2.out
  go_wp2_with fail
  clear k0 k1 k2 k3 k4 k5
  refine (HA.out _).mono ?_
  rintro e w3 ⟨rfl, n3, hw3⟩
  have B3 : Hid (Below W.heap.size W w3) := Lib.hid (by rw [hw3]; exact Below.drewN (Below.trans B2.out ((Below.refl _ _).alloc B2.out.size _)) n3)
  clear hw3
  obtain ⟨k0, k1, k2, k3, k4, k5⟩ := FX.out w3 B3.out
  have HE3 := Lib.hid (HE.out w3 B3.out)
  have z3 := B3.out.size
  clear HE
  go_wp2_with fail
  clear k0 k1 k2 k3 k4 k5
  refine HE3.out.mono ?_
  clear HE3
  rintro e w4 ⟨vp', vt', rfl, o3, ⟨S, s3, hS⟩, b3⟩
  obtain ⟨ap, n1, cp, rfl⟩ : ∃ a n c, vp' = .slice a n c := (by obtain ⟨a, c, h, -⟩ := o3.rd.opened; exact ⟨a, _, c, h⟩)
  obtain ⟨at_, n4, ct, rfl⟩ : ∃ a n c, vt' = .slice a n c := (by obtain ⟨a, c, h, -⟩ := OwnC.rd s3; exact ⟨a, _, c, h⟩)
  have hy3 : w4.heap[w.heap.size + 4]? = some (.cells #[.int .i64 0, .slice none 0 0, .slice none 0 0] 59 (0, 0)) := (b3.block _ (by have := HWS.out; omega)).trans ((B3.out.block _ (by have := HWS.out; omega)).trans HBY.out)
  have PY := put3 hy3 (.int .i64 T.t) (.slice ap n1 cp) (.slice at_ n4 ct)
  obtain ⟨m0, m1, m2, f0, f1, f2⟩ := blk3 hy3
  have HPY := Lib.hid PY
  have B4 : Hid (Below w.heap.size w w4) := Lib.hid ((HG.out.trans (B3.out.mono (by have := HWS.out; omega))).trans (b3.mono (by have := HWS.out; omega)))
  have hlt1 : w.heap.size + 4 < w4.heap.size := (Array.getElem?_eq_some_iff.1 hy3).1
  have O3 := Lib.hid o3
  have S3 := Lib.hid s3
  have HS3 := Lib.hid hS
  clear hy3 PY b3 o3 s3 hS
  go_wp2_with fail
  have PY := HPY.out
  clear HPY
  generalize (((w4.setCell ⟨w.heap.size + 4, 0, none⟩ (.int .i64 T.t)).setCell ⟨w.heap.size + 4, 1, none⟩ (.slice ap n1 cp)).setCell ⟨w.heap.size + 4, 2, none⟩ (.slice at_ n4 ct)) = wz2 at *
  obtain ⟨q0, q1, q2, -, -, -⟩ := blk3 PY.heap
  refine bodyPost_ret (v := .tuple #[.agg #[.int .i64 T.t, .slice ap n1 cp, .slice at_ n4 ct], .bool true]) (by simp [results, Try.results41, go_sem, q0, q1, q2]) rfl ?_
  have hw := HWS.out
  exact ⟨_, _, _, _, rfl, (O3.out.chg PY.chg fun k hk e => by have := (O3.out.lt hk).1; omega).rd, OwnC.rd (OwnC.chg S3.out PY.chg fun k hk e => by have := HS3.out k hk; omega), Below.chg B4.out PY.chg (fun k hk => by omega) (by omega)⟩
end Go.Proofs.Ytjhbcnmkamkkaaa
