/- Several texts in one: StC, StD, Szs, StE, StF, StG, StH, StI, Cpf, StJ, SfN, Tru, FinStk, PrStk. -/
import Derived.Test.YthacadbdncfocaaStkM
import Derived.Test.YthacadbdncfocaaBs
import Derived.Test.YthacadbdncfocaaNumB
import Derived.Test.YthacadbdncfocaaOwn
import Derived.Test.YthacadbdncfocaaChg
import Derived.Laws.CopyOwn
import Derived.Test.YthacadbdncfocaaSfG
import Derived.Test.YthacadbdncfocaaSfE
import Derived.Test.YthacadbdncfocaaOpnB
import Derived.Laws.Cover2
/- Walks on a seat of gathers: corrected gathers, speeds that are tried. -/
namespace Go.Proofs.Ythacadbdncfocaa
open Go Go.RowKit

/-- Trace i, corrected. -/
def corF (T : TM) (s i : Nat) : List Nat := (List.range (rowAt T.Ls i).length).map fun k => smpR (rowAt T.Ls i) (crv (floatOfInt .f32 (k : Nat)) (T.P.getD i 0) s)
theorem corF_length (T : TM) (s i : Nat) : (corF T s i).length = (rowAt T.Ls i).length := by simp [corF]
/-- What is asked of a gather that is corrected. -/
structure CorOk (T : TM) (s i : Nat) : Prop where
  np : isN .f32 (T.P.getD i 0) = false
  nn : ∀ j, j < (rowAt T.Ls i).length → isN .f32 ((rowAt T.Ls i).getD j 0) = false
  l0 : 1 ≤ (rowAt T.Ls i).length
  l1 : (rowAt T.Ls i).length ≤ 64
  ok : ∀ k : Nat, k < (rowAt T.Ls i).length → crvOk (floatOfInt .f32 (k : Nat)) (T.P.getD i 0) s = true
  sm : ∀ k : Nat, k < (rowAt T.Ls i).length → Smp (rowAt T.Ls i) (crv (floatOfInt .f32 (k : Nat)) (T.P.getD i 0) s) (smpR (rowAt T.Ls i) (crv (floatOfInt .f32 (k : Nat)) (T.P.getD i 0) s))
  cl : ∀ k : Nat, k < (rowAt T.Ls i).length → Cls .f32 (smpR (rowAt T.Ls i) (crv (floatOfInt .f32 (k : Nat)) (T.P.getD i 0) s))
theorem CorOk.cls {T : TM} {s i : Nat} (h : CorOk T s i) (j : Nat) (hj : j < (corF T s i).length) : ∃ r, FV .f32 r ((corF T s i).getD j 0) := by
  rw [corF_length] at hj
  have e : (corF T s i).getD j 0 = smpR (rowAt T.Ls i) (crv (floatOfInt .f32 (j : Nat)) (T.P.getD i 0) s) := by
    unfold corF
    rw [List.getD_eq_getElem?_getD, List.getElem?_map, List.getElem?_range hj]
    rfl
  rw [e]
  exact ⟨_, h.cl j hj⟩
set_option maxRecDepth 100000 in
set_option maxHeartbeats 800000 in
theorem corrG_fine (w : World) (v : Value) (T : TM) (r s i b : Nat) (hL : RdF w v (rowAt T.Ls i)) (hr : FV .f32 r (T.P.getD i 0)) (hb : w.cell? ⟨b, 0, none⟩ = some (.float .f32 s)) (h : CorOk T s i) :
    Calls Try.prog 90 #[v, .float .f32 r, .pointer (some ⟨b, 0, none⟩)] w fun e w' => ∃ v', e = .returned v' ∧ OwnF w' w.heap.size v' (corF T s i) ∧ Ext w w' := by
  have hrp := hr.eq_of_not h.np
  have HC : Hid (Calls Try.prog 91 #[v, .float .f32 r, .float .f32 s] w fun e w' => ∃ v', e = .returned v' ∧ OwnF w' w.heap.size v' (corF T s i) ∧ Ext w w') := Lib.hid (by
    rw [hrp]
    exact corrected_fine w v (rowAt T.Ls i) (T.P.getD i 0) s _ hL h.l0 h.l1 h.nn h.ok h.sm h.cl)
  obtain ⟨a, c, rfl, -, -, -⟩ := hL.opened
  clear hL hr h hrp
  go_enter Try.func90, Try.ntmps90
  go_wp2_with fail
  refine HC.out.mono ?_
  rintro e w2 ⟨v', rfl, o2, x2⟩
  obtain ⟨a2, n2, c2, rfl⟩ : ∃ a n c, v' = .slice a n c := (by obtain ⟨a, c, h, -⟩ := o2.rd.opened; exact ⟨a, _, c, h⟩)
  have O2 := Lib.hid o2
  have X2 := Lib.hid x2
  clear o2 x2
  go_wp2
  go_ret
  exact ⟨_, rfl, O2.out, X2.out⟩
set_option maxRecDepth 100000 in
set_option maxHeartbeats 3200000 in
theorem gatherCorrected_fine (w : World) (vp vt : Value) (T : TM) (s : Nat) (hP : RdF w vp T.P) (hL : RdSS w vt T.Ls) (hl : T.Ls.length = T.P.length) (hn : T.P.length ≤ 16) (hc : ∀ i, i < T.Ls.length → CorOk T s i) :
    Calls Try.prog 58 #[.agg #[.int .i64 T.t, vp, vt], .float .f32 s] w fun e w' => ∃ ap np cp at_ nt ct, e = .returned (.agg #[.int .i64 T.t, .slice ap np cp, .slice at_ nt ct]) ∧ RdSS w' (.slice at_ nt ct) (doL (corF T s) T.Ls.length) ∧ Ext w w' := by
  have HP := Lib.hid hP
  have HL := Lib.hid hL
  obtain ⟨a1, c1, rfl, -, -, -⟩ := hP.opened
  obtain ⟨a2, c2, rfl, -, -, -⟩ := hL.opened
  obtain ⟨wA, hwA⟩ : ∃ wA, w.alloc (.cells #[.int .i64 T.t, .slice a1 T.P.length c1, .slice a2 T.Ls.length c2] 44) = wA := ⟨_, rfl⟩
  obtain ⟨wB, hwB⟩ : ∃ wB, wA.alloc (.cells #[.float .f32 s] 27) = wB := ⟨_, rfl⟩
  obtain ⟨W, hW⟩ : ∃ W, wB.alloc (.cells #[.int .i64 0, .slice none 0 0, .slice none 0 0] 44) = W := ⟨_, rfl⟩
  have xA : Ext w wA := by rw [← hwA]; exact (Below.refl _ _).alloc (Nat.le_refl _) _
  have xB : Ext wA wB := by rw [← hwB]; exact (Below.refl _ _).alloc (Nat.le_refl _) _
  have xC : Ext wB W := by rw [← hW]; exact (Below.refl _ _).alloc (Nat.le_refl _) _
  have zA : wA.heap.size = w.heap.size + 1 := by rw [← hwA]; exact World.size_alloc _ _
  have zB : wB.heap.size = w.heap.size + 2 := by rw [← hwB, World.size_alloc]; omega
  have hWs : W.heap.size = w.heap.size + 3 := by rw [← hW, World.size_alloc]; omega
  have hbx : W.heap[w.heap.size]? = some (.cells #[.int .i64 T.t, .slice a1 T.P.length c1, .slice a2 T.Ls.length c2] 44 (0, 0)) := by
    refine ((xB.trans xC).block w.heap.size (by omega)).trans ?_
    rw [← hwA]; exact alloc_new _ _
  have hbs : W.heap[w.heap.size + 1]? = some (.cells #[.float .f32 s] 27 (0, 0)) := by
    refine (xC.block (w.heap.size + 1) (by omega)).trans ?_
    rw [← hwB, ← zA]; exact alloc_new _ _
  have hby : W.heap[w.heap.size + 2]? = some (.cells #[.int .i64 0, .slice none 0 0, .slice none 0 0] 44 (0, 0)) := by
    rw [← hW, ← zB]; exact alloc_new _ _
  have hG : Below w.heap.size w W := (xA.trans xB).trans xC
  have FX : Hid (∀ wq, Below W.heap.size W wq → wq.cell? ⟨w.heap.size, 0, none⟩ = some (.int .i64 T.t) ∧ wq.cell? ⟨w.heap.size, 1, none⟩ = some (.slice a1 T.P.length c1) ∧ wq.cell? ⟨w.heap.size, 2, none⟩ = some (.slice a2 T.Ls.length c2) ∧ wq.cell? ⟨w.heap.size + 1, 0, none⟩ = some (.float .f32 s)) := Lib.hid fun wq hq => by
    obtain ⟨k0, k1, k2, -, -, -⟩ := blk3 ((hq.block w.heap.size (by omega)).trans hbx)
    exact ⟨k0, k1, k2, cell_of_row wq _ 0 _ _ _ ((hq.block (w.heap.size + 1) (by omega)).trans hbs)⟩
  have HBY := Lib.hid hby
  have HG := Lib.hid hG
  have HWS := Lib.hid hWs
  have HE := Lib.hid (each_any W (.slice a1 T.P.length c1) (.slice a2 T.Ls.length c2) T 90 #[.pointer (some ⟨w.heap.size + 1, 0, none⟩)] (corF T s) (HP.out.mono hG) (HL.out.mono hG) hl hn (fun i hi => ⟨by rw [corF_length]; exact (hc i hi).l1, (hc i hi).cls⟩)
    (fun args wx => run_enter Try.func90 (by kernel_rfl) (by kernel_rfl) args wx)
    (fun wx hx i hi v r hR hf => (corrG_fine wx v T r s i (w.heap.size + 1) hR hf (FX.out wx hx).2.2.2 (hc i hi)).mono fun e w' h => h))
  clear hP hL hbx hby hbs hG hl hWs xA xB xC zA zB hc
  subst hwA
  subst hwB
  obtain ⟨k0, k1, k2, k3⟩ := FX.out W (Below.refl _ _)
  go_enter Try.func58, Try.ntmps58
  go_wp2_with fail
  clear hW k0 k1 k2 k3
  refine HE.out.mono ?_
  clear HE
  rintro e w3 ⟨vp', vt', rfl, o3, ⟨S, s3, hS⟩, b3⟩
  obtain ⟨ap, n1, cp, rfl⟩ : ∃ a n c, vp' = .slice a n c := (by obtain ⟨a, c, h, -⟩ := o3.rd.opened; exact ⟨a, _, c, h⟩)
  obtain ⟨at_, n2, ct, rfl⟩ : ∃ a n c, vt' = .slice a n c := (by obtain ⟨a, c, h, -⟩ := OwnC.rd s3; exact ⟨a, _, c, h⟩)
  have hy3 : w3.heap[w.heap.size + 2]? = some (.cells #[.int .i64 0, .slice none 0 0, .slice none 0 0] 44 (0, 0)) := (b3.block _ (by have := HWS.out; omega)).trans HBY.out
  have PY := put3 hy3 (.int .i64 T.t) (.slice ap n1 cp) (.slice at_ n2 ct)
  obtain ⟨m0, m1, m2, f0, f1, f2⟩ := blk3 hy3
  have HPY := Lib.hid PY
  have B3 : Hid (Below w.heap.size w w3) := Lib.hid (HG.out.trans (b3.mono (by have := HWS.out; omega)))
  have hlt1 : w.heap.size + 2 < w3.heap.size := (Array.getElem?_eq_some_iff.1 hy3).1
  have S3 := Lib.hid s3
  have HS3 := Lib.hid hS
  clear hy3 PY b3 o3 s3 hS
  go_wp2_with fail
  have PY := HPY.out
  clear HPY
  generalize (((w3.setCell ⟨w.heap.size + 2, 0, none⟩ (.int .i64 T.t)).setCell ⟨w.heap.size + 2, 1, none⟩ (.slice ap n1 cp)).setCell ⟨w.heap.size + 2, 2, none⟩ (.slice at_ n2 ct)) = wz2 at *
  obtain ⟨q0, q1, q2, -, -, -⟩ := blk3 PY.heap
  refine bodyPost_ret (v := .agg #[.int .i64 T.t, .slice ap n1 cp, .slice at_ n2 ct]) (by simp [results, Try.results58, go_sem, q0, q1, q2]) rfl ?_
  exact ⟨_, _, _, _, _, _, rfl, OwnC.rd (OwnC.chg S3.out PY.chg fun k hk e => by have := HS3.out k hk; have := HWS.out; omega), Below.chg B3.out PY.chg (fun k hk => by omega) (by omega)⟩
end Go.Proofs.Ythacadbdncfocaa

/- Walks on a seat of gathers: ScanSpeeds, BestSpeed. -/
namespace Go.Proofs.Ythacadbdncfocaa
open Go Go.RowKit

theorem rowAt_doL (F : Nat → List Nat) (n j : Nat) (h : j < n) : rowAt (doL F n) j = F j := by
  unfold rowAt doL
  rw [List.getD_eq_getElem?_getD, List.getElem?_map, List.getElem?_range h]
  rfl
/-- The semblances of a gather that is corrected with speeds. -/
def scV (T : TM) (lo C s : Nat) : Nat := semF (doL (corF T s) T.Ls.length) lo C
def scL (T : TM) (lo C : Nat) (V : List Nat) : List Nat := V.map (scV T lo C)
theorem scL_length (T : TM) (lo C : Nat) (V : List Nat) : (scL T lo C V).length = V.length := by simp [scL]
theorem scL_succ (T : TM) (lo C : Nat) (V : List Nat) (j : Nat) (h : j < V.length) : scL T lo C (V.take (j + 1)) = scL T lo C (V.take j) ++ [scV T lo C (V.getD j 0)] := by
  unfold scL
  rw [List.take_add_one, List.map_append, List.getD_eq_getElem?_getD, List.getElem?_eq_getElem h]
  rfl
set_option maxRecDepth 100000 in
set_option maxHeartbeats 6400000 in
theorem scanSpeeds_fine (w : World) (vp vt vs : Value) (P V : List Nat) (Ls : List (List Nat)) (t k r : Nat) (hP : RdF w vp P) (hL : RdSS w vt Ls) (hS : RdF w vs V) (hl : Ls.length = P.length) (hn : P.length ≤ 16) (ht : t ≤ 64) (hk : ∀ j, j < Ls.length → (rowAt Ls j).length = t) (hv : validT ⟨t, P, Ls⟩ = true) (hkt : k < t) (hr : r ≤ 64)
    (hV0 : 1 ≤ V.length) (hV1 : V.length ≤ 16) (hVp : allB posB V = true) (hVn : ∀ j, j < V.length → isN .f32 (V.getD j 0) = false) (hc : ∀ j, j < V.length → ∀ i, i < Ls.length → CorOk ⟨t, P, Ls⟩ (V.getD j 0) i) :
    Calls Try.prog 23 #[.agg #[.int .i64 (t : Nat), vp, vt], vs, .int .i64 (k : Nat), .int .i64 (r : Nat)] w fun e w' => ∃ v', e = .returned (.tuple #[v', .bool true]) ∧ OwnF w' w.heap.size v' (scL ⟨t, P, Ls⟩ (semLo k r) (semC t k r) V) ∧ Ext w w' := by
  obtain ⟨a1, c1, rfl, -, -, -⟩ := hP.opened
  obtain ⟨a2, c2, rfl, -, -, -⟩ := hL.opened
  have HSv := Lib.hid hS
  obtain ⟨a3, c3, rfl, -, -, hcell⟩ := hS.opened
  have hrow : ∀ j, (rowAt Ls j).length ≤ 64 := fun j => by
    by_cases hj : j < Ls.length
    · rw [hk j hj]; exact ht
    · unfold rowAt; rw [List.getD_eq_getElem?_getD, List.getElem?_eq_none (by omega)]; simp
  obtain ⟨W, hW⟩ : ∃ W, w.alloc (.cells #[.int .i64 (t : Nat), .slice a1 P.length c1, .slice a2 Ls.length c2] 44) = W := ⟨_, rfl⟩
  have x0 : Ext w W := by rw [← hW]; exact (Below.refl _ _).alloc (Nat.le_refl _) _
  have HB : Hid (W.heap[w.heap.size]? = some (.cells #[.int .i64 (t : Nat), .slice a1 P.length c1, .slice a2 Ls.length c2] 44 (0, 0))) := Lib.hid (by rw [← hW]; exact alloc_new _ _)
  have HV := Lib.hid (implValidGather_any W (.agg #[.int .i64 (t : Nat), .slice a1 P.length c1, .slice a2 Ls.length c2]) ⟨t, P, Ls⟩ ⟨_, _, rfl, hP.mono x0, hL.mono x0⟩ ⟨by show P.length ≤ _; omega, by show Ls.length ≤ _; omega, fun j _ => by have := hrow j; show (rowAt Ls j).length ≤ _; omega⟩)
  rw [hv] at HV
  have HLF := Lib.hid (fun wq => lengthF_any wq a3 V.length c3)
  have HW2 := Lib.hid (fun wq => within_any wq (V.length : Int) 1 16)
  rw [show inB (V.length : Int) 1 16 = true by simp [inB]; omega] at HW2
  have HA := Lib.hid (fun (wq : World) (hq : Ext w wq) => arePositive_any wq (.slice a3 V.length c3) V (HSv.out.mono hq) (by omega))
  rw [hVp] at HA
  have HWi := Lib.hid (fun (wq : World) => isWindow_any wq (.slice a1 P.length c1) (.slice a2 Ls.length c2) (t : Nat) k r (by omega) (by omega) hr)
  have HCor := Lib.hid (fun (wq : World) (hq : Ext W wq) (j : Nat) (hj : j < V.length) => gatherCorrected_fine wq (.slice a1 P.length c1) (.slice a2 Ls.length c2) ⟨t, P, Ls⟩ (V.getD j 0) (hP.mono (x0.trans hq)) (hL.mono (x0.trans hq)) hl hn (hc j hj))
  have HSem := Lib.hid (fun (wq : World) (vp' vt' : Value) (s : Nat) (h : RdSS wq vt' (doL (corF ⟨t, P, Ls⟩ s) Ls.length)) => semblance_any wq vp' vt' P (doL (corF ⟨t, P, Ls⟩ s) Ls.length) t k r h (by rw [doL_length]; omega) ht (fun j hj => by
    rw [doL_length] at hj
    rw [rowAt_doL _ _ _ hj, corF_length]
    exact hk j hj) hkt hr)
  have HCl : Hid (∀ j, j < V.length → ∃ b o, a3 = some ⟨b, o, none⟩ ∧ b < w.heap.size ∧ w.cell? ⟨b, o + j, none⟩ = some (.float .f32 (V.getD j 0))) := Lib.hid fun j hj => by
    obtain ⟨b, o, x, ha, h1, h2⟩ := hcell j hj
    obtain rfl := h2.eq_of_not (hVn j hj)
    exact ⟨b, o, ha, block_lt h1, h1⟩
  have X0 := Lib.hid x0
  have HZ : Hid (W.heap.size = w.heap.size + 1) := Lib.hid (by rw [← hW]; exact World.size_alloc _ _)
  clear hP hL hS hcell hk hv hrow x0 hl hn ht hkt hr hVp hVn hc hV0
  obtain ⟨lo, hlo⟩ : ∃ lo, semLo k r = lo := ⟨_, rfl⟩
  obtain ⟨C, hC⟩ : ∃ C, semC t k r = C := ⟨_, rfl⟩
  rw [hlo, hC] at HSem ⊢
  clear hlo hC
  obtain ⟨k0, k1, k2⟩ := box3b HB.out (Ext.refl _)
  go_enter Try.func23, Try.ntmps23
  go_wp2_with fail
  clear hW k0 k1 k2
  refine HV.out.mono ?_
  clear HV
  rintro e w1 ⟨rfl, b1⟩
  have X1 := Lib.hid (show Ext W w1 from b1)
  obtain ⟨k0, k1, k2⟩ := box3b HB.out X1.out
  clear b1
  go_wp2_with fail
  refine (HLF.out _).mono ?_
  rintro e w2 ⟨rfl, hw2⟩
  obtain rfl : w1 = w2 := hw2.symm
  go_wp2_with fail
  refine (HW2.out _).mono ?_
  rintro e w2 ⟨rfl, hw2⟩
  obtain rfl : w1 = w2 := hw2.symm
  go_wp2_with fail
  refine (HA.out _ (Ext.trans X0.out X1.out)).mono ?_
  rintro e w2 ⟨rfl, n2, hw2⟩
  have X2 : Hid (Ext W w2) := Lib.hid (by rw [hw2]; exact Below.drewN X1.out n2)
  clear hw2 k0 k1 k2 HLF HW2 HA
  obtain ⟨k0, k1, k2⟩ := box3b HB.out X2.out
  go_wp2_with fail
  clear k0 k1 k2
  refine (HWi.out w2).mono ?_
  rintro e w3 ⟨rfl, x3⟩
  have X3 := Lib.hid (Ext.trans X2.out x3)
  obtain ⟨k0, k1, k2⟩ := box3b HB.out X3.out
  clear x3 HWi
  go_wp2_with fail
  clear k0 k1 k2
  go_loopw [10, 36] (fun o i wr => ∃ j : Nat, j ≤ V.length ∧ i = .int .i64 j ∧ OwnF wr (w.heap.size + 1) o (scL ⟨t, P, Ls⟩ lo C (V.take j)) ∧ Ext W wr) (fun _ i _ => V.length - (intOf i).toNat)
  case atStart => exact ⟨0, Nat.zero_le _, rfl, OwnF.nil _ _, X3.out⟩
  case round =>
    obtain ⟨wi, rfl⟩ : ∃ wi : World, wi = wr := ⟨_, rfl⟩
    obtain ⟨j, hj, rfl, ho, hx⟩ := hrel
    have HO := Lib.hid ho
    have HX := Lib.hid hx
    have zi := hx.size
    clear ho hx
    by_cases hlt : j < V.length
    · have hji : (j : Int) < (V.length : Int) := by omega
      obtain ⟨b, o, rfl, hb, e1⟩ := HCl.out j hlt
      replace e1 := ((bcell (Ext.trans X0.out HX.out)).1 b (o + j) hb).trans e1
      obtain ⟨sv, hsv⟩ : ∃ sv, V.getD j 0 = sv := ⟨_, rfl⟩
      have HSV := Lib.hid hsv
      rw [hsv] at e1
      clear hsv
      obtain ⟨k0, k1, k2⟩ := box3b HB.out HX.out
      go_wp2_with fail
      clear k0 k1 k2
      have hC2 := HCor.out wi HX.out j hlt
      rw [HSV.out] at hC2
      refine hC2.mono ?_
      clear hC2
      rintro e w4 ⟨ap, np, cp, at_, nt, ct, rfl, rL, x4⟩
      have RL := Lib.hid rL
      have X4 := Lib.hid (Ext.trans HX.out x4)
      have O4 := Lib.hid (HO.out.kept x4)
      clear rL x4
      go_wp2_with fail
      refine (HSem.out w4 (.slice ap np cp) (.slice at_ nt ct) sv RL.out).mono ?_
      rintro e w5 ⟨q, rfl, hq, x5⟩
      have HQ := Lib.hid (show FV .f32 q (scV ⟨t, P, Ls⟩ lo C sv) from hq)
      have X5 := Lib.hid (Ext.trans X4.out x5)
      have O5 := Lib.hid (O4.out.kept x5)
      have z5 := X5.out.size
      have zW := HZ.out
      clear hq x5
      have xa : Ext w5 (w5.alloc (.cells #[.float .f32 q] 27)) := (Below.refl _ _).alloc (Nat.le_refl _) _
      have HOA := Lib.hid (O5.out.kept xa)
      have za : (w5.alloc (.cells #[.float .f32 q] 27)).heap.size = w5.heap.size + 1 := World.size_alloc _ _
      have XA := Lib.hid xa
      have hll : (scL ⟨t, P, Ls⟩ lo C (V.take j)).length = j := by rw [scL_length, List.length_take]; omega
      have HLL := Lib.hid hll
      have HSU := Lib.hid (scL_succ ⟨t, P, Ls⟩ lo C V j hlt)
      clear xa hll
      go_wp2_with (at_builtin; go_must (refine wpList_push rfl _ _ rfl (w.heap.size + 1) _ (scL ⟨t, P, Ls⟩ lo C (V.take j)) rfl HOA.out _ _ _ _ rfl (cell_new _ _ _) HQ.out (by rw [HLL.out]; omega) (by omega) ?_); intro v9 w9 o9 g9 b9 l9)
      exact ⟨⟨j + 1, by omega, by go_num, by rw [HSU.out, HSV.out]; exact o9, Below.trans X5.out (Below.trans (Below.mono XA.out z5) (Below.mono b9 (by omega)))⟩, by simp [intOf]; omega⟩
    · obtain rfl : V.length = j := by omega
      go_wp2_with fail
      go_ret2
      refine ⟨_, rfl, ?_, Ext.trans X0.out HX.out⟩
      have := HO.out
      rw [List.take_length] at this
      exact this.mono (by omega)
set_option maxRecDepth 100000 in
set_option maxHeartbeats 3200000 in
theorem bestSpeed_fine (w : World) (vp vt vs : Value) (P V : List Nat) (Ls : List (List Nat)) (t k r o : Nat) (hP : RdF w vp P) (hL : RdSS w vt Ls) (hS : RdF w vs V) (hl : Ls.length = P.length) (hn : P.length ≤ 16) (ht : t ≤ 64) (hk : ∀ j, j < Ls.length → (rowAt Ls j).length = t) (hv : validT ⟨t, P, Ls⟩ = true) (hkt : k < t) (hr : r ≤ 64)
    (hV0 : 1 ≤ V.length) (hV1 : V.length ≤ 16) (hVp : allB posB V = true) (hVn : ∀ j, j < V.length → isN .f32 (V.getD j 0) = false) (hc : ∀ j, j < V.length → ∀ i, i < Ls.length → CorOk ⟨t, P, Ls⟩ (V.getD j 0) i)
    (hb : bestF (scL ⟨t, P, Ls⟩ (semLo k r) (semC t k r) V) V.length = some o) :
    Calls Try.prog 24 #[.agg #[.int .i64 (t : Nat), vp, vt], vs, .int .i64 (k : Nat), .int .i64 (r : Nat)] w fun e w' => ∃ x, e = .returned (.tuple #[.int .i64 (o : Nat), .float .f32 x, .bool true]) ∧ FV .f32 x ((scL ⟨t, P, Ls⟩ (semLo k r) (semC t k r) V).getD o 0) ∧ Ext w w' := by
  obtain ⟨W, hW⟩ : ∃ W, w.alloc (.cells #[.int .i64 (t : Nat), vp, vt] 44) = W := ⟨_, rfl⟩
  have x0 : Ext w W := by rw [← hW]; exact (Below.refl _ _).alloc (Nat.le_refl _) _
  have HB : Hid (W.heap[w.heap.size]? = some (.cells #[.int .i64 (t : Nat), vp, vt] 44 (0, 0))) := Lib.hid (by rw [← hW]; exact alloc_new _ _)
  have HS := Lib.hid (scanSpeeds_fine W vp vt vs P V Ls t k r (hP.mono x0) (hL.mono x0) (hS.mono x0) hl hn ht hk hv hkt hr hV0 hV1 hVp hVn hc)
  have ho := bestF_lt _ _ hb
  obtain ⟨L, hLL⟩ : ∃ L, scL ⟨t, P, Ls⟩ (semLo k r) (semC t k r) V = L := ⟨_, rfl⟩
  have hlen : L.length = V.length := by rw [← hLL, scL_length]
  rw [hLL] at HS hb ⊢
  rw [← hlen] at hb ho hV1
  have HBF := Lib.hid hb
  have X0 := Lib.hid x0
  obtain ⟨a1, c1, rfl, -, -, -⟩ := hP.opened
  obtain ⟨a2, c2, rfl, -, -, -⟩ := hL.opened
  obtain ⟨a3, c3, rfl, -, -, -⟩ := hS.opened
  clear hP hL hS hl hn ht hk hv hkt hr hV0 hVp hVn hc hb x0 hLL hlen
  obtain ⟨k0, k1, k2⟩ := box3b HB.out (Ext.refl _)
  go_enter Try.func24, Try.ntmps24
  go_wp2_with fail
  clear hW k0 k1 k2
  refine HS.out.mono ?_
  clear HS
  rintro e w1 ⟨v', rfl, o1, x1⟩
  obtain ⟨a4, c4, rfl, -, -, hcell⟩ := o1.rd.opened
  obtain ⟨b, of, x, rfl, e1, f1⟩ := hcell o ho
  have HBest := Lib.hid (best_any w1 _ L o1.rd (by omega))
  rw [HBF.out] at HBest
  have X1 := Lib.hid (Ext.trans X0.out x1)
  have HF := Lib.hid f1
  have hoi : (o : Int) < (L.length : Int) := by omega
  clear o1 hcell x1 f1
  go_wp2_with fail
  refine HBest.out.mono ?_
  rintro e w2 ⟨rfl, hw2⟩
  obtain rfl : w1 = w2 := hw2.symm
  rw [show bi (some o) = (o : Int) from rfl]
  have hd0 : decide ((o : Int) < 0) = false := by simp
  go_wp2_with fail
  refine region_rel_all (by kernel_rfl) (by kernel_rfl) (Drawn w1) (fun _ _ _ => False) ⟨1, rfl⟩ ?_
  iterate 8 (refine wpRel_draw rfl rfl (fun nq K hK => ?_); go_wp2)
  refine wpRel_nil ?_
  rintro wd ⟨nd, hwd⟩
  have XD : Hid (Ext w wd) := Lib.hid (by rw [hwd]; exact Below.drewN X1.out nd)
  clear hwd
  go_wp2_with fail
  go_ret3
  exact ⟨x, rfl, HF.out, XD.out⟩
end Go.Proofs.Ythacadbdncfocaa

/- Walks: the sizes of a list. -/
namespace Go.Proofs.Ythacadbdncfocaa
open Go Go.RowKit

set_option maxRecDepth 100000 in
set_option maxHeartbeats 1600000 in
theorem sizes_any (w : World) (v : Value) (L : List Nat) (h : RdF w v L) (hl : L.length ≤ 1000) :
    Calls Try.prog 64 #[v] w fun e w' => ∃ v', e = .returned v' ∧ OwnF w' w.heap.size v' (L.map absC) ∧ Below w.heap.size w w' := by
  have HR := Lib.hid h
  obtain ⟨a, c, rfl, hc, -, hcell⟩ := h.opened
  clear h
  go_enter Try.func64, Try.ntmps64
  go_wp2
  go_loopw [3, 8] (fun q i wr => ∃ j : Nat, j ≤ L.length ∧ i = .int .i64 j ∧ OwnF wr w.heap.size q ((L.map absC).take j) ∧ Below w.heap.size w wr) (fun _ i _ => L.length - (intOf i).toNat)
  case atStart => exact ⟨0, Nat.zero_le _, rfl, OwnF.nil _ _, Below.refl _ _⟩
  case round =>
    obtain ⟨wi, rfl⟩ : ∃ wi : World, wi = wr := ⟨_, rfl⟩
    obtain ⟨j, hj, rfl, ho, hb⟩ := hrel
    have HO := Lib.hid ho
    have HB := Lib.hid hb
    have hzi := hb.size
    by_cases hlt : j < L.length
    · obtain ⟨b, o, x, rfl, hx1, hx2⟩ := hcell j hlt
      have hx1' := ((bcell hb).1 b (o + j) (block_lt hx1)).trans hx1
      have HK := Lib.hid (absolute_any wi x _ hx2)
      have HT : Hid ((L.map absC).take (j + 1) = (L.map absC).take j ++ [absC (L.getD j 0)]) := Lib.hid (by rw [List.take_add_one, List.getElem?_map, List.getElem?_eq_getElem hlt]; simp [List.getD_eq_getElem?_getD, List.getElem?_eq_getElem hlt])
      have htl : ((L.map absC).take j).length = j := by rw [List.length_take, List.length_map]; omega
      have HTL := Lib.hid htl
      clear hcell hx1 hx2 ho hb htl
      go_wp2_with fail
      refine HK.out.mono ?_
      rintro e w3 ⟨q, n, rfl, hq, hw3⟩
      have HQ := Lib.hid hq
      have b3 : Below wi.heap.size wi w3 := by rw [hw3]; exact Below.drewN (Below.refl _ _) _
      have z3 := b3.size
      have b4 : Below wi.heap.size wi (w3.alloc (.cells #[.float .f32 q] 27)) := b3.alloc z3 _
      clear HK hq hw3
      go_wp2_with (at_builtin; go_must (refine wpList_push rfl _ _ rfl w.heap.size _ ((L.map absC).take j) rfl (HO.out.kept b4) _ _ q (absC (L.getD j 0)) rfl (cell_new _ _ _) HQ.out (by rw [HTL.out]; omega) (by rw [World.size_alloc]; omega) ?_); intro v6 w6 o6 g6 b6 _)
      exact ⟨⟨j + 1, by omega, by go_num, by rw [HT.out]; exact o6, HB.out.trans ((b4.mono hzi).trans b6)⟩, by simp [intOf]; omega⟩
    · obtain rfl : j = L.length := by omega
      have HO2 := Lib.hid (show OwnF wi w.heap.size _ (L.map absC) from by have := HO.out; rwa [show L.length = (L.map absC).length by simp, List.take_length] at this)
      clear hcell ho hb
      go_wp2
      go_ret
      exact ⟨_, rfl, HO2.out, HB.out⟩
end Go.Proofs.Ythacadbdncfocaa

/- Walks on a seat of gathers: NormGather. -/
namespace Go.Proofs.Ythacadbdncfocaa
open Go Go.RowKit

/-- The list whose first k numbers are divided. -/
def nrmTo (L : List Nat) (by_ k : Nat) : List Nat := (List.range L.length).map fun j => if j < k then fop .quo .f32 (L.getD j 0) by_ else L.getD j 0
theorem nrmTo_length (L : List Nat) (b k : Nat) : (nrmTo L b k).length = L.length := by simp [nrmTo]
theorem nrmTo_getD (L : List Nat) (b k j : Nat) (h : j < L.length) : (nrmTo L b k).getD j 0 = if j < k then fop .quo .f32 (L.getD j 0) b else L.getD j 0 := by
  simp [nrmTo, List.getD_eq_getElem?_getD, List.getElem?_map, List.getElem?_range h]
theorem getD_ext {A B : List Nat} (hl : A.length = B.length) (h : ∀ j, j < A.length → A.getD j 0 = B.getD j 0) : A = B := by
  apply List.ext_getElem hl
  intro i h1 h2
  have := h i h1
  rw [List.getD_eq_getElem?_getD, List.getD_eq_getElem?_getD, List.getElem?_eq_getElem h1, List.getElem?_eq_getElem h2] at this
  exact this
theorem nrmTo_zero (L : List Nat) (b : Nat) : nrmTo L b 0 = L := getD_ext (nrmTo_length _ _ _) fun j hj => by
  rw [nrmTo_length] at hj
  rw [nrmTo_getD _ _ _ _ hj, if_neg (by omega)]
theorem nrmTo_set (L : List Nat) (b k : Nat) (h : k < L.length) : (nrmTo L b k).set k (fop .quo .f32 (L.getD k 0) b) = nrmTo L b (k + 1) :=
  getD_ext (by rw [List.length_set, nrmTo_length, nrmTo_length]) fun j hj => by
    rw [List.length_set, nrmTo_length] at hj
    rw [nrmTo_getD _ _ _ _ hj, List.getD_eq_getElem?_getD, List.getElem?_set]
    by_cases e : k = j
    · subst e
      rw [if_pos rfl, if_pos (by rw [nrmTo_length]; exact h), Option.getD_some, if_pos (by omega)]
    · rw [if_neg e, ← List.getD_eq_getElem?_getD, nrmTo_getD _ _ _ _ hj]
      by_cases h2 : j < k
      · rw [if_pos h2, if_pos (by omega)]
      · rw [if_neg h2, if_neg (by omega)]
/-- A list that is divided by its greatest size. -/
def nrmF (L : List Nat) : List Nat := match bestF (L.map absC) L.length with
  | some o => if posB (absC (L.getD o 0)) then nrmTo L (absC (L.getD o 0)) L.length else L
  | none => L
set_option maxRecDepth 100000 in
set_option maxHeartbeats 3200000 in
theorem normFn_any (w : World) (v : Value) (r o : Nat) (L : List Nat) (hL : RdF w v L) (hn : 1 ≤ L.length) (hn2 : L.length ≤ 64) (hb : bestF (L.map absC) L.length = some o) :
    Calls Try.prog 63 #[v, .float .f32 r] w fun e w' => ∃ v', e = .returned v' ∧ OwnF w' w.heap.size v' (nrmF L) ∧ Ext w w' := by
  have hquo := run_fquo (P := Try.prog)
  have hst := run_store_float (P := Try.prog)
  have ho : o < L.length := bestF_lt _ _ hb
  have HL := Lib.hid hL
  obtain ⟨a, c, rfl, -, -, hcell⟩ := hL.opened
  obtain ⟨b0, o0, r0, rfl, e0, f0⟩ := hcell o ho
  have hlb := block_lt e0
  have HE := Lib.hid e0
  have HF0 := Lib.hid f0
  have HCl := Lib.hid (clone_any w (.slice (some ⟨b0, o0, none⟩) L.length c) L hL (by omega))
  have HSz := Lib.hid (fun (wq : World) (hq : Ext w wq) => sizes_any wq (.slice (some ⟨b0, o0, none⟩) L.length c) L (HL.out.mono hq) (by omega))
  have HBF := Lib.hid hb
  have hoi : (o : Int) < (L.length : Int) := by omega
  clear hL hcell e0 f0 hb
  go_enter Try.func63, Try.ntmps63
  go_wp2_with fail
  refine HCl.out.mono ?_
  clear HCl
  rintro e w1 ⟨v1, rfl, o1, b1⟩
  obtain ⟨g, cap, rfl, hgB, hgs, -, -, -⟩ := o1.at_block rfl (show 0 < L.length by omega)
  have O1 := Lib.hid o1
  have X1 := Lib.hid (show Ext w w1 from b1)
  clear o1 b1
  go_wp2_with fail
  refine (HSz.out w1 X1.out).mono ?_
  clear HSz
  rintro e w2 ⟨v2, rfl, o2, b2⟩
  have X2 := Lib.hid (Ext.trans X1.out b2)
  have O2 := Lib.hid (O1.out.kept b2)
  obtain ⟨a2, c2, rfl⟩ : ∃ a c, v2 = .slice a L.length c := by obtain ⟨a, c, h, -⟩ := o2.rd.opened; exact ⟨a, c, by rw [h, List.length_map]⟩
  have HBest := Lib.hid (best_any w2 (.slice a2 L.length c2) (L.map absC) o2.rd (by rw [List.length_map]; omega))
  rw [List.length_map, HBF.out] at HBest
  clear o2 b2
  go_wp2_with fail
  refine HBest.out.mono ?_
  rintro e w3 ⟨rfl, hw3⟩
  obtain rfl : w2 = w3 := hw3.symm
  rw [show bi (some o) = (o : Int) from rfl]
  have hd0 : decide ((o : Int) < 0) = false := by simp
  have e1 := ((bcell X2.out).1 b0 (o0 + o) hlb).trans HE.out
  clear hw3 HBest
  go_wp2_with fail
  refine (absolute_any w2 r0 _ HF0.out).mono ?_
  rintro e w4 ⟨q, n4, rfl, hq, hw4⟩
  have HQ := Lib.hid hq
  have X4 : Hid (Ext w w4) := Lib.hid (by rw [hw4]; exact Below.drewN X2.out n4)
  have O4 : Hid (OwnF w4 w.heap.size (.slice (some ⟨g, 0, none⟩) L.length cap) L) := Lib.hid (by rw [hw4]; exact O2.out.drewN n4)
  have z4 := X4.out.size
  clear hq hw4 e1
  have HA := arePositive_any (w4.alloc (.cells #[.float .f32 q] 27)) (.slice (some ⟨w4.heap.size, 0, none⟩) 1 1) [absC (L.getD o 0)] (OwnF.one (Nat.le_refl _) HQ.out).rd (by simp)
  rw [show allB posB [absC (L.getD o 0)] = posB (absC (L.getD o 0)) by simp [allB, allTo]] at HA
  replace HA := Lib.hid HA
  have xa : Ext w4 (w4.alloc (.cells #[.float .f32 q] 27)) := (Below.refl _ _).alloc (Nat.le_refl _) _
  have O5 := Lib.hid (O4.out.kept xa)
  have X5 := Lib.hid (Ext.trans X4.out xa)
  clear xa
  cases hp : posB (absC (L.getD o 0)) with
  | false =>
    rw [hp] at HA
    have HN : Hid (nrmF L = L) := Lib.hid (by unfold nrmF; rw [HBF.out]; simp only; rw [hp]; rfl)
    clear hp
    go_wp2_with fail
    refine HA.out.mono ?_
    rintro e w5 ⟨rfl, n5, hw5⟩
    have X6 : Hid (Ext w w5) := Lib.hid (by rw [hw5]; exact Below.drewN X5.out n5)
    have O6 : Hid (OwnF w5 w.heap.size (.slice (some ⟨g, 0, none⟩) L.length cap) L) := Lib.hid (by rw [hw5]; exact O5.out.drewN n5)
    clear hw5
    go_wp2_with fail
    go_ret
    exact ⟨_, rfl, by rw [HN.out]; exact O6.out, X6.out⟩
  | true =>
    rw [hp] at HA
    have HN : Hid (nrmF L = nrmTo L (absC (L.getD o 0)) L.length) := Lib.hid (by unfold nrmF; rw [HBF.out]; simp only; rw [hp]; rfl)
    clear hp
    go_wp2_with fail
    refine HA.out.mono ?_
    rintro e w5 ⟨rfl, n5, hw5⟩
    have X6 : Hid (Ext w w5) := Lib.hid (by rw [hw5]; exact Below.drewN X5.out n5)
    have O6 : Hid (OwnF w5 w.heap.size (.slice (some ⟨g, 0, none⟩) L.length cap) L) := Lib.hid (by rw [hw5]; exact O5.out.drewN n5)
    have e1 := ((bcell X6.out).1 b0 (o0 + o) hlb).trans HE.out
    clear hw5 HA
    go_wp2_with fail
    clear e1
    refine (absolute_any w5 r0 _ HF0.out).mono ?_
    rintro e w6 ⟨q2, n6, rfl, hq, hw6⟩
    have HQ2 := Lib.hid hq
    have X7 : Hid (Ext w w6) := Lib.hid (by rw [hw6]; exact Below.drewN X6.out n6)
    have O7 : Hid (OwnF w6 w.heap.size (.slice (some ⟨g, 0, none⟩) L.length cap) (nrmTo L (absC (L.getD o 0)) 0)) := Lib.hid (by rw [hw6, nrmTo_zero]; exact O6.out.drewN n6)
    clear hq hw6
    go_wp2_with fail
    go_loopw [34] (fun i wr => ∃ j : Nat, j ≤ L.length ∧ i = .int .i64 j ∧ OwnF wr w.heap.size (.slice (some ⟨g, 0, none⟩) L.length cap) (nrmTo L (absC (L.getD o 0)) j) ∧ Ext w wr) (fun i _ => L.length - (intOf i).toNat)
    case atStart => exact ⟨0, Nat.zero_le _, rfl, O7.out, X7.out⟩
    case round =>
      clear O7
      obtain ⟨wi, rfl⟩ : ∃ wi : World, wi = wr := ⟨_, rfl⟩
      obtain ⟨j, hj, rfl, ho7, hx⟩ := hrel
      have HO := Lib.hid ho7
      have HX := Lib.hid hx
      have zi := hx.size
      clear ho7 hx
      by_cases hlt : j < L.length
      · have hji : (j : Int) < (L.length : Int) := by omega
        obtain ⟨g', cap', hv, -, -, -, hcl, hfr⟩ := HO.out.form.resolve_left fun h => by cases h.1
        have hg : g = g' := by injection hv with e1 e2 e3; injection e1 with e4; injection e4
        subst hg
        have hfj := hfr j
        obtain ⟨r1, d1, f1⟩ := hcl j (by rw [nrmTo_length]; omega)
        rw [nrmTo_getD _ _ _ _ hlt, if_neg (by omega)] at f1
        have HF1 := Lib.hid f1
        have HUL := Lib.hid (nrmTo_length L (absC (L.getD o 0)) j)
        have HST := Lib.hid (nrmTo_set L (absC (L.getD o 0)) j hlt)
        clear hv hcl hfr f1
        go_wp2_with fail
        refine ⟨⟨j + 1, by omega, by go_num, ?_, ?_⟩, by simp [intOf]; omega⟩
        · rw [← HST.out]
          exact (HO.out.drewN _).storedN HUL.out (HF1.out.op HQ2.out _)
        · exact Below.chg (Below.drewN HX.out _) ((Chg.refl _ (fun k => k = g)).setCell rfl j _) (fun k hk => by omega) zi
      · obtain rfl : L.length = j := by omega
        go_wp2_with fail
        go_ret
        exact ⟨_, rfl, by rw [HN.out]; exact HO.out, HX.out⟩
end Go.Proofs.Ythacadbdncfocaa

/- Walks on a seat of gathers: NormGather. -/
namespace Go.Proofs.Ythacadbdncfocaa
open Go Go.RowKit

def nrF (Ls : List (List Nat)) (i : Nat) : List Nat := nrmF (rowAt Ls i)
theorem nrmF_length (L : List Nat) : (nrmF L).length = L.length := by
  unfold nrmF
  split
  · split
    · exact nrmTo_length _ _ _
    · rfl
  · rfl
theorem nrmF_cls (L : List Nat) (h : ∀ j, j < L.length → ∃ r, FV .f32 r (L.getD j 0)) (j : Nat) (hj : j < (nrmF L).length) : ∃ r, FV .f32 r ((nrmF L).getD j 0) := by
  rw [nrmF_length] at hj
  unfold nrmF
  split
  · split
    · rw [nrmTo_getD _ _ _ _ hj, if_pos hj]
      exact ⟨_, fop_cls⟩
    · exact h j hj
  · exact h j hj
set_option maxRecDepth 100000 in
set_option maxHeartbeats 3200000 in
theorem normGather_any (w : World) (vp vt : Value) (T : TM) (hP : RdF w vp T.P) (hL : RdSS w vt T.Ls) (hl : T.Ls.length = T.P.length) (hn : T.P.length ≤ 16) (hr : ∀ j, (rowAt T.Ls j).length ≤ 64) (hv : validT T = true) (ho : ∀ i, i < T.Ls.length → 1 ≤ (rowAt T.Ls i).length ∧ ∃ o, bestF ((rowAt T.Ls i).map absC) (rowAt T.Ls i).length = some o) :
    Calls Try.prog 26 #[.agg #[.int .i64 T.t, vp, vt]] w fun e w' => ∃ ap np cp at_ ct, e = .returned (.tuple #[.agg #[.int .i64 T.t, .slice ap np cp, .slice at_ T.Ls.length ct], .bool true]) ∧ RdSS w' (.slice at_ T.Ls.length ct) (doL (nrF T.Ls) T.Ls.length) ∧ Ext w w' := by
  have HP := Lib.hid hP
  have HL := Lib.hid hL
  obtain ⟨a1, c1, rfl, -, -, -⟩ := hP.opened
  obtain ⟨a2, c2, rfl, -, -, hrows⟩ := hL.opened
  obtain ⟨wA, hwA⟩ : ∃ wA, w.alloc (.cells #[.int .i64 T.t, .slice a1 T.P.length c1, .slice a2 T.Ls.length c2] 44) = wA := ⟨_, rfl⟩
  obtain ⟨W, hW⟩ : ∃ W, wA.alloc (.cells #[.int .i64 0, .slice none 0 0, .slice none 0 0] 44) = W := ⟨_, rfl⟩
  have xA : Ext w wA := by rw [← hwA]; exact (Below.refl _ _).alloc (Nat.le_refl _) _
  have xC : Ext wA W := by rw [← hW]; exact (Below.refl _ _).alloc (Nat.le_refl _) _
  have zA : wA.heap.size = w.heap.size + 1 := by rw [← hwA]; exact World.size_alloc _ _
  have hWs : W.heap.size = w.heap.size + 2 := by rw [← hW, World.size_alloc]; omega
  have hbx : W.heap[w.heap.size]? = some (.cells #[.int .i64 T.t, .slice a1 T.P.length c1, .slice a2 T.Ls.length c2] 44 (0, 0)) := by
    refine (xC.block w.heap.size (by omega)).trans ?_
    rw [← hwA]; exact alloc_new _ _
  have hby : W.heap[w.heap.size + 1]? = some (.cells #[.int .i64 0, .slice none 0 0, .slice none 0 0] 44 (0, 0)) := by
    rw [← hW, ← zA]; exact alloc_new _ _
  have hG : Below w.heap.size w W := xA.trans xC
  have HB : Hid (W.heap[w.heap.size]? = some (.cells #[.int .i64 T.t, .slice a1 T.P.length c1, .slice a2 T.Ls.length c2] 44 (0, 0))) := Lib.hid hbx
  have HBY := Lib.hid hby
  have HG := Lib.hid hG
  have HWS := Lib.hid hWs
  have HVT := Lib.hid (implValidGather_any W (.agg #[.int .i64 T.t, .slice a1 T.P.length c1, .slice a2 T.Ls.length c2]) T ⟨_, _, rfl, HP.out.mono hG, HL.out.mono hG⟩ ⟨by omega, by omega, fun j _ => by have := hr j; omega⟩)
  rw [hv] at HVT
  have hcl : ∀ i, i < T.Ls.length → ∀ j, j < (rowAt T.Ls i).length → ∃ r, FV .f32 r ((rowAt T.Ls i).getD j 0) := fun i hi j hj => by
    obtain ⟨b, o, a', c', -, -, -, h2⟩ := hrows i hi
    obtain ⟨a3, c3, hv3, -, -, hc3⟩ := h2.opened
    obtain ⟨b2, o2, r, -, -, h4⟩ := hc3 j hj
    exact ⟨r, h4⟩
  have HE := Lib.hid (fun (wq : World) (hq : Below W.heap.size W wq) => each_any wq (.slice a1 T.P.length c1) (.slice a2 T.Ls.length c2) T 63 #[] (nrF T.Ls) (HP.out.mono (hG.trans (hq.mono (by omega)))) (HL.out.mono (hG.trans (hq.mono (by omega)))) hl hn (fun i hi => ⟨by unfold nrF; rw [nrmF_length]; exact hr i, nrmF_cls _ (hcl i hi)⟩)
    (fun args wx => run_enter Try.func63 (by kernel_rfl) (by kernel_rfl) args wx)
    (fun wx hx i hi v r hR hf => by
      obtain ⟨h1, o, ho2⟩ := ho i hi
      exact (normFn_any wx v r o (rowAt T.Ls i) hR h1 (hr i) ho2).mono fun e w' h => h))
  clear hP hL hbx hby hG hl hWs xA xC zA hv hr ho hrows hcl
  subst hwA
  obtain ⟨k0, k1, k2⟩ := box3b HB.out (Ext.refl _)
  go_enter Try.func26, Try.ntmps26
  go_wp2_with fail
  clear hW k0 k1 k2
  refine HVT.out.mono ?_
  clear HVT
  rintro e w1 ⟨rfl, b1⟩
  obtain ⟨k0, k1, k2⟩ := box3b HB.out b1
  have HE1 := Lib.hid (HE.out w1 b1)
  have B1 := Lib.hid b1
  have z1 := b1.size
  clear b1 HE
  go_wp2_with fail
  clear k0 k1 k2
  refine HE1.out.mono ?_
  clear HE1
  rintro e w3 ⟨vp', vt', rfl, o3, ⟨S, s3, hS⟩, b3⟩
  obtain ⟨ap, n1, cp, rfl⟩ : ∃ a n c, vp' = .slice a n c := (by obtain ⟨a, c, h, -⟩ := o3.rd.opened; exact ⟨a, _, c, h⟩)
  obtain ⟨at_, ct, rfl⟩ : ∃ a c, vt' = .slice a T.Ls.length c := (by obtain ⟨a, c, h, -⟩ := OwnC.rd s3; exact ⟨a, c, by rw [h, doL_length]⟩)
  have hy3 : w3.heap[w.heap.size + 1]? = some (.cells #[.int .i64 0, .slice none 0 0, .slice none 0 0] 44 (0, 0)) := (b3.block _ (by have := HWS.out; omega)).trans ((B1.out.block _ (by have := HWS.out; omega)).trans HBY.out)
  have PY := put3 hy3 (.int .i64 T.t) (.slice ap n1 cp) (.slice at_ T.Ls.length ct)
  obtain ⟨m0, m1, m2, f0, f1, f2⟩ := blk3 hy3
  have HPY := Lib.hid PY
  have B3 : Hid (Below w.heap.size w w3) := Lib.hid ((HG.out.trans (B1.out.mono (by have := HWS.out; omega))).trans (b3.mono (by have := HWS.out; omega)))
  have hlt1 : w.heap.size + 1 < w3.heap.size := (Array.getElem?_eq_some_iff.1 hy3).1
  have S3 := Lib.hid s3
  have HS3 := Lib.hid hS
  clear hy3 PY b3 o3 s3 hS
  go_wp2_with fail
  have PY := HPY.out
  clear HPY
  generalize (((w3.setCell ⟨w.heap.size + 1, 0, none⟩ (.int .i64 T.t)).setCell ⟨w.heap.size + 1, 1, none⟩ (.slice ap n1 cp)).setCell ⟨w.heap.size + 1, 2, none⟩ (.slice at_ T.Ls.length ct)) = wz2 at *
  obtain ⟨q0, q1, q2, -, -, -⟩ := blk3 PY.heap
  refine bodyPost_ret (v := .tuple #[.agg #[.int .i64 T.t, .slice ap n1 cp, .slice at_ T.Ls.length ct], .bool true]) (by simp [results, Try.results26, go_sem, q0, q1, q2]) rfl ?_
  exact ⟨_, _, _, _, _, rfl, OwnC.rd (OwnC.chg S3.out PY.chg fun k hk e => by have := HS3.out k hk; have := HWS.out; omega), Below.chg B3.out PY.chg (fun k hk => by omega) (by omega)⟩
end Go.Proofs.Ythacadbdncfocaa

/- FnStacks: the plain law: semblances are numbers, the best one is the greatest, equal traces, traces that are divided by their greatest size. -/
namespace Go.Proofs.Ythacadbdncfocaa
open Go Ieee

theorem RQ.quo_notNan {k : FloatKind} {x y : Nat} {a b : Rat} (hx : RQ k x a) (hy : RQ k y b) (hb : b ≠ 0) : isN k (fop .quo k x y) = false := by
  obtain ⟨s, m, i, h1, rfl⟩ := hx
  obtain ⟨t, n, j, h2, rfl⟩ := hy
  have hn : n ≠ 0 := by
    rintro rfl
    apply hb
    rw [show ((0 : Nat) : Rat) = 0 from rfl]
    grind
  have : ∃ r, floatBits .quo k x y = some r := by
    unfold floatBits Format.div
    rw [h1, h2]
    unfold Datum.quotient
    simp only [if_neg hn]
    exact ⟨_, rfl⟩
  obtain ⟨r, hr⟩ := this
  unfold fop
  rw [hr]
  exact floatBits_not_nan hr
theorem rq_zero32 : RQ .f32 0 0 := ⟨false, 0, -149, by decide +kernel, by decide +kernel⟩
/-- Traces of bounded numbers. -/
def Bnd (Ls : List (List Nat)) (n T : Nat) : Prop := Ls.length = n ∧ n ≤ 4 ∧ ∀ i, i < n → ∀ k, k < T → FB (numL Ls i k) 2048
theorem stk_fb {Ls : List (List Nat)} {n T : Nat} (h : Bnd Ls n T) (k : Nat) (hk : k < T) (j : Nat) (hj : j ≤ n) : FB (stkF Ls k j) (2 * (j : Rat) * 2048) := by
  induction j with
  | zero => exact FB.zero _ (by rw [show ((0 : Nat) : Rat) = 0 from rfl]; grind)
  | succ j ih =>
    have hn := h.2.1
    exact FB.sum_next j (by omega) (by grind) (by grind) (ih (by omega)) (h.2.2 j (by omega) k hk)
theorem semO_fb {Ls : List (List Nat)} {n T : Nat} (h : Bnd Ls n T) (lo c : Nat) (hc : lo + c ≤ T) (hT : T ≤ 20) : FB (semO Ls lo c) (2 * (c : Rat) * 300000000) := by
  induction c with
  | zero => exact FB.zero _ (by rw [show ((0 : Nat) : Rat) = 0 from rfl]; grind)
  | succ c ih =>
    have hs := stk_fb h (lo + c) (by omega) n (Nat.le_refl _)
    have hn4 : (n : Rat) ≤ 4 := by exact_mod_cast h.2.1
    have hs2 : FB (stkF Ls (lo + c) Ls.length) 16384 := by rw [h.1]; exact hs.mono (by grind)
    have hm : FB (fop .mul .f32 (stkF Ls (lo + c) Ls.length) (stkF Ls (lo + c) Ls.length)) 300000000 := (hs2.mul hs2 (by grind)).mono (by grind)
    exact FB.sum_next c (by omega) (by grind) (by grind) (ih (by omega)) hm
theorem sq_fb {Ls : List (List Nat)} {n T : Nat} (h : Bnd Ls n T) (k : Nat) (hk : k < T) (a m : Nat) (hm : m ≤ 80) (ha : FB a (2 * (m : Rat) * 5000000)) (j : Nat) (hj : j ≤ n) : FB (sqF Ls k a j) (2 * ((m + j : Nat) : Rat) * 5000000) := by
  induction j with
  | zero => exact ha
  | succ j ih =>
    have hn := h.2.1
    have hx := h.2.2 j (by omega) k hk
    exact FB.sum_next (m + j) (by omega) (by grind) (by grind) (ih (by omega)) ((hx.mul hx (by grind)).mono (by grind))
theorem semA_fb {Ls : List (List Nat)} {n T : Nat} (h : Bnd Ls n T) (lo c : Nat) (hc : lo + c ≤ T) (hT : T ≤ 20) : FB (semA Ls lo c) (2 * ((n * c : Nat) : Rat) * 5000000) := by
  induction c with
  | zero => exact FB.zero _ (by rw [show ((n * 0 : Nat) : Rat) = 0 from rfl]; grind)
  | succ c ih =>
    have hn := h.2.1
    have hnc : n * c ≤ 80 := Nat.le_trans (Nat.mul_le_mul hn (show c ≤ 20 by omega)) (by decide)
    have := sq_fb h (lo + c) (by omega) (semA Ls lo c) (n * c) hnc (ih (by omega)) n (Nat.le_refl _)
    unfold semA
    rw [h.1]
    exact this
theorem semF_notNan {Ls : List (List Nat)} {n T : Nat} (h : Bnd Ls n T) (lo c : Nat) (hc : lo + c ≤ T) (hT : T ≤ 20) : isN .f32 (semF Ls lo c) = false := by
  have hn := h.2.1
  have hnr : (n : Rat) ≤ 4 := by exact_mod_cast hn
  have hn0 := nat_nn n
  have hnc : n * c ≤ 80 := Nat.le_trans (Nat.mul_le_mul hn (show c ≤ 20 by omega)) (by decide)
  have hncr : ((n * c : Nat) : Rat) ≤ 80 := by exact_mod_cast hnc
  have hA := (semA_fb h lo c hc hT).mono (show 2 * ((n * c : Nat) : Rat) * 5000000 ≤ 800000000 by grind)
  have hfr : 2 ^ (fracB .f32 + 1) = 16777216 := by decide
  have hN : FB (floatOfInt .f32 (n : Nat)) 4 := ⟨_, RQ.ofInt .f32 (n : Nat) (by rw [hfr]; omega), (by rw [Rat.intCast_natCast]; unfold Ab; grind)⟩
  have hB : FB (semB Ls lo c) 4000000000 := by
    unfold semB
    rw [h.1]
    exact (hN.mul hA (by grind)).mono (by grind)
  obtain ⟨o, ho, -⟩ := semO_fb h lo c hc hT
  obtain ⟨b, hb, -⟩ := hB
  unfold semF
  rw [hb.order rq_zero32]
  by_cases h1 : b < 0
  · rw [if_pos h1, if_neg (by decide)]; decide +kernel
  · rw [if_neg h1]
    by_cases h2 : b = 0
    · rw [if_pos h2, if_neg (by decide)]; decide +kernel
    · rw [if_neg h2, if_pos (by rfl)]
      exact ho.quo_notNan hb h2
/-- What a float is compared by. -/
def kq (x : Nat) : Rat := match FloatKind.f32.format.read x with
  | .number s m e => sgr s * (m * sc e)
  | .infinity s => sgr s * sc 200
  | .nan _ _ => 0
theorem num_small {x : Nat} {s : Bool} {m : Nat} {e : Int} (h : FloatKind.f32.format.read x = .number s m e) : Ab (sgr s * ((m : Rat) * sc e)) (sc 128) := by
  obtain ⟨hm, he, -⟩ := read_bounds32 x h
  refine sgr_abs s _ _ ?_
  have h1 : (m : Rat) ≤ sc 24 := by rw [show (24 : Int) = ((24 : Nat) : Int) from rfl, sc_nat]; exact_mod_cast (show m ≤ 2 ^ 24 by omega)
  have h2 := sc_le he
  have h3 := Rat.mul_le_mul_of_nonneg_right h1 (Rat.le_of_lt (sc_pos e))
  have h4 := Rat.mul_le_mul_of_nonneg_left h2 (Rat.le_of_lt (sc_pos 24))
  have h5 : (0 : Rat) ≤ m * sc e := Rat.mul_nonneg (nat_nn m) (Rat.le_of_lt (sc_pos e))
  have h6 : sc 24 * sc 104 = sc 128 := by rw [← sc_add]; rfl
  rw [h6] at h4
  clear h6 h1 h2
  have h7 := sc_pos 128
  unfold Ab
  generalize sc 128 = A at *
  generalize sc 24 * sc e = B at *
  generalize (m : Rat) * sc e = C at *
  exact ⟨by grind, by grind⟩
theorem sgr_f (q : Rat) : sgr false * q = q := by unfold sgr; grind
theorem sgr_t (q : Rat) : sgr true * q = -q := by unfold sgr; grind
theorem cmp_lt {a b : Rat} (h : a < b) : some (if a < b then Ordering.lt else if a = b then .eq else .gt) = some .lt := by rw [if_pos h]
theorem cmp_gt {a b : Rat} (h : b < a) : some (if a < b then Ordering.lt else if a = b then .eq else .gt) = some .gt := by rw [if_neg (by grind), if_neg (by grind)]
theorem cmp_same (a : Rat) : some (if a < a then Ordering.lt else if a = a then .eq else .gt) = some .eq := by rw [if_neg (by grind), if_pos rfl]
theorem order_kq {x y : Nat} (hx : isN .f32 x = false) (hy : isN .f32 y = false) : FloatKind.f32.format.order x y = some (if kq x < kq y then .lt else if kq x = kq y then .eq else .gt) := by
  have h200 : sc 128 < sc 200 := by decide +kernel
  have h200p := sc_pos 200
  unfold isN FloatKind.decode at hx hy
  cases h1 : FloatKind.f32.format.read x with
  | nan s t => rw [h1] at hx; cases hx
  | number s m i =>
    cases h2 : FloatKind.f32.format.read y with
    | nan s t => rw [h2] at hy; cases hy
    | number t n j =>
      have r1 : RQ .f32 x (sgr s * (m * sc i)) := ⟨s, m, i, h1, rfl⟩
      have r2 : RQ .f32 y (sgr t * (n * sc j)) := ⟨t, n, j, h2, rfl⟩
      rw [r1.order r2]
      unfold kq
      rw [h1, h2]
    | infinity t =>
      have hb := num_small h1
      unfold Ab at hb
      have k1 : kq x = sgr s * (m * sc i) := by unfold kq; rw [h1]
      have k2 : kq y = sgr t * sc 200 := by unfold kq; rw [h2]
      rw [← k1] at hb
      unfold Format.order
      rw [h1, h2]
      cases t
      · rw [sgr_f] at k2
        exact (cmp_lt (show kq x < kq y by rw [k2]; grind)).symm
      · rw [sgr_t] at k2
        exact (cmp_gt (show kq y < kq x by rw [k2]; grind)).symm
  | infinity s =>
    have k1 : kq x = sgr s * sc 200 := by unfold kq; rw [h1]
    cases h2 : FloatKind.f32.format.read y with
    | nan s t => rw [h2] at hy; cases hy
    | number t n j =>
      have hb := num_small h2
      unfold Ab at hb
      have k2 : kq y = sgr t * (n * sc j) := by unfold kq; rw [h2]
      rw [← k2] at hb
      unfold Format.order
      rw [h1, h2]
      cases s
      · rw [sgr_f] at k1
        exact (cmp_gt (show kq y < kq x by rw [k1]; grind)).symm
      · rw [sgr_t] at k1
        exact (cmp_lt (show kq x < kq y by rw [k1]; grind)).symm
    | infinity t =>
      have k2 : kq y = sgr t * sc 200 := by unfold kq; rw [h2]
      unfold Format.order
      rw [h1, h2]
      cases s <;> cases t
      · rw [k1, k2]; exact (cmp_same _).symm
      · rw [sgr_f] at k1; rw [sgr_t] at k2
        exact (cmp_gt (show kq y < kq x by rw [k1, k2]; grind)).symm
      · rw [sgr_t] at k1; rw [sgr_f] at k2
        exact (cmp_lt (show kq x < kq y by rw [k1, k2]; grind)).symm
      · rw [k1, k2]; exact (cmp_same _).symm
/-- The best number of a list of numbers. -/
theorem bestF_num (L : List Nat) (n : Nat) (h : ∀ i, i < n → isN .f32 (L.getD i 0) = false) (j : Nat) (hj : j < n) :
    ∃ o, bestF L (j + 1) = some o ∧ o ≤ j ∧ ∀ i, i ≤ j → kq (L.getD i 0) ≤ kq (L.getD o 0) := by
  induction j with
  | zero =>
    refine ⟨0, ?_, Nat.le_refl _, fun i hi => ?_⟩
    · rw [bestF, bestF, order_self (h 0 hj)]
      rfl
    · obtain rfl : i = 0 := by omega
      grind
  | succ j ih =>
    obtain ⟨o, h1, h2, h3⟩ := ih (by omega)
    have e := order_kq (h (j + 1) hj) (h o (by omega))
    rw [bestF, h1]
    by_cases hc : kq (L.getD o 0) < kq (L.getD (j + 1) 0)
    · rw [cmp_gt hc] at e
      simp only [e]
      refine ⟨j + 1, rfl, Nat.le_refl _, fun i hi => ?_⟩
      by_cases h5 : i ≤ j
      · exact Rat.le_trans (h3 i h5) (Rat.le_of_lt hc)
      · obtain rfl : i = j + 1 := by omega
        exact Rat.le_refl
    · have hle : kq (L.getD (j + 1) 0) ≤ kq (L.getD o 0) := Rat.not_lt.1 hc
      refine ⟨o, ?_, by omega, fun i hi => ?_⟩
      · by_cases hl : kq (L.getD (j + 1) 0) < kq (L.getD o 0)
        · rw [cmp_lt hl] at e
          simp only [e]; rfl
        · have he : kq (L.getD (j + 1) 0) = kq (L.getD o 0) := Rat.le_antisymm hle (Rat.not_lt.1 hl)
          rw [he, cmp_same] at e
          simp only [e]; rfl
      · by_cases h5 : i ≤ j
        · exact h3 i h5
        · obtain rfl : i = j + 1 := by omega
          exact hle
theorem not_gt {x y : Nat} (hx : isN .f32 x = false) (hy : isN .f32 y = false) (h : kq x ≤ kq y) : (FloatKind.f32.format.order x y == some Ordering.gt) = false := by
  have e := order_kq hx hy
  by_cases h1 : kq x < kq y
  · rw [cmp_lt h1] at e; rw [e]; rfl
  · have he : kq x = kq y := Rat.le_antisymm h (Rat.not_lt.1 h1)
    rw [he, cmp_same] at e
    rw [e]; rfl
end Go.Proofs.Ythacadbdncfocaa

/- FnStacks: the plain law at a gather that is drawn. -/
namespace Go.Proofs.Ythacadbdncfocaa
open Go Ieee

theorem map_qv_at (zs : List Int) (k : Nat) (h : k < zs.length) : (zs.map qv).getD k 0 = qv (zs.getD k 0) := by
  rw [List.getD_eq_getElem?_getD, List.getElem?_map, List.getElem?_eq_getElem h, List.getD_eq_getElem?_getD, List.getElem?_eq_getElem h]
  rfl
theorem getD_bound {zs : List Int} (hz : ∀ z ∈ zs, -8 ≤ z ∧ z ≤ 8) (k : Nat) : -8 ≤ zs.getD k 0 ∧ zs.getD k 0 ≤ 8 := by
  rw [List.getD_eq_getElem?_getD]
  cases hk : zs[k]? with
  | none => decide
  | some z => exact hz z (List.mem_of_getElem? hk)
def zG (g : GQ) (i k : Nat) : Int := (zAt g.zss i).getD k 0
theorem GQ.ok.rowN {g : GQ} (h : g.ok) (i : Nat) (hi : i < g.ps.length) : (zAt g.zss i).length = g.T ∧ ∀ z ∈ zAt g.zss i, -8 ≤ z ∧ z ≤ 8 := h.zz _ (zAt_mem (by rw [h.nz]; exact hi))
theorem GQ.ok.rowLen {g : GQ} (h : g.ok) (i : Nat) (hi : i < g.ps.length) : (rowAt g.tm.Ls i).length = g.T := by
  show (rowAt (g.zss.map (List.map qv)) i).length = g.T
  rw [rowAt_qv, List.length_map]
  exact (h.rowN i hi).1
theorem GQ.ok.num {g : GQ} (h : g.ok) (i k : Nat) (hi : i < g.ps.length) (hk : k < g.T) : numL g.tm.Ls i k = qv (zG g i k) := by
  unfold numL zG
  rw [show rowAt g.tm.Ls i = (zAt g.zss i).map qv from rowAt_qv g.zss i]
  exact map_qv_at _ _ (by rw [(h.rowN i hi).1]; exact hk)
theorem GQ.ok.qts {g : GQ} (h : g.ok) : Qts g.tm.Ls g.ps.length g.T (zG g) := by
  refine ⟨by show (g.zss.map _).length = _; rw [List.length_map]; exact h.nz, h.n1, fun i hi => ⟨h.rowLen i hi, fun k hk => ?_⟩⟩
  have hb := getD_bound (h.rowN i hi).2 k
  rw [h.num i k hi hk]
  exact ⟨(qv_fx _ hb.1 hb.2).1, hb⟩
theorem GQ.ok.cor {g : GQ} (h : g.ok) (s : Nat) (hs : s < 4) (i : Nat) (hi : i < g.ps.length) : CorOk g.tm (spS s) i := by
  have e1 : rowAt g.tm.Ls i = (zAt g.zss i).map qv := rowAt_qv g.zss i
  have e2 : g.tm.P.getD i 0 = hV (pAt g.ps i) := getD_hV g.ps i
  have hT := h.t1
  have hT0 := h.t0
  obtain ⟨hl, hz⟩ := h.rowN i hi
  have hp := pAt_ok h.pz i
  have key : ∀ k : Nat, k < ((zAt g.zss i).map qv).length → crvOk (floatOfInt .f32 (k : Nat)) (hV (pAt g.ps i)) (spS s) = true ∧ tOk (crv (floatOfInt .f32 (k : Nat)) (hV (pAt g.ps i)) (spS s)) = true := fun k hk => by
    rw [List.length_map, hl] at hk
    exact cT4_ok s k _ hs (by omega) hp
  constructor
  · rw [e2]; exact hV_notNan hp
  · rw [e1]
    intro j hj
    rw [map_qv_at _ _ (by simpa using hj)]
    exact (qv_fx _ (getD_bound hz j).1 (getD_bound hz j).2).1.notNan
  · rw [e1, List.length_map, hl]; omega
  · rw [e1, List.length_map, hl]; omega
  · rw [e1, e2]; exact fun k hk => (key k hk).1
  · rw [e1, e2]; exact fun k hk => (twice_same _ hz (by omega) _ (key k hk).2).1
  · rw [e1]; exact fun k hk => smpR_cls _ _ _ (qs_one _ hz)
theorem GQ.ok.bnd {g : GQ} (h : g.ok) (s : Nat) (hs : s < 4) : Bnd (doL (corF g.tm (spS s)) g.ps.length) g.ps.length g.T := by
  refine ⟨doL_length _ _, h.n1, fun i hi k hk => ?_⟩
  have e1 : rowAt g.tm.Ls i = (zAt g.zss i).map qv := rowAt_qv g.zss i
  have e2 : g.tm.P.getD i 0 = hV (pAt g.ps i) := getD_hV g.ps i
  obtain ⟨hl, hz⟩ := h.rowN i hi
  have hT := h.t1
  have e : numL (doL (corF g.tm (spS s)) g.ps.length) i k = smpR ((zAt g.zss i).map qv) (crv (floatOfInt .f32 (k : Nat)) (hV (pAt g.ps i)) (spS s)) := by
    unfold numL
    rw [rowAt_doL _ _ _ hi]
    unfold corF
    rw [e1, e2, List.getD_eq_getElem?_getD, List.getElem?_map, List.getElem?_range (by rw [List.length_map, hl]; exact hk)]
    rfl
  rw [e]
  exact smp_fb _ hz (by omega) _ (cT4_ok s k _ hs (by omega) (pAt_ok h.pz i)).2
theorem win_fits (T k r : Nat) (hk : k < T) : semLo k r + semC T k r ≤ T := by unfold semC semLo; omega
theorem GQ.ok.best {g : GQ} (h : g.ok) (k r : Nat) (hk : k < g.T) : ∃ o, bestF (scL g.tm (semLo k r) (semC g.T k r) spL) 4 = some o ∧ o < 4 ∧
    (∀ i, i < 4 → isN .f32 ((scL g.tm (semLo k r) (semC g.T k r) spL).getD i 0) = false) ∧
    ∀ i, i < 4 → (FloatKind.f32.format.order ((scL g.tm (semLo k r) (semC g.T k r) spL).getD i 0) ((scL g.tm (semLo k r) (semC g.T k r) spL).getD o 0) == some Ordering.gt) = false := by
  have hT := h.t1
  have hn : ∀ i, i < 4 → isN .f32 ((scL g.tm (semLo k r) (semC g.T k r) spL).getD i 0) = false := fun i hi => by
    have e : (scL g.tm (semLo k r) (semC g.T k r) spL).getD i 0 = scV g.tm (semLo k r) (semC g.T k r) (spS i) := by
      unfold scL
      rw [List.getD_eq_getElem?_getD, List.getElem?_map]
      match i, hi with
      | 0, _ => rfl
      | 1, _ => rfl
      | 2, _ => rfl
      | 3, _ => rfl
    rw [e]
    unfold scV
    rw [h.qts.1]
    exact semF_notNan (h.bnd i hi) _ _ (win_fits _ _ _ hk) (by omega)
  obtain ⟨o, h1, h2, h3⟩ := bestF_num _ 4 hn 3 (by decide)
  exact ⟨o, h1, by omega, hn, fun i hi => not_gt (hn i hi) (hn o (by omega)) (h3 i (by omega))⟩
/-- Four traces that are the first one. -/
def eqL (g : GQ) : List (List Nat) := List.replicate 4 (rowAt g.tm.Ls 0)
theorem eqL_row (g : GQ) (i : Nat) (hi : i < 4) : rowAt (eqL g) i = rowAt g.tm.Ls 0 := by
  conv => lhs; unfold rowAt eqL
  rw [List.getD_eq_getElem?_getD, List.getElem?_replicate, if_pos hi]
  rfl
theorem GQ.ok.eqQ {g : GQ} (h : g.ok) : Qts (eqL g) 4 g.T fun _ k => zG g 0 k := by
  have h0 : 0 < g.ps.length := by have := h.n0; omega
  refine ⟨by simp [eqL], Nat.le_refl _, fun i hi => ⟨by rw [eqL_row g i hi]; exact h.rowLen 0 h0, fun k hk => ?_⟩⟩
  have e : numL (eqL g) i k = numL g.tm.Ls 0 k := by unfold numL; rw [eqL_row g i hi]
  rw [e]
  exact (h.qts.2.2 0 h0).2 k hk
theorem sm_same (z : Nat → Int) (lo c : Nat) : smO (fun _ k => z k) 4 lo c = ((4 : Nat) : Int) * smA (fun _ k => z k) 4 lo c := by
  induction c with
  | zero => rfl
  | succ c ih =>
    unfold smO smA
    rw [ih]
    simp only [sumZ, sqZ]
    generalize z (lo + c) = x
    generalize smA (fun _ k => z k) 4 lo c = A
    grind
theorem four_tab : ((List.range 17).all fun p => fop .quo .f32 (fop .add .f32 (fop .add .f32 (fop .add .f32 (fop .add .f32 0 (qv ((p : Int) - 8))) (qv ((p : Int) - 8))) (qv ((p : Int) - 8))) (qv ((p : Int) - 8))) (floatOfInt .f32 (4 : Nat)) == qv ((p : Int) - 8)) = true := by decide +kernel
theorem four_same (z : Int) (h : -8 ≤ z ∧ z ≤ 8) : fop .quo .f32 (fop .add .f32 (fop .add .f32 (fop .add .f32 (fop .add .f32 0 (qv z)) (qv z)) (qv z)) (qv z)) (floatOfInt .f32 (4 : Nat)) = qv z := by
  obtain ⟨p, rfl⟩ : ∃ p : Nat, z = (p : Int) - 8 := ⟨(z + 8).toNat, by omega⟩
  have := List.all_eq_true.1 four_tab p (List.mem_range.2 (by omega))
  simpa using this
theorem GQ.ok.eqStack {g : GQ} (h : g.ok) : stkL (eqL g) g.T = (zAt g.zss 0).map qv := by
  have h0 : 0 < g.ps.length := by have := h.n0; omega
  obtain ⟨hl, hz⟩ := h.rowN 0 h0
  refine getD_ext (by rw [stkL_length, List.length_map, hl]) fun j hj => ?_
  rw [stkL_length] at hj
  have e4 : (eqL g).length = 4 := by simp [eqL]
  rw [map_qv_at _ _ (by rw [hl]; exact hj)]
  unfold stkL
  rw [List.getD_eq_getElem?_getD, List.getElem?_map, List.getElem?_range hj, e4]
  have e : ∀ i, i < 4 → numL (eqL g) i j = qv ((zAt g.zss 0).getD j 0) := fun i hi => by
    have := h.num 0 j h0 hj
    unfold numL at this ⊢
    rw [eqL_row g i hi]
    exact this
  show fop .quo .f32 (fop .add .f32 (fop .add .f32 (fop .add .f32 (fop .add .f32 0 (numL (eqL g) 0 j)) (numL (eqL g) 1 j)) (numL (eqL g) 2 j)) (numL (eqL g) 3 j)) (floatOfInt .f32 (4 : Nat)) = _
  rw [e 0 (by decide), e 1 (by decide), e 2 (by decide), e 3 (by decide)]
  exact four_same _ (getD_bound hz j)
end Go.Proofs.Ythacadbdncfocaa

/- FnStacks: the plain law of traces that are divided by their greatest size. -/
namespace Go.Proofs.Ythacadbdncfocaa
open Go Ieee

def nvF (z M : Int) : Nat := fop .quo .f32 (qv z) (qv M)
theorem abs_tab : ((List.range 17).all fun p => absC (qv ((p : Int) - 8)) == qv (((p : Int) - 8).natAbs : Int)) = true := by decide +kernel
theorem abs_qv (z : Int) (h : -8 ≤ z ∧ z ≤ 8) : absC (qv z) = qv (z.natAbs : Int) := by
  obtain ⟨p, rfl⟩ : ∃ p : Nat, z = (p : Int) - 8 := ⟨(z + 8).toNat, by omega⟩
  have := List.all_eq_true.1 abs_tab p (List.mem_range.2 (by omega))
  simpa using this
theorem pos_tab : ((List.range 9).all fun p => posB (qv ((p : Int))) == decide (0 < p)) = true := by decide +kernel
theorem pos_qv (m : Nat) (h : m < 9) : posB (qv (m : Int)) = decide (0 < m) := by
  have := List.all_eq_true.1 pos_tab m (List.mem_range.2 h)
  simpa using this
def nvB (z M : Int) : Bool := fin .f32 (nvF z M) && (FloatKind.f32.format.order (nvF z M) 1065353216 != some Ordering.gt && (FloatKind.f32.format.order (nvF z M) 3212836864 != some Ordering.lt && ((z != M || nvF z M == 1065353216) && (z != -M || nvF z M == 3212836864))))
theorem nv_tab : ((List.range 9).all fun M => (List.range 17).all fun p => decide (M = 0) || (decide ((M : Int) < ((p : Int) - 8).natAbs) || nvB ((p : Int) - 8) M)) = true := by decide +kernel
theorem one_rq : RQ .f32 1065353216 1 := ⟨false, 8388608, -23, by decide +kernel, by decide +kernel⟩
theorem mone_rq : RQ .f32 3212836864 (-1) := ⟨true, 8388608, -23, by decide +kernel, by decide +kernel⟩
theorem nv_ok (z : Int) (M : Nat) (hM : M < 9) (h0 : 0 < M) (hz : z.natAbs ≤ M) : ∃ v : Rat, RQ .f32 (nvF z M) v ∧ -1 ≤ v ∧ v ≤ 1 ∧ (z.natAbs = M → v = 1 ∨ v = -1) := by
  obtain ⟨p, rfl⟩ : ∃ p : Nat, z = (p : Int) - 8 := ⟨(z + 8).toNat, by omega⟩
  have hp : p < 17 := by omega
  have h := List.all_eq_true.1 (List.all_eq_true.1 nv_tab M (List.mem_range.2 hM)) p (List.mem_range.2 hp)
  have e1 : decide (M = 0) = false := by simp; omega
  have e2 : decide ((M : Int) < ((p : Int) - 8).natAbs) = false := by simp; omega
  rw [e1, e2, Bool.false_or, Bool.false_or] at h
  unfold nvB at h
  simp only [Bool.and_eq_true] at h
  obtain ⟨a1, a2, a3, a4, a5⟩ := h
  obtain ⟨v, hv⟩ := RQ.of_fin a1
  rw [hv.order one_rq] at a2
  rw [hv.order mone_rq] at a3
  refine ⟨v, hv, ?_, ?_, fun he => ?_⟩
  · by_cases hc : v < -1
    · rw [cmp_lt hc] at a3; cases a3
    · exact Rat.not_lt.1 hc
  · by_cases hc : 1 < v
    · rw [cmp_gt hc] at a2; cases a2
    · exact Rat.not_lt.1 hc
  · have h2 : (p : Int) - 8 = M ∨ (p : Int) - 8 = -M := by omega
    rcases h2 with h2 | h2
    · left
      rw [h2] at a4 hv
      simp at a4
      rw [a4] at hv
      exact hv.uniq one_rq
    · right
      rw [h2] at a5 hv
      simp at a5
      rw [a5] at hv
      exact hv.uniq mone_rq
/-- The greatest size so far. -/
def grF (L : List Nat) : Nat → Nat
  | 0 => 0
  | k + 1 => mx2 .f32 (mx2 .f32 (grF L k) (L.getD k 0)) (ngF .f32 (L.getD k 0))
/-- Whether some number so far is not zero. -/
def smB (zs : List Int) : Nat → Bool
  | 0 => false
  | k + 1 => smB zs k || decide (zs.getD k 0 ≠ 0)
/-- What is asked of a trace that is divided. -/
structure NrOk (zs : List Int) (Y : List Nat) : Prop where
  len : Y.length = zs.length
  num : ∀ k, k < zs.length → isN .f32 (Y.getD k 0) = false ∧ (FloatKind.f32.format.order (grF Y k) (Y.getD k 0)).isSome = true ∧ (FloatKind.f32.format.order (mx2 .f32 (grF Y k) (Y.getD k 0)) (ngF .f32 (Y.getD k 0))).isSome = true
  one : smB zs zs.length = true → FloatKind.f32.format.order (grF Y zs.length) 1065353216 = some .eq
  zero : smB zs zs.length = false → FloatKind.f32.format.order (grF Y zs.length) 0 = some .eq
theorem grF_rq {zs : List Int} {Y : List Nat} {P : Nat → Prop} (h : ∀ k, k < zs.length → ∃ v : Rat, RQ .f32 (Y.getD k 0) v ∧ -1 ≤ v ∧ v ≤ 1 ∧ (P k → v = 1 ∨ v = -1)) (hw : ∀ k, k < zs.length → Y.getD k 0 < 2 ^ FloatKind.f32.format.width) (k : Nat) (hk : k ≤ zs.length) :
    ∃ q : Rat, RQ .f32 (grF Y k) q ∧ 0 ≤ q ∧ q ≤ 1 ∧ ((∃ j, j < k ∧ P j) → q = 1) := by
  induction k with
  | zero => exact ⟨0, rq_zero32, by grind, by grind, fun ⟨j, hj, _⟩ => by omega⟩
  | succ k ih =>
    obtain ⟨q, h1, h2, h3, h4⟩ := ih (by omega)
    obtain ⟨v, v1, v2, v3, v4⟩ := h k (by omega)
    have r := (h1.mx2 v1).mx2 (v1.neg (hw k (by omega)))
    refine ⟨_, r, ?_, ?_, ?_⟩
    · unfold rmax; grind
    · unfold rmax; grind
    · rintro ⟨j, hj, hp⟩
      by_cases hjk : j = k
      · subst hjk
        rcases v4 hp with e | e <;> unfold rmax <;> grind
      · have := h4 ⟨j, by omega, hp⟩
        unfold rmax; grind
theorem smB_iff (zs : List Int) (k : Nat) : smB zs k = true ↔ ∃ j, j < k ∧ zs.getD j 0 ≠ 0 := by
  induction k with
  | zero => simp [smB]
  | succ k ih =>
    unfold smB
    rw [Bool.or_eq_true, ih, decide_eq_true_eq]
    constructor
    · rintro (⟨j, hj, h⟩ | h)
      · exact ⟨j, by omega, h⟩
      · exact ⟨k, by omega, h⟩
    · rintro ⟨j, hj, h⟩
      by_cases e : j = k
      · subst e; exact .inr h
      · exact .inl ⟨j, by omega, h⟩
theorem order_same {x y : Nat} {a : Rat} (hx : RQ .f32 x a) (hy : RQ .f32 y a) : FloatKind.f32.format.order x y = some .eq := by rw [hx.order hy, cmp_same]
/-- The list that is divided, of a trace in quarters. -/
theorem nr_ok (zs : List Int) (h0 : 1 ≤ zs.length) (hz : ∀ z ∈ zs, -8 ≤ z ∧ z ≤ 8) : (∃ o, bestF ((zs.map qv).map absC) (zs.map qv).length = some o) ∧ NrOk zs (nrmF (zs.map qv)) := by
  have habs : ∀ i, i < zs.length → ((zs.map qv).map absC).getD i 0 = qv ((zs.getD i 0).natAbs : Int) := fun i hi => by
    rw [List.getD_eq_getElem?_getD, List.getElem?_map, List.getElem?_map, List.getElem?_eq_getElem hi]
    show absC (qv zs[i]) = _
    have e : zs.getD i 0 = zs[i] := by rw [List.getD_eq_getElem?_getD, List.getElem?_eq_getElem hi]; rfl
    have hb := getD_bound hz i
    rw [e] at hb ⊢
    exact abs_qv _ hb
  obtain ⟨n, hn⟩ : ∃ n, zs.length = n + 1 := ⟨zs.length - 1, by omega⟩
  obtain ⟨o, b1, b2, b3, -⟩ := bestF_is ((zs.map qv).map absC) 2 (fun i => ((zs.getD i 0).natAbs : Int)) zs.length (fun i hi => by
    have hb := getD_bound hz i
    rw [habs i hi]
    exact (qv_fx _ (by omega) (by omega)).1) n (by omega)
  have hlen : (zs.map qv).length = zs.length := List.length_map ..
  rw [← hn] at b1
  have ho : o < zs.length := by omega
  obtain ⟨M, hM⟩ : ∃ M, (zs.getD o 0).natAbs = M := ⟨_, rfl⟩
  have hbo := getD_bound hz o
  have hle : ∀ i, i < zs.length → (zs.getD i 0).natAbs ≤ M := fun i hi => by
    have := b3 i (by omega)
    omega
  have hab : absC ((zs.map qv).getD o 0) = qv (M : Int) := by
    rw [map_qv_at _ _ ho, abs_qv _ hbo, hM]
  have hform : nrmF (zs.map qv) = if 0 < M then nrmTo (zs.map qv) (qv (M : Int)) zs.length else zs.map qv := by
    unfold nrmF
    rw [hlen, b1]
    simp only
    rw [hab, pos_qv M (by omega)]
    by_cases hm : 0 < M
    · rw [if_pos hm, if_pos (by simpa using hm)]
    · rw [if_neg hm, if_neg (by simpa using hm)]
  refine ⟨⟨o, by rw [hlen]; exact b1⟩, ?_⟩
  rw [hform]
  by_cases hm : 0 < M
  · rw [if_pos hm]
    have hat : ∀ k, k < zs.length → (nrmTo (zs.map qv) (qv (M : Int)) zs.length).getD k 0 = nvF (zs.getD k 0) M := fun k hk => by
      rw [nrmTo_getD _ _ _ _ (by rw [hlen]; exact hk), if_pos hk, map_qv_at _ _ hk]
      rfl
    have hv : ∀ k, k < zs.length → ∃ v : Rat, RQ .f32 ((nrmTo (zs.map qv) (qv (M : Int)) zs.length).getD k 0) v ∧ -1 ≤ v ∧ v ≤ 1 ∧ ((zs.getD k 0).natAbs = M → v = 1 ∨ v = -1) := fun k hk => by
      rw [hat k hk]
      exact nv_ok _ M (by omega) hm (hle k hk)
    have hw : ∀ k, k < zs.length → (nrmTo (zs.map qv) (qv (M : Int)) zs.length).getD k 0 < 2 ^ FloatKind.f32.format.width := fun k hk => by
      rw [hat k hk]; exact (fop_cls (op := .quo) (k := .f32) (x := qv (zs.getD k 0)) (y := qv (M : Int))).1
    have hsome : smB zs zs.length = true := (smB_iff zs _).2 ⟨o, ho, by omega⟩
    constructor
    · rw [nrmTo_length, hlen]
    · intro k hk
      obtain ⟨v, v1, -⟩ := hv k hk
      obtain ⟨q, q1, -⟩ := grF_rq (P := fun k => (zs.getD k 0).natAbs = M) hv hw k (by omega)
      exact ⟨v1.notNan, q1.order_some v1, (q1.mx2 v1).order_some (v1.neg (hw k hk))⟩
    · intro _
      obtain ⟨q, q1, -, -, q4⟩ := grF_rq (P := fun k => (zs.getD k 0).natAbs = M) hv hw zs.length (Nat.le_refl _)
      rw [q4 ⟨o, ho, hM⟩] at q1
      exact order_same q1 one_rq
    · intro hc; rw [hsome] at hc; cases hc
  · rw [if_neg hm]
    have hz0 : ∀ k, k < zs.length → zs.getD k 0 = 0 := fun k hk => by have := hle k hk; omega
    have hq0 : qv 0 = 0 := by decide +kernel
    have hat : ∀ k, k < zs.length → (zs.map qv).getD k 0 = 0 := fun k hk => by rw [map_qv_at _ _ hk, hz0 k hk, hq0]
    have hnone : smB zs zs.length = false := by
      cases hs : smB zs zs.length with
      | false => rfl
      | true =>
        obtain ⟨j, hj, h⟩ := (smB_iff zs _).1 hs
        exact absurd (hz0 j hj) h
    have hg : ∀ k, k ≤ zs.length → grF (zs.map qv) k = 0 := fun k hk => by
      induction k with
      | zero => rfl
      | succ k ih =>
        unfold grF
        rw [ih (by omega), hat k (by omega)]
        decide +kernel
    constructor
    · exact hlen
    · intro k hk
      rw [hat k hk, hg k (by omega)]
      decide +kernel
    · intro hc; rw [hnone] at hc; cases hc
    · intro _
      rw [hg _ (Nat.le_refl _)]
      decide +kernel
end Go.Proofs.Ythacadbdncfocaa

/- 'copy' to an owned list. -/
namespace Go.Proofs.Ythacadbdncfocaa
open Go Go.RowKit

theorem getD_splice (L M : List Nat) (off j : Nat) (h : off + M.length ≤ L.length) : (L.take off ++ (M ++ L.drop (off + M.length))).getD j 0 = if j < off then L.getD j 0 else if j < off + M.length then M.getD (j - off) 0 else L.getD j 0 := by
  simp only [List.getD_eq_getElem?_getD, List.getElem?_append, List.length_take, List.getElem?_take, List.getElem?_drop]
  rw [show min off L.length = off by omega]
  by_cases h1 : j < off
  · simp [h1]
  · by_cases h2 : j < off + M.length
    · rw [if_neg h1, if_pos (by omega), if_neg h1, if_pos h2]
    · rw [if_neg h1, if_neg (by omega), if_neg h1, if_neg h2, show off + M.length + (j - off - M.length) = j by omega]
/-- 'copy' of a list to a part of an owned list. -/
theorem wpList_copyF {ops : Array Oper} {rest : List Oper} {o : Oper} {a : Act} {w : World} {Q : Exit → Act → World → Prop} (hgd : o.guard = none) (d s : Operand)
    (ho : o.op = .call { callee := .builtin .copy, args := #[d, s], argTypes := #[25, 25] }) (B g cap n : Nat) (L M : List Nat) (hL : L.length = n) (hown : OwnF w B (.slice (some ⟨g, 0, none⟩) n cap) L)
    (off dLen dCap : Nat) (hd : a.eval d = .slice (some ⟨g, off, none⟩) dLen dCap) (v : Value) (hs : a.eval s = v) (hM : RdF w v M) (hlen : M.length = dLen) (hp : 0 < M.length) (hfit : off + dLen ≤ n)
    (h : ∀ w', OwnF w' B (.slice (some ⟨g, 0, none⟩) n cap) (L.take off ++ (M ++ L.drop (off + M.length))) → Chg w w' (fun k => k = g) → w'.heap.size = w.heap.size → wpList Try.prog ops Q rest (a.put o.dst (goInt M.length)) w') : wpList Try.prog ops Q (o :: rest) a w := by
  subst hL
  subst hs
  obtain ⟨a1, c1, hv, -, -, hcell⟩ := hM.opened
  obtain ⟨b1, o1, r1, rfl, -, -⟩ := hcell 0 hp
  obtain ⟨bs, hbl, hbs⟩ := pick_list (P := fun j r => w.cell? ⟨b1, o1 + j, none⟩ = some (.float .f32 r) ∧ FV .f32 r (M.getD j 0)) M.length (fun j hj => by
    obtain ⟨b, o, r, e, h1, h2⟩ := hcell j hj
    cases e
    exact ⟨r, h1, h2⟩)
  obtain ⟨bits, hl, hf, hrow⟩ := hown
  obtain ⟨hxl, hrest⟩ := hrow
  rcases hrest with ⟨hn, -⟩ | ⟨g', cap', cur, hv', hB, hg, hn, hm, hsz, htk⟩
  · cases hn
  · obtain ⟨rfl, rfl⟩ : g = g' ∧ cap = cap' := by cases hv'; exact ⟨rfl, rfl⟩
    rw [Nat.mul_one] at hxl hsz htk
    have hcl : (bs.map (Value.float .f32)).length = M.length := by simp [hbl]
    have hll : bits.length ≤ cur.size := by rw [hsz]; omega
    have hinfo : (Try.prog.info? 27).map (·.size) = some 1 := by kernel_rfl
    refine wpList_copy_own hgd d s 25 25 ho 27 Try.underlying25 hinfo g off dLen dCap ⟨b1, o1, none⟩ M.length c1 hd hv cur 27 hg (bs.map (Value.float .f32)) (by rw [hcl, hlen]; exact (Nat.min_self _).symm) ?_ (by rw [hcl]; omega) (fun u hu => by simp at hu; obtain ⟨x, -, rfl⟩ := hu; rfl) ?_
    · intro j u hu
      have hj : j < bs.length := by
        have := (List.getElem?_eq_some_iff.1 hu).1
        simpa using this
      rw [getD_map_float bs j hj] at hu
      cases hu
      have e : (⟨b1, o1, none⟩ : Addr).add j = ⟨b1, o1 + j, none⟩ := by simp [Addr.add]
      rw [e]
      exact (hbs j (by omega)).1
    · rw [hcl]
      have hg2 := setRow_heap w g cur (cur.toList.take off ++ (bs.map (Value.float .f32) ++ cur.toList.drop (off + M.length))).toArray 27 (0, 0) hg
      refine h _ ?_ ⟨rfl, rfl, rfl, by simp [World.setRow], fun k hk hne => setRow_other w g k _ (by omega)⟩ (by simp [World.setRow])
      have hnl : (L.take off ++ (M ++ L.drop (off + M.length))).length = L.length := by simp; omega
      refine ⟨bits.take off ++ (bs ++ bits.drop (off + bs.length)), by simp; omega, fun j hj => ?_, by simp; omega, .inr ⟨g, cap, _, by rw [hnl], hB, hg2, by omega, hm, by simp; omega, ?_⟩⟩
      · rw [hnl] at hj
        rw [getD_splice _ _ _ _ (by omega), getD_splice _ _ _ _ (by omega), hbl]
        by_cases h1 : j < off
        · rw [if_pos h1, if_pos h1]; exact hf j hj
        · rw [if_neg h1, if_neg h1]
          by_cases h2 : j < off + M.length
          · rw [if_pos h2, if_pos h2]; exact (hbs (j - off) (by omega)).2
          · rw [if_neg h2, if_neg h2]; exact hf j hj
      · rw [Nat.mul_one, hnl]
        have e1 : cur.toList = bits.map (Value.float .f32) ++ cur.toList.drop L.length := by rw [← htk]; exact (List.take_append_drop _ _).symm
        have hbl2 : (bits.map (Value.float .f32)).length = L.length := by simp [hl]
        rw [List.map_append, List.map_append, List.map_take, List.map_drop]
        generalize bits.map (Value.float .f32) = X at *
        generalize bs.map (Value.float .f32) = Y at *
        generalize cur.toList.drop L.length = Z at *
        have hY : Y.length = M.length := hcl
        rw [e1, List.toList_toArray, hbl]
        rw [show (X ++ Z).take off = X.take off from List.take_append_of_le_length (by omega), show (X ++ Z).drop (off + M.length) = X.drop (off + M.length) ++ Z from List.drop_append_of_le_length (by omega)]
        rw [show X.take off ++ (Y ++ (X.drop (off + M.length) ++ Z)) = (X.take off ++ (Y ++ X.drop (off + M.length))) ++ Z by simp [List.append_assoc]]
        rw [List.take_append_of_le_length (by simp; omega), List.take_of_length_le (by simp; omega)]
end Go.Proofs.Ythacadbdncfocaa

/- FnStacks: what the law compares; gaps; traces that are copied. -/
namespace Go.Proofs.Ythacadbdncfocaa
open Go Go.RowKit Ieee

def oneD : Nat := 4607182418800017408
theorem oneD_rq : RQ .f64 oneD 1 := ⟨false, 4503599627370496, -52, by decide +kernel, by decide +kernel⟩
theorem c1001_rq : RQ .f64 4607186922399644778 (sgr false * (((4508103226997866 : Nat) : Rat) * sc (-52))) := ⟨false, 4508103226997866, -52, by decide +kernel, rfl⟩
theorem c0001_rq : RQ .f64 4562254508917369340 (sgr false * (((4611686018427388 : Nat) : Rat) * sc (-62))) := ⟨false, 4611686018427388, -62, by decide +kernel, rfl⟩
/-- The gap of two numbers of 64 bits. -/
def gapF (x y : Nat) : Nat := mx2 .f64 (fop .sub .f64 x y) (fop .sub .f64 y x)
structure GapOk (x y : Nat) : Prop where
  n1 : isN .f64 (fop .sub .f64 x y) = false
  n2 : isN .f64 (fop .sub .f64 y x) = false
  so : (FloatKind.f64.format.order (fop .sub .f64 x y) (fop .sub .f64 y x)).isSome = true
theorem gap_rq {x y : Nat} {a b : Rat} (hx : RQ .f64 x a) (hy : RQ .f64 y b) (ha : Ab a 1000000) (hb : Ab b 1000000) : GapOk x y ∧ ∃ d e : Rat, RQ .f64 (gapF x y) (rmax (a - b + d) (b - a + e)) ∧ Ab d (1 / 1000000000) ∧ Ab e (1 / 1000000000) := by
  have h1 := uu64
  have h2 := tt64
  obtain ⟨d, r1, d1⟩ := hx.sub hy (ha.sub hb) (big_top64 (by grind))
  obtain ⟨e, r2, e1⟩ := hy.sub hx (hb.sub ha) (big_top64 (by grind))
  rw [h1] at d1 e1
  exact ⟨⟨r1.notNan, r2.notNan, r1.order_some r2⟩, d, e, r1.mx2 r2, d1.mono (by grind), e1.mono (by grind)⟩
set_option maxRecDepth 100000 in
theorem r8Gap_fine (w : World) (x y : Nat) (h : GapOk x y) :
    Calls Try.prog 28 #[.float .f64 x, .float .f64 y] w fun e w' => e = .returned (.float .f64 (gapF x y)) ∧ w' = w := by
  obtain ⟨n1, n2, so⟩ := h
  have h1 := fun wq t => run_fineK (P := Try.prog) .f64 .sub (by simp) wq t _ _ n1
  have h2 := fun wq t => run_fineK (P := Try.prog) .f64 .sub (by simp) wq t _ _ n2
  have h3 := fun wq ats ty => run_max2 (P := Try.prog) .f64 ats ty _ _ wq so
  rw [show mx2 .f64 (fop .sub .f64 x y) (fop .sub .f64 y x) = gapF x y from rfl] at h3
  clear n1 n2 so
  generalize gapF x y = g at *
  generalize fop .sub .f64 x y = a at *
  generalize fop .sub .f64 y x = b at *
  go_enter Try.func28, Try.ntmps28
  go_wp2
  go_ret
  exact ⟨rfl, rfl⟩
theorem alike_ok (g : GQ) (h : g.ok) (k r : Nat) (hk : k < g.T) : isN .f32 (semF g.tm.Ls (semLo k r) (semC g.T k r)) = false ∧ (FloatKind.f32.format.order (semF g.tm.Ls (semLo k r) (semC g.T k r)) 0 == some Ordering.lt) = false ∧
    (FloatKind.f64.format.order (cwide (semF g.tm.Ls (semLo k r) (semC g.T k r))) 4607186922399644778 == some Ordering.gt) = false := by
  obtain ⟨q, d, r1, h0, h1, hd, -⟩ := sem_rq h.qts _ _ (win_fits _ _ r hk) (by have := h.t1; omega)
  refine ⟨r1.notNan, ?_, ?_⟩
  · have e := r1.order rq_zero32
    by_cases hq : q + d = 0
    · rw [hq, cmp_same] at e; rw [e]; rfl
    · rw [cmp_gt (show (0 : Rat) < q + d by grind)] at e; rw [e]; rfl
  · have e := r1.wide.order c1001_rq
    have hc : (1 : Rat) + 1 / 10000 < sgr false * (((4508103226997866 : Nat) : Rat) * sc (-52)) := by decide +kernel
    rw [cmp_lt (by unfold Ab at hd; grind)] at e
    rw [e]; rfl
theorem full_ok (g : GQ) (h : g.ok) (k r : Nat) (hk : k < g.T) : isN .f32 (semF (eqL g) (semLo k r) (semC g.T k r)) = false ∧ ((FloatKind.f32.format.order (semF (eqL g) (semLo k r) (semC g.T k r)) 0 == some Ordering.eq) = true ∨
    (GapOk (cwide (semF (eqL g) (semLo k r) (semC g.T k r))) oneD ∧ (FloatKind.f64.format.order (gapF (cwide (semF (eqL g) (semLo k r) (semC g.T k r))) oneD) 4562254508917369340 == some Ordering.lt) = true)) := by
  obtain ⟨q, d, r1, h0, h1, hd, hs⟩ := sem_rq h.eqQ _ _ (win_fits _ _ r hk) (by have := h.t1; omega)
  refine ⟨r1.notNan, ?_⟩
  rcases hs (sm_same _ _ _) with e0 | e1
  · left
    rw [e0] at r1
    rw [order_same r1 rq_zero32]; rfl
  · right
    subst e1
    unfold Ab at hd
    obtain ⟨g1, d1, d2, r2, b1, b2⟩ := gap_rq r1.wide oneD_rq (by unfold Ab; grind) (by unfold Ab; grind)
    refine ⟨g1, ?_⟩
    have hc : (1 : Rat) / 1001 < sgr false * (((4611686018427388 : Nat) : Rat) * sc (-62)) := by decide +kernel
    have e := r2.order c0001_rq
    unfold Ab at b1 b2
    rw [cmp_lt (by unfold rmax; grind)] at e
    rw [e]; rfl
/-- The rows, of which i are copied. -/
def eqTo (R Z : List Nat) (i : Nat) : List (List Nat) := List.replicate i R ++ List.replicate (4 - i) Z
theorem eqTo_length (R Z : List Nat) (i : Nat) (h : i ≤ 4) : (eqTo R Z i).length = 4 := by simp [eqTo]; omega
theorem eqTo_zero (R Z : List Nat) : eqTo R Z 0 = List.replicate 4 Z := by simp [eqTo]
theorem eqTo_four (R Z : List Nat) : eqTo R Z 4 = List.replicate 4 R := by simp [eqTo]
theorem eqTo_set (R Z : List Nat) (i : Nat) (h : i < 4) : (eqTo R Z i).set i R = eqTo R Z (i + 1) := by
  match i, h with
  | 0, _ => rfl
  | 1, _ => rfl
  | 2, _ => rfl
  | 3, _ => rfl
theorem eqTo_row (R Z : List Nat) (i : Nat) (h : i < 4) : rowAt (eqTo R Z i) i = Z := by
  match i, h with
  | 0, _ => rfl
  | 1, _ => rfl
  | 2, _ => rfl
  | 3, _ => rfl
/-- Row j of an owned gather is there, and may be set whole. -/
theorem ownSS_row {w : World} {M Bz : Nat} {vt : Value} {Ls : List (List Nat)} {n T : Nat} (hrow : OwnSS w (Iv M Bz) vt Ls) (hn : Ls.length = n) {j : Nat} (hj : j < n) (hl : (rowAt Ls j).length = T) (hT : 0 < T) :
    ∃ q cap r cr, vt = .slice (some ⟨q, 0, none⟩) n cap ∧ w.cell? ⟨q, j, none⟩ = some (.slice (some ⟨r, 0, none⟩) T cr) ∧ M ≤ r ∧ r < Bz ∧ OwnF w 0 (.slice (some ⟨r, 0, none⟩) T cr) (rowAt Ls j) ∧
      ∀ w' R, OwnF w' 0 (.slice (some ⟨r, 0, none⟩) T cr) R → Chg w w' (fun k => k = r) → OwnSS w' (Iv M Bz) vt (Ls.set j R) := by
  have hrow2 := hrow
  unfold OwnSS at hrow2
  rw [hn] at hrow2
  have hdl : (Ls.map D1.fs).length = n := by simp [hn]
  obtain ⟨q, cap, rfl, hq, hql, hcap, hcells, -⟩ := (OwnC.form hrow2).resolve_left fun e => by have := e.2.1; omega
  obtain ⟨u, hu, ho, -⟩ := hcells j (by omega)
  have e1 : (Ls.map D1.fs).getD j default = .fs (rowAt Ls j) := by
    unfold rowAt
    simp only [List.getD_eq_getElem?_getD, List.getElem?_map]
    rw [List.getElem?_eq_getElem (by omega)]
    rfl
  rw [e1] at ho
  have ho1 : OwnF w 0 u (rowAt Ls j) := ho.1
  obtain ⟨r, cr, hur, -, hrl, hcr, hcl, hfr⟩ := ho1.at_block hl hT
  subst hur
  have hS : Iv M Bz r := ho.2 r rfl
  refine ⟨q, cap, r, cr, rfl, hu, hS.1, hS.2, ho1, fun w' R hR hc => ?_⟩
  have hc2 : Chg w w' fun k => (Value.slice (some ⟨r, 0, none⟩) T cr).ownBlock = some k := ⟨hc.os, hc.tape, hc.output, hc.size, fun k hk hne => hc.block k hk fun e => hne (by rw [e]; rfl)⟩
  have hd : Own1 w' (Iv M Bz) (.fs R) (.slice (some ⟨r, 0, none⟩) T cr) := ⟨hR, ho.2⟩
  have ht := OwnC.turned hrow2 (by omega) hu hc2 hd
  unfold OwnSS
  rw [List.length_set, hn, List.map_set]
  exact ht
def p4 : List Nat := [0, 1065353216, 1073741824, 1077936128]
theorem valid_p4 (T : Nat) (h0 : 1 ≤ T) (h1 : T ≤ 64) (Ls : List (List Nat)) (hl : Ls.length = 4) (hr : ∀ i, i < 4 → (rowAt Ls i).length = T) : validT ⟨T, p4, Ls⟩ = true := by
  have h2 : rowsTo Ls T Ls.length = true := by
    unfold rowsTo
    rw [List.all_eq_true]
    intro i hi
    rw [hr i (by rw [← hl]; simpa using hi)]
    simp
  unfold validT
  simp only
  rw [show placesB p4 = true by decide +kernel, h2, hl]
  simp [p4]; omega
theorem rd_four {w : World} {g a b c d : Nat} (ha : FV .f32 a a) (hb : FV .f32 b b) (hc : FV .f32 c c) (hd : FV .f32 d d) (h : w.heap[g]? = some (.cells #[.float .f32 a, .float .f32 b, .float .f32 c, .float .f32 d] 27 (0, 0))) : RdF w (.slice (some ⟨g, 0, none⟩) 4 4) [a, b, c, d] := by
  refine ⟨some ⟨g, 0, none⟩, 4, rfl, Nat.le_refl _, (fun h => by cases h), fun j hj => ?_⟩
  have hj4 : j < 4 := hj
  match j, hj4 with
  | 0, _ => exact ⟨g, 0, .float .f32 a, rfl, by rw [Nat.zero_add, cell_of_row w g 0 _ _ _ h]; rfl, a, rfl, ha⟩
  | 1, _ => exact ⟨g, 0, .float .f32 b, rfl, by rw [Nat.zero_add, cell_of_row w g 1 _ _ _ h]; rfl, b, rfl, hb⟩
  | 2, _ => exact ⟨g, 0, .float .f32 c, rfl, by rw [Nat.zero_add, cell_of_row w g 2 _ _ _ h]; rfl, c, rfl, hc⟩
  | 3, _ => exact ⟨g, 0, .float .f32 d, rfl, by rw [Nat.zero_add, cell_of_row w g 3 _ _ _ h]; rfl, d, rfl, hd⟩
theorem cF {x : Nat} (h : x < 2 ^ 32) (hn : isN .f32 x = false) : FV .f32 x x := FV.self (by rw [width32]; exact h) hn
theorem rd_sp {w : World} {g : Nat} (h : w.heap[g]? = some (.cells #[.float .f32 1056964608, .float .f32 1065353216, .float .f32 1073741824, .float .f32 1082130432] 27 (0, 0))) : RdF w (.slice (some ⟨g, 0, none⟩) 4 4) spL :=
  rd_four (cF (by decide) (by decide +kernel)) (cF (by decide) (by decide +kernel)) (cF (by decide) (by decide +kernel)) (cF (by decide) (by decide +kernel)) h
theorem rd_p4 {w : World} {g : Nat} (h : w.heap[g]? = some (.cells #[.float .f32 0, .float .f32 1065353216, .float .f32 1073741824, .float .f32 1077936128] 27 (0, 0))) : RdF w (.slice (some ⟨g, 0, none⟩) 4 4) p4 :=
  rd_four (cF (by decide) (by decide +kernel)) (cF (by decide) (by decide +kernel)) (cF (by decide) (by decide +kernel)) (cF (by decide) (by decide +kernel)) h
theorem sp_pos : allB posB spL = true := by decide +kernel
theorem sp_num (j : Nat) (h : j < 4) : isN .f32 (spL.getD j 0) = false := by
  match j, h with
  | 0, _ => decide +kernel
  | 1, _ => decide +kernel
  | 2, _ => decide +kernel
  | 3, _ => decide +kernel
/-- A number of an owned or read list that is no NaN. -/
theorem num_bits {w : World} {v : Value} {L : List Nat} (h : RdF w v L) (j : Nat) (hj : j < L.length) (hn : isN .f32 (L.getD j 0) = false) : ∃ b o c, v = .slice (some ⟨b, o, none⟩) L.length c ∧ b < w.heap.size ∧ w.cell? ⟨b, o + j, none⟩ = some (.float .f32 (L.getD j 0)) := by
  obtain ⟨a, c, rfl, -, -, hc⟩ := h.opened
  obtain ⟨b, o, r, rfl, h1, h2⟩ := hc j hj
  obtain rfl := h2.eq_of_not hn
  exact ⟨b, o, c, rfl, block_lt h1, h1⟩
end Go.Proofs.Ythacadbdncfocaa

/- Walks: impl.FlatGather, whatever the ticks and the places. -/
namespace Go.Proofs.Ythacadbdncfocaa
open Go Go.RowKit

set_option maxRecDepth 100000 in
set_option maxHeartbeats 3200000 in
theorem flatGatherN_any (w : World) (v : Value) (n : Nat) (P : List Nat) (h : RdF w v P) (hn1 : 1 ≤ n) (hn2 : n ≤ 64) (hp1 : 1 ≤ P.length) (hp2 : P.length ≤ 16) (hfin : allB (fin .f32) P = true) :
    Calls Try.prog 25 #[.int .i64 n, v] w fun e w' => ∃ vp vt M, e = .returned (.tuple #[.agg #[.int .i64 n, vp, vt], .bool true]) ∧ OwnF w' w.heap.size vp P ∧ (∀ k, vp.ownBlock = some k → k < M) ∧ w.heap.size ≤ M ∧ OwnSS w' (Iv M w'.heap.size) vt (List.replicate P.length (List.replicate n 0)) ∧ Below w.heap.size w w' := by
  have HR := Lib.hid h
  obtain ⟨a, c, rfl, -⟩ := h.opened
  have HLF := Lib.hid (fun wq => lengthF_any wq a P.length c)
  have HW1 := Lib.hid (fun wq => within_any wq (n : Int) 1 64)
  have HW2 := Lib.hid (fun wq => within_any wq (P.length : Int) 1 16)
  rw [show inB (n : Int) 1 64 = true by simp [inB]; omega] at HW1
  rw [show inB (P.length : Int) 1 16 = true by simp [inB]; omega] at HW2
  have HF := Lib.hid (fun wq hq => areFinite_any wq _ P (HR.out.mono hq) (by omega))
  rw [hfin] at HF
  clear h hfin
  go_enter Try.func25, Try.ntmps25
  go_wp2_with fail
  refine (HW1.out _).mono ?_
  rintro e w1 ⟨rfl, hw1⟩
  go_wp2_with fail
  refine (HLF.out _).mono ?_
  rintro e w2 ⟨rfl, hw2⟩
  go_wp2_with fail
  refine (HW2.out _).mono ?_
  rintro e w3 ⟨rfl, hw3⟩
  go_wp2_with fail
  have x0 : Below w.heap.size w (w.alloc (.cells #[.int .i64 0, .slice none 0 0, .slice none 0 0] 44)) := (Below.refl _ _).alloc (Nat.le_refl _) _
  have z0 : (w.alloc (.cells #[.int .i64 0, .slice none 0 0, .slice none 0 0] 44)).heap.size = w.heap.size + 1 := World.size_alloc _ _
  refine (HF.out _ x0).mono ?_
  rintro e w4 ⟨rfl, n4, hw4⟩
  have h4 : w4.heap[w.heap.size]? = some (.cells #[.int .i64 0, .slice none 0 0, .slice none 0 0] 44 (0, 0)) := by rw [hw4]; exact alloc_new _ _
  have z4 : w4.heap.size = w.heap.size + 1 := by rw [hw4]; exact z0
  have b4 : Below w.heap.size w w4 := by rw [hw4]; exact Below.drewN x0 _
  have H4 := Lib.hid h4
  have B4 := Lib.hid b4
  have HC := Lib.hid (clone_any w4 _ P (HR.out.mono b4) (by omega))
  clear hw4 h4 b4 x0 z0 hw1 hw2 hw3 HW1 HW2 HF HLF
  go_wp2_with fail
  refine HC.out.mono ?_
  rintro e w5 ⟨vp, rfl, o5, b5⟩
  have O5 := Lib.hid o5
  obtain ⟨gp, cp, hvp, hgp, -⟩ := o5.at_block (n := P.length) rfl (by omega)
  subst hvp
  have z5 := b5.size
  have H5 : Hid (w5.heap[w.heap.size]? = some (.cells #[.int .i64 0, .slice none 0 0, .slice none 0 0] 44 (0, 0))) := Lib.hid ((b5.block w.heap.size (by omega)).trans H4.out)
  have B5 := Lib.hid (B4.out.trans (b5.mono (by omega)))
  clear o5 b5 HC H4 B4
  go_wp2_with fail
  have z6 : (w5.alloc (.cells #[.int .i64 n, .slice (some ⟨gp, 0, none⟩) P.length cp, .slice none 0 0] 44)).heap.size = w5.heap.size + 1 := World.size_alloc _ _
  have x6 : Below w5.heap.size w5 (w5.alloc (.cells #[.int .i64 n, .slice (some ⟨gp, 0, none⟩) P.length cp, .slice none 0 0] 44)) := (Below.refl _ _).alloc (Nat.le_refl _) _
  have X6 := Lib.hid x6
  clear x6
  go_loopw [28] (fun i wr => ∃ (j : Nat) (vt : Value), j ≤ P.length ∧ i = .int .i64 j ∧ OwnSS wr (Iv (w5.heap.size + 1) wr.heap.size) vt (List.replicate j (List.replicate n 0)) ∧ wr.heap[w5.heap.size]? = some (.cells #[.int .i64 n, .slice (some ⟨gp, 0, none⟩) P.length cp, vt] 44 (0, 0)) ∧ Chg w5 wr (fun _ => False)) (fun i _ => P.length - (intOf i).toNat)
  case atStart => exact ⟨0, .slice none 0 0, Nat.zero_le _, rfl, ⟨[], rfl, World.ownsRow_nil _ 0 _ 1, (fun k hk => by cases hk), (fun j hj => by cases hj), (fun i j k hi => by cases hi), (fun j k hj => by cases hj)⟩, alloc_new _ _, Chg.of_below X6.out _⟩
  case round =>
    obtain ⟨wi, rfl⟩ : ∃ wi : World, wi = wr := ⟨_, rfl⟩
    obtain ⟨j, vt, hj, rfl, ho, hb, hc⟩ := hrel
    have HO := Lib.hid ho
    have HB := Lib.hid hb
    have HCg := Lib.hid hc
    have hgs : w5.heap.size < wi.heap.size := (Array.getElem?_eq_some_iff.1 hb).1
    by_cases hlt : j < P.length
    · clear ho hb hc
      have FX : Hid (∀ wq, Ext wi wq → wq.cell? ⟨w5.heap.size, 2, none⟩ = some vt) := Lib.hid fun wq hq => by
        obtain ⟨-, -, k2, -, -, -⟩ := blk3 ((hq.block w5.heap.size hgs).trans HB.out)
        exact k2
      have hd : decide ((j : Int) < (P.length : Int)) = true := by simp; omega
      go_wp2_with fail
      refine region_grow_tail 5 (by kernel_rfl) (by kernel_rfl) (fun _ _ _ _ _ => False) ?_
      simp only [List.take_succ_cons, List.take_zero, List.drop_succ_cons, List.drop_zero]
      iterate 3 (refine wpRelK_still rfl rfl (fun wq hq K hK => ?_); (have k2 := FX.out wq ((Ext.drew wi).trans hq.1)); go_wp2; clear k2)
      refine wpRelK_op rfl rfl (fun wa ha K hK => ?_)
      have ga : wi.heap.size ≤ wa.heap.size := ha.1.size
      refine op_make _ _ 25 rfl 27 (.float .f32 0) 4 Try.underlying25 Try.infoF rfl _ _ _ _ n rfl rfl rfl rfl (by omega) (by decide) ?_
      intro w7 o7 x7
      refine hK _ _ x7 ?_
      clear hK K
      refine wpRelK_op rfl rfl (fun wb hb2 K hK => ?_)
      have E7b : Ext w7 wb := hb2.dep 3 (by kernel_rfl)
      have gb : wi.heap.size ≤ wb.heap.size := hb2.1.size
      go_wp2
      refine hK _ _ ((Below.refl _ _).alloc (Nat.le_refl _) _) ?_
      clear hK K
      refine wpRelK_nil ?_
      intro w8 hW hall
      have E7 : Ext w7 w8 := hall 3 (by decide)
      have E8 : Ext (wb.alloc (.cells #[.slice (some ⟨wa.heap.size, 0, none⟩) n n] 25)) w8 := hall 4 (by decide)
      have xW : Ext wi w8 := (Ext.drew wi).trans hW
      have OX : Hid (OwnF w8 wa.heap.size (.slice (some ⟨wa.heap.size, 0, none⟩) n n) (List.replicate n 0)) := Lib.hid ((OwnF.made o7).kept E7)
      have hcell8 : w8.cell? ⟨wb.heap.size, 0, none⟩ = some (.slice (some ⟨wa.heap.size, 0, none⟩) n n) := cell_of_row w8 _ 0 _ _ _ ((E8.block wb.heap.size (by rw [World.size_alloc]; omega)).trans (alloc_new _ _))
      have HC8 := Lib.hid hcell8
      have XW := Lib.hid xW
      have z8 := xW.size
      have hd1 : Own1 w8 (fun k => wi.heap.size ≤ k) (.fs (List.replicate n 0)) (.slice (some ⟨wa.heap.size, 0, none⟩) n n) := Own1.fs_ OX.out fun k hk => by cases hk; exact ga
      have HD1 := Lib.hid hd1
      clear hall hW E7 E8 E7b o7 x7 hb2 ha hcell8 xW hd1
      refine wpList_pushC rfl _ _ 42 25 rfl (.slice none 0 0) 24 Try.underlying42 Try.infoFF rfl (by decide) (w5.heap.size + 1) wi.heap.size _ _ _ rfl (OwnC.kept HO.out XW.out) (by omega) (by omega) _ _ _ (.fs (List.replicate n 0)) rfl HC8.out rfl HD1.out (by simp; omega) ?_
      intro v9 w9 o9 g9 l9
      rw [List.length_replicate] at o9
      have z9 := g9.size
      obtain ⟨q9, cap9, hv9, -⟩ := (OwnC.form o9).resolve_left fun h => by have := h.2.1; omega
      subst hv9
      have hb9 : w9.heap[w5.heap.size]? = some (.cells #[.int .i64 n, .slice (some ⟨gp, 0, none⟩) P.length cp, vt] 44 (0, 0)) := by
        rw [g9.block w5.heap.size (by omega) fun e => by have := (OwnC.lt HO.out _ e.symm).1.1; omega, XW.out.block w5.heap.size hgs]
        exact HB.out
      obtain ⟨k0, k1, k2, f0, f1, f2⟩ := blk3 hb9
      have PT := (Put.one hb9 2 (.slice (some ⟨q9, 0, none⟩) (j + 1) cap9)).cs (cs' := #[.int .i64 n, .slice (some ⟨gp, 0, none⟩) P.length cp, .slice (some ⟨q9, 0, none⟩) (j + 1) cap9]) (by simp)
      have HP := Lib.hid PT
      have O9 := Lib.hid o9
      have C9 : Hid (Chg w5 w9 (fun _ => False)) := Lib.hid ((HCg.out.trans (Chg.of_below XW.out _)).only (Chg.of_grown (S := fun b => vt.ownBlock = some b) g9 fun b hb => hb) fun k hk hkl => by have := (OwnC.lt HO.out _ hk).1.1; omega)
      clear o9 g9 l9 hb9 PT
      go_wp2
      refine ⟨⟨j + 1, _, by omega, by go_num, ?_, HP.out.heap, ?_⟩, by simp [intOf]; omega⟩
      · have := OwnC.chg O9.out HP.out.chg (fun k hk e => by have := hk.1; omega)
        rw [HP.out.size]
        unfold OwnSS
        rw [List.length_replicate]
        rw [List.replicate_succ', List.map_append]
        exact this
      · exact C9.out.only HP.out.chg fun k hk hkl => by omega
    · obtain rfl : j = P.length := by omega
      have hn3 : (List.replicate P.length (List.replicate n (0 : Nat))).length = P.length := List.length_replicate
      obtain ⟨q9, cap9, hv9, -⟩ := (OwnC.form ho).resolve_left fun h => by have := h.2.1; rw [hn3] at this; omega
      rw [hn3] at hv9
      subst hv9
      obtain ⟨k0, k1, k2, -, -, -⟩ := blk3 hb
      have h5 : wi.heap[w.heap.size]? = some (.cells #[.int .i64 0, .slice none 0 0, .slice none 0 0] 44 (0, 0)) := (hc.block w.heap.size (by omega) (fun h => h)).trans H5.out
      obtain ⟨m0, m1, m2, f0, f1, f2⟩ := blk3 h5
      have PT := put3 h5 (.int .i64 n) (.slice (some ⟨gp, 0, none⟩) P.length cp) (.slice (some ⟨q9, 0, none⟩) P.length cap9)
      have OP : Hid (OwnF wi w4.heap.size (.slice (some ⟨gp, 0, none⟩) P.length cp) P) := Lib.hid (O5.out.chg hc fun k hk e => e)
      clear ho hb hc h5
      go_wp2_with fail
      generalize (((wi.setCell ⟨w.heap.size, 0, none⟩ (.int .i64 n)).setCell ⟨w.heap.size, 1, none⟩ (.slice (some ⟨gp, 0, none⟩) P.length cp)).setCell ⟨w.heap.size, 2, none⟩ (.slice (some ⟨q9, 0, none⟩) P.length cap9)) = wz at *
      obtain ⟨q0, q1, q2, -, -, -⟩ := blk3 PT.heap
      refine bodyPost_ret (v := .tuple #[.agg #[.int .i64 n, .slice (some ⟨gp, 0, none⟩) P.length cp, .slice (some ⟨q9, 0, none⟩) P.length cap9], .bool true]) (by simp [results, Try.results25, go_sem, q0, q1, q2]) rfl ?_
      refine ⟨_, _, w5.heap.size + 1, rfl, ?_, ?_, by omega, ?_, ?_⟩
      · exact (OP.out.chg PT.chg fun k hk e => by have := (OP.out.lt hk).1; omega).mono (by omega)
      · intro k hk
        have := (OwnF.lt O5.out hk).2
        omega
      · have := OwnC.chg HO.out PT.chg (fun k hk e => by have := hk.1; omega)
        exact OwnC.wide this fun k hk => ⟨by have := hk.1; omega, by rw [PT.size]; exact hk.2⟩
      · exact Below.chg (Below.chg B5.out HCg.out (fun k hk => hk.elim) (by omega)) PT.chg (fun k hk => by omega) (by omega)
end Go.Proofs.Ythacadbdncfocaa

/- What a law hands back. -/
namespace Go.Proofs.Ythacadbdncfocaa
open Go Go.RowKit
def TrueB (w : World) (e : Ending) (w' : World) : Prop := e = .returned (.bool true) ∧ Below w.heap.size w w'
theorem TrueB.mk {w w' : World} (h : Below w.heap.size w w') : TrueB w (.returned (.bool true)) w' := ⟨rfl, h⟩
end Go.Proofs.Ythacadbdncfocaa

/- FnStacks: the walk of the law. -/
namespace Go.Proofs.Ythacadbdncfocaa
open Go Go.RowKit

set_option maxRecDepth 100000 in
set_option maxHeartbeats 25600000 in
theorem lawStacks_any (w : World) (v1 v2 : Value) (n1 n2 : Nat) (h1 : RdY w v1 n1) (h2 : RdY w v2 n2) (m1 : n1 ≤ maxLen) (m2 : n2 ≤ maxLen) :
    Calls Try.prog 4 #[v1, v2] w (TrueB w) := by
  have H1 := Lib.hid h1
  have H2 := Lib.hid h2
  obtain ⟨a1, c1, rfl, -, -⟩ := h1.opened
  obtain ⟨a2, c2, rfl, -, -⟩ := h2.opened
  have HL := Lib.hid (r8Long_any w a1 a2 n1 n2 c1 c2 m1 m2)
  clear h1 h2 m1 m2
  cases hq : (decide (48 < n1) || decide (48 < n2)) with
  | true =>
    rw [hq] at HL
    clear hq
    go_enter Try.func4, Try.ntmps4
    go_wp2_with fail
    refine HL.out.mono ?_
    rintro e w1 ⟨rfl, hw1⟩
    obtain rfl : w = w1 := hw1.symm
    go_wp2
    go_ret
    exact TrueB.mk (Below.refl _ _)
  | false =>
    rw [hq] at HL
    have l1 : n1 ≤ 48 := by simp at hq; omega
    have l2 : n2 ≤ 48 := by simp at hq; omega
    clear hq
    go_enter Try.func4, Try.ntmps4
    go_wp2_with fail
    refine HL.out.mono ?_
    rintro e w0 ⟨rfl, hw0⟩
    obtain rfl : w = w0 := hw0.symm
    clear HL hw0
    go_wp2_with fail
    refine (r8Gather_any w _ n1 H1.out (by omega)).mono ?_
    rintro e w1 ⟨T, vp, vt, ps, zss, rfl, hT1, hT2, hp1, hp2, hzl, hpz, hzz, rP, rL, b1⟩
    obtain ⟨g, rfl, rfl, rfl⟩ : ∃ g : GQ, T = g.T ∧ ps = g.ps ∧ zss = g.zss := ⟨⟨T, ps, zss⟩, rfl, rfl, rfl⟩
    have OK := Lib.hid (show g.ok from ⟨hT1, hT2, hp1, hp2, hzl, hpz, hzz⟩)
    obtain ⟨ap, cp, rfl⟩ : ∃ a c, vp = .slice a g.ps.length c := (by obtain ⟨a, c, h, -⟩ := rP.opened; exact ⟨a, c, by rw [h, List.length_map]⟩)
    obtain ⟨at_, ct, rfl⟩ : ∃ a c, vt = .slice a g.ps.length c := (by obtain ⟨a, c, h, -⟩ := rL.opened; exact ⟨a, c, by rw [h, List.length_map, hzl]⟩)
    clear hzl hpz hzz
    obtain ⟨W5, hW5⟩ : ∃ W, w1.alloc (.cells #[.int .i64 g.T, .slice ap g.ps.length cp, .slice at_ g.ps.length ct] 44) = W := ⟨_, rfl⟩
    have x5 : Ext w1 W5 := by rw [← hW5]; exact (Below.refl _ _).alloc (Nat.le_refl _) _
    have HB5 : Hid (W5.heap[w1.heap.size]? = some (.cells #[.int .i64 g.T, .slice ap g.ps.length cp, .slice at_ g.ps.length ct] 44 (0, 0))) := Lib.hid (by rw [← hW5]; exact alloc_new _ _)
    have hb5l : w1.heap.size < W5.heap.size := (Array.getElem?_eq_some_iff.1 HB5.out).1
    have RP := Lib.hid (show RdF W5 (.slice ap g.ps.length cp) g.tm.P from rP.mono x5)
    have RL := Lib.hid (show RdSS W5 (.slice at_ g.ps.length ct) g.tm.Ls from rL.mono x5)
    have X5 := Lib.hid (show Ext w W5 from Ext.trans (show Ext w w1 from b1) x5)
    have hnP : g.tm.P.length = g.ps.length := List.length_map ..
    have hnL : g.tm.Ls.length = g.ps.length := OK.out.qts.1
    have hvT : validT ⟨g.T, g.tm.P, g.tm.Ls⟩ = true := OK.out.valid
    have HNP := Lib.hid hnP
    have HNL := Lib.hid hnL
    have HVT := Lib.hid hvT
    have HROW : Hid (∀ j, j < g.tm.Ls.length → (rowAt g.tm.Ls j).length = g.T) := Lib.hid fun j hj => OK.out.rowLen j (by rw [← HNL.out]; exact hj)
    clear x5 rP rL b1 hnP hnL hvT
    obtain ⟨k0, k1, k2⟩ := box3b HB5.out (Ext.refl _)
    go_wp2_with fail
    clear hW5 k0 k1 k2
    refine (r8AtPos_any W5 _ n2 0 (g.T : Nat) (H2.out.mono X5.out) (by omega) (by decide) (by decide) (by omega) (by omega)).mono ?_
    rintro e w6 ⟨k0', rfl, hk0, hk1, hw6⟩
    obtain rfl : W5 = w6 := hw6.symm
    obtain ⟨k, rfl⟩ : ∃ k : Nat, k0' = k := ⟨k0'.toNat, by omega⟩
    have hkT : k < g.T := by omega
    clear hk0 hk1 hw6
    go_wp2_with fail
    refine (r8AtPos_any W5 _ n2 1 4 (H2.out.mono X5.out) (by omega) (by decide) (by decide) (by decide) (by decide)).mono ?_
    rintro e w6 ⟨r0', rfl, hr0, hr1, hw6⟩
    obtain rfl : W5 = w6 := hw6.symm
    obtain ⟨r, rfl⟩ : ∃ r : Nat, r0' = r := ⟨r0'.toNat, by omega⟩
    have hr4 : r < 4 := by omega
    clear hr0 hr1 hw6
    obtain ⟨k0, k1, k2⟩ := box3b HB5.out (Ext.refl _)
    go_wp2_with fail
    clear k0 k1 k2
    have HALL : Hid (∀ wq, Ext W5 wq → RdF wq (.slice ap g.ps.length cp) g.tm.P ∧ RdSS wq (.slice at_ g.ps.length ct) g.tm.Ls) := Lib.hid fun wq hq => ⟨RP.out.mono hq, RL.out.mono hq⟩
    clear RP RL
    refine (semblanceAt_any W5 (.slice ap g.ps.length cp) (.slice at_ g.ps.length ct) g.tm.P g.tm.Ls g.T k r (HALL.out _ (Ext.refl _)).1 (HALL.out _ (Ext.refl _)).2 (by rw [HNL.out, HNP.out]) (by rw [HNP.out]; omega) (by omega) HROW.out HVT.out hkT (by omega)).mono ?_
    rintro e w7 ⟨al, rfl, hal, x7⟩
    obtain ⟨al1, al2, al3⟩ := alike_ok g OK.out k r hkT
    obtain rfl := hal.eq_of_not al1
    generalize semF g.tm.Ls (semLo k r) (semC g.T k r) = al at *
    have X7 := Lib.hid x7
    clear hal x7
    obtain ⟨k0, k1, k2⟩ := box3b HB5.out X7.out
    go_wp2_with fail
    clear k0 k1 k2
    refine (stackOf_any w7 (.slice ap g.ps.length cp) (.slice at_ g.ps.length ct) g.tm.P g.tm.Ls g.T (HALL.out _ X7.out).1 (HALL.out _ X7.out).2 (by rw [HNL.out, HNP.out]) (by rw [HNP.out]; omega) (by omega) HROW.out HVT.out).mono ?_
    rintro e w8 ⟨vs, rfl, oS, x8⟩
    obtain ⟨aS, cS, rfl⟩ : ∃ a c, vs = .slice a g.T c := (by obtain ⟨a, c, h, -⟩ := oS.rd.opened; exact ⟨a, c, by rw [h, stkL_length]⟩)
    have X8 := Lib.hid (Ext.trans X7.out x8)
    have HS8 := Lib.hid oS.rd
    clear oS x8
    obtain ⟨k0, k1, k2⟩ := box3b HB5.out X8.out
    go_wp2_with fail
    clear k0 k1 k2
    refine (liveStack_any w8 (.slice ap g.ps.length cp) (.slice at_ g.ps.length ct) g.tm.P g.tm.Ls g.T (HALL.out _ X8.out).1 (HALL.out _ X8.out).2 (by rw [HNL.out, HNP.out]) (by rw [HNP.out]; omega) (by omega) HROW.out HVT.out).mono ?_
    rintro e w9 ⟨vs, rfl, oV, x9⟩
    obtain ⟨aV, cV, rfl⟩ : ∃ a c, vs = .slice a g.T c := (by obtain ⟨a, c, h, -⟩ := oV.rd.opened; exact ⟨a, c, by rw [h, livL_length]⟩)
    have X9 := Lib.hid (Ext.trans X8.out x9)
    have HS9 := Lib.hid (show RdF w9 (.slice aS g.T cS) _ from HS8.out.mono x9)
    clear oV x9 HS8
    obtain ⟨k0, k1, k2⟩ := box3b HB5.out X9.out
    obtain ⟨W9, hW9⟩ : ∃ W, w9.alloc (.cells #[.float .f32 1056964608, .float .f32 1065353216, .float .f32 1073741824, .float .f32 1082130432] 27) = W := ⟨_, rfl⟩
    have y9 : Ext w9 W9 := by rw [← hW9]; exact (Below.refl _ _).alloc (Nat.le_refl _) _
    have HSP : Hid (RdF W9 (.slice (some ⟨w9.heap.size, 0, none⟩) 4 4) spL) := Lib.hid (rd_sp (by rw [← hW9]; exact alloc_new _ _))
    have Y9 := Lib.hid (Ext.trans X9.out y9)
    have HS10 := Lib.hid (show RdF W9 (.slice aS g.T cS) _ from HS9.out.mono y9)
    clear y9 HS9
    obtain ⟨m0, m1, m2⟩ := box3b HB5.out Y9.out
    go_wp2_with fail
    clear hW9 k0 k1 k2 m0 m1 m2
    have HCO : Hid (∀ j, j < spL.length → ∀ i, i < g.tm.Ls.length → CorOk ⟨g.T, g.tm.P, g.tm.Ls⟩ (spL.getD j 0) i) := Lib.hid fun j hj i hi => by
      rw [spL_at j hj]
      exact OK.out.cor j hj i (by rw [← HNL.out]; exact hi)
    refine (scanSpeeds_fine W9 (.slice ap g.ps.length cp) (.slice at_ g.ps.length ct) (.slice (some ⟨w9.heap.size, 0, none⟩) 4 4) g.tm.P spL g.tm.Ls g.T k r (HALL.out _ Y9.out).1 (HALL.out _ Y9.out).2 HSP.out (by rw [HNL.out, HNP.out]) (by rw [HNP.out]; omega) (by omega) HROW.out HVT.out hkT (by omega) (by decide) (by decide) sp_pos sp_num HCO.out).mono ?_
    rintro e w10 ⟨vl, rfl, oL, x10⟩
    obtain ⟨o, ob, ho4, onn, ogt⟩ := OK.out.best k r hkT
    obtain ⟨aL, cL, rfl⟩ : ∃ a c, vl = .slice a 4 c := (by obtain ⟨a, c, h, -⟩ := oL.rd.opened; exact ⟨a, c, by rw [h, scL_length]; rfl⟩)
    have X10 := Lib.hid (Ext.trans Y9.out x10)
    have HS11 := Lib.hid (show RdF w10 (.slice aS g.T cS) _ from HS10.out.mono x10)
    have HSP2 := Lib.hid (show RdF w10 _ spL from HSP.out.mono x10)
    have HLs := Lib.hid (show RdF w10 (.slice aL 4 cL) (scL g.tm (semLo k r) (semC g.T k r) spL) from oL.rd)
    clear oL x10 HS10 HSP
    obtain ⟨k0, k1, k2⟩ := box3b HB5.out X10.out
    go_wp2_with fail
    clear k0 k1 k2
    refine (bestSpeed_fine w10 (.slice ap g.ps.length cp) (.slice at_ g.ps.length ct) (.slice (some ⟨w9.heap.size, 0, none⟩) 4 4) g.tm.P spL g.tm.Ls g.T k r o (HALL.out _ X10.out).1 (HALL.out _ X10.out).2 HSP2.out (by rw [HNL.out, HNP.out]) (by rw [HNP.out]; omega) (by omega) HROW.out HVT.out hkT (by omega) (by decide) (by decide) sp_pos sp_num HCO.out ob).mono ?_
    rintro e w11 ⟨mo, rfl, hmo, x11⟩
    have hmo2 : FV .f32 mo ((scL g.tm (semLo k r) (semC g.T k r) spL).getD o 0) := hmo
    obtain rfl := hmo2.eq_of_not (onn o ho4)
    have X11 := Lib.hid (Ext.trans X10.out x11)
    have HS12 := Lib.hid (show RdF w11 (.slice aS g.T cS) _ from HS11.out.mono x11)
    have HLs2 := Lib.hid (show RdF w11 (.slice aL 4 cL) (scL g.tm (semLo k r) (semC g.T k r) spL) from HLs.out.mono x11)
    clear hmo hmo2 x11 HS11 HSP2 HLs HCO ob
    have HSC : Hid ((scL g.tm (semLo k r) (semC g.T k r) spL).length = 4) := Lib.hid (by rw [scL_length]; rfl)
    have hsc := HSC.out
    generalize scL g.tm (semLo k r) (semC g.T k r) spL = SL at *
    obtain ⟨mo, hmo⟩ : ∃ mo, SL.getD o 0 = mo := ⟨_, rfl⟩
    rw [hmo] at ogt
    have HMO := Lib.hid hmo
    have HGT := Lib.hid ogt
    have HNN := Lib.hid onn
    have HE : Hid (∀ wq, Ext w11 wq → ∀ j, j < 4 → ∃ b o, aL = some ⟨b, o, none⟩ ∧ wq.cell? ⟨b, o + j, none⟩ = some (.float .f32 (SL.getD j 0))) := Lib.hid fun wq hq j hj => by
      obtain ⟨b, o, c, hv, -, hc⟩ := num_bits (HLs2.out.mono hq) j (by rw [HSC.out]; exact hj) (HNN.out j hj)
      rw [HSC.out] at hv
      cases hv
      exact ⟨b, o, rfl, hc⟩
    have hmn : isN .f32 mo = false := by rw [← hmo]; exact onn o ho4
    have s1 : FloatKind.f32.format.order mo mo = some .eq := order_self hmn
    rw [hmo]
    clear hmo ogt onn hsc hmn
    obtain ⟨k0, k1, k2⟩ := box3b HB5.out X11.out
    obtain ⟨bL, oL, rfl, e1⟩ := HE.out w11 (Ext.refl _) o ho4
    rw [HMO.out] at e1
    have hcw : ∀ wq : World, (convert 27 40 (.float .f32 al)).run Try.prog wq = .ok (.float .f64 (cwide al)) wq := fun wq => run_wideF _ _ (by kernel_rfl) (by kernel_rfl) wq al al1
    have hoi : (o : Int) < 4 := by omega
    have hd0 : decide ((o : Int) < 0) = false := by simp
    have hd3 : decide ((o : Int) > 3) = false := by simp; omega
    go_wp2_with fail
    clear k0 k1 k2 e1 hcw al1 al2 al3 s1
    go_loopw [21] (fun i wr => ∃ j : Nat, j ≤ 4 ∧ i = .int .i64 j ∧ wr = w11) (fun i _ => 4 - (intOf i).toNat)
    case atStart => exact ⟨0, Nat.zero_le _, rfl, rfl⟩
    case round =>
      obtain ⟨j, hj, rfl, hwr⟩ := hrel
      obtain rfl : w11 = wr := hwr.symm
      clear hwr
      by_cases hlt : j < 4
      · obtain ⟨b', o', hbo, e1⟩ := HE.out w11 (Ext.refl _) j hlt
        obtain ⟨rfl, rfl⟩ : bL = b' ∧ oL = o' := by cases hbo; exact ⟨rfl, rfl⟩
        have hgt := HGT.out j hlt
        obtain ⟨x, hx⟩ : ∃ x, SL.getD j 0 = x := ⟨_, rfl⟩
        rw [hx] at e1 hgt
        have hji : (j : Int) < 4 := by omega
        clear hx hbo
        go_wp2_with fail
        exact ⟨⟨j + 1, by omega, by go_num, trivial⟩, by simp [intOf]; omega⟩
      · obtain rfl : j = 4 := by omega
        clear HE HGT HNN HMO HLs2
        go_wp2_with fail
        go_loopw [22, 23] (fun q i wr => ∃ j : Nat, j ≤ g.ps.length ∧ i = .int .i64 j ∧ q = .float .f32 (stkF g.tm.Ls k j) ∧ wr = w11) (fun _ i _ => g.ps.length - (intOf i).toNat)
        case atStart => exact ⟨0, Nat.zero_le _, rfl, rfl, rfl⟩
        case round =>
          obtain ⟨j, hj, rfl, rfl, hwr⟩ := hrel
          obtain rfl : w11 = wr := hwr.symm
          clear hwr
          by_cases hlt : j < g.ps.length
          · obtain ⟨b, o2, b2, o3, c', x, rfl, hb, e1, hb2, e2, f2⟩ := num_at (HALL.out _ X11.out).2 HNL.out j k hlt (by rw [HROW.out j (by rw [HNL.out]; exact hlt)]; exact hkT)
            rw [HROW.out j (by rw [HNL.out]; exact hlt)] at e1
            have hnn := (OK.out.qts.2.2 j hlt).2 k hkT
            obtain rfl := f2.eq_of_not hnn.1.notNan
            have hsn : isN .f32 (stkF g.tm.Ls k (j + 1)) = false := (stk_fx OK.out.qts k hkT (j + 1) (by omega)).notNan
            have q := fun wq => run_fineK (P := Try.prog) .f32 .add (by simp) wq 27 (stkF g.tm.Ls k j) (numL g.tm.Ls j k) hsn
            rw [show fop .add .f32 (stkF g.tm.Ls k j) (numL g.tm.Ls j k) = stkF g.tm.Ls k (j + 1) from rfl] at q
            obtain ⟨k0, k1, k2⟩ := box3b HB5.out X11.out
            have hji : (j : Int) < (g.ps.length : Int) := by omega
            have hki : (k : Int) < (g.T : Int) := by omega
            obtain ⟨s0, hs0⟩ : ∃ s0, stkF g.tm.Ls k j = s0 := ⟨_, rfl⟩
            obtain ⟨x0, hx0⟩ : ∃ x0, numL g.tm.Ls j k = x0 := ⟨_, rfl⟩
            obtain ⟨s2, hs2⟩ : ∃ s2, stkF g.tm.Ls k (j + 1) = s2 := ⟨_, rfl⟩
            have HS2 := Lib.hid hs2
            rw [hs0, hx0, hs2] at q
            rw [hx0] at e2
            rw [hs0]
            clear hs0 hx0 hs2 f2 hnn hsn
            go_wp2_with fail
            exact ⟨⟨j + 1, by omega, by go_num, by rw [HS2.out], trivial⟩, by simp [intOf]; omega⟩
          · obtain rfl : g.ps.length = j := by omega
            have hkl : (stkL g.tm.Ls g.T).getD k 0 = fop .quo .f32 (stkF g.tm.Ls k g.ps.length) (floatOfInt .f32 (g.ps.length : Nat)) := by
              unfold stkL
              rw [HNL.out, List.getD_eq_getElem?_getD, List.getElem?_map, List.getElem?_range hkT]
              rfl
            have hqn : isN .f32 (fop .quo .f32 (stkF g.tm.Ls k g.ps.length) (floatOfInt .f32 (g.ps.length : Nat))) = false := by
              refine ((stk_fx OK.out.qts k hkT g.ps.length (Nat.le_refl _)).rq (by decide)).quo_notNan (RQ.ofInt .f32 (g.ps.length : Nat) ?_) ?_
              · have hfr : 2 ^ (fracB .f32 + 1) = 16777216 := by decide
                rw [hfr]; omega
              · rw [Rat.intCast_natCast]
                have := nat_pos (n := g.ps.length) (by omega)
                grind
            obtain ⟨bS, oS, cS', hv, -, e1⟩ := num_bits HS12.out k (by rw [stkL_length]; exact hkT) (by rw [hkl]; exact hqn)
            rw [stkL_length] at hv
            cases hv
            rw [hkl] at e1
            have q := fun wq => run_fineK (P := Try.prog) .f32 .quo (by simp) wq 27 _ _ hqn
            have s1 := order_self hqn
            obtain ⟨qv1, hqv1⟩ : ∃ q, fop .quo .f32 (stkF g.tm.Ls k g.ps.length) (floatOfInt .f32 (g.ps.length : Nat)) = q := ⟨_, rfl⟩
            rw [hqv1] at e1 q s1
            obtain ⟨st, hst⟩ : ∃ q, stkF g.tm.Ls k g.ps.length = q := ⟨_, rfl⟩
            rw [hst] at q
            rw [hst]
            have hki : (k : Int) < (g.T : Int) := by omega
            obtain ⟨k0, k1, k2⟩ := box3b HB5.out X11.out
            clear hkl hqn hqv1 hst HS12
            obtain ⟨W12, hW12⟩ : ∃ W, w11.alloc (.cells #[.float .f32 0, .float .f32 1065353216, .float .f32 1073741824, .float .f32 1077936128] 27) = W := ⟨_, rfl⟩
            have y12 : Ext w11 W12 := by rw [← hW12]; exact (Below.refl _ _).alloc (Nat.le_refl _) _
            have HP4 : Hid (RdF W12 (.slice (some ⟨w11.heap.size, 0, none⟩) 4 4) p4) := Lib.hid (rd_p4 (by rw [← hW12]; exact alloc_new _ _))
            have Y12 := Lib.hid (Ext.trans X11.out y12)
            clear y12
            go_wp2_with fail
            clear hW12 k0 k1 k2 e1 q s1
            refine (flatGatherN_any W12 _ g.T p4 HP4.out (by omega) (by omega) (by decide) (by decide) (by decide +kernel)).mono ?_
            rintro e w13 ⟨vp3, vt3, M, rfl, o1, hM1, hM2, o2, b13⟩
            have x13 : Ext W12 w13 := b13
            obtain ⟨ap3, cp3, rfl⟩ : ∃ a c, vp3 = .slice a 4 c := by obtain ⟨a, c, h, -⟩ := o1.rd.opened; exact ⟨a, c, h⟩
            obtain ⟨at3, ct3, rfl⟩ : ∃ a c, vt3 = .slice a 4 c := by obtain ⟨a, c, h, -⟩ := RdSS.opened (OwnC.rd o2); exact ⟨a, c, h⟩
            obtain ⟨W13, hW13⟩ : ∃ W, w13.alloc (.cells #[.int .i64 g.T, .slice ap3 4 cp3, .slice at3 4 ct3] 44) = W := ⟨_, rfl⟩
            have y13 : Ext w13 W13 := by rw [← hW13]; exact (Below.refl _ _).alloc (Nat.le_refl _) _
            have HB13 : Hid (W13.heap[w13.heap.size]? = some (.cells #[.int .i64 g.T, .slice ap3 4 cp3, .slice at3 4 ct3] 44 (0, 0))) := Lib.hid (by rw [← hW13]; exact alloc_new _ _)
            have X13 := Lib.hid (Ext.trans Y12.out (Ext.trans x13 y13))
            have hz13 : W13.heap.size = w13.heap.size + 1 := by rw [← hW13]; exact World.size_alloc _ _
            have z13 := x13.size
            have zY := Y12.out.size
            have hMs : M ≤ w13.heap.size := by
              obtain ⟨q, cap, r, cr, -, -, h1, h2, -⟩ := ownSS_row (T := g.T) (j := 0) o2 (n := 4) rfl (by decide) (by show (rowAt (List.replicate 4 (List.replicate g.T 0)) 0).length = g.T; simp [rowAt]) (by omega)
              omega
            have OP13 := Lib.hid (show OwnF W13 W12.heap.size (.slice ap3 4 cp3) p4 from o1.kept y13)
            have OS13 := Lib.hid (show OwnSS W13 (Iv M w13.heap.size) (.slice at3 4 ct3) (eqTo (rowAt g.tm.Ls 0) (List.replicate g.T 0) 0) from by rw [eqTo_zero]; exact OwnC.kept o2 y13)
            have HM1 := Lib.hid hM1
            have hn0 : 0 < g.ps.length := by omega
            have HR0 := Lib.hid (HROW.out 0 (by rw [HNL.out]; exact hn0))
            clear o1 o2 b13 x13 y13 hM1 HP4
            go_wp2_with fail
            clear hW13
            go_loopw [26] (fun i wr => ∃ j : Nat, j ≤ 4 ∧ i = .int .i64 j ∧ OwnSS wr (Iv M w13.heap.size) (.slice at3 4 ct3) (eqTo (rowAt g.tm.Ls 0) (List.replicate g.T 0) j) ∧ OwnF wr W12.heap.size (.slice ap3 4 cp3) p4 ∧ wr.heap[w13.heap.size]? = some (.cells #[.int .i64 g.T, .slice ap3 4 cp3, .slice at3 4 ct3] 44 (0, 0)) ∧ Ext W5 wr) (fun i _ => 4 - (intOf i).toNat)
            case atStart => exact ⟨0, Nat.zero_le _, rfl, OS13.out, OP13.out, HB13.out, X13.out⟩
            case round =>
              clear OS13 OP13
              obtain ⟨wi, rfl⟩ : ∃ wi : World, wi = wr := ⟨_, rfl⟩
              obtain ⟨j, hj, rfl, hs, hp, hb, hx⟩ := hrel
              have HS := Lib.hid hs
              have HP := Lib.hid hp
              have HB := Lib.hid hb
              have HX := Lib.hid hx
              have hbs : w13.heap.size < wi.heap.size := (Array.getElem?_eq_some_iff.1 hb).1
              have zx := hx.size
              clear hs hp hb hx
              obtain ⟨m0, m1, m2⟩ := box3b HB.out (Ext.refl _)
              by_cases hlt : j < 4
              · have hji : (j : Int) < 4 := by omega
                obtain ⟨q, cap, r, cr, hv, d1, hr1, hr2, hown, hset⟩ := ownSS_row HS.out (n := 4) (eqTo_length _ _ _ hj) hlt (by rw [eqTo_row _ _ _ hlt, List.length_replicate]) (T := g.T) (by omega)
                cases hv
                rw [eqTo_row _ _ _ hlt] at hown
                obtain ⟨a0, c0, hv0, -, -, hrows⟩ := (HALL.out _ HX.out).2.opened
                rw [HNL.out] at hv0 hrows
                cases hv0
                obtain ⟨b, o2, a', c', rfl, -, d2, R0⟩ := hrows 0 hn0
                rw [HR0.out] at d2 R0
                rw [Nat.add_zero] at d2
                obtain ⟨k0, k1, k2⟩ := box3b HB5.out HX.out
                have HOW := Lib.hid hown
                have HSET := Lib.hid hset
                have HRd := Lib.hid R0
                have h0p : (0 : Int) < (g.ps.length : Int) := by omega
                clear hown hset R0 hrows
                go_wp2_with fail
                refine region_rel_tail 9 (by kernel_rfl) (by kernel_rfl) (Drawn wi) (fun _ _ _ => False) ⟨1, rfl⟩ ?_
                simp only [List.take_succ_cons, List.take_zero, List.drop_succ_cons, List.drop_zero]
                iterate 9 (refine wpRel_draw rfl rfl (fun nq K hK => ?_); go_wp2)
                refine wpRel_nil ?_
                rintro wd ⟨nd, hwd⟩
                have XD : Hid (Ext wi wd) := Lib.hid (by rw [hwd]; exact Below.drewN (Below.refl _ _) nd)
                have zd : wd.heap.size = wi.heap.size := by rw [hwd]; rfl
                clear hwd m0 m1 m2 k0 k1 k2 d1 d2
                refine wpList_copyF rfl _ _ rfl 0 r cr g.T (List.replicate g.T 0) (rowAt g.tm.Ls 0) List.length_replicate (HOW.out.kept XD.out) 0 g.T cr rfl _ rfl (HRd.out.mono XD.out) HR0.out (by rw [HR0.out]; omega) (by omega) ?_
                intro w14 o14 ch14 z14
                have hcopy : (List.replicate g.T (0 : Nat)).take 0 ++ (rowAt g.tm.Ls 0 ++ (List.replicate g.T (0 : Nat)).drop (0 + (rowAt g.tm.Ls 0).length)) = rowAt g.tm.Ls 0 := by
                  rw [HR0.out]; simp
                rw [hcopy] at o14
                have hch : Chg wi w14 (fun k => k = r) := (Chg.of_below XD.out _).trans ch14
                have hs14 := HSET.out w14 _ o14 hch
                rw [eqTo_set _ _ _ hlt] at hs14
                have hp14 := HP.out.chg hch fun k hk e => by have := HM1.out k hk; omega
                have hb14 := (hch.block w13.heap.size hbs (by omega)).trans HB.out
                have hx14 := Below.chg HX.out hch (fun k hk => by omega) zx
                have HS14 := Lib.hid hs14
                have HP14 := Lib.hid hp14
                have HB14 := Lib.hid hb14
                have HX14 := Lib.hid hx14
                clear o14 ch14 hcopy hch hs14 hp14 hb14 hx14
                go_wp2_with fail
                exact ⟨⟨j + 1, by omega, by go_num, HS14.out, HP14.out, HB14.out, HX14.out⟩, by simp [intOf]; omega⟩
              · obtain rfl : j = 4 := by omega
                rw [eqTo_four] at HS
                go_wp2_with fail
                clear m0 m1 m2
                have hEL : (eqL g).length = 4 := by simp [eqL]
                have HER : Hid (∀ j, j < (eqL g).length → (rowAt (eqL g) j).length = g.T) := Lib.hid fun j hj => by rw [eqL_row g j (by rw [← hEL]; exact hj)]; exact HR0.out
                have HEV : Hid (validT ⟨g.T, p4, eqL g⟩ = true) := Lib.hid (valid_p4 g.T (by omega) (by omega) _ hEL fun i hi => by rw [eqL_row g i hi]; exact HR0.out)
                have HEQ : Hid (∀ wq, Ext wi wq → RdF wq (.slice ap3 4 cp3) p4 ∧ RdSS wq (.slice at3 4 ct3) (eqL g)) := Lib.hid fun wq hq => ⟨HP.out.rd.mono hq, RdC.mono (OwnC.rd HS.out) hq⟩
                clear HS HP
                refine (stackOf_any wi (.slice ap3 4 cp3) (.slice at3 4 ct3) p4 (eqL g) g.T (HEQ.out _ (Ext.refl _)).1 (HEQ.out _ (Ext.refl _)).2 hEL (by decide) (by omega) HER.out HEV.out).mono ?_
                rintro e w15 ⟨vo, rfl, oO, x15⟩
                rw [OK.out.eqStack] at oO
                obtain ⟨hl0, hz0⟩ := OK.out.rowN 0 hn0
                obtain ⟨aO, cO, rfl⟩ : ∃ a c, vo = .slice a g.T c := (by obtain ⟨a, c, h, -⟩ := oO.rd.opened; exact ⟨a, c, by rw [h, List.length_map, hl0]⟩)
                have HO15 := Lib.hid (show RdF w15 (.slice aO g.T cO) ((zAt g.zss 0).map qv) from oO.rd)
                have X15 := Lib.hid (show Ext wi w15 from x15)
                clear oO x15
                obtain ⟨m0, m1, m2⟩ := box3b HB.out X15.out
                go_wp2_with fail
                clear m0 m1 m2
                refine (semblanceAt_any w15 (.slice ap3 4 cp3) (.slice at3 4 ct3) p4 (eqL g) g.T k r (HEQ.out _ X15.out).1 (HEQ.out _ X15.out).2 hEL (by decide) (by omega) HER.out HEV.out hkT (by omega)).mono ?_
                rintro e w16 ⟨fu, rfl, hfu, x16⟩
                obtain ⟨fu1, hfull⟩ := full_ok g OK.out k r hkT
                obtain rfl := hfu.eq_of_not fu1
                generalize semF (eqL g) (semLo k r) (semC g.T k r) = fu at *
                have X16 := Lib.hid (Ext.trans X15.out x16)
                have HO16 := Lib.hid (show RdF w16 (.slice aO g.T cO) ((zAt g.zss 0).map qv) from HO15.out.mono x16)
                clear hfu x16 HO15 HER HEV HEQ hEL
                have XG := Lib.hid (Ext.trans HX.out X16.out)
                obtain ⟨k0, k1, k2⟩ := box3b HB5.out XG.out
                go_wp2_with fail
                clear k0 k1 k2
                have hng := normGather_any w16 (.slice ap g.ps.length cp) (.slice at_ g.ps.length ct) g.tm (HALL.out _ XG.out).1 (HALL.out _ XG.out).2 (by rw [HNL.out, HNP.out]) (by rw [HNP.out]; omega) (fun j => by
                    by_cases hj : j < g.tm.Ls.length
                    · rw [HROW.out j hj]; omega
                    · unfold rowAt; rw [List.getD_eq_getElem?_getD, List.getElem?_eq_none (by omega)]; simp) HVT.out (fun i hi => by
                    rw [HNL.out] at hi
                    obtain ⟨hl, hz⟩ := OK.out.rowN i hi
                    have e1 : rowAt g.tm.Ls i = (zAt g.zss i).map qv := rowAt_qv g.zss i
                    rw [e1]
                    exact ⟨by rw [List.length_map, hl]; omega, (nr_ok _ (by rw [hl]; omega) hz).1⟩)
                rw [HNL.out] at hng
                refine hng.mono ?_
                clear hng
                rintro e w17 ⟨ap7, np7, cp7, at7, ct7, rfl, rN, x17⟩
                rw [show g.tm.t = ((g.T : Nat) : Int) from rfl]
                obtain ⟨W17, hW17⟩ : ∃ W, w17.alloc (.cells #[.int .i64 g.T, .slice ap7 np7 cp7, .slice at7 g.ps.length ct7] 44) = W := ⟨_, rfl⟩
                have y17 : Ext w17 W17 := by rw [← hW17]; exact (Below.refl _ _).alloc (Nat.le_refl _) _
                have HB17 : Hid (W17.heap[w17.heap.size]? = some (.cells #[.int .i64 g.T, .slice ap7 np7 cp7, .slice at7 g.ps.length ct7] 44 (0, 0))) := Lib.hid (by rw [← hW17]; exact alloc_new _ _)
                have X17 := Lib.hid (Ext.trans XG.out (Ext.trans x17 y17))
                have HN17 := Lib.hid (show RdSS W17 (.slice at7 g.ps.length ct7) (doL (nrF g.tm.Ls) g.ps.length) from RdC.mono rN y17)
                have HO17 := Lib.hid (show RdF W17 (.slice aO g.T cO) ((zAt g.zss 0).map qv) from (HO16.out.mono x17).mono y17)
                clear rN x17 y17 HO16
                obtain ⟨k0, k1, k2⟩ := box3b HB5.out X17.out
                obtain ⟨a0, c0, hv0, -, -, hrows⟩ := (HALL.out _ X17.out).2.opened
                rw [HNL.out] at hv0 hrows
                cases hv0
                obtain ⟨b, o2, a', c', rfl, -, d2, R0⟩ := hrows 0 hn0
                rw [HR0.out] at d2 R0
                rw [Nat.add_zero] at d2
                have h0p : (0 : Int) < (g.ps.length : Int) := by omega
                have HEq := Lib.hid (r8Equal_any W17 (.slice aO g.T cO) (.slice a' g.T c') ((zAt g.zss 0).map qv) HO17.out (by rw [← rowAt_qv]; exact R0) (by rw [List.length_map, hl0]; omega) (fun j hj => by
                    rw [List.length_map] at hj
                    rw [map_qv_at _ _ hj]
                    exact (qv_fx _ (getD_bound hz0 j).1 (getD_bound hz0 j).2).1.notNan))
                clear hrows R0 HO17
                go_wp2_with fail
                clear hW17
                refine HEq.out.mono ?_
                clear HEq
                rintro e w18 ⟨rfl, n18, hw18⟩
                have X18 : Hid (Ext W17 w18) := Lib.hid (by rw [hw18]; exact Below.drewN (Below.refl _ _) n18)
                clear hw18 k0 k1 k2 d2
                have hdis : (FloatKind.f32.format.order fu 0 == some Ordering.eq) = true ∨ ((FloatKind.f32.format.order fu 0 == some Ordering.eq) = false ∧ GapOk (cwide fu) oneD ∧ (FloatKind.f64.format.order (gapF (cwide fu) oneD) 4562254508917369340 == some Ordering.lt) = true) := by
                  cases hz : (FloatKind.f32.format.order fu 0 == some Ordering.eq) with
                  | true => exact .inl rfl
                  | false => exact .inr ⟨rfl, hfull.resolve_left fun h => by rw [hz] at h; cases h⟩
                have HNR : Hid (∀ i, i < g.ps.length → NrOk (zAt g.zss i) (nrF g.tm.Ls i) ∧ (zAt g.zss i).length = g.T) := Lib.hid fun i hi => by
                  obtain ⟨hl, hz⟩ := OK.out.rowN i hi
                  have e1 : rowAt g.tm.Ls i = (zAt g.zss i).map qv := rowAt_qv g.zss i
                  refine ⟨?_, hl⟩
                  unfold nrF
                  rw [e1]
                  exact (nr_ok _ (by rw [hl]; omega) hz).2
                obtain ⟨m0, m1, m2⟩ := box3b HB17.out X18.out
                obtain ⟨k0, k1, k2⟩ := box3b HB5.out (Ext.trans X17.out X18.out)
                have hcw : ∀ wq : World, (convert 27 40 (.float .f32 fu)).run Try.prog wq = .ok (.float .f64 (cwide fu)) wq := fun wq => run_wideF _ _ (by kernel_rfl) (by kernel_rfl) wq fu fu1
                clear hfull fu1
                rcases hdis with hA | ⟨hA, hgo, hgl⟩
                go_wp2_with fail
                clear m0 m1 m2 k0 k1 k2 hcw hA
                rotate_left
                go_wp2_with fail
                refine (r8Gap_fine w18 _ _ hgo).mono ?_
                rintro e w19 ⟨rfl, hw19⟩
                obtain rfl : w18 = w19 := hw19.symm
                clear hw19
                go_wp2_with fail
                clear m0 m1 m2 k0 k1 k2 hcw hA hgo hgl
                all_goals
                  go_loopw [33] (fun i wr => ∃ m nd : Nat, m ≤ g.ps.length ∧ i = .int .i64 m ∧ wr = w18.drewN nd) (fun i _ => g.ps.length - (intOf i).toNat)
                  case atStart => exact ⟨0, 0, Nat.zero_le _, rfl, rfl⟩
                  case round =>
                    obtain ⟨wo, rfl⟩ : ∃ wo : World, wo = wr := ⟨_, rfl⟩
                    obtain ⟨m, nd, hm, rfl, hwr⟩ := hrel
                    have XR : Hid (Ext W17 wo) := Lib.hid (by rw [hwr]; exact Below.drewN X18.out nd)
                    have HWR := Lib.hid hwr
                    clear hwr
                    by_cases hlm : m < g.ps.length
                    · obtain ⟨hnr, hzl⟩ := HNR.out m hlm
                      have HNRm := Lib.hid hnr
                      have HZL := Lib.hid hzl
                      have hmi : (m : Int) < (g.ps.length : Int) := by omega
                      have hyl : (nrF g.tm.Ls m).length = g.T := by rw [hnr.len, hzl]
                      have HYL := Lib.hid hyl
                      clear hnr hzl hyl
                      go_wp2_with fail
                      go_loopw [34, 35, 36] (fun q so i wr => ∃ j nd2 : Nat, j ≤ g.T ∧ i = .int .i64 j ∧ q = .float .f32 (grF (nrF g.tm.Ls m) j) ∧ so = .bool (smB (zAt g.zss m) j) ∧ wr = wo.drewN nd2) (fun _ _ i _ => g.T - (intOf i).toNat)
                      case atStart => exact ⟨0, 0, Nat.zero_le _, rfl, rfl, rfl, rfl⟩
                      case round =>
                        obtain ⟨wx, rfl⟩ : ∃ wx : World, wx = wr := ⟨_, rfl⟩
                        obtain ⟨j, nd2, hj, rfl, rfl, rfl, hwx⟩ := hrel
                        have XX : Hid (Ext W17 wx) := Lib.hid (by rw [hwx]; exact Below.drewN XR.out nd2)
                        have HWX := Lib.hid hwx
                        clear hwx
                        obtain ⟨m0, m1, m2⟩ := box3b HB17.out XX.out
                        obtain ⟨an, cn, hvn, -, -, hrn⟩ := RdSS.opened (RdC.mono HN17.out XX.out)
                        rw [doL_length] at hvn hrn
                        cases hvn
                        obtain ⟨b3, o3, a3, c3, rfl, -, d3, R3⟩ := hrn m hlm
                        rw [rowAt_doL _ _ _ hlm, HYL.out] at d3
                        rw [rowAt_doL _ _ _ hlm] at R3
                        have HR3 := Lib.hid R3
                        clear R3 hrn
                        by_cases hlj : j < g.T
                        · have hji : (j : Int) < (g.T : Int) := by omega
                          obtain ⟨y1, y2, y3⟩ := HNRm.out.num j (by rw [HZL.out]; exact hlj)
                          obtain ⟨b4, o4, c4, hv4, -, d4⟩ := num_bits HR3.out j (by rw [HYL.out]; exact hlj) y1
                          rw [HYL.out] at hv4
                          cases hv4
                          obtain ⟨b5, o5, b6, o6, c6, x6, hb5, -, d5, -, d6, f6⟩ := num_at (HALL.out _ (Ext.trans X17.out XX.out)).2 HNL.out m j hlm (by rw [HROW.out m (by rw [HNL.out]; exact hlm)]; exact hlj)
                          rw [HROW.out m (by rw [HNL.out]; exact hlm)] at d5
                          cases hb5
                          have hzb := getD_bound (OK.out.rowN m hlm).2 j
                          rw [OK.out.num m j hlm hlj] at f6
                          obtain rfl := f6.eq_of_not (qv_fx _ hzb.1 hzb.2).1.notNan
                          have ho6 : FloatKind.f32.format.order (qv (zG g m j)) 0 = some (compare (zG g m j) 0) := (qv_fx _ hzb.1 hzb.2).1.order (Fx.zero 2)
                          have hne : (FloatKind.f32.format.order (qv (zG g m j)) 0 != some Ordering.eq) = decide ((zAt g.zss m).getD j 0 ≠ 0) := by
                            rw [ho6]
                            show _ = decide (zG g m j ≠ 0)
                            by_cases hz : zG g m j = 0
                            · rw [hz]; decide
                            · have h1 : compare (zG g m j) 0 ≠ .eq := fun h => hz (Int.compare_eq_eq.1 h)
                              simp [hz, h1]
                          obtain ⟨k0, k1, k2⟩ := box3b HB5.out (Ext.trans X17.out XX.out)
                          have hng : ∀ wq : World, (Op.unary .neg (.float .f32 ((nrF g.tm.Ls m).getD j 0))).run Try.prog wq = .ok (.float .f32 (ngF .f32 ((nrF g.tm.Ls m).getD j 0))) wq := fun wq => run_ngF .f32 wq _
                          have hmx : ∀ wq : World, (Builtin.max_ #[27, 27, 27] 27 #[.float .f32 (grF (nrF g.tm.Ls m) j), .float .f32 ((nrF g.tm.Ls m).getD j 0), .float .f32 (ngF .f32 ((nrF g.tm.Ls m).getD j 0))]).run Try.prog wq = .ok (.float .f32 (grF (nrF g.tm.Ls m) (j + 1))) wq := fun wq => run_max3 .f32 _ _ _ _ _ wq y2 y3
                          have HG1 : Hid (∀ b, smB (zAt g.zss m) j = b → smB (zAt g.zss m) (j + 1) = (b || decide ((zAt g.zss m).getD j 0 ≠ 0))) := Lib.hid fun b hb => by rw [← hb]; rfl
                          obtain ⟨yy, hyy⟩ : ∃ yy, (nrF g.tm.Ls m).getD j 0 = yy := ⟨_, rfl⟩
                          obtain ⟨gj, hgj⟩ : ∃ gj, grF (nrF g.tm.Ls m) j = gj := ⟨_, rfl⟩
                          obtain ⟨gj1, hgj1⟩ : ∃ gj, grF (nrF g.tm.Ls m) (j + 1) = gj := ⟨_, rfl⟩
                          obtain ⟨ny, hny⟩ : ∃ ny, ngF .f32 ((nrF g.tm.Ls m).getD j 0) = ny := ⟨_, rfl⟩
                          obtain ⟨qz, hqz⟩ : ∃ qz, qv (zG g m j) = qz := ⟨_, rfl⟩
                          have HGJ := Lib.hid hgj1
                          rw [hny, hyy] at hng
                          rw [hny, hyy, hgj, hgj1] at hmx
                          rw [hyy] at d4
                          rw [hqz] at d6 hne
                          rw [hgj]
                          obtain ⟨bz, hbz⟩ : ∃ b, decide ((zAt g.zss m).getD j 0 ≠ 0) = b := ⟨_, rfl⟩
                          rw [hbz] at hne HG1
                          clear y1 y2 y3 f6 hzb ho6 hyy hgj hgj1 hny hqz hbz
                          cases hb : smB (zAt g.zss m) j with
                          | true =>
                            have HG2 := Lib.hid (HG1.out true hb)
                            clear hb hne
                            go_wp2_with fail
                            exact ⟨⟨j + 1, nd2, by omega, by go_num, by rw [HGJ.out], by rw [HG2.out]; rfl, HWX.out⟩, by simp [intOf]; omega⟩
                          | false =>
                            have HG2 := Lib.hid (HG1.out false hb)
                            clear hb
                            go_wp2_with fail
                            exact ⟨⟨j + 1, nd2, by omega, by go_num, by rw [HGJ.out], by rw [HG2.out]; rfl, HWX.out⟩, by simp [intOf]; omega⟩
                        · obtain rfl : g.T = j := by omega
                          have h1 := HNRm.out.one
                          have h0 := HNRm.out.zero
                          rw [HZL.out] at h1 h0
                          cases hb : smB (zAt g.zss m) g.T with
                          | true =>
                            have e1 := h1 hb
                            obtain ⟨gj, hgj⟩ : ∃ gj, grF (nrF g.tm.Ls m) g.T = gj := ⟨_, rfl⟩
                            rw [hgj] at e1 ⊢
                            clear hb h1 h0 hgj
                            go_wp2_with fail
                            exact ⟨⟨m + 1, nd + nd2, by omega, by go_num, by rw [HWX.out, HWR.out, World.drewN_drewN]⟩, by simp [intOf]; omega⟩
                          | false =>
                            have e1 := h0 hb
                            obtain ⟨gj, hgj⟩ : ∃ gj, grF (nrF g.tm.Ls m) g.T = gj := ⟨_, rfl⟩
                            rw [hgj] at e1 ⊢
                            clear hb h1 h0 hgj
                            go_wp2_with fail
                            exact ⟨⟨m + 1, nd + nd2, by omega, by go_num, by rw [HWX.out, HWR.out, World.drewN_drewN]⟩, by simp [intOf]; omega⟩
                    · obtain rfl : g.ps.length = m := by omega
                      go_wp2_with fail
                      go_ret
                      exact TrueB.mk (Ext.trans X5.out (Ext.trans X17.out XR.out))
end Go.Proofs.Ythacadbdncfocaa

/- FnStacks returns true for every input: no condition. -/
namespace Go.Proofs.Ythacadbdncfocaa.lawStacks
open Go.ChangeShapes Go.WideShapes Go.ChangeAt Go.RowKit

theorem own : ownKnob Try.prog.godebug = none := by kernel_rfl
theorem laidOut : laidOutB Try.prog = true := by kernel_rfl

set_option maxRecDepth 100000 in
theorem lifted (os : Os) (started : os.Started) (H : Type) (enc : TypeId × Value → H) :
    ReturnsInHanded {} Try.checked os 4 .any (Rows.fnStacksSpec.pre6 enc Try.prog Try.f4 Rows.fnStacksRow.domain false) (Rows.fnStacksSpec.post enc Try.prog Try.f4 false true false false) := by
  refine returnsInHanded_of_change (C := Try.checked) own started (by kernel_rfl) Try.func4
    (ChangeSpec.witness6 (enc := enc) (C := Try.checked) false ⟨#[], #[.slice none 0 0, .slice none 0 0], []⟩ 4 (by kernel_rfl) (by kernel_rfl) (by kernel_rfl) (by kernel_rfl)) ?_
  intro W base args ds gs before hval0 hW hcnd _
  have hval : ∀ (j : Nat) t v, Try.f4.params[j]? = some t → args[j]? = some v → Value.okWide Try.prog W .any base t v := hval0
  have hW' := hW
  obtain ⟨p, q, hA0, hV, rfl, hfz, hnd⟩ := hW
  have hA : DataW.TrodAll enc Try.prog W 0 (fun _ => true) true Try.f4.params.toList args.toList ds p := hA0
  rw [Try.params4] at hA hval
  obtain ⟨v0, vs0, d0, ds0, p0, q0, hargs, rfl, rfl, h0, r0⟩ := trodAll_cons hA
  obtain ⟨v1, vs1, d1, ds1, p1, q1, rfl, rfl, rfl, h1, r1⟩ := trodAll_cons r0
  obtain ⟨rfl, rfl, rfl⟩ := trodAll_nil r1
  obtain rfl : args = #[v0, v1] := by cases args; simp_all
  obtain ⟨rfl, rfl⟩ := trodVars_none hV
  have k0 := h0
  have lt0 : ∀ x ∈ p0, x.block < W.heap.size := by obtain ⟨m, hm⟩ := k0; exact DataW.trod_lt m _ _ _ hm
  have k1 := h1
  have lt1 : ∀ x ∈ p1, x.block < W.heap.size := by obtain ⟨m, hm⟩ := k1; exact DataW.trod_lt m _ _ _ hm
  obtain ⟨a0, len0, cap0, rfl⟩ := okWide_slice Try.underlying22 (hval 0 22 v0 rfl rfl)
  obtain ⟨m0, R0⟩ := open_bytes Try.underlying22 Try.underlying5 (by kernel_rfl) h0
  obtain ⟨a1, len1, cap1, rfl⟩ := okWide_slice Try.underlying22 (hval 1 22 v1 rfl rfl)
  obtain ⟨m1, R1⟩ := open_bytes Try.underlying22 Try.underlying5 (by kernel_rfl) h1
  clear hA0 hval0
  refine (lawStacks_any W _ _ _ _ R0 R1 m0 m1).mono fun e W' ⟨he, bel⟩ => ?_
  subst he
  exact ⟨_, rfl, _, _, _, [], _, [], hW', trodAll_mk1 (shut_bool Try.underlying4 _), (trodAll_cons_mk (Below.trod laidOut (by kernel_rfl) (of_decide_eq_true (by kernel_rfl)) k0 bel lt0) (trodAll_cons_mk (Below.trod laidOut (by kernel_rfl) (of_decide_eq_true (by kernel_rfl)) k1 bel lt1) trodAll_mk0)), rfl, bel.frame _, fun h => by cases h⟩

theorem over : Rows.fnStacksRow.holds Try.pinned (OpenSpec.ofChange Rows.fnStacksSpec) :=
  OpenClaim.holds_of_wide 4 Try.f4 rfl rfl rfl rfl rfl rfl rfl ⟨rfl, rfl, rfl, rfl, rfl⟩ rfl rfl rfl rfl rfl (by kernel_rfl) Try.func4 (by kernel_rfl)
    (of_decide_eq_true (by kernel_rfl)) (by unfold Func.isWrapper; first | (rw [if_pos (by decide +kernel)]; kernel_rfl) | (rw [if_neg (by decide +kernel)]; exact ⟨rfl, rfl⟩))
    (fun os started H enc _ => lifted os started H enc)

/-- THE STATEMENT. -/
theorem proved : Rows.FnStacksSaid := over
end Go.Proofs.Ythacadbdncfocaa.lawStacks

