/- FnOrdered: the walk of the law. -/
import Derived.Test.YtjhbcnmkamkkaaaOdQ
import Derived.Test.YtjhbcnmkamkkaaaTru
namespace Go.Proofs.Ytjhbcnmkamkkaaa
open Go Go.RowKit

theorem run_fine {P : Program} (op : BinOp) (h : op = .add ∨ op = .sub ∨ op = .mul ∨ op = .quo) (w : World) (t : TypeId) (x y : Nat) (hn : isN .f32 (fop op .f32 x y) = false) :
    (binOp op t (.float .f32 x) (.float .f32 y)).run P w = .ok (.float .f32 (fop op .f32 x y)) w := by
  rw [run_fop op h]
  cases hq : floatBits op .f32 x y with
  | none =>
    unfold fop at hn
    rw [hq, Option.getD_none, isN_nanC] at hn
    cases hn
  | some r =>
    unfold fres fop fcnt
    rw [hq]
    rfl
/-- A gather's box. -/
theorem box3 {w wq : World} {b : Nat} {x y z : Value} (h : w.heap[b]? = some (.cells #[x, y, z] 59 (0, 0))) (hx : Ext w wq) : wq.cell? ⟨b, 0, none⟩ = some x ∧ wq.cell? ⟨b, 1, none⟩ = some y ∧ wq.cell? ⟨b, 2, none⟩ = some z := by
  have hb := (Array.getElem?_eq_some_iff.1 h).1
  obtain ⟨k0, k1, k2, -, -, -⟩ := blk3 ((hx.block b hb).trans h)
  exact ⟨k0, k1, k2⟩
set_option maxRecDepth 100000 in
set_option maxHeartbeats 25600000 in
theorem lawOrdered_any (w : World) (v1 v2 : Value) (n1 n2 : Nat) (h1 : RdY w v1 n1) (h2 : RdY w v2 n2) (m1 : n1 ≤ maxLen) (m2 : n2 ≤ maxLen) :
    Calls Try.prog 6 #[v1, v2] w (TrueB w) := by
  have H1 := Lib.hid h1
  have H2 := Lib.hid h2
  obtain ⟨a1, c1, rfl, -, -⟩ := h1.opened
  obtain ⟨a2, c2, rfl, -, -⟩ := h2.opened
  have HL := Lib.hid (r8Long_any w a1 a2 n1 n2 c1 c2 m1 m2)
  clear h1 h2 m1 m2
  cases hq : (decide (48 < n1) || decide (48 < n2)) with
  | true =>
    rw [hq] at HL
    clear hq
    go_enter Try.func6, Try.ntmps6
    go_wp2_with fail
    refine HL.out.mono ?_
    rintro e w1 ⟨rfl, hw1⟩
    obtain rfl : w = w1 := hw1.symm
    go_wp2
    go_ret
    exact TrueB.mk (Below.refl _ _)
  | false =>
    rw [hq] at HL
    have l1 : n1 ≤ 48 := by simp at hq; omega
    have l2 : n2 ≤ 48 := by simp at hq; omega
    clear hq
    go_enter Try.func6, Try.ntmps6
    go_wp2_with fail
    refine HL.out.mono ?_
    rintro e w0 ⟨rfl, hw0⟩
    obtain rfl : w = w0 := hw0.symm
    clear HL hw0
    go_wp2_with fail
    refine (r8Gather_any w _ n1 H1.out (by omega)).mono ?_
    rintro e w1 ⟨T, vp, vt, ps, zss, rfl, hT1, hT2, hp1, hp2, hzl, hpz, hzz, rP, rL, b1⟩
    obtain ⟨g, rfl, rfl, rfl⟩ : ∃ g : GQ, T = g.T ∧ ps = g.ps ∧ zss = g.zss := ⟨⟨T, ps, zss⟩, rfl, rfl, rfl⟩
    have OK := Lib.hid (show g.ok from ⟨hT1, hT2, hp1, hp2, hzl, hpz, hzz⟩)
    obtain ⟨ap, cp, rfl⟩ : ∃ a c, vp = .slice a g.ps.length c := (by obtain ⟨a, c, h, -⟩ := rP.opened; exact ⟨a, c, by rw [h, List.length_map]⟩)
    obtain ⟨at_, ct, rfl⟩ : ∃ a c, vt = .slice a g.ps.length c := (by obtain ⟨a, c, h, -⟩ := rL.opened; exact ⟨a, c, by rw [h, List.length_map, hzl]⟩)
    clear hzl hpz hzz
    obtain ⟨W5, hW5⟩ : ∃ W, w1.alloc (.cells #[.int .i64 g.T, .slice ap g.ps.length cp, .slice at_ g.ps.length ct] 59) = W := ⟨_, rfl⟩
    have x5 : Ext w1 W5 := by rw [← hW5]; exact (Below.refl _ _).alloc (Nat.le_refl _) _
    have HB5 : Hid (W5.heap[w1.heap.size]? = some (.cells #[.int .i64 g.T, .slice ap g.ps.length cp, .slice at_ g.ps.length ct] 59 (0, 0))) := Lib.hid (by rw [← hW5]; exact alloc_new _ _)
    have RP := Lib.hid (show RdF W5 (.slice ap g.ps.length cp) g.tm.P from rP.mono x5)
    have RL := Lib.hid (show RdSS W5 (.slice at_ g.ps.length ct) g.tm.Ls from rL.mono x5)
    have X5 := Lib.hid (show Ext w W5 from Ext.trans (show Ext w w1 from b1) x5)
    have HLN := Lib.hid OK.out.lens
    have HROW : Hid (∀ j, (rowAt g.tm.Ls j).length ≤ 64) := Lib.hid fun j => by
      have e : rowAt g.tm.Ls j = (zAt g.zss j).map qv := rowAt_qv g.zss j
      rw [e, List.length_map]
      by_cases hj : j < g.zss.length
      · have := (OK.out.zz _ (zAt_mem hj)).1; omega
      · unfold zAt; rw [List.getD_eq_getElem?_getD, List.getElem?_eq_none (by omega)]; simp
    have HSo : Hid (∀ wq, Ext W5 wq → Calls Try.prog 44 #[.agg #[.int .i64 g.T, .slice ap g.ps.length cp, .slice at_ g.ps.length ct]] wq fun e w' => ∃ vp' vt', e = .returned (.tuple #[.agg #[.int .i64 g.T, vp', vt'], .bool true]) ∧ RdF w' vp' (pkP g.tm.P (sJ g.ps)) ∧ RdSS w' vt' (pkL g.tm.Ls (sJ g.ps)) ∧ Below wq.heap.size wq w') := Lib.hid fun wq hq => by
      have h := sortGather_any wq (.slice ap g.ps.length cp) (.slice at_ g.ps.length ct) g.tm (RP.out.mono hq) (RL.out.mono hq) (HLN.out.2.trans HLN.out.1.symm) (by have := HLN.out.1; omega) (by have := HLN.out.1; omega) HROW.out OK.out.valid OK.out.validS
        (fun k hk => by
          have e : g.tm.P.getD k 0 = hV (pAt g.ps k) := getD_hV g.ps k
          rw [e]; exact hV_notNan (pAt_ok OK.out.pz k))
        (fun k l hk hl => by
          have e : g.tm.P.getD k 0 = hV (pAt g.ps k) := getD_hV g.ps k
          have e2 : g.tm.P.getD l 0 = hV (pAt g.ps l) := getD_hV g.ps l
          rw [e, e2]; exact ⟨_, order_hV (pAt_ok OK.out.pz k) (pAt_ok OK.out.pz l)⟩)
      have e : sortJ g.tm.P = sJ g.ps := sortJ_hV OK.out.pz
      rw [e] at h
      exact h
    have HMe : Hid (∀ wq, Ext W5 wq → Calls Try.prog 45 #[.agg #[.int .i64 g.T, .slice ap g.ps.length cp, .slice at_ g.ps.length ct], .agg #[.int .i64 g.T, .slice ap g.ps.length cp, .slice at_ g.ps.length ct]] wq fun e w' => ∃ ap np cp at_ ct, e = .returned (.tuple #[.agg #[.int .i64 g.T, .slice ap np cp, .slice at_ (g.ps.length + g.ps.length) ct], .bool true]) ∧ Below wq.heap.size wq w') := Lib.hid fun wq hq => by
      have h := mergeGathers_any wq (.slice ap g.ps.length cp) (.slice at_ g.ps.length ct) g.tm (RP.out.mono hq) (RL.out.mono hq) (HLN.out.2.trans HLN.out.1.symm) (by have := HLN.out.1; omega) (by have := HLN.out.1; omega) HROW.out OK.out.valid OK.out.valid2
      rw [HLN.out.2] at h
      exact h
    have HMu : Hid (∀ wq, Ext W5 wq → Calls Try.prog 47 #[.agg #[.int .i64 g.T, .slice ap g.ps.length cp, .slice at_ g.ps.length ct], .float .f32 1056964608] wq fun e w' => ∃ ap np cp vt', e = .returned (.tuple #[.agg #[.int .i64 g.T, .slice ap np cp, vt'], .bool true]) ∧ RdSS w' vt' (doL (mutF g.tm 1056964608) g.ps.length) ∧ Below wq.heap.size wq w') := Lib.hid fun wq hq => by
      have h := muteGather_any wq (.slice ap g.ps.length cp) (.slice at_ g.ps.length ct) g.tm _ _ half_fv half_pos (RP.out.mono hq) (RL.out.mono hq) (HLN.out.2.trans HLN.out.1.symm) (by have := HLN.out.1; omega) HROW.out OK.out.valid
      rw [HLN.out.2] at h
      exact h
    have HKe : Hid (∀ (r1 r2 lo hi : Nat) (keep : Nat → Bool) (m : Nat) (b : Bool), FV .f32 r1 lo → FV .f32 r2 hi → Keeps g.tm.P lo hi keep → ((List.range g.ps.length).filter keep).length = m → b = !((List.range g.ps.length).filter keep).isEmpty → ∀ wq, Ext W5 wq → Calls Try.prog 46 #[.agg #[.int .i64 g.T, .slice ap g.ps.length cp, .slice at_ g.ps.length ct], .float .f32 r1, .float .f32 r2] wq fun e w' => ∃ t' ap np cp at_ ct, e = .returned (.tuple #[.agg #[.int .i64 t', .slice ap np cp, .slice at_ m ct], .bool b]) ∧ Below wq.heap.size wq w') := Lib.hid fun r1 r2 lo hi keep m b f1 f2 hk hm hb wq hq => by
      subst hm
      have hl1 := HLN.out.1
      have hv := OK.out.pick_valid ((List.range g.ps.length).filter keep) (fun j hj => List.mem_range.1 (List.mem_filter.1 hj).1) (by have := keep_len keep g.ps.length; omega)
      rw [← hb] at hv
      have h := keepPlaces_any wq (.slice ap g.ps.length cp) (.slice at_ g.ps.length ct) g.tm r1 r2 lo hi keep b f1 f2 hk (RP.out.mono hq) (RL.out.mono hq) (HLN.out.2.trans hl1.symm) (by omega) HROW.out OK.out.valid (by rw [hl1]; exact hv) (by rw [hl1]; exact hb)
      rw [hl1] at h
      exact h
    clear x5 rP rL b1
    obtain ⟨k0, k1, k2⟩ := box3 HB5.out (Ext.refl _)
    go_wp2_with fail
    clear hW5 k0 k1 k2
    have hb5l : w1.heap.size < W5.heap.size := (Array.getElem?_eq_some_iff.1 HB5.out).1
    refine (HSo.out W5 (Ext.refl _)).mono ?_
    rintro e w6 ⟨vp6, vt6, rfl, rP6, rL6, b6⟩
    obtain ⟨ap6, cp6, rfl⟩ : ∃ a c, vp6 = .slice a g.ps.length c := (by obtain ⟨a, c, h, -⟩ := rP6.opened; exact ⟨a, c, by rw [h]; simp [pkP, sJ_length]⟩)
    obtain ⟨at6, ct6, rfl⟩ : ∃ a c, vt6 = .slice a g.ps.length c := (by obtain ⟨a, c, h, -⟩ := rL6.opened; exact ⟨a, c, by rw [h]; simp [pkL, sJ_length]⟩)
    obtain ⟨W6, hW6⟩ : ∃ W, w6.alloc (.cells #[.int .i64 g.T, .slice ap6 g.ps.length cp6, .slice at6 g.ps.length ct6] 59) = W := ⟨_, rfl⟩
    have x6 : Ext w6 W6 := by rw [← hW6]; exact (Below.refl _ _).alloc (Nat.le_refl _) _
    have HB6 : Hid (W6.heap[w6.heap.size]? = some (.cells #[.int .i64 g.T, .slice ap6 g.ps.length cp6, .slice at6 g.ps.length ct6] 59 (0, 0))) := Lib.hid (by rw [← hW6]; exact alloc_new _ _)
    have Y6 : Hid (Ext W5 W6) := Lib.hid (Ext.trans (show Ext W5 w6 from b6) x6)
    have XG6 : Hid (Ext W5 W6) := Lib.hid (Y6.out)
    have RP6 := Lib.hid (show RdF W6 (.slice ap6 g.ps.length cp6) (pkP g.tm.P (sJ g.ps)) from rP6.mono x6)
    have RL6 := Lib.hid (show RdSS W6 (.slice at6 g.ps.length ct6) (pkL g.tm.Ls (sJ g.ps)) from rL6.mono x6)
    clear x6 b6
    obtain ⟨k0, k1, k2⟩ := box3 HB5.out XG6.out
    go_wp2_with fail
    clear hW6 k0 k1 k2 rP6 rL6
    refine (HMe.out W6 XG6.out).mono ?_
    rintro e w8 ⟨ap8, n8, cp8, at8, ct8, rfl, b8⟩
    obtain ⟨W8, hW8⟩ : ∃ W, w8.alloc (.cells #[.int .i64 g.T, .slice ap8 n8 cp8, .slice at8 (g.ps.length + g.ps.length) ct8] 59) = W := ⟨_, rfl⟩
    have x8 : Ext w8 W8 := by rw [← hW8]; exact (Below.refl _ _).alloc (Nat.le_refl _) _
    have HB8 : Hid (W8.heap[w8.heap.size]? = some (.cells #[.int .i64 g.T, .slice ap8 n8 cp8, .slice at8 (g.ps.length + g.ps.length) ct8] 59 (0, 0))) := Lib.hid (by rw [← hW8]; exact alloc_new _ _)
    have Y8 : Hid (Ext W6 W8) := Lib.hid (Ext.trans (show Ext W6 w8 from b8) x8)
    have XG8 : Hid (Ext W5 W8) := Lib.hid (XG6.out.trans Y8.out)
    clear x8 b8
    obtain ⟨k0, k1, k2⟩ := box3 HB5.out XG8.out
    go_wp2_with fail
    clear hW8 k0 k1 k2
    refine (r8At_any W8 _ n2 0 16 (H2.out.mono (X5.out.trans XG8.out)) (by omega) (by decide) (by decide) (by decide) (by decide)).mono ?_
    rintro e w9 ⟨az, rfl, haz0, haz1, hw9⟩
    obtain rfl : W8 = w9 := hw9.symm
    obtain ⟨z, hz⟩ : ∃ z, az - 4 = z := ⟨_, rfl⟩
    have hz0 : -4 ≤ z := by omega
    have hz1 : z ≤ 12 := by omega
    have hquo : ∀ (wq : World) (t : TypeId), (binOp .quo t (.float .f32 (floatOfInt .f32 z)) (.float .f32 1073741824)).run Try.prog wq = .ok (.float .f32 (hV z)) wq := fun wq t => run_fine .quo (by simp) wq t _ _ (hV_notNan ⟨hz0, hz1⟩)
    have hadd : ∀ (wq : World) (t : TypeId), (binOp .add t (.float .f32 (hV z)) (.float .f32 1048576000)).run Try.prog wq = .ok (.float .f32 (upV z)) wq := fun wq t => run_fine .add (by simp) wq t _ _ (upV_fx z hz0 hz1).notNan
    obtain ⟨m1, hm1⟩ : ∃ m, ((List.range g.ps.length).filter (k1 g.ps z)).length = m := ⟨_, rfl⟩
    obtain ⟨m2, hm2⟩ : ∃ m, ((List.range g.ps.length).filter (k2 g.ps z)).length = m := ⟨_, rfl⟩
    obtain ⟨c1, hc1⟩ : ∃ c, c = !((List.range g.ps.length).filter (k1 g.ps z)).isEmpty := ⟨_, rfl⟩
    obtain ⟨c2, hc2⟩ : ∃ c, c = !((List.range g.ps.length).filter (k2 g.ps z)).isEmpty := ⟨_, rfl⟩
    have hm12 : m1 + m2 = g.ps.length := by rw [← hm1, ← hm2]; exact k12 g.ps z
    have hcc : c1 = true ∨ c2 = true := by
      rw [hc1, hc2]
      by_cases h1 : ((List.range g.ps.length).filter (k1 g.ps z)) = []
      · by_cases h2 : ((List.range g.ps.length).filter (k2 g.ps z)) = []
        · rw [h1] at hm1; rw [h2] at hm2; simp at hm1 hm2; omega
        · right; simpa using h2
      · left; simpa using h1
    have HK1 := Lib.hid (HKe.out 3296329728 (hV z) 3296329728 (hV z) (k1 g.ps z) m1 c1 lo_fv (hV_fv z) (keeps1 OK.out z hz0 hz1) hm1 hc1)
    have HK2 := Lib.hid (HKe.out (upV z) 1148846080 (upV z) 1148846080 (k2 g.ps z) m2 c2 fop_cls hi_fv (keeps2 OK.out z hz0 hz1) hm2 hc2)
    have HCC := Lib.hid hcc
    have HM12 := Lib.hid hm12
    clear hm1 hm2 hc1 hc2 hcc hm12 HKe
    have hz' := hz
    obtain ⟨k0, k1_, k2_⟩ := box3 HB5.out XG8.out
    go_wp2_with fail
    clear k0 k1_ k2_
    refine (HK1.out W8 XG8.out).mono ?_
    rintro e w11 ⟨t11, ap11, n11, cp11, at11, ct11, rfl, b11⟩
    obtain ⟨W11, hW11⟩ : ∃ W, w11.alloc (.cells #[.int .i64 t11, .slice ap11 n11 cp11, .slice at11 m1 ct11] 59) = W := ⟨_, rfl⟩
    have x11 : Ext w11 W11 := by rw [← hW11]; exact (Below.refl _ _).alloc (Nat.le_refl _) _
    have HB11 : Hid (W11.heap[w11.heap.size]? = some (.cells #[.int .i64 t11, .slice ap11 n11 cp11, .slice at11 m1 ct11] 59 (0, 0))) := Lib.hid (by rw [← hW11]; exact alloc_new _ _)
    have Y11 : Hid (Ext W8 W11) := Lib.hid (Ext.trans (show Ext W8 w11 from b11) x11)
    have XG11 : Hid (Ext W5 W11) := Lib.hid (XG8.out.trans Y11.out)
    clear x11 b11
    obtain ⟨k0, k1, k2⟩ := box3 HB5.out XG11.out
    go_wp2_with fail
    clear hW11 k0 k1 k2
    refine (HK2.out W11 XG11.out).mono ?_
    rintro e w13 ⟨t13, ap13, n13, cp13, at13, ct13, rfl, b13⟩
    obtain ⟨W13, hW13⟩ : ∃ W, w13.alloc (.cells #[.int .i64 t13, .slice ap13 n13 cp13, .slice at13 m2 ct13] 59) = W := ⟨_, rfl⟩
    have x13 : Ext w13 W13 := by rw [← hW13]; exact (Below.refl _ _).alloc (Nat.le_refl _) _
    have HB13 : Hid (W13.heap[w13.heap.size]? = some (.cells #[.int .i64 t13, .slice ap13 n13 cp13, .slice at13 m2 ct13] 59 (0, 0))) := Lib.hid (by rw [← hW13]; exact alloc_new _ _)
    have Y13 : Hid (Ext W11 W13) := Lib.hid (Ext.trans (show Ext W11 w13 from b13) x13)
    have XG13 : Hid (Ext W5 W13) := Lib.hid (XG11.out.trans Y13.out)
    clear x13 b13
    obtain ⟨k0, k1, k2⟩ := box3 HB5.out XG13.out
    go_wp2_with fail
    clear hW13 k0 k1 k2
    refine (HMu.out W13 XG13.out).mono ?_
    rintro e w15 ⟨ap15, n15, cp15, vt15, rfl, rL15, b15⟩
    obtain ⟨at15, ct15, rfl⟩ : ∃ a c, vt15 = .slice a g.ps.length c := (by obtain ⟨a, c, h, -⟩ := rL15.opened; exact ⟨a, c, by rw [h, doL_length]⟩)
    obtain ⟨W15, hW15⟩ : ∃ W, w15.alloc (.cells #[.int .i64 g.T, .slice ap15 n15 cp15, .slice at15 g.ps.length ct15] 59) = W := ⟨_, rfl⟩
    have x15 : Ext w15 W15 := by rw [← hW15]; exact (Below.refl _ _).alloc (Nat.le_refl _) _
    have HB15 : Hid (W15.heap[w15.heap.size]? = some (.cells #[.int .i64 g.T, .slice ap15 n15 cp15, .slice at15 g.ps.length ct15] 59 (0, 0))) := Lib.hid (by rw [← hW15]; exact alloc_new _ _)
    have Y15 : Hid (Ext W13 W15) := Lib.hid (Ext.trans (show Ext W13 w15 from b15) x15)
    have XG15 : Hid (Ext W5 W15) := Lib.hid (XG13.out.trans Y15.out)
    have RL15 := Lib.hid (show RdSS W15 (.slice at15 g.ps.length ct15) (doL (mutF g.tm 1056964608) g.ps.length) from rL15.mono x15)
    clear x15 b15 rL15
    have Z11 : Hid (Ext W8 W15) := Lib.hid ((Y11.out.trans Y13.out).trans Y15.out)
    have FA : Hid (∀ wq, Ext W15 wq → (wq.cell? ⟨w1.heap.size, 1, none⟩ = some (.slice ap g.ps.length cp) ∧ wq.cell? ⟨w1.heap.size, 2, none⟩ = some (.slice at_ g.ps.length ct)) ∧ (wq.cell? ⟨w6.heap.size, 1, none⟩ = some (.slice ap6 g.ps.length cp6) ∧ wq.cell? ⟨w6.heap.size, 2, none⟩ = some (.slice at6 g.ps.length ct6)) ∧ wq.cell? ⟨w15.heap.size, 2, none⟩ = some (.slice at15 g.ps.length ct15)) := Lib.hid fun wq hq =>
      ⟨(box3 HB5.out (XG15.out.trans hq)).2, (box3 HB6.out (((Y8.out.trans Z11.out)).trans hq)).2, (box3 HB15.out hq).2.2⟩
    have FA2 : Hid (∀ wq, Ext W15 wq → wq.cell? ⟨w8.heap.size, 2, none⟩ = some (.slice at8 (g.ps.length + g.ps.length) ct8) ∧ wq.cell? ⟨w11.heap.size, 2, none⟩ = some (.slice at11 m1 ct11) ∧ wq.cell? ⟨w13.heap.size, 2, none⟩ = some (.slice at13 m2 ct13)) := Lib.hid fun wq hq =>
      ⟨(box3 HB8.out (Z11.out.trans hq)).2.2, (box3 HB11.out ((Y13.out.trans Y15.out).trans hq)).2.2, (box3 HB13.out (Y15.out.trans hq)).2.2⟩
    have RPa := Lib.hid (RP.out.mono XG15.out)
    have RLa := Lib.hid (RL.out.mono XG15.out)
    have RP6a := Lib.hid (RP6.out.mono (Y8.out.trans Z11.out))
    have RL6a := Lib.hid (RL6.out.mono (Y8.out.trans Z11.out))
    have hlt5 : w1.heap.size < W15.heap.size := Nat.lt_of_lt_of_le hb5l XG15.out.size
    have hlt6 : w6.heap.size < W15.heap.size := Nat.lt_of_lt_of_le (Array.getElem?_eq_some_iff.1 HB6.out).1 (Y8.out.trans Z11.out).size
    have hlt15 : w15.heap.size < W15.heap.size := (Array.getElem?_eq_some_iff.1 HB15.out).1
    have XW := Lib.hid (X5.out.trans XG15.out)
    clear RP RL RP6 RL6 HSo HMe HMu HB5 HB6 HB8 HB11 HB13 HB15 Y6 Y8 Y11 Y13 Y15 XG6 XG8 XG11 XG13 XG15 Z11 X5 hb5l HK1 HK2 hz hz' hquo hadd
    obtain ⟨⟨k1_, k2_⟩, ⟨j1_, j2_⟩, i2_⟩ := FA.out W15 (Ext.refl _)
    obtain ⟨l8, l11, l13⟩ := FA2.out W15 (Ext.refl _)
    have hn2 : ((g.ps.length : Int) + (g.ps.length : Int) != 2 * (g.ps.length : Int)) = false := by
      have : (g.ps.length : Int) + (g.ps.length : Int) = 2 * (g.ps.length : Int) := by omega
      rw [this]; simp
    have hm3 : ((m1 : Int) + (m2 : Int) != (g.ps.length : Int)) = false := by
      have : (m1 : Int) + (m2 : Int) = (g.ps.length : Int) := by have := HM12.out; omega
      rw [this]; simp
    have hm4 : m1 ≤ 4 ∧ m2 ≤ 4 := by have := HM12.out; omega
    go_upto_region 10 with fail
    clear hW15
    go_cut [118] from 64 to 118 (fun s118 wx => s118 = .bool false ∧ wx = W15)
    case first =>
      clear hm3
      rcases HCC.out with rfl | rfl
      · cases c2
        all_goals
          go_wp2_with fail
          go_meet
          exact ⟨rfl, rfl⟩
      · cases c1
        all_goals
          go_wp2_with fail
          go_meet
          exact ⟨rfl, rfl⟩
    case rest =>
      obtain ⟨rfl, hwc⟩ := hcut
      obtain rfl : W15 = wc := hwc.symm
      clear hwc
      go_wp2_with fail
      clear k1_ k2_ j1_ j2_ i2_ l8 l11 l13 hn2 hm3 hm4 FA2 HM12 HCC
      have HC5 : Hid (∀ k, k < g.ps.length → ∃ b o, ap = some ⟨b, o, none⟩ ∧ b < W15.heap.size ∧ W15.cell? ⟨b, o + k, none⟩ = some (.float .f32 (hV (pAt g.ps k)))) := Lib.hid (cells_of RPa.out (by have := HLN.out.1; exact this) fun k hk => ⟨getD_hV g.ps k, pAt_ok OK.out.pz k⟩)
      have HC6 : Hid (∀ k, k < g.ps.length → ∃ b o, ap6 = some ⟨b, o, none⟩ ∧ b < W15.heap.size ∧ W15.cell? ⟨b, o + k, none⟩ = some (.float .f32 (hV (sp g k)))) := Lib.hid (cells_of RP6a.out (by simp [pkP, sJ_length]) fun k hk => ⟨sp_getD g k hk, OK.out.sp_ok k⟩)
      have hN0 : 1 ≤ g.ps.length := hp1
      go_loopw [17] (fun i wr => ∃ k : Nat, 1 ≤ k ∧ k ≤ g.ps.length ∧ i = .int .i64 k ∧ Ext W15 wr) (fun i _ => g.ps.length - (intOf i).toNat)
      case atStart => exact ⟨1, by omega, by omega, rfl, Ext.refl _⟩
      case round =>
        obtain ⟨wi, rfl⟩ : ∃ wi : World, wi = wr := ⟨_, rfl⟩
        obtain ⟨k, hk1, hkN, rfl, hx⟩ := hrel
        have HX := Lib.hid hx
        obtain ⟨⟨k1_, k2_⟩, ⟨j1_, j2_⟩, i2_⟩ := FA.out wi hx
        by_cases hlt : k < g.ps.length
        · obtain ⟨kp, rfl⟩ : ∃ kp, k = kp + 1 := ⟨k - 1, by omega⟩
          obtain ⟨b, o, ha, hb, d0⟩ := HC6.out kp (by omega)
          obtain ⟨b', o', ha', -, d1⟩ := HC6.out (kp + 1) hlt
          obtain ⟨rfl, rfl⟩ : b = b' ∧ o = o' := by rw [ha] at ha'; cases ha'; exact ⟨rfl, rfl⟩
          subst ha
          have e0 := ((bcell hx).1 _ (o + kp) hb).trans d0
          have e1 := ((bcell hx).1 _ (o + (kp + 1)) hb).trans d1
          have hgt : (FloatKind.f32.format.order (hV (sp g kp)) (hV (sp g (kp + 1))) == some Ordering.gt) = false := by
            rw [order_hV (OK.out.sp_ok kp) (OK.out.sp_ok (kp + 1))]
            have := sJ_next g.ps kp hlt
            have h2 : compare (sp g kp) (sp g (kp + 1)) ≠ .gt := fun e => by have h3 := Int.compare_eq_gt.1 e; unfold sp at h3; omega
            simp [h2]
          have hi1 : (kp : Int) < (g.ps.length : Int) := by omega
          have hi2 : (kp : Int) + 1 < (g.ps.length : Int) := by omega
          clear d0 d1 ha' hx k1_ k2_ j2_ i2_
          generalize hV (sp g kp) = x at *
          generalize hV (sp g (kp + 1)) = y at *
          go_wp2_with fail
          refine region_rel_all (by kernel_rfl) (by kernel_rfl) (Drawn wi) (fun _ _ _ => False) ⟨1, rfl⟩ ?_
          iterate 12 (refine wpRel_draw rfl rfl (fun nq K hK => ?_); go_wp2)
          refine wpRel_nil ?_
          rintro wd ⟨nd, hwd⟩
          have XD : Hid (Ext W15 wd) := Lib.hid (by rw [hwd]; exact Below.drewN HX.out nd)
          clear hwd
          go_wp2_with fail
          exact ⟨⟨kp + 1 + 1, by omega, by omega, by go_num, XD.out⟩, by simp [intOf]; omega⟩
        · obtain rfl : g.ps.length = k := by omega
          have zi := hx.size
          clear hx
          go_wp2_with (refine wpList_mkBo rfl _ _ rfl W15.heap.size _ _ _ _ g.ps.length rfl rfl rfl rfl (by omega) zi ?_; intro w20 u20 b20 z20)
          obtain ⟨bu, hbu⟩ : ∃ bu, wi.heap.size = bu := ⟨_, rfl⟩
          rw [hbu] at u20
          have U20 := Lib.hid u20
          have X20 : Hid (Ext W15 w20) := Lib.hid (HX.out.trans b20)
          clear u20 b20 z20 k1_ k2_ j1_ j2_ i2_
          rw [hbu]
          clear hbu
          have HR5 : Hid (∀ k, k < g.ps.length → ∃ b o a' c', at_ = some ⟨b, o, none⟩ ∧ b < W15.heap.size ∧ W15.cell? ⟨b, o + k, none⟩ = some (.slice a' g.T c') ∧ RdF W15 (.slice a' g.T c') ((zAt g.zss k).map qv)) := Lib.hid (rows_of RLa.out HLN.out.2 fun k hk => ⟨rowAt_qv g.zss k, (OK.out.row k hk).1⟩)
          have HR6 : Hid (∀ k, k < g.ps.length → ∃ b o a' c', at6 = some ⟨b, o, none⟩ ∧ b < W15.heap.size ∧ W15.cell? ⟨b, o + k, none⟩ = some (.slice a' g.T c') ∧ RdF W15 (.slice a' g.T c') ((sz g k).map qv)) := Lib.hid (rows_of RL6a.out (by simp [pkL, sJ_length]) fun k hk => ⟨sz_row g k hk, (OK.out.srow k hk).1⟩)
          go_loopw [19] (fun i wr => ∃ (k : Nat) (us : List Bool), k ≤ g.ps.length ∧ i = .int .i64 k ∧ us.length = g.ps.length ∧ OwnU wr W15.heap.size (.slice (some ⟨bu, 0, none⟩) g.ps.length g.ps.length) us ∧ Mat g (fun j => us.getD j false) k ∧ Ext W15 wr) (fun i _ => g.ps.length - (intOf i).toNat)
          case atStart =>
            refine ⟨0, _, Nat.zero_le _, rfl, List.length_replicate, U20.out, ?_, X20.out⟩
            have e : (fun j => (List.replicate g.ps.length false).getD j false) = fun _ => false := by
              funext j
              rw [List.getD_eq_getElem?_getD, List.getElem?_replicate]
              split <;> rfl
            rw [e]; exact Mat.zero g
          case round =>
            clear U20 X20 HX zi
            obtain ⟨wi2, rfl⟩ : ∃ wi2 : World, wi2 = wr := ⟨_, rfl⟩
            obtain ⟨k, us, hk, rfl, hul, hu, hmt, hx⟩ := hrel
            have HX := Lib.hid hx
            have HU := Lib.hid hu
            have HUL := Lib.hid hul
            have HMt := Lib.hid hmt
            obtain ⟨⟨k1_, k2_⟩, ⟨j1_, j2_⟩, i2_⟩ := FA.out wi2 hx
            have z2 := hx.size
            clear hx hu hul hmt
            by_cases hltk : k < g.ps.length
            · go_wp2_with fail
              clear k1_ k2_ j1_ j2_ i2_
              go_loopw [20, 21] (fun s20 s21 wr => ∃ (m : Nat) (us' : List Bool), m ≤ g.ps.length ∧ s21 = .int .i64 m ∧ us'.length = g.ps.length ∧ OwnU wr W15.heap.size (.slice (some ⟨bu, 0, none⟩) g.ps.length g.ps.length) us' ∧ Ext W15 wr ∧ ((s20 = .bool false ∧ us' = us ∧ Miss g us k m) ∨ (s20 = .bool true ∧ Mat g (fun j => us'.getD j false) (k + 1)))) (fun _ s21 _ => g.ps.length - (intOf s21).toNat)
              case atStart => exact ⟨0, us, Nat.zero_le _, rfl, HUL.out, HU.out, HX.out, .inl ⟨rfl, rfl, fun m' h => by omega⟩⟩
              case round =>
                clear HU HX
                obtain ⟨wj, rfl⟩ : ∃ wj : World, wj = wr := ⟨_, rfl⟩
                obtain ⟨m, us', hm, rfl, hul', hu', hx, hrel⟩ := hrel
                have HX := Lib.hid hx
                have HU := Lib.hid hu'
                have HUL' := Lib.hid hul'
                obtain ⟨⟨k1_, k2_⟩, ⟨j1_, j2_⟩, i2_⟩ := FA.out wj hx
                rcases hrel with ⟨rfl, hue, hmi⟩ | ⟨rfl, hmt⟩
                · obtain rfl : us = us' := hue.symm
                  clear hue
                  by_cases hlm : m < g.ps.length
                  · have HMi := Lib.hid hmi
                    obtain ⟨ucell, -, -, -⟩ := hu'.at hul' m hlm
                    obtain ⟨b1, o1, rfl, hb1, d1⟩ := HC5.out m hlm
                    obtain ⟨b2, o2, rfl, hb2, d2⟩ := HC6.out k hltk
                    obtain ⟨b3, o3, a7, c7, rfl, hb3, d3, R3⟩ := HR5.out m hlm
                    obtain ⟨b4, o4, a8, c8, rfl, hb4, d4, R4⟩ := HR6.out k hltk
                    have e1 := ((bcell hx).1 _ (o1 + m) hb1).trans d1
                    have e2 := ((bcell hx).1 _ (o2 + k) hb2).trans d2
                    have e3 := ((bcell hx).1 _ (o3 + m) hb3).trans d3
                    have e4 := ((bcell hx).1 _ (o4 + k) hb4).trans d4
                    have hi1 : (m : Int) < (g.ps.length : Int) := by omega
                    have hi2 : (k : Int) < (g.ps.length : Int) := by omega
                    have HEQ : Hid (∀ nq, Calls Try.prog 16 #[.slice a7 g.T c7, .slice a8 g.T c8] (wj.drewN nq) fun e w' => e = .returned (.bool (decide (zAt g.zss m = sz g k))) ∧ ∃ n, w' = (wj.drewN nq).drewN n) := Lib.hid fun nq =>
                      r8EqualQ_any (wj.drewN nq) _ _ (zAt g.zss m) (sz g k) (R3.mono (Below.drewN hx nq)) (R4.mono (Below.drewN hx nq)) ((OK.out.srow k hltk).1.trans (OK.out.row m hlm).1.symm) (by rw [(OK.out.row m hlm).1]; omega) (fun j hj => (OK.out.row m hlm).2 j (by rw [(OK.out.row m hlm).1] at hj; exact hj)) (fun j hj => (OK.out.srow k hltk).2 j (by rw [(OK.out.row m hlm).1] at hj; exact hj))
                    have HPE : Hid ((FloatKind.f32.format.order (hV (pAt g.ps m)) (hV (sp g k)) == some Ordering.eq) = decide (pAt g.ps m = sp g k)) := Lib.hid (by rw [order_hV (pAt_ok OK.out.pz m) (OK.out.sp_ok k), cmp_eq])
                    clear hx hu' hul' hmi d1 d2 d3 d4 R3 R4 i2_
                    cases hub : us.getD m false with
                    | true =>
                      have HU0 := Lib.hid hub
                      rw [hub] at ucell
                      clear hub HPE e1 e2 e3 e4
                      go_wp2_with fail
                      refine region_rel_all (by kernel_rfl) (by kernel_rfl) (Drawn wj) (boT (decide (zAt g.zss m = sz g k))) ⟨1, rfl⟩ ?_
                      iterate 31 (first | (refine wpRel_draw rfl rfl (fun nq K hK => ?_); go_wp2) | (refine wpRel_skip rfl ?_; simp only [Act.put, List.setIfInBounds_toArray, List.set_cons_succ, List.set_cons_zero]))
                      refine wpRel_nil ?_
                      rintro wd ⟨nd, hwd⟩
                      have XD : Hid (Ext W15 wd) := Lib.hid (by rw [hwd]; exact Below.drewN HX.out nd)
                      have UD : Hid (OwnU wd W15.heap.size (.slice (some ⟨bu, 0, none⟩) g.ps.length g.ps.length) us) := Lib.hid (by rw [hwd]; exact HU.out)
                      clear hwd ucell k1_ k2_ j1_ j2_
                      go_wp2_with fail
                      exact ⟨⟨m + 1, us, by omega, by go_num, HUL.out, UD.out, XD.out, .inl ⟨rfl, rfl, HMi.out.succ (fun h => by rw [HU0.out] at h; cases h.1)⟩⟩, by simp [intOf]; omega⟩
                    | false =>
                      have HU0 := Lib.hid hub
                      rw [hub] at ucell
                      clear hub
                      by_cases hpm : pAt g.ps m = sp g k
                      · have HPm := Lib.hid hpm
                        have hpe := HPE.out
                        rw [decide_eq_true hpm] at hpe
                        clear hpm HPE
                        by_cases hzm : zAt g.zss m = sz g k
                        · have HZ := Lib.hid hzm
                          clear hzm
                          generalize hV (pAt g.ps m) = x at *
                          generalize hV (sp g k) = y at *
                          go_wp2_with fail
                          refine region_rel_all (by kernel_rfl) (by kernel_rfl) (Drawn wj) (boT (decide (zAt g.zss m = sz g k))) ⟨1, rfl⟩ ?_
                          iterate 29 (first | (refine wpRel_draw rfl rfl (fun nq K hK => ?_); go_wp2) | (refine wpRel_skip rfl ?_; simp only [Act.put, List.setIfInBounds_toArray, List.set_cons_succ, List.set_cons_zero]))
                          refine wpRel_callG #[.slice a7 g.T c7, .slice a8 g.T c8] rfl Try.func16 (by kernel_rfl) (by kernel_rfl) (by simp [go_sem]) ⟨wj, 0, rfl⟩ ⟨_, rfl⟩ (fun wq hq => by
                            obtain ⟨nq, rfl⟩ := hq
                            exact (HEQ.out nq).mono fun e w'' ⟨he, n, hw⟩ => ⟨_, he, rfl, nq + n, by rw [hw, World.drewN_drewN]⟩) ?_
                          intro vq hvq
                          obtain rfl : vq = .bool (decide (zAt g.zss m = sz g k)) := hvq
                          rw [decide_eq_true HZ.out]
                          simp only [Act.put, List.setIfInBounds_toArray, List.set_cons_succ, List.set_cons_zero]
                          iterate 1 (first | (refine wpRel_draw rfl rfl (fun nq K hK => ?_); go_wp2) | (refine wpRel_skip rfl ?_; simp only [Act.put, List.setIfInBounds_toArray, List.set_cons_succ, List.set_cons_zero]))
                          refine wpRel_nil ?_
                          rintro wd ⟨nd, hwd⟩
                          have XD : Hid (Ext W15 wd) := Lib.hid (by rw [hwd]; exact Below.drewN HX.out nd)
                          have UD : Hid (OwnU wd W15.heap.size (.slice (some ⟨bu, 0, none⟩) g.ps.length g.ps.length) us) := Lib.hid (by rw [hwd]; exact HU.out)
                          clear hwd ucell k1_ k2_ j1_ j2_
                          obtain ⟨uc, uf, ub, ul⟩ := UD.out.at HUL.out m hlm
                          go_wp2_with fail
                          refine ⟨⟨m + 1, us.set m true, by omega, by go_num, by rw [List.length_set]; exact HUL.out, UD.out.stored HUL.out m true, ?_, .inr ⟨rfl, HMt.out.hit hltk hlm HUL.out HU0.out HPm.out HZ.out⟩⟩, by simp [intOf]; omega⟩
                          exact Below.chg XD.out ((Chg.refl wd (fun b => b = bu)).setCell rfl m _) (fun b hb => by omega) XD.out.size
                        · have HZ := Lib.hid hzm
                          clear hzm
                          generalize hV (pAt g.ps m) = x at *
                          generalize hV (sp g k) = y at *
                          go_wp2_with fail
                          refine region_rel_all (by kernel_rfl) (by kernel_rfl) (Drawn wj) (boT (decide (zAt g.zss m = sz g k))) ⟨1, rfl⟩ ?_
                          iterate 29 (first | (refine wpRel_draw rfl rfl (fun nq K hK => ?_); go_wp2) | (refine wpRel_skip rfl ?_; simp only [Act.put, List.setIfInBounds_toArray, List.set_cons_succ, List.set_cons_zero]))
                          refine wpRel_callG #[.slice a7 g.T c7, .slice a8 g.T c8] rfl Try.func16 (by kernel_rfl) (by kernel_rfl) (by simp [go_sem]) ⟨wj, 0, rfl⟩ ⟨_, rfl⟩ (fun wq hq => by
                            obtain ⟨nq, rfl⟩ := hq
                            exact (HEQ.out nq).mono fun e w'' ⟨he, n, hw⟩ => ⟨_, he, rfl, nq + n, by rw [hw, World.drewN_drewN]⟩) ?_
                          intro vq hvq
                          obtain rfl : vq = .bool (decide (zAt g.zss m = sz g k)) := hvq
                          rw [decide_eq_false HZ.out]
                          simp only [Act.put, List.setIfInBounds_toArray, List.set_cons_succ, List.set_cons_zero]
                          iterate 1 (first | (refine wpRel_draw rfl rfl (fun nq K hK => ?_); go_wp2) | (refine wpRel_skip rfl ?_; simp only [Act.put, List.setIfInBounds_toArray, List.set_cons_succ, List.set_cons_zero]))
                          refine wpRel_nil ?_
                          rintro wd ⟨nd, hwd⟩
                          have XD : Hid (Ext W15 wd) := Lib.hid (by rw [hwd]; exact Below.drewN HX.out nd)
                          have UD : Hid (OwnU wd W15.heap.size (.slice (some ⟨bu, 0, none⟩) g.ps.length g.ps.length) us) := Lib.hid (by rw [hwd]; exact HU.out)
                          clear hwd ucell k1_ k2_ j1_ j2_
                          go_wp2_with fail
                          exact ⟨⟨m + 1, us, by omega, by go_num, HUL.out, UD.out, XD.out, .inl ⟨rfl, rfl, HMi.out.succ (fun h => HZ.out h.2.2)⟩⟩, by simp [intOf]; omega⟩
                      · have HPm := Lib.hid hpm
                        have hpe := HPE.out
                        rw [decide_eq_false hpm] at hpe
                        clear hpm HPE
                        generalize hV (pAt g.ps m) = x at *
                        generalize hV (sp g k) = y at *
                        go_wp2_with fail
                        refine region_rel_all (by kernel_rfl) (by kernel_rfl) (Drawn wj) (boT (decide (zAt g.zss m = sz g k))) ⟨1, rfl⟩ ?_
                        iterate 31 (first | (refine wpRel_draw rfl rfl (fun nq K hK => ?_); go_wp2) | (refine wpRel_skip rfl ?_; simp only [Act.put, List.setIfInBounds_toArray, List.set_cons_succ, List.set_cons_zero]))
                        refine wpRel_nil ?_
                        rintro wd ⟨nd, hwd⟩
                        have XD : Hid (Ext W15 wd) := Lib.hid (by rw [hwd]; exact Below.drewN HX.out nd)
                        have UD : Hid (OwnU wd W15.heap.size (.slice (some ⟨bu, 0, none⟩) g.ps.length g.ps.length) us) := Lib.hid (by rw [hwd]; exact HU.out)
                        clear hwd ucell k1_ k2_ j1_ j2_
                        go_wp2_with fail
                        exact ⟨⟨m + 1, us, by omega, by go_num, HUL.out, UD.out, XD.out, .inl ⟨rfl, rfl, HMi.out.succ (fun h => HPm.out h.2.1)⟩⟩, by simp [intOf]; omega⟩
                  · obtain rfl : m = g.ps.length := by omega
                    exact (hmi.no HMt.out hltk).elim
                · have HMt2 := Lib.hid hmt
                  clear hx hu' hul' hmt
                  by_cases hlm : m < g.ps.length
                  · go_wp2_with fail
                    exact ⟨⟨k + 1, us', by omega, by go_num, HUL'.out, HU.out, HMt2.out, HX.out⟩, by simp [intOf]; omega⟩
                  · go_wp2_with fail
                    exact ⟨⟨k + 1, us', by omega, by go_num, HUL'.out, HU.out, HMt2.out, HX.out⟩, by simp [intOf]; omega⟩
            · go_wp2_with fail
              clear k1_ k2_ j1_ j2_ i2_ HU HUL HMt HR6 HC6
              have HR15 : Hid (∀ k, k < g.ps.length → ∃ b o a' c', at15 = some ⟨b, o, none⟩ ∧ b < W15.heap.size ∧ W15.cell? ⟨b, o + k, none⟩ = some (.slice a' g.T c') ∧ RdF W15 (.slice a' g.T c') (mutF g.tm 1056964608 k)) := Lib.hid (rows_at RL15.out (doL_length _ _) fun k hk => ⟨doL_row _ _ _ hk, (mut_row g OK.out k hk).1⟩)
              go_loopw [22] (fun i wr => ∃ k : Nat, k ≤ g.ps.length ∧ i = .int .i64 k ∧ Ext W15 wr) (fun i _ => g.ps.length - (intOf i).toNat)
              case atStart => exact ⟨0, Nat.zero_le _, rfl, HX.out⟩
              case round =>
                clear HX hltk hk z2
                obtain ⟨wj, rfl⟩ : ∃ wj : World, wj = wr := ⟨_, rfl⟩
                obtain ⟨k, hk, rfl, hx⟩ := hrel
                have HX := Lib.hid hx
                obtain ⟨⟨k1_, k2_⟩, -, -⟩ := FA.out wj hx
                by_cases hltk : k < g.ps.length
                · obtain ⟨b1, o1, rfl, hb1, d1⟩ := HC5.out k hltk
                  have e1 := ((bcell hx).1 _ (o1 + k) hb1).trans d1
                  have hi2 : (k : Int) < (g.ps.length : Int) := by omega
                  obtain ⟨hfn, hfk⟩ := fst_is (pAt g.ps k) (pAt_ok OK.out.pz k)
                  have HFK := Lib.hid hfk
                  have hns : ∀ wq : World, (Op.unary .neg (.float .f32 (hV (pAt g.ps k)))).run Try.prog wq = .ok (.float .f32 (hV (pAt g.ps k) ^^^ 2147483648)) wq := fun wq => run_negF wq _
                  have hnm : ∀ wq : World, (Builtin.max_ #[31, 31] 31 #[.float .f32 (hV (pAt g.ps k)), .float .f32 (hV (pAt g.ps k) ^^^ 2147483648)]).run Try.prog wq = .ok (.float .f32 (hV (pAt g.ps k).natAbs)) wq := fun wq => run_maxOf wq (max_hV _ (pAt_ok OK.out.pz k).1 (pAt_ok OK.out.pz k).2)
                  have hmu : ∀ (wq : World) (t : TypeId), (binOp .mul t (.float .f32 1073741824) (.float .f32 (hV (pAt g.ps k).natAbs))).run Try.prog wq = .ok (.float .f32 (fstV (pAt g.ps k))) wq := fun wq t => run_fine .mul (by simp) wq t _ _ hfn
                  clear d1 hfn hfk hx
                  generalize hV (pAt g.ps k) ^^^ 2147483648 = y at *
                  generalize hV (pAt g.ps k) = x at *
                  generalize hV (pAt g.ps k).natAbs = m at *
                  generalize fstV (pAt g.ps k) = f at *
                  go_wp2_with fail
                  refine region_rel_all (by kernel_rfl) (by kernel_rfl) (Drawn wj) (fun _ _ _ => False) ⟨1, rfl⟩ ?_
                  iterate 14 (refine wpRel_draw rfl rfl (fun nq K hK => ?_); go_wp2)
                  refine wpRel_nil ?_
                  rintro wd ⟨nd, hwd⟩
                  have XD : Hid (Ext W15 wd) := Lib.hid (by rw [hwd]; exact Below.drewN HX.out nd)
                  clear hwd k1_ k2_ e1 hns hnm hmu
                  go_wp2_with fail
                  go_loopw [24] (fun i wr => ∃ t : Nat, t ≤ g.T ∧ i = .int .i64 t ∧ Ext W15 wr) (fun i _ => g.T - (intOf i).toNat)
                  case atStart => exact ⟨0, Nat.zero_le _, rfl, XD.out⟩
                  case round =>
                    clear XD HX
                    obtain ⟨wl, rfl⟩ : ∃ wl : World, wl = wr := ⟨_, rfl⟩
                    obtain ⟨t, ht, rfl, hx⟩ := hrel
                    have HX := Lib.hid hx
                    obtain ⟨⟨k1_, k2_⟩, -, i2_⟩ := FA.out wl hx
                    obtain ⟨b3, o3, a7, c7, rfl, hb3, d3, R3⟩ := HR5.out k hltk
                    obtain ⟨b4, o4, a8, c8, rfl, hb4, d4, R4⟩ := HR15.out k hltk
                    have e3 := ((bcell hx).1 _ (o3 + k) hb3).trans d3
                    have e4 := ((bcell hx).1 _ (o4 + k) hb4).trans d4
                    by_cases hlt : t < g.T
                    · have hzt := (OK.out.row k hltk).2 t hlt
                      have hmt := (mut_row g OK.out k hltk).2 t hlt
                      obtain ⟨b5, o5, rfl, hb5, d5⟩ := elem_at R3 (by rw [List.length_map]; exact (OK.out.row k hltk).1) t hlt (x := qv ((zAt g.zss k).getD t 0)) (by simp [List.getD_eq_getElem?_getD, List.getElem?_map, List.getElem?_eq_getElem (show t < (zAt g.zss k).length by rw [(OK.out.row k hltk).1]; exact hlt)]) (qv_notNan hzt)
                      have e5 := ((bcell hx).1 _ (o5 + t) hb5).trans d5
                      have hi3 : (t : Int) < (g.T : Int) := by omega
                      obtain ⟨q1, q2⟩ := HFK.out t (by omega)
                      by_cases hh : (t : Int) < (pAt g.ps k).natAbs
                      · rw [if_pos hh] at hmt
                        rw [decide_eq_true hh] at q1 q2
                        obtain ⟨b6, o6, rfl, hb6, d6⟩ := elem_at R4 (mut_row g OK.out k hltk).1 t hlt hmt (by decide +kernel)
                        have e6 := ((bcell hx).1 _ (o6 + t) hb6).trans d6
                        have hz0 : (FloatKind.f32.format.order 0 0 != some Ordering.eq) = false := by decide +kernel
                        clear hmt hh hx d3 d4 d5 d6 R3 R4 hzt
                        generalize qv ((zAt g.zss k).getD t 0) = q at *
                        go_wp2_with fail
                        refine region_rel_all (by kernel_rfl) (by kernel_rfl) (Drawn wl) (fun _ _ _ => False) ⟨1, rfl⟩ ?_
                        iterate 40 (first | (refine wpRel_draw rfl rfl (fun nq K hK => ?_); go_wp2) | (refine wpRel_skip rfl ?_; simp only [Act.put, List.setIfInBounds_toArray, List.set_cons_succ, List.set_cons_zero]))
                        refine wpRel_nil ?_
                        rintro wd ⟨nd, hwd⟩
                        have XD : Hid (Ext W15 wd) := Lib.hid (by rw [hwd]; exact Below.drewN HX.out nd)
                        clear hwd k1_ k2_ i2_ e3 e4 e5 e6 q1 q2
                        go_wp2_with fail
                        exact ⟨⟨t + 1, by omega, by go_num, XD.out⟩, by simp [intOf]; omega⟩
                      · rw [if_neg hh] at hmt
                        rw [decide_eq_false hh] at q1 q2
                        obtain ⟨b6, o6, rfl, hb6, d6⟩ := elem_at R4 (mut_row g OK.out k hltk).1 t hlt hmt (qv_notNan hzt)
                        have e6 := ((bcell hx).1 _ (o6 + t) hb6).trans d6
                        have hz0 : (FloatKind.f32.format.order (qv ((zAt g.zss k).getD t 0)) (qv ((zAt g.zss k).getD t 0)) != some Ordering.eq) = false := by rw [order_self (qv_notNan hzt)]; rfl
                        clear hmt hh hx d3 d4 d5 d6 R3 R4 hzt
                        generalize qv ((zAt g.zss k).getD t 0) = q at *
                        go_wp2_with fail
                        refine region_rel_all (by kernel_rfl) (by kernel_rfl) (Drawn wl) (fun _ _ _ => False) ⟨1, rfl⟩ ?_
                        iterate 40 (first | (refine wpRel_draw rfl rfl (fun nq K hK => ?_); go_wp2) | (refine wpRel_skip rfl ?_; simp only [Act.put, List.setIfInBounds_toArray, List.set_cons_succ, List.set_cons_zero]))
                        refine wpRel_nil ?_
                        rintro wd ⟨nd, hwd⟩
                        have XD : Hid (Ext W15 wd) := Lib.hid (by rw [hwd]; exact Below.drewN HX.out nd)
                        clear hwd k1_ k2_ i2_ e3 e4 e5 e6 q1 q2
                        go_wp2_with fail
                        exact ⟨⟨t + 1, by omega, by go_num, XD.out⟩, by simp [intOf]; omega⟩
                    · clear R3 R4 d3 d4 hx
                      go_wp2_with fail
                      exact ⟨⟨k + 1, by omega, by go_num, HX.out⟩, by simp [intOf]; omega⟩
                · clear hx
                  go_wp2_with fail
                  go_ret
                  exact TrueB.mk (Ext.trans XW.out HX.out)
end Go.Proofs.Ytjhbcnmkamkkaaa
