/- Walks: slices.Sort of at most twelve integers. -/
import Derived.Test.YtibojlpeaolfbaaIns
import Derived.Test.YtibojlpeaolfbaaShelf6
import Derived.Lib.SlicesCompact
import Derived.Lib.SliceRun
namespace Go.Proofs.Ytibojlpeaolfbaa
open Go Go.RowKit
open Go.Sort (ltInt insertionSort)

set_option maxRecDepth 100000 in
set_option maxHeartbeats 1600000 in
theorem pdq_any (w : World) (B g cap : Nat) (d : Array Int) (h : ArrI w B g cap d) (hn : d.size ≤ 12) (lim : Int) :
    Calls Try.prog 137 #[.slice (some ⟨g, 0, none⟩) d.size cap, .int .i64 0, .int .i64 d.size, .int .i64 lim] w fun e w' => e = .returned (.tuple #[]) ∧ ArrI w' B g cap (Sort.insertionSort ltInt d 0 d.size) ∧ w.grownBy w' (some g) := by
  have HK := Lib.hid (insSort_any w B g cap d h (by omega))
  obtain ⟨R, hR⟩ : ∃ R, Sort.insertionSort ltInt d 0 d.size = R := ⟨_, rfl⟩
  rw [hR] at HK ⊢
  clear hR h
  go_enter Try.func137, Try.ntmps137
  go_wp2_with fail
  refine wp_loop_rounds 1 ?_
  rw [rounds_succ]
  go_wp2_with fail
  refine HK.out.mono ?_
  rintro e w1 ⟨rfl, h1, h2⟩
  have H1 := Lib.hid h1
  clear h1
  go_wp2
  refine bodyPost_ret (results_none rfl _ _ _) rfl ?_
  exact ⟨rfl, H1.out, h2⟩
set_option maxRecDepth 100000 in
set_option maxHeartbeats 1600000 in
theorem sort_any (w : World) (B g cap : Nat) (d : Array Int) (h : ArrI w B g cap d) (hn : d.size ≤ 12) :
    Calls Try.prog 112 #[.slice (some ⟨g, 0, none⟩) d.size cap] w fun e w' => e = .returned (.tuple #[]) ∧ ArrI w' B g cap (Sort.insertionSort ltInt d 0 d.size) ∧ w.grownBy w' (some g) := by
  have HK := Lib.hid (fun lim => pdq_any w B g cap d h hn lim)
  have HL := Lib.hid (fun wq => Try.bits_Len d.size wq (by omega) (by omega))
  obtain ⟨R, hR⟩ : ∃ R, Sort.insertionSort ltInt d 0 d.size = R := ⟨_, rfl⟩
  rw [hR] at HK ⊢
  clear hR h
  go_enter Try.func112, Try.ntmps112
  go_wp2_with fail
  refine (HL.out _).mono ?_
  rintro e w1 ⟨rfl, rfl⟩
  go_wp2_with fail
  refine (HK.out _).mono ?_
  rintro e w2 ⟨rfl, h1, h2⟩
  have H1 := Lib.hid h1
  clear h1
  go_wp2
  go_end0
  exact ⟨rfl, H1.out, h2⟩
theorem ArrI.front {w : World} {B g cap k : Nat} {d : Array Int} (h : ArrI w B g cap d) (hk : k ≤ d.size) : OwnI w B (.slice (some ⟨g, 0, none⟩) k cap) (d.toList.take k) := by
  rcases h.2 with ⟨hv, -⟩ | ⟨g', cap', cur, hv, hB, hg, hc1, hc2, hc3, hc4⟩
  · cases hv
  · cases hv
    have hl : (d.toList.take k).length = k := by simp; omega
    unfold OwnI
    rw [hl]
    refine ⟨by simp; omega, .inr ⟨g, cap, cur, rfl, hB, hg, by simp at hc1; omega, hc2, hc3, ?_⟩⟩
    simp only [Nat.mul_one] at hc4 ⊢
    rw [List.map_take, ← hc4, List.take_take]
    congr 1
    simp
    omega
theorem ArrI.setCells {B g cap : Nat} (xs : List Int) : ∀ (d : Array Int) (k : Nat) (w : World), ArrI w B g cap d → ArrI (w.setCells g k (xs.map (Value.int .i64))) B g cap (Lib.lay d k xs) := by
  induction xs with
  | nil => intro d k w h; exact h
  | cons x r ih => intro d k w h; exact ih _ _ _ (h.stored k x)
theorem grownBy_setCells (g : Nat) (xs : List Value) : ∀ (k : Nat) (w : World), w.grownBy (w.setCells g k xs) (some g) := by
  induction xs with
  | nil => intro k w; exact World.grownBy.refl _ _
  | cons x r ih => intro k w; exact grownBy_trans (grownBy_setCell w g k x) (ih _ _)
set_option maxRecDepth 100000 in
set_option maxHeartbeats 3200000 in
theorem compact_any (w : World) (B g cap : Nat) (d : Array Int) (h : ArrI w B g cap d) (hn : d.size ≤ 1000) (hcap : d.size ≤ cap) :
    Calls Try.prog 113 #[.slice (some ⟨g, 0, none⟩) d.size cap] w fun e w' => ∃ v, e = .returned v ∧ OwnI w' B v (Lib.compactUpTo d d.size) ∧ w.grownBy w' (some g) := by
  have same : (∀ j, j < d.size → Lib.keeps d j = true) → Lib.compactUpTo d d.size = d.toList := fun hall => by rw [Lib.compactUpTo_all d _ hall, Lib.range_map_get]
  have HS := Lib.hid same
  clear same
  have H := Lib.hid h
  by_cases h2 : d.size < 2
  · have h2' : (d.size : Int) < 2 := by omega
    have HE := Lib.hid (HS.out (fun j hj => Lib.keeps_lt_one d j (by omega)))
    clear h HS
    go_enter Try.func113, Try.ntmps113
    go_wp2
    go_ret
    exact ⟨_, rfl, by rw [HE.out]; exact H.out, World.grownBy.refl _ _⟩
  · have h2' : ¬ (d.size : Int) < 2 := by omega
    clear h
    go_enter Try.func113, Try.ntmps113
    go_wp2_with fail
    go_loopw [3] (fun s3 wr => ∃ k q : Nat, 1 ≤ k ∧ k ≤ d.size ∧ s3 = .int .i64 k ∧ wr = w.drewN q ∧ ∀ j, j < k → Lib.keeps d j = true) (fun s3 _ => d.size - (intOf s3).toNat)
    case atStart => exact ⟨1, 0, Nat.le_refl _, by omega, rfl, rfl, Lib.keeps_lt_one d⟩
    case round =>
      obtain ⟨wi, rfl⟩ : ∃ wi : World, wi = wr := ⟨_, rfl⟩
      obtain ⟨k, q, hk1, hk, rfl, hq, hall⟩ := hrel
      have A := Lib.hid hall
      have Hi : Hid (ArrI wi B g cap d) := Lib.hid (by rw [hq]; exact H.out.drewN q)
      have Hg : Hid (w.grownBy wi (some g)) := Lib.hid (by rw [hq]; exact grownBy_drewN _ _ _)
      have Hq := Lib.hid hq
      clear hall hq
      by_cases hlt : k < d.size
      · obtain ⟨c1, f1⟩ := Hi.out.cell k hlt
        obtain ⟨c0, f0⟩ := Hi.out.cell (k - 1) (by omega)
        obtain ⟨x, hx⟩ : ∃ x, d[k]! = x := ⟨_, rfl⟩
        obtain ⟨y, hy⟩ : ∃ y, d[k - 1]! = y := ⟨_, rfl⟩
        rw [hx] at c1
        rw [hy] at c0
        have HX := Lib.hid hx
        have HY := Lib.hid hy
        clear hx hy f0 f1
        have hks : ((k : Int) - 1) = ((k - 1 : Nat) : Int) := by omega
        go_upto_region 6 with fail
        refine region_rel_all (by kernel_rfl) (by kernel_rfl) (Drawn wi) (fun _ _ _ => False) ⟨1, rfl⟩ ?_
        repeat (refine wpRel_draw rfl rfl (fun nq K hK => ?_); go_wp2)
        refine wpRel_nil ?_
        rintro wd ⟨nd, hwd⟩
        have Hwd := Lib.hid hwd
        clear hwd c0 c1
        by_cases hxy : x = y
        · subst hxy
          have Hi' : Hid (ArrI wd B g cap d) := Lib.hid (by rw [Hwd.out]; exact Hi.out.drewN nd)
          have Hg' : Hid (w.grownBy wd (some g)) := Lib.hid (grownBy_trans Hg.out (by rw [Hwd.out]; exact grownBy_drewN _ _ _))
          clear Hwd Hi Hg Hq
          go_wp2_with fail
          go_loopw [3, 5] (fun s3 s5 wr => ∃ (kk k2 : Nat) (dk : Array Int), s3 = .int .i64 kk ∧ s5 = .int .i64 k2 ∧ 1 ≤ k2 ∧ k + k2 ≤ d.size ∧ ArrI wr B g cap dk ∧ w.grownBy wr (some g) ∧ Lib.CompInv d (k + k2) kk dk) (fun _ s5 _ => d.size - k - (intOf s5).toNat)
          case atStart => exact ⟨k, 1, d, rfl, rfl, Nat.le_refl _, by omega, Hi'.out, Hg'.out, Lib.CompInv.start A.out (Lib.keeps_neg (by omega) (by rw [HX.out, HY.out]))⟩
          case round =>
            obtain ⟨wj, rfl⟩ : ∃ wj : World, wj = wr := ⟨_, rfl⟩
            obtain ⟨kk, k2, dk, rfl, rfl, h1, hle, hA, hG, hI⟩ := hrel
            have hkk := hI.lt
            have hds := hI.size
            have A2 := Lib.hid hA
            have G2 := Lib.hid hG
            have I2 := Lib.hid hI
            clear hG
            by_cases hlt2 : k + k2 < d.size
            · obtain ⟨cm, _⟩ := hA.cell (k + k2) (by omega)
              obtain ⟨cp, _⟩ := hA.cell (k + k2 - 1) (by omega)
              obtain ⟨ck, fk⟩ := hA.cell kk (by omega)
              rw [hI.high (k + k2) (by omega)] at cm
              rw [hI.high (k + k2 - 1) (by omega), show k + k2 - 1 = k + (k2 - 1) by omega] at cp
              clear hA hI
              obtain ⟨u, hu⟩ : ∃ u, d[k + k2]! = u := ⟨_, rfl⟩
              obtain ⟨v, hv⟩ : ∃ v, d[k + k2 - 1]! = v := ⟨_, rfl⟩
              obtain ⟨old, hold⟩ : ∃ old, dk[kk]! = old := ⟨_, rfl⟩
              rw [hu] at cm
              rw [show k + (k2 - 1) = k + k2 - 1 by omega, hv, show k + k2 - 1 = k + (k2 - 1) by omega] at cp
              rw [hold] at ck
              clear hold
              have HU := Lib.hid hu
              have HV := Lib.hid hv
              clear hu hv
              have hks2 : ((k2 : Int) - 1) = ((k2 - 1 : Nat) : Int) := by omega
              go_upto_region 11 with fail
              refine region_rel_all (by kernel_rfl) (by kernel_rfl) (Drawn wj) (fun _ _ _ => False) ⟨1, rfl⟩ ?_
              repeat (refine wpRel_draw rfl rfl (fun nq K hK => ?_); go_wp2)
              refine wpRel_nil ?_
              rintro wd2 ⟨nd2, hwd2⟩
              have Hwd2 := Lib.hid hwd2
              clear hwd2 cm cp ck fk
              by_cases huv : u = v
              · subst huv
                go_wp2
                go_roundw
                case rel => exact ⟨kk, k2 + 1, dk, rfl, by go_num, by omega, by omega, by rw [Hwd2.out]; exact A2.out.drewN nd2, grownBy_trans G2.out (by rw [Hwd2.out]; exact grownBy_drewN _ _ _), I2.out.skip (Lib.keeps_neg (by omega) (by rw [HU.out, HV.out]))⟩
                case measure => simp [intOf]; omega
              · have A3 : Hid (ArrI wd2 B g cap dk) := Lib.hid (by rw [Hwd2.out]; exact A2.out.drewN nd2)
                have G3 : Hid (w.grownBy wd2 (some g)) := Lib.hid (grownBy_trans G2.out (by rw [Hwd2.out]; exact grownBy_drewN _ _ _))
                clear Hwd2
                obtain ⟨cm, fm⟩ := A3.out.cell (k + k2) (by omega)
                obtain ⟨ck, fk⟩ := A3.out.cell kk (by omega)
                rw [I2.out.high (k + k2) (by omega), HU.out] at cm
                go_wp2
                go_roundw
                case rel => exact ⟨kk + 1, k2 + 1, dk.setIfInBounds kk u, by go_num, by go_num, by omega, by omega, A3.out.stored kk u, grownBy_trans G3.out (grownBy_setCell _ _ _ _), by have := I2.out.keep hlt2 (Lib.keeps_pos (by rw [HU.out, HV.out]; exact huv)); rwa [HU.out] at this⟩
                case measure => simp [intOf]; omega
            · have hend : k + k2 = d.size := by omega
              have hz3 : ∀ w, (zeroValue 2).run Try.prog w = .ok (.int .i64 0) w := fun w => by rfl
              have hcl : ∀ ty, (Builtin.clear_ #[62] ty #[.slice (some ⟨g, kk, none⟩) (d.size - kk) (cap - kk)]).run Try.prog wj = .ok (.tuple #[]) (wj.setCells g kk (List.replicate (d.size - kk) (.int .i64 0))) := by
                intro ty
                refine Lib.run_clear_slice wj _ 2 ty _ Try.underlying62 hz3 rfl rfl g kk _ _ (by omega) (fun j hj => ?_) (fun j hj => (A2.out.cell (kk + j) (by omega)).2)
                rw [(A2.out.cell (kk + j) (by omega)).1]
                rfl
              have H4 : Hid (ArrI (wj.setCells g kk (List.replicate (d.size - kk) (.int .i64 0))) B g cap (Lib.lay dk kk (List.replicate (d.size - kk) 0))) := Lib.hid (by
                have := A2.out.setCells (List.replicate (d.size - kk) 0) dk kk wj
                rwa [List.map_replicate] at this)
              have G4 : Hid (w.grownBy (wj.setCells g kk (List.replicate (d.size - kk) (.int .i64 0))) (some g)) := Lib.hid (grownBy_trans G2.out (grownBy_setCells _ _ _ _))
              clear hA hI hz3
              go_wp2
              go_ret
              have hI := I2.out
              rw [hend] at hI
              have H5 := H4.out
              have hd0 := hI.done 0
              rw [hd0] at H5
              refine ⟨_, rfl, ?_, G4.out⟩
              have := H5.front (k := kk) (by simp [hI.len])
              rw [List.toList_toArray, List.take_left' hI.len] at this
              exact this
        · go_wp2
          go_roundw
          case rel =>
            refine ⟨k + 1, q + nd, by omega, by omega, by go_num, by rw [Hwd.out, Hq.out, World.drewN_drewN], fun j hj => ?_⟩
            by_cases e : j = k
            · subst e
              exact Lib.keeps_pos (by rw [HX.out, HY.out]; exact hxy)
            · exact A.out j (by omega)
          case measure => simp [intOf]; omega
      · obtain rfl : k = d.size := by omega
        have HE := Lib.hid (HS.out A.out)
        go_wp2
        go_ret
        exact ⟨_, rfl, by rw [HE.out]; exact Hi.out, Hg.out⟩
end Go.Proofs.Ytibojlpeaolfbaa
