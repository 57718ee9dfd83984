/- Walks: slices.Sort of at most twelve integers: the library's insertion sort. -/
import Derived.Test.YtibojlpeaolfbaaSt1
import Derived.Sort.LotA
import Derived.BigGuard
import Derived.BigCall
import Derived.CellFam
import Derived.Deep.Draws
import Derived.Deep.QuietTactic
import Derived.BigQuiet
import Derived.Deep.CutRange
import Derived.Deep.DeepCutAuto
import Derived.Deep.RegionWith
namespace Go.Proofs.Ytibojlpeaolfbaa
open Go Go.RowKit Go.Sort

theorem insInner_go (a j : Nat) (d : Array Int) (hj : a < j) (hl : d[j]! < d[j - 1]!) : insInner ltInt a j d = insInner ltInt a (j - 1) (swp d j (j - 1)) := by
  obtain ⟨k, rfl⟩ : ∃ k, j = k + 1 := ⟨j - 1, by omega⟩
  rw [insInner]
  simp only [Nat.add_sub_cancel] at hl ⊢
  have : ltInt d[k + 1]! d[k]! = true := by simp [ltInt, hl]
  simp [hj, this]
theorem insInner_stop (a j : Nat) (d : Array Int) (h : j ≤ a ∨ ¬ d[j]! < d[j - 1]!) : insInner ltInt a j d = d := by
  cases j with
  | zero => rw [insInner]
  | succ k =>
    rw [insInner]
    simp only [Nat.add_sub_cancel] at h
    rcases h with h | h
    · simp [show ¬ k + 1 > a by omega]
    · have : ltInt d[k + 1]! d[k]! = false := by simp [ltInt]; omega
      simp [this]
theorem insOuter_go (a b i : Nat) (d : Array Int) (h : i < b) : insOuter ltInt a b i d = insOuter ltInt a b (i + 1) (insInner ltInt a i d) := by rw [insOuter, if_pos h]
theorem insOuter_stop (a b i : Nat) (d : Array Int) (h : ¬ i < b) : insOuter ltInt a b i d = d := by rw [insOuter, if_neg h]

set_option maxRecDepth 100000 in
set_option maxHeartbeats 400000 in
theorem less_any (w : World) (x y : Int) :
    Calls Try.prog 155 #[.int .i64 x, .int .i64 y] w fun e w' => e = .returned (.bool (decide (x < y))) ∧ w' = w := by
  go_enter Try.func155, Try.ntmps155
  go_wp2
  go_ret
  exact ⟨by simp, rfl⟩
/-- The row of block g holds the array d. -/
def ArrI (w : World) (B g cap : Nat) (d : Array Int) : Prop := OwnI w B (.slice (some ⟨g, 0, none⟩) d.size cap) d.toList
theorem ArrI.cell {w : World} {B g cap : Nat} {d : Array Int} (h : ArrI w B g cap d) (k : Nat) (hk : k < d.size) : w.cell? ⟨g, k, none⟩ = some (.int .i64 d[k]!) ∧ w.frozen? ⟨g, k, none⟩ = false := by
  refine ⟨?_, World.ownsRow.frozenAt h k⟩
  rw [World.ownsRow.cellAt h k (by simpa using hk)]
  simp [hk]
theorem ArrI.stored {w : World} {B g cap : Nat} {d : Array Int} (h : ArrI w B g cap d) (k : Nat) (x : Int) : ArrI (w.setCell ⟨g, k, none⟩ (.int .i64 x)) B g cap (d.setIfInBounds k x) := by
  unfold ArrI OwnI at h ⊢
  have := (World.ownsRow.stored h k (.int .i64 x)).1
  rw [Array.size_setIfInBounds, Array.toList_setIfInBounds, List.map_set, List.length_set]
  exact this
theorem ArrI.drewN {w : World} {B g cap : Nat} {d : Array Int} (h : ArrI w B g cap d) (n : Nat) : ArrI (w.drewN n) B g cap d := h
set_option maxRecDepth 100000 in
set_option maxHeartbeats 3200000 in
theorem insSort_any (w : World) (B g cap : Nat) (d : Array Int) (h : ArrI w B g cap d) (hn : d.size ≤ 1000) :
    Calls Try.prog 149 #[.slice (some ⟨g, 0, none⟩) d.size cap, .int .i64 0, .int .i64 d.size] w fun e w' => e = .returned (.tuple #[]) ∧ ArrI w' B g cap (Sort.insertionSort ltInt d 0 d.size) ∧ w.grownBy w' (some g) := by
  obtain ⟨R, hR⟩ : ∃ R, Sort.insertionSort ltInt d 0 d.size = R := ⟨_, rfl⟩
  have hR1 : insOuter ltInt 0 d.size 1 d = R := hR
  rw [hR]
  clear hR
  go_enter Try.func149, Try.ntmps149
  go_wp2_with fail
  go_loopw [6] (fun vi wr => ∃ (i : Nat) (dk : Array Int), vi = .int .i64 i ∧ 0 < i ∧ i ≤ d.size + 1 ∧ dk.size = d.size ∧ ArrI wr B g cap dk ∧ insOuter ltInt 0 d.size i dk = R ∧ w.grownBy wr (some g)) (fun vi _ => d.size + 1 - (intOf vi).toNat)
  case atStart => exact ⟨1, d, rfl, by decide, by omega, rfl, h, hR1, World.grownBy.refl _ _⟩
  case round =>
    obtain ⟨wi, rfl⟩ : ∃ wi : World, wi = wr := ⟨_, rfl⟩
    obtain ⟨i, dk, rfl, hi0, hib, hsk, hA, hO, hgw⟩ := hrel
    have HO := Lib.hid hO
    clear hR1
    have HA := Lib.hid hA
    clear hO hA h
    by_cases hlt : i < d.size
    · have HOg := Lib.hid (insOuter_go 0 d.size i dk hlt)
      go_wp2_with fail
      go_loopw [7] (fun vj wr2 => ∃ (j : Nat) (dj : Array Int), vj = .int .i64 j ∧ j ≤ i ∧ dj.size = d.size ∧ ArrI wr2 B g cap dj ∧ insInner ltInt 0 j dj = insInner ltInt 0 i dk ∧ w.grownBy wr2 (some g)) (fun vj _ => (intOf vj).toNat)
      case atStart => exact ⟨i, dk, rfl, Nat.le_refl _, hsk, HA.out, rfl, hgw⟩
      case round =>
        obtain ⟨wj, rfl⟩ : ∃ wj : World, wj = wr := ⟨_, rfl⟩
        obtain ⟨j, dj, rfl, hji, hsj, hAj, hI, hgj⟩ := hrel
        have HI := Lib.hid hI
        have HAj := Lib.hid hAj
        obtain ⟨x, hx⟩ : ∃ x, dj[j]! = x := ⟨_, rfl⟩
        obtain ⟨c1, z1⟩ := hAj.cell j (by omega)
        rw [hx] at c1
        by_cases hj0 : 0 < j
        · obtain ⟨y, hy⟩ : ∃ y, dj[j - 1]! = y := ⟨_, rfl⟩
          obtain ⟨c2, z2⟩ := hAj.cell (j - 1) (by omega)
          rw [hy] at c2
          have HX := Lib.hid hx
          have HY := Lib.hid hy
          clear hx hy hI hAj
          have hj0' : (0 : Int) < (j : Int) := by omega
          have hjs : ((j : Int) - 1) = ((j - 1 : Nat) : Int) := by omega
          go_upto_region 4 with fail
          refine region_rel_all (by kernel_rfl) (by kernel_rfl) (Drawn wj) (fun _ _ v => v = .bool (decide (x < y))) ⟨1, rfl⟩ ?_
          repeat (refine wpRel_draw rfl rfl (fun nq K hK => ?_); go_wp2)
          refine wpRel_callG #[.int .i64 x, .int .i64 y] rfl Try.func155 (by kernel_rfl) (by kernel_rfl) (by simp [go_sem]) ⟨wj, 0, rfl⟩ ⟨_, rfl⟩ ?_ ?_
          · rintro wd ⟨nd, rfl⟩
            refine (less_any _ x y).mono ?_
            rintro e w'' ⟨rfl, rfl⟩
            exact ⟨_, rfl, rfl, nd, rfl⟩
          · rintro v rfl
            simp only [Act.put, List.setIfInBounds_toArray, List.set_cons_succ, List.set_cons_zero]
            repeat (refine wpRel_draw rfl rfl (fun nq K hK => ?_); go_wp2)
            refine wpRel_nil ?_
            rintro wd ⟨nd, hwd⟩
            have Hwd := Lib.hid hwd
            have k1 : wd.cell? ⟨g, j, none⟩ = some (.int .i64 x) := by rw [hwd]; exact c1
            have k2 : wd.cell? ⟨g, j - 1, none⟩ = some (.int .i64 y) := by rw [hwd]; exact c2
            have f1 : wd.frozen? ⟨g, j, none⟩ = false := by rw [hwd]; exact z1
            have f2 : wd.frozen? ⟨g, j - 1, none⟩ = false := by rw [hwd]; exact z2
            clear hwd c1 c2 z1 z2
            by_cases hxy : x < y
            · go_upto_region 6 with fail
              go_region
              go_wp2
              have hgo := Lib.hid (insInner_go 0 j dj hj0 (by rw [HX.out, HY.out]; exact hxy))
              go_roundw
              case rel =>
                refine ⟨j - 1, swp dj j (j - 1), by go_num, by omega, by rw [swp_size]; exact hsj, ?_, by rw [← hgo.out]; exact HI.out, ?_⟩
                · unfold swp
                  rw [HX.out, HY.out, Hwd.out]
                  exact ((HAj.out.drewN nd).stored j y).stored (j - 1) x
                · rw [Hwd.out]
                  exact grownBy_trans (grownBy_trans (grownBy_trans (grownBy_trans hgj (grownBy_drewN _ _ _)) (grownBy_setCell _ _ _ _)) (grownBy_setCell _ _ _ _)) ⟨rfl, rfl, rfl, Nat.le_refl _, fun _ _ _ => rfl⟩
              case measure => simp [intOf]; omega
            · have HST := Lib.hid (insInner_stop 0 j dj (.inr (by rw [HX.out, HY.out]; exact hxy)))
              go_wp2
              go_roundw
              case rel =>
                refine ⟨i + 1, dj, by go_num, by omega, by omega, hsj, ?_, ?_, ?_⟩
                · rw [Hwd.out]; exact HAj.out.drewN nd
                · rw [← HO.out, HOg.out, ← HI.out, HST.out]
                · rw [Hwd.out]; exact grownBy_trans hgj (grownBy_drewN _ _ _)
              case measure => simp [intOf]; omega
        · have hjz : ¬ (0 : Int) < (j : Int) := by omega
          have HST := Lib.hid (insInner_stop 0 j dj (.inl (by omega)))
          clear hx hI hAj
          go_upto_region 4 with fail
          refine region_rel_all (by kernel_rfl) (by kernel_rfl) (Drawn wj) (fun _ _ _ => False) ⟨1, rfl⟩ ?_
          iterate 4 (refine wpRel_draw rfl rfl (fun nq K hK => ?_); go_wp2)
          iterate 10 (refine wpRel_skip rfl ?_; simp only [Act.put, List.setIfInBounds_toArray, List.set_cons_succ, List.set_cons_zero])
          refine wpRel_draw rfl rfl (fun nq K hK => ?_)
          go_wp2
          refine wpRel_nil ?_
          rintro wd ⟨nd, hwd⟩
          have Hwd := Lib.hid hwd
          clear hwd
          go_wp2
          go_roundw
          case rel =>
            refine ⟨i + 1, dj, by go_num, by omega, by omega, hsj, ?_, ?_, ?_⟩
            · rw [Hwd.out]; exact HAj.out.drewN nd
            · rw [← HO.out, HOg.out, ← HI.out, HST.out]
            · rw [Hwd.out]; exact grownBy_trans hgj (grownBy_drewN _ _ _)
          case measure => simp [intOf]; omega
    · have HR : Hid (dk = R) := Lib.hid (by rw [← HO.out, insOuter_stop 0 d.size i dk hlt])
      go_wp2
      go_end0
      refine ⟨rfl, ?_, hgw⟩
      rw [← HR.out]
      exact HA.out
end Go.Proofs.Ytibojlpeaolfbaa
