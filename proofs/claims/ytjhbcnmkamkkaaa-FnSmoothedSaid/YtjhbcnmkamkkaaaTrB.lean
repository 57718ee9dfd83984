/- Walks: mirrored traces, equal lists, sizes, the best number. -/
import Derived.Test.YtjhbcnmkamkkaaaTrA
import Derived.Test.YtjhbcnmkamkkaaaNumB
namespace Go.Proofs.Ytjhbcnmkamkkaaa
open Go Go.RowKit

theorem beq_cast (x y : Nat) : ((x : Int) == (y : Int)) = (x == y) := by
  rw [Bool.eq_iff_iff]; simp only [beq_iff_eq]; omega
set_option maxRecDepth 100000 in
theorem l01Same_any (w : World) (r s x y : Nat) (hr : FV .f32 r x) (hs : FV .f32 s y) :
    Calls Try.prog 108 #[.float .f32 r, .float .f32 s] w fun e w' => e = .returned (.bool (x == y)) ∧ w' = w := by
  rw [← beq_cast]
  go_enter Try.func108, Try.ntmps108
  go_wp2_with fail
  refine (l01Bits_any w r x hr).mono ?_
  rintro e1 w1 ⟨rfl, rfl⟩
  go_wp2_with fail
  refine (l01Bits_any _ s y hs).mono ?_
  rintro e2 w2 ⟨rfl, rfl⟩
  go_wp2
  go_ret
  exact ⟨rfl, rfl⟩
set_option maxRecDepth 100000 in
theorem specSame_any (w : World) (r s x : Nat) (hr : FV .f32 r x) (hs : FV .f32 s x) :
    Calls Try.prog 74 #[.float .f32 r, .float .f32 s] w fun e w' => e = .returned (.bool true) ∧ w' = w := by
  have K := l01Same_any w r s x x hr hs
  rw [show (x == x) = true by simp] at K
  go_enter Try.func74, Try.ntmps74
  go_wp2_with fail
  refine K.mono ?_
  rintro e1 w1 ⟨rfl, rfl⟩
  go_wp2
  go_ret
  exact ⟨rfl, rfl⟩
set_option maxRecDepth 100000 in
set_option maxHeartbeats 800000 in
theorem b10List_any (w : World) (v1 v2 : Value) (L : List Nat) (h1 : RdF w v1 L) (h2 : RdF w v2 L) (hmax : L.length ≤ 1000) :
    Calls Try.prog 28 #[v1, v2] w fun e w' => e = .returned (.bool true) ∧ ∃ n, w' = w.drewN n := by
  obtain ⟨a1, c1, rfl, hc1, -, hcell1⟩ := h1.opened
  obtain ⟨a2, c2, rfl, hc2, -, hcell2⟩ := h2.opened
  clear h1 h2
  go_enter Try.func28, Try.ntmps28
  go_wp2
  go_loopw [13] (fun i wr => ∃ k q : Nat, k ≤ L.length ∧ i = .int .i64 k ∧ wr = w.drewN q) (fun i _ => L.length - (intOf i).toNat)
  case atStart => exact ⟨0, 0, Nat.zero_le _, rfl, rfl⟩
  case round =>
    obtain ⟨wi, rfl⟩ : ∃ wi : World, wi = wr := ⟨_, rfl⟩
    obtain ⟨k, q, hk, rfl, hq⟩ := hrel
    by_cases hlt : k < L.length
    · obtain ⟨b, o, r, rfl, d0, F0⟩ := hcell1 k hlt
      obtain ⟨b', o', s, rfl, g0, G0⟩ := hcell2 k hlt
      have D0 : wi.cell? ⟨b, o + k, none⟩ = some (.float .f32 r) := by rw [hq]; exact d0
      have E0 : wi.cell? ⟨b', o' + k, none⟩ = some (.float .f32 s) := by rw [hq]; exact g0
      have HF0 := Lib.hid F0
      have HG0 := Lib.hid G0
      have Hq := Lib.hid hq
      clear hcell1 hcell2 d0 g0 F0 G0 hq
      go_wp2
      refine region_rel_all (by kernel_rfl) (by kernel_rfl) (Drawn wi) (fun _ _ v => v = .bool true) ⟨1, rfl⟩ ?_
      repeat (refine wpRel_draw rfl rfl (fun nq K hK => ?_); go_wp2)
      refine wpRel_callF #[.float .f32 r, .float .f32 s] Try.func74 (by kernel_rfl) (by kernel_rfl) (by simp [go_sem]) ⟨wi, 0, rfl⟩ ⟨_, rfl⟩ ?_ ?_
      · rintro wd ⟨nd, rfl⟩
        refine (specSame_any (wi.drewN nd) r s _ HF0.out HG0.out).mono ?_
        rintro e w'' ⟨rfl, rfl⟩
        exact ⟨_, rfl, rfl, nd, rfl⟩
      · rintro v rfl
        simp only [Act.put, List.setIfInBounds_toArray, List.set_cons_succ, List.set_cons_zero]
        repeat (refine wpRel_draw rfl rfl (fun nq K hK => ?_); go_wp2)
        refine wpRel_nil ?_
        rintro wd ⟨nd, hwd⟩
        have Hwd := Lib.hid hwd
        clear hwd
        go_wp2
        exact ⟨⟨k + 1, q + nd, by omega, by go_num, by rw [Hwd.out, Hq.out, World.drewN_drewN]⟩, by simp [intOf]; omega⟩
    · have Hq := Lib.hid hq
      clear hq
      go_wp2
      go_ret
      exact ⟨rfl, q, Hq.out⟩
set_option maxRecDepth 100000 in
set_option maxHeartbeats 800000 in
theorem mirror_any (w : World) (v : Value) (L : List Nat) (h : RdF w v L) (hn : 1 ≤ L.length) (hn2 : L.length ≤ 128) :
    Calls Try.prog 23 #[v] w fun e w' => ∃ v', e = .returned (.tuple #[v', .bool true]) ∧ OwnF w' w.heap.size v' L.reverse ∧ Below w.heap.size w w' := by
  have HC := Lib.hid (clone_any w v L h (by omega))
  obtain ⟨a, c, rfl, -⟩ := h.opened
  have K := isTrace_any w a L.length c (by omega)
  rw [show inB (L.length : Int) 1 128 = true by unfold inB; simp; omega] at K
  obtain ⟨n, hnn⟩ : ∃ n, L.length = n := ⟨_, rfl⟩
  have HN := Lib.hid hnn
  clear h
  rw [hnn] at hn hn2 HC K ⊢
  clear hnn
  go_enter Try.func23, Try.ntmps23
  go_wp2_with fail
  refine K.mono ?_
  rintro e w0 ⟨rfl, hw0⟩
  obtain rfl : w = w0 := hw0.symm
  clear K hw0
  go_wp2_with fail
  refine HC.out.mono ?_
  rintro e w1 ⟨v, rfl, o1, b1⟩
  obtain ⟨g, cap, rfl, hg, -, -, -, -⟩ := o1.at_block HN.out hn
  have O1 := Lib.hid o1
  have B1 := Lib.hid b1
  clear o1 b1 HC
  go_wp2_with fail
  refine (reverse_any w1 w.heap.size g n cap L O1.out HN.out hn (by omega)).mono ?_
  rintro e w2 ⟨rfl, o2, c2⟩
  have O2 := Lib.hid o2
  have B2 := Lib.hid (Below.chg B1.out c2 (fun k hk => by omega) B1.out.size)
  clear o2 c2 O1 B1
  go_wp2
  go_ret2
  exact ⟨_, rfl, O2.out, B2.out⟩
def bi : Option Nat → Int
  | none => -1
  | some o => o
theorem bestF_lt (L : List Nat) (j : Nat) {o : Nat} (h : bestF L j = some o) : o < j := by
  induction j generalizing o with
  | zero => cases h
  | succ j ih =>
    rw [bestF] at h
    cases hb : bestF L j with
    | none =>
      rw [hb] at h
      simp only at h
      split at h
      · cases h; omega
      · cases h
    | some p =>
      rw [hb] at h
      simp only at h
      have := ih hb
      split at h
      · cases h; omega
      · cases h; omega
set_option maxRecDepth 100000 in
set_option maxHeartbeats 1600000 in
theorem best_any (w : World) (v : Value) (L : List Nat) (h : RdF w v L) (hl : L.length ≤ 1000) :
    Calls Try.prog 58 #[v] w fun e w' => e = .returned (.int .i64 (bi (bestF L L.length))) ∧ w' = w := by
  obtain ⟨a, c, rfl, hc, -, hcell⟩ := h.opened
  clear h
  go_enter Try.func58, Try.ntmps58
  go_wp2
  go_loop [3, 8] (fun q i => ∃ j : Nat, j ≤ L.length ∧ i = .int .i64 j ∧ q = .int .i64 (bi (bestF L j))) (fun _ i => L.length - (intOf i).toNat)
  case atStart => exact ⟨0, Nat.zero_le _, rfl, rfl⟩
  case round =>
    obtain ⟨j, hj, rfl, rfl⟩ := hrel
    by_cases hlt : j < L.length
    · obtain ⟨b, o, x, rfl, hx1, hx2⟩ := hcell j hlt
      have hord : FloatKind.f32.format.order x x = FloatKind.f32.format.order (L.getD j 0) (L.getD j 0) := FV.order hx2 hx2
      cases hb : bestF L j with
      | none =>
        have HN : Hid (bestF L (j + 1) = if FloatKind.f32.format.order (L.getD j 0) (L.getD j 0) == some Ordering.eq then some j else none) := Lib.hid (by rw [bestF, hb])
        rw [← hord] at HN
        have e1 : bi none = -1 := rfl
        clear hcell hord hb hx2
        rw [e1]
        cases ht : FloatKind.f32.format.order x x == some Ordering.eq with
        | true =>
          rw [ht, if_pos rfl] at HN
          have HN := Lib.hid HN.out
          go_wp2
          exact ⟨⟨j + 1, by omega, by go_num, by rw [HN.out]; rfl⟩, by simp [intOf]; omega⟩
        | false =>
          rw [ht, if_neg (by decide)] at HN
          have HN := Lib.hid HN.out
          go_wp2
          exact ⟨⟨j + 1, by omega, by go_num, by rw [HN.out]; rfl⟩, by simp [intOf]; omega⟩
      | some p =>
        have hp := bestF_lt L j hb
        obtain ⟨b', o', y, hbo, hy1, hy2⟩ := hcell p (by omega)
        obtain ⟨rfl, rfl⟩ : b = b' ∧ o = o' := by injection hbo with e; injection e with e1 e2; exact ⟨e1, e2⟩
        have hord2 : FloatKind.f32.format.order x y = FloatKind.f32.format.order (L.getD j 0) (L.getD p 0) := FV.order hx2 hy2
        have HN : Hid (bestF L (j + 1) = if FloatKind.f32.format.order (L.getD j 0) (L.getD p 0) == some Ordering.gt then some j else some p) := Lib.hid (by rw [bestF, hb])
        rw [← hord2] at HN
        have e1 : bi (some p) = (p : Int) := rfl
        clear hcell hord hb hx2 hy2 hord2 hbo
        rw [e1]
        have hd0 : decide ((p : Int) < 0) = false := by simp
        have hd1 : decide ((p : Int) ≥ 0) = true := by simp
        cases ht : FloatKind.f32.format.order x y == some Ordering.gt with
        | true =>
          rw [ht, if_pos rfl] at HN
          have HN := Lib.hid HN.out
          go_wp2
          exact ⟨⟨j + 1, by omega, by go_num, by rw [HN.out]; rfl⟩, by simp [intOf]; omega⟩
        | false =>
          rw [ht, if_neg (by decide)] at HN
          have HN := Lib.hid HN.out
          go_wp2
          exact ⟨⟨j + 1, by omega, by go_num, by rw [HN.out]; rfl⟩, by simp [intOf]; omega⟩
    · obtain rfl : j = L.length := by omega
      go_wp2
      go_ret
      exact ⟨rfl, rfl⟩

set_option maxRecDepth 100000 in
set_option maxHeartbeats 1600000 in
theorem sizes_any (w : World) (v : Value) (L : List Nat) (h : RdF w v L) (hl : L.length ≤ 1000) :
    Calls Try.prog 59 #[v] w fun e w' => ∃ v', e = .returned v' ∧ OwnF w' w.heap.size v' (L.map absC) ∧ Below w.heap.size w w' := by
  have HR := Lib.hid h
  obtain ⟨a, c, rfl, hc, -, hcell⟩ := h.opened
  clear h
  go_enter Try.func59, Try.ntmps59
  go_wp2
  go_loopw [3, 8] (fun q i wr => ∃ j : Nat, j ≤ L.length ∧ i = .int .i64 j ∧ OwnF wr w.heap.size q ((L.map absC).take j) ∧ Below w.heap.size w wr) (fun _ i _ => L.length - (intOf i).toNat)
  case atStart => exact ⟨0, Nat.zero_le _, rfl, OwnF.nil _ _, Below.refl _ _⟩
  case round =>
    obtain ⟨wi, rfl⟩ : ∃ wi : World, wi = wr := ⟨_, rfl⟩
    obtain ⟨j, hj, rfl, ho, hb⟩ := hrel
    have HO := Lib.hid ho
    have HB := Lib.hid hb
    have hzi := hb.size
    by_cases hlt : j < L.length
    · obtain ⟨b, o, x, rfl, hx1, hx2⟩ := hcell j hlt
      have hx1' := ((bcell hb).1 b (o + j) (block_lt hx1)).trans hx1
      have HK := Lib.hid (absolute_any wi x _ hx2)
      have HT : Hid ((L.map absC).take (j + 1) = (L.map absC).take j ++ [absC (L.getD j 0)]) := Lib.hid (by rw [List.take_add_one, List.getElem?_map, List.getElem?_eq_getElem hlt]; simp [List.getD_eq_getElem?_getD, List.getElem?_eq_getElem hlt])
      have htl : ((L.map absC).take j).length = j := by rw [List.length_take, List.length_map]; omega
      have HTL := Lib.hid htl
      clear hcell hx1 hx2 ho hb htl
      go_wp2_with fail
      refine HK.out.mono ?_
      rintro e w3 ⟨q, n, rfl, hq, hw3⟩
      have HQ := Lib.hid hq
      have b3 : Below wi.heap.size wi w3 := by rw [hw3]; exact Below.drewN (Below.refl _ _) _
      have z3 := b3.size
      have b4 : Below wi.heap.size wi (w3.alloc (.cells #[.float .f32 q] 31)) := b3.alloc z3 _
      clear HK hq hw3
      go_wp2_with (at_builtin; go_must (refine wpList_push rfl _ _ rfl w.heap.size _ ((L.map absC).take j) rfl (HO.out.kept b4) _ _ q (absC (L.getD j 0)) rfl (cell_new _ _ _) HQ.out (by rw [HTL.out]; omega) (by rw [World.size_alloc]; omega) ?_); intro v6 w6 o6 g6 b6 _)
      exact ⟨⟨j + 1, by omega, by go_num, by rw [HT.out]; exact o6, HB.out.trans ((b4.mono hzi).trans b6)⟩, by simp [intOf]; omega⟩
    · obtain rfl : j = L.length := by omega
      have HO2 := Lib.hid (show OwnF wi w.heap.size _ (L.map absC) from by have := HO.out; rwa [show L.length = (L.map absC).length by simp, List.take_length] at this)
      clear hcell ho hb
      go_wp2
      go_ret
      exact ⟨_, rfl, HO2.out, HB.out⟩
set_option maxRecDepth 100000 in
set_option maxHeartbeats 1600000 in
theorem peak_any (w : World) (v : Value) (L : List Nat) (o : Nat) (h : RdF w v L) (hn : 1 ≤ L.length) (hn2 : L.length ≤ 128) (hb : bestF (L.map absC) L.length = some o) :
    Calls Try.prog 34 #[v] w fun e w' => ∃ r, e = .returned (.tuple #[.int .i64 o, .float .f32 r, .bool true]) ∧ FV .f32 r (L.getD o 0) ∧ Below w.heap.size w w' := by
  have HR := Lib.hid h
  have HS := Lib.hid (sizes_any w v L h (by omega))
  have holt := bestF_lt _ _ hb
  have HBest := Lib.hid (show bi (bestF (L.map absC) (L.map absC).length) = (o : Int) from by rw [List.length_map, hb]; rfl)
  obtain ⟨a, c, rfl, -⟩ := h.opened
  have K := fun wq => isTrace_any wq a L.length c (by omega)
  rw [show inB (L.length : Int) 1 128 = true by unfold inB; simp; omega] at K
  have HK := Lib.hid K
  clear h hb K
  go_enter Try.func34, Try.ntmps34
  go_wp2_with fail
  refine HS.out.mono ?_
  rintro e w1 ⟨v1, rfl, o1, b1⟩
  have HB1 := Lib.hid (best_any w1 v1 (L.map absC) o1.rd (by rw [List.length_map]; omega))
  rw [HBest.out] at HB1
  have B1 := Lib.hid b1
  clear o1 b1 HS
  go_wp2_with fail
  refine HB1.out.mono ?_
  rintro e w2 ⟨rfl, hw2⟩
  obtain rfl : w1 = w2 := hw2.symm
  clear HB1 hw2
  go_wp2_with fail
  refine (HK.out w1).mono ?_
  rintro e w2 ⟨rfl, hw2⟩
  obtain rfl : w1 = w2 := hw2.symm
  clear HK hw2
  obtain ⟨a', c', hv, hc', -, hcell⟩ := (HR.out.mono B1.out).opened
  obtain ⟨rfl, rfl⟩ : a = a' ∧ c = c' := by cases hv; exact ⟨rfl, rfl⟩
  obtain ⟨b, q, r, rfl, k0, F0⟩ := hcell o holt
  have HF := Lib.hid F0
  clear hv hcell F0
  go_wp2
  refine region_rel_all (by kernel_rfl) (by kernel_rfl) (Drawn w1) (fun _ _ _ => False) ⟨1, rfl⟩ ?_
  repeat (refine wpRel_draw rfl rfl (fun nq K hK => ?_); go_wp2)
  refine wpRel_nil ?_
  rintro wd ⟨nd, hwd⟩
  have Hwd := Lib.hid (show Below w.heap.size w wd from by rw [hwd]; exact Below.drewN B1.out nd)
  clear hwd k0
  go_wp2
  go_ret3
  exact ⟨r, rfl, HF.out, Hwd.out⟩
end Go.Proofs.Ytjhbcnmkamkkaaa
