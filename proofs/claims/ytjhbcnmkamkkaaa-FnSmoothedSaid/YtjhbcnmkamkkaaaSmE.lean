/- Walks: every cell of a section. -/
import Derived.Test.YtjhbcnmkamkkaaaSmA
namespace Go.Proofs.Ytjhbcnmkamkkaaa
open Go Go.RowKit

/-- The first k cells of a section, row by row. -/
def eachTo (G : Nat → Nat → Nat) (a k : Nat) : List Nat := (List.range k).map fun i => G (i % a) (i / a)
theorem eachTo_length (G : Nat → Nat → Nat) (a k : Nat) : (eachTo G a k).length = k := by simp [eachTo]
theorem eachTo_succ (G : Nat → Nat → Nat) {a x z k : Nat} (hx : x < a) (hk : a * z + x = k) : eachTo G a (k + 1) = eachTo G a k ++ [G x z] := by
  have h1 : k % a = x := by rw [← hk, Nat.mul_add_mod, Nat.mod_eq_of_lt hx]
  have h2 : k / a = z := by rw [← hk, Nat.mul_add_div (by omega), Nat.div_eq_of_lt hx, Nat.add_zero]
  unfold eachTo
  rw [List.range_succ, List.map_append, List.map_cons, List.map_nil, h1, h2]
theorem eachTo_getD (G : Nat → Nat → Nat) (a k i : Nat) (h : i < k) : (eachTo G a k).getD i 0 = G (i % a) (i / a) := by
  simp [eachTo, List.getD_eq_getElem?_getD, List.getElem?_map, List.getElem?_range h]
/-- What a call of the cell's function hands back. -/
def eachT (G : Nat → Nat → Nat) : FuncId → Array Value → World → Value → World → Prop := fun _ args _ u _ => ∃ r, u = .float .f32 r ∧ FV .f32 r (G (intOf (args.getD 0 undef)).toNat (intOf (args.getD 1 undef)).toNat)
section
variable {P : Program} {md : Region.Mode} {ops : Array Oper} {W : World} {T : FuncId → Array Value → World → Value → World → Prop} {Q : Act → (Nat → World) → Prop} {a : Act} {κ : Nat → World} {o : Oper} {rest : List Oper} {k : Nat}
/-- A call of a function value. -/
theorem wpRelK_callD {f : FuncId} (args : Array Value) (hg : Region.wanted o (yielded ops a.tmps) = true) (hrun : ∀ w, (execOp a.eval o).run P w = .ok (.enter f args) w)
    (hc : ∀ w, Grw md W κ o w → Calls P f args w (fun e w'' => ∃ u, e = .returned u ∧ T f args w u w'' ∧ Ext w w''))
    (hT : ∀ w, Grw md W κ o w → ∃ u w'', T f args w u w'' ∧ Ext w w'')
    (h : ∀ w, Grw md W κ o w → ∀ u w'', T f args w u w'' → Ext w w'' → wpRelK P md ops W T Q rest (k + 1) (a.put o.dst u) (upd κ k w'')) : wpRelK P md ops W T Q (o :: rest) k a κ := by
  refine ⟨fun _ w hw => ?_, ?_⟩
  · rw [hrun w]; exact ⟨hc w hw, hT w hw⟩
  · rintro v wn (⟨_, w, hw, hv⟩ | ⟨hn, _⟩)
    · rw [hrun w] at hv; exact h w hw v wn hv.1 hv.2
    · rw [hg] at hn; cases hn
end
theorem put1at {w : World} {g : Nat} {t : TypeId} {x y z : Value} (h : w.heap[g]? = some (.cells #[x, y, z] t (0, 0))) (v : Value) :
    (w.setCell ⟨g, 2, none⟩ v).heap[g]? = some (.cells #[x, y, v] t (0, 0)) ∧ Chg w (w.setCell ⟨g, 2, none⟩ v) (fun k => k = g) := by
  have P : Put w (w.setCell ⟨g, 2, none⟩ v) g t #[x, y, v] := (Put.one h 2 v).cs (by simp)
  exact ⟨P.heap, P.chg⟩
/-- Where 'each' stands: k cells are made. -/
structure EachAt (w wq : World) (a b k : Nat) (ad : Option Addr) (n c : Nat) (G : Nat → Nat → Nat) : Prop where
  bel : Below w.heap.size w wq
  s : wq.heap[w.heap.size]? = some (.cells #[.int .i64 a, .int .i64 b, .slice ad n c] 27 (0, 0))
  z : wq.heap[w.heap.size + 1]? = some (.cells #[.int .i64 0, .int .i64 0, .slice none 0 0] 27 (0, 0))
  l : ∃ ao co, wq.heap[w.heap.size + 2]? = some (.cells #[.int .i64 a, .int .i64 b, .slice ao k co] 27 (0, 0)) ∧ OwnF wq (w.heap.size + 3) (.slice ao k co) (eachTo G a k)
theorem EachAt.drewN {w wq : World} {a b k n c : Nat} {ad : Option Addr} {G : Nat → Nat → Nat} (h : EachAt w wq a b k ad n c G) (m : Nat) : EachAt w (wq.drewN m) a b k ad n c G := by
  obtain ⟨ao, co, h1, h2⟩ := h.l
  exact ⟨Below.drewN h.bel m, h.s, h.z, ao, co, h1, h2.drewN m⟩
set_option maxRecDepth 100000 in
set_option maxHeartbeats 6400000 in
theorem each2_any (w : World) (ad : Option Addr) (n c a b g h_ : Nat) (G : Nat → Nat → Nat) (ha : 1 ≤ a) (ha2 : a ≤ 16) (hb : 1 ≤ b) (hb2 : b ≤ 16) (hG : ∀ x z, ∃ r, FV .f32 r (G x z))
    (hF : ∀ wq, Below w.heap.size w wq → ∀ x z : Nat, x < a → z < b → Calls Try.prog 55 #[.int .i64 x, .int .i64 z, .pointer (some ⟨g, 0, none⟩), .pointer (some ⟨h_, 0, none⟩)] wq fun e w' => ∃ r, e = .returned (.float .f32 r) ∧ FV .f32 r (G x z) ∧ Below wq.heap.size wq w') :
    Calls Try.prog 54 #[.agg #[.int .i64 a, .int .i64 b, .slice ad n c], .func (.func 55) #[] #[.pointer (some ⟨g, 0, none⟩), .pointer (some ⟨h_, 0, none⟩)]] w fun e w' => ∃ v', e = .returned (.agg #[.int .i64 a, .int .i64 b, v']) ∧ OwnF w' w.heap.size v' (eachTo G a (a * b)) ∧ Below w.heap.size w w' := by
  have HF := Lib.hid hF
  have HG := Lib.hid hG
  clear hF hG
  obtain ⟨W, hW⟩ : ∃ W, (w.alloc (.cells #[.int .i64 a, .int .i64 b, .slice ad n c] 27)).alloc (.cells #[.int .i64 0, .int .i64 0, .slice none 0 0] 27) = W := ⟨_, rfl⟩
  have X0 : Hid (Below w.heap.size w W) := Lib.hid (by rw [← hW]; exact ((Below.refl _ _).alloc (Nat.le_refl _) _).alloc (by rw [World.size_alloc]; omega) _)
  obtain ⟨g0, g1⟩ := heap2 w (.cells #[.int .i64 a, .int .i64 b, .slice ad n c] 27) (.cells #[.int .i64 0, .int .i64 0, .slice none 0 0] 27)
  rw [hW] at g0 g1
  have hWs : W.heap.size = w.heap.size + 2 := by rw [← hW]; simp only [World.size_alloc]
  obtain ⟨k0, k1, k2, -, -, -⟩ := blk3 g0
  have HG0 := Lib.hid g0
  have HG1 := Lib.hid g1
  clear g0 g1
  obtain ⟨wa, hwa⟩ : ∃ wa, W.alloc (.cells #[.int .i64 0, .int .i64 0, .slice none 0 0] 27) = wa := ⟨_, rfl⟩
  have xa : Below W.heap.size W wa := by rw [← hwa]; exact (Below.refl _ _).alloc (Nat.le_refl _) _
  have h9 : wa.heap[W.heap.size]? = some (.cells #[.int .i64 0, .int .i64 0, .slice none 0 0] 27 (0, 0)) := by rw [← hwa]; exact alloc_new _ _
  have za := xa.size
  obtain ⟨g5, hg5⟩ : ∃ g5, W.heap.size = g5 := ⟨_, rfl⟩
  rw [hg5] at h9
  have P := put3 h9 (.int .i64 a) (.int .i64 b) (.slice none 0 0)
  obtain ⟨m0, m1, m2, f0, f1, f2⟩ := blk3 h9
  obtain ⟨wz, hwz⟩ : ∃ wz, ((wa.setCell ⟨g5, 0, none⟩ (.int .i64 a)).setCell ⟨g5, 1, none⟩ (.int .i64 b)).setCell ⟨g5, 2, none⟩ (.slice none 0 0) = wz := ⟨_, rfl⟩
  rw [hwz] at P
  have HGS : Hid (g5 = w.heap.size + 2) := Lib.hid (by rw [← hg5]; exact hWs)
  have SZ : Hid (EachAt w wz a b 0 ad n c G) := Lib.hid
    ⟨Below.chg (X0.out.trans (xa.mono (by omega))) P.chg (fun k hk => by omega) (by omega), (P.chg.block _ (by omega) (by omega)).trans ((xa.block _ (by omega)).trans HG0.out),
      (P.chg.block _ (by omega) (by omega)).trans ((xa.block _ (by omega)).trans HG1.out), none, 0, by rw [← hWs, hg5]; exact P.heap, OwnF.nil _ _⟩
  clear P xa h9 za HG0 HG1 X0 hWs
  obtain ⟨p0, p1, p2, -, -, -⟩ := blk3 SZ.out.s
  go_enter Try.func54, Try.ntmps54
  go_wp2_with fail
  clear hwz hwa m0 m1 m2 f0 f1 f2 k0 k1 k2 p0 p1 p2
  clear hW hg5
  obtain rfl := HGS.out
  clear HGS
  go_loopw [15] (fun i wr => ∃ z : Nat, z ≤ b ∧ i = .int .i64 z ∧ EachAt w wr a b (a * z) ad n c G) (fun i _ => b - (intOf i).toNat)
  case atStart => exact ⟨0, Nat.zero_le _, rfl, SZ.out⟩
  case round =>
    clear SZ
    obtain ⟨wi, rfl⟩ : ∃ wi : World, wi = wr := ⟨_, rfl⟩
    obtain ⟨z, hz, rfl, hS⟩ := hrel
    have HS := Lib.hid hS
    obtain ⟨k0, k1, k2, -, -, -⟩ := blk3 hS.s
    clear hS
    by_cases hlt : z < b
    · go_wp2_with fail
      clear k0 k1 k2
      go_loopw [20] (fun i wr => ∃ x : Nat, x ≤ a ∧ i = .int .i64 x ∧ EachAt w wr a b (a * z + x) ad n c G) (fun i _ => a - (intOf i).toNat)
      case atStart => exact ⟨0, Nat.zero_le _, rfl, HS.out⟩
      case round =>
        clear HS
        obtain ⟨wj, rfl⟩ : ∃ wj : World, wj = wr := ⟨_, rfl⟩
        obtain ⟨x, hx, rfl, hS⟩ := hrel
        have HS := Lib.hid hS
        clear hS
        by_cases hlt2 : x < a
        · obtain ⟨k, hk⟩ : ∃ k, a * z + x = k := ⟨_, rfl⟩
          have hk2 : k ≤ 1000 := by have := Nat.mul_le_mul ha2 hb2; have : a * z ≤ a * b := Nat.mul_le_mul (Nat.le_refl _) hz; omega
          have HKK := Lib.hid hk
          rw [hk] at HS
          obtain ⟨ao, co, hp, ho⟩ := HS.out.l
          have HP := Lib.hid hp
          have HO := Lib.hid ho
          have hsz := (Array.getElem?_eq_some_iff.1 hp).1
          have FX : Hid (∀ wq, Ext wj.drew wq → wq.cell? ⟨w.heap.size + 2, 2, none⟩ = some (.slice ao k co)) := Lib.hid fun wq hq => by
            obtain ⟨-, -, m2, -, -, -⟩ := blk3 ((((Ext.drew wj).trans hq).block (w.heap.size + 2) hsz).trans HP.out)
            exact m2
          clear hp ho hk
          go_wp2_with fail
          refine region_grow_tail 7 (by kernel_rfl) (by kernel_rfl) (eachT G) ?_
          simp only [List.take_succ_cons, List.take_zero, List.drop_succ_cons, List.drop_zero]
          iterate 5 (refine wpRelK_still rfl rfl (fun wq hq K hK => ?_); have k2 := FX.out wq hq.1; go_wp2; clear k2)
          refine wpRelK_callD (f := 55) #[.int .i64 x, .int .i64 z, .pointer (some ⟨g, 0, none⟩), .pointer (some ⟨h_, 0, none⟩)] rfl (fun wq => by go_simp)
            (fun wq hq => (HF.out wq (HS.out.bel.trans (((Ext.drew wj).trans hq.1).mono HS.out.bel.size)) x z hlt2 hlt).mono fun e w'' ⟨r, he, hf, hb⟩ => ⟨_, he, ⟨r, rfl, hf⟩, hb⟩)
            (fun wq hq => by obtain ⟨r, hr⟩ := HG.out x z; exact ⟨_, wq, ⟨r, rfl, hr⟩, Ext.refl _⟩) ?_
          intro wb0 hb0 u wc hT hxc
          obtain ⟨r, rfl, hr⟩ : ∃ r, u = .float .f32 r ∧ FV .f32 r (G x z) := hT
          have HR := Lib.hid hr
          simp only [Act.put, List.setIfInBounds_toArray, List.set_cons_succ, List.set_cons_zero]
          clear hb0 hxc hr
          refine wpRelK_op rfl rfl (fun wb hb2 K hK => ?_)
          go_wp2
          refine hK _ _ ((Below.refl _ _).alloc (Nat.le_refl _) _) ?_
          clear hK K
          refine wpRelK_nil ?_
          intro w8 hW hall
          have E8 : Ext (wb.alloc (.cells #[.float .f32 r] 31)) w8 := hall 6 (by decide)
          have xW : Ext wj w8 := (Ext.drew wj).trans hW
          have h8 : w8.heap[wb.heap.size]? = some (.cells #[.float .f32 r] 31 (0, 0)) := (E8.block wb.heap.size (by rw [World.size_alloc]; omega)).trans (alloc_new _ _)
          have n0 := cell_of_row w8 _ 0 _ _ _ h8
          have XW := Lib.hid xW
          have z8 := xW.size
          clear hall hW E8 hb2 xW h8 FX
          refine wpList_push rfl _ _ rfl (w.heap.size + 3) _ (eachTo G a k) rfl (HO.out.kept XW.out) ⟨wb.heap.size, 0, none⟩ 1 r _ rfl n0 HR.out (by rw [eachTo_length]; omega) (by omega) ?_
          intro v9 w9 o9 gr9 b9 l9
          obtain ⟨an, cn, rfl, hon⟩ : ∃ an cn, v9 = .slice an (k + 1) cn ∧ OwnF w9 (w.heap.size + 3) (.slice an (k + 1) cn) (eachTo G a (k + 1)) := by
            rw [← eachTo_succ G hlt2 HKK.out] at o9
            obtain ⟨an, cn, rfl, -⟩ := o9.rd.opened
            rw [eachTo_length] at o9 ⊢
            exact ⟨an, cn, rfl, o9⟩
          have xw : ∀ q, q < w.heap.size + 3 → w9.heap[q]? = wj.heap[q]? := fun q hq => (b9.block q hq).trans (XW.out.block q (by omega))
          have hp9 : w9.heap[w.heap.size + 2]? = some (.cells #[.int .i64 a, .int .i64 b, .slice ao k co] 27 (0, 0)) := (xw _ (by omega)).trans HP.out
          have P := put1at hp9 (.slice an (k + 1) cn)
          have ST : Hid (EachAt w (w9.setCell ⟨w.heap.size + 2, 2, none⟩ (.slice an (k + 1) cn)) a b (k + 1) ad n c G) := Lib.hid
            ⟨Below.chg (HS.out.bel.trans ((XW.out.mono HS.out.bel.size).trans (b9.mono (by omega)))) P.2 (fun q hq => by omega) (by have := b9.size; omega),
              (P.2.block _ (by have := b9.size; omega) (by omega)).trans ((xw _ (by omega)).trans HS.out.s), (P.2.block _ (by have := b9.size; omega) (by omega)).trans ((xw _ (by omega)).trans HS.out.z), an, cn, P.1,
              hon.chg P.2 fun q hq e => by have := (hon.lt hq).1; omega⟩
          obtain ⟨-, -, j2, -, -, l2⟩ := blk3 hp9
          clear P hon hp9 xw o9 gr9 b9 l9 n0 HS XW HO HP
          go_wp2
          exact ⟨⟨x + 1, by omega, by go_num, by rw [show a * z + (x + 1) = k + 1 by have := HKK.out; omega]; exact ST.out⟩, by simp [intOf]; omega⟩
        · obtain rfl : x = a := by omega
          have HS2 := Lib.hid (show EachAt w wj x b (x * (z + 1)) ad n c G from by rw [Nat.mul_add, Nat.mul_one]; exact HS.out)
          clear HS
          go_wp2
          exact ⟨⟨z + 1, by omega, by go_num, HS2.out⟩, by simp [intOf]; omega⟩
    · obtain rfl : z = b := by omega
      obtain ⟨ao, co, hp, ho⟩ := HS.out.l
      have HO := Lib.hid ho
      obtain ⟨j0, j1, j2, -, -, -⟩ := blk3 hp
      obtain ⟨k', hk'⟩ : ∃ k, a * z = k := ⟨_, rfl⟩
      have HKK := Lib.hid hk'
      rw [hk'] at j2
      have PZ := put3 HS.out.z (.int .i64 a) (.int .i64 z) (.slice ao k' co)
      have HPZ := Lib.hid PZ
      obtain ⟨m0, m1, m2, f0, f1, f2⟩ := blk3 HS.out.z
      clear PZ hp ho hk' k0 k1 k2
      go_wp2_with fail
      have PZ := HPZ.out
      clear HPZ
      generalize (((wi.setCell ⟨w.heap.size + 1, 0, none⟩ (.int .i64 a)).setCell ⟨w.heap.size + 1, 1, none⟩ (.int .i64 z)).setCell ⟨w.heap.size + 1, 2, none⟩ (.slice ao k' co)) = wy at *
      obtain ⟨q0, q1, q2, -, -, -⟩ := blk3 PZ.heap
      refine bodyPost_ret (v := .agg #[.int .i64 a, .int .i64 z, .slice ao k' co]) (by simp [results, Try.results54, go_sem, q0, q1, q2]) rfl ?_
      refine ⟨_, rfl, ?_, Below.chg HS.out.bel PZ.chg (fun q hq => by omega) HS.out.bel.size⟩
      have o2 := HO.out
      rw [HKK.out] at o2 ⊢
      exact (o2.chg PZ.chg fun q hq e => by have := (o2.lt hq).1; omega).mono (by omega)
set_option maxRecDepth 100000 in
set_option maxHeartbeats 6400000 in
theorem each1_any (w : World) (ad : Option Addr) (n c a b g : Nat) (G : Nat → Nat → Nat) (ha : 1 ≤ a) (ha2 : a ≤ 16) (hb : 1 ≤ b) (hb2 : b ≤ 16) (hG : ∀ x z, ∃ r, FV .f32 r (G x z))
    (hF : ∀ wq, Below w.heap.size w wq → ∀ x z : Nat, x < a → z < b → Calls Try.prog 57 #[.int .i64 x, .int .i64 z, .pointer (some ⟨g, 0, none⟩)] wq fun e w' => ∃ r, e = .returned (.float .f32 r) ∧ FV .f32 r (G x z) ∧ Below wq.heap.size wq w') :
    Calls Try.prog 54 #[.agg #[.int .i64 a, .int .i64 b, .slice ad n c], .func (.func 57) #[] #[.pointer (some ⟨g, 0, none⟩)]] w fun e w' => ∃ v', e = .returned (.agg #[.int .i64 a, .int .i64 b, v']) ∧ OwnF w' w.heap.size v' (eachTo G a (a * b)) ∧ Below w.heap.size w w' := by
  have HF := Lib.hid hF
  have HG := Lib.hid hG
  clear hF hG
  obtain ⟨W, hW⟩ : ∃ W, (w.alloc (.cells #[.int .i64 a, .int .i64 b, .slice ad n c] 27)).alloc (.cells #[.int .i64 0, .int .i64 0, .slice none 0 0] 27) = W := ⟨_, rfl⟩
  have X0 : Hid (Below w.heap.size w W) := Lib.hid (by rw [← hW]; exact ((Below.refl _ _).alloc (Nat.le_refl _) _).alloc (by rw [World.size_alloc]; omega) _)
  obtain ⟨g0, g1⟩ := heap2 w (.cells #[.int .i64 a, .int .i64 b, .slice ad n c] 27) (.cells #[.int .i64 0, .int .i64 0, .slice none 0 0] 27)
  rw [hW] at g0 g1
  have hWs : W.heap.size = w.heap.size + 2 := by rw [← hW]; simp only [World.size_alloc]
  obtain ⟨k0, k1, k2, -, -, -⟩ := blk3 g0
  have HG0 := Lib.hid g0
  have HG1 := Lib.hid g1
  clear g0 g1
  obtain ⟨wa, hwa⟩ : ∃ wa, W.alloc (.cells #[.int .i64 0, .int .i64 0, .slice none 0 0] 27) = wa := ⟨_, rfl⟩
  have xa : Below W.heap.size W wa := by rw [← hwa]; exact (Below.refl _ _).alloc (Nat.le_refl _) _
  have h9 : wa.heap[W.heap.size]? = some (.cells #[.int .i64 0, .int .i64 0, .slice none 0 0] 27 (0, 0)) := by rw [← hwa]; exact alloc_new _ _
  have za := xa.size
  obtain ⟨g5, hg5⟩ : ∃ g5, W.heap.size = g5 := ⟨_, rfl⟩
  rw [hg5] at h9
  have P := put3 h9 (.int .i64 a) (.int .i64 b) (.slice none 0 0)
  obtain ⟨m0, m1, m2, f0, f1, f2⟩ := blk3 h9
  obtain ⟨wz, hwz⟩ : ∃ wz, ((wa.setCell ⟨g5, 0, none⟩ (.int .i64 a)).setCell ⟨g5, 1, none⟩ (.int .i64 b)).setCell ⟨g5, 2, none⟩ (.slice none 0 0) = wz := ⟨_, rfl⟩
  rw [hwz] at P
  have HGS : Hid (g5 = w.heap.size + 2) := Lib.hid (by rw [← hg5]; exact hWs)
  have SZ : Hid (EachAt w wz a b 0 ad n c G) := Lib.hid
    ⟨Below.chg (X0.out.trans (xa.mono (by omega))) P.chg (fun k hk => by omega) (by omega), (P.chg.block _ (by omega) (by omega)).trans ((xa.block _ (by omega)).trans HG0.out),
      (P.chg.block _ (by omega) (by omega)).trans ((xa.block _ (by omega)).trans HG1.out), none, 0, by rw [← hWs, hg5]; exact P.heap, OwnF.nil _ _⟩
  clear P xa h9 za HG0 HG1 X0 hWs
  obtain ⟨p0, p1, p2, -, -, -⟩ := blk3 SZ.out.s
  go_enter Try.func54, Try.ntmps54
  go_wp2_with fail
  clear hwz hwa m0 m1 m2 f0 f1 f2 k0 k1 k2 p0 p1 p2
  clear hW hg5
  obtain rfl := HGS.out
  clear HGS
  go_loopw [15] (fun i wr => ∃ z : Nat, z ≤ b ∧ i = .int .i64 z ∧ EachAt w wr a b (a * z) ad n c G) (fun i _ => b - (intOf i).toNat)
  case atStart => exact ⟨0, Nat.zero_le _, rfl, SZ.out⟩
  case round =>
    clear SZ
    obtain ⟨wi, rfl⟩ : ∃ wi : World, wi = wr := ⟨_, rfl⟩
    obtain ⟨z, hz, rfl, hS⟩ := hrel
    have HS := Lib.hid hS
    obtain ⟨k0, k1, k2, -, -, -⟩ := blk3 hS.s
    clear hS
    by_cases hlt : z < b
    · go_wp2_with fail
      clear k0 k1 k2
      go_loopw [20] (fun i wr => ∃ x : Nat, x ≤ a ∧ i = .int .i64 x ∧ EachAt w wr a b (a * z + x) ad n c G) (fun i _ => a - (intOf i).toNat)
      case atStart => exact ⟨0, Nat.zero_le _, rfl, HS.out⟩
      case round =>
        clear HS
        obtain ⟨wj, rfl⟩ : ∃ wj : World, wj = wr := ⟨_, rfl⟩
        obtain ⟨x, hx, rfl, hS⟩ := hrel
        have HS := Lib.hid hS
        clear hS
        by_cases hlt2 : x < a
        · obtain ⟨k, hk⟩ : ∃ k, a * z + x = k := ⟨_, rfl⟩
          have hk2 : k ≤ 1000 := by have := Nat.mul_le_mul ha2 hb2; have : a * z ≤ a * b := Nat.mul_le_mul (Nat.le_refl _) hz; omega
          have HKK := Lib.hid hk
          rw [hk] at HS
          obtain ⟨ao, co, hp, ho⟩ := HS.out.l
          have HP := Lib.hid hp
          have HO := Lib.hid ho
          have hsz := (Array.getElem?_eq_some_iff.1 hp).1
          have FX : Hid (∀ wq, Ext wj.drew wq → wq.cell? ⟨w.heap.size + 2, 2, none⟩ = some (.slice ao k co)) := Lib.hid fun wq hq => by
            obtain ⟨-, -, m2, -, -, -⟩ := blk3 ((((Ext.drew wj).trans hq).block (w.heap.size + 2) hsz).trans HP.out)
            exact m2
          clear hp ho hk
          go_wp2_with fail
          refine region_grow_tail 7 (by kernel_rfl) (by kernel_rfl) (eachT G) ?_
          simp only [List.take_succ_cons, List.take_zero, List.drop_succ_cons, List.drop_zero]
          iterate 5 (refine wpRelK_still rfl rfl (fun wq hq K hK => ?_); have k2 := FX.out wq hq.1; go_wp2; clear k2)
          refine wpRelK_callD (f := 57) #[.int .i64 x, .int .i64 z, .pointer (some ⟨g, 0, none⟩)] rfl (fun wq => by go_simp)
            (fun wq hq => (HF.out wq (HS.out.bel.trans (((Ext.drew wj).trans hq.1).mono HS.out.bel.size)) x z hlt2 hlt).mono fun e w'' ⟨r, he, hf, hb⟩ => ⟨_, he, ⟨r, rfl, hf⟩, hb⟩)
            (fun wq hq => by obtain ⟨r, hr⟩ := HG.out x z; exact ⟨_, wq, ⟨r, rfl, hr⟩, Ext.refl _⟩) ?_
          intro wb0 hb0 u wc hT hxc
          obtain ⟨r, rfl, hr⟩ : ∃ r, u = .float .f32 r ∧ FV .f32 r (G x z) := hT
          have HR := Lib.hid hr
          simp only [Act.put, List.setIfInBounds_toArray, List.set_cons_succ, List.set_cons_zero]
          clear hb0 hxc hr
          refine wpRelK_op rfl rfl (fun wb hb2 K hK => ?_)
          go_wp2
          refine hK _ _ ((Below.refl _ _).alloc (Nat.le_refl _) _) ?_
          clear hK K
          refine wpRelK_nil ?_
          intro w8 hW hall
          have E8 : Ext (wb.alloc (.cells #[.float .f32 r] 31)) w8 := hall 6 (by decide)
          have xW : Ext wj w8 := (Ext.drew wj).trans hW
          have h8 : w8.heap[wb.heap.size]? = some (.cells #[.float .f32 r] 31 (0, 0)) := (E8.block wb.heap.size (by rw [World.size_alloc]; omega)).trans (alloc_new _ _)
          have n0 := cell_of_row w8 _ 0 _ _ _ h8
          have XW := Lib.hid xW
          have z8 := xW.size
          clear hall hW E8 hb2 xW h8 FX
          refine wpList_push rfl _ _ rfl (w.heap.size + 3) _ (eachTo G a k) rfl (HO.out.kept XW.out) ⟨wb.heap.size, 0, none⟩ 1 r _ rfl n0 HR.out (by rw [eachTo_length]; omega) (by omega) ?_
          intro v9 w9 o9 gr9 b9 l9
          obtain ⟨an, cn, rfl, hon⟩ : ∃ an cn, v9 = .slice an (k + 1) cn ∧ OwnF w9 (w.heap.size + 3) (.slice an (k + 1) cn) (eachTo G a (k + 1)) := by
            rw [← eachTo_succ G hlt2 HKK.out] at o9
            obtain ⟨an, cn, rfl, -⟩ := o9.rd.opened
            rw [eachTo_length] at o9 ⊢
            exact ⟨an, cn, rfl, o9⟩
          have xw : ∀ q, q < w.heap.size + 3 → w9.heap[q]? = wj.heap[q]? := fun q hq => (b9.block q hq).trans (XW.out.block q (by omega))
          have hp9 : w9.heap[w.heap.size + 2]? = some (.cells #[.int .i64 a, .int .i64 b, .slice ao k co] 27 (0, 0)) := (xw _ (by omega)).trans HP.out
          have P := put1at hp9 (.slice an (k + 1) cn)
          have ST : Hid (EachAt w (w9.setCell ⟨w.heap.size + 2, 2, none⟩ (.slice an (k + 1) cn)) a b (k + 1) ad n c G) := Lib.hid
            ⟨Below.chg (HS.out.bel.trans ((XW.out.mono HS.out.bel.size).trans (b9.mono (by omega)))) P.2 (fun q hq => by omega) (by have := b9.size; omega),
              (P.2.block _ (by have := b9.size; omega) (by omega)).trans ((xw _ (by omega)).trans HS.out.s), (P.2.block _ (by have := b9.size; omega) (by omega)).trans ((xw _ (by omega)).trans HS.out.z), an, cn, P.1,
              hon.chg P.2 fun q hq e => by have := (hon.lt hq).1; omega⟩
          obtain ⟨-, -, j2, -, -, l2⟩ := blk3 hp9
          clear P hon hp9 xw o9 gr9 b9 l9 n0 HS XW HO HP
          go_wp2
          exact ⟨⟨x + 1, by omega, by go_num, by rw [show a * z + (x + 1) = k + 1 by have := HKK.out; omega]; exact ST.out⟩, by simp [intOf]; omega⟩
        · obtain rfl : x = a := by omega
          have HS2 := Lib.hid (show EachAt w wj x b (x * (z + 1)) ad n c G from by rw [Nat.mul_add, Nat.mul_one]; exact HS.out)
          clear HS
          go_wp2
          exact ⟨⟨z + 1, by omega, by go_num, HS2.out⟩, by simp [intOf]; omega⟩
    · obtain rfl : z = b := by omega
      obtain ⟨ao, co, hp, ho⟩ := HS.out.l
      have HO := Lib.hid ho
      obtain ⟨j0, j1, j2, -, -, -⟩ := blk3 hp
      obtain ⟨k', hk'⟩ : ∃ k, a * z = k := ⟨_, rfl⟩
      have HKK := Lib.hid hk'
      rw [hk'] at j2
      have PZ := put3 HS.out.z (.int .i64 a) (.int .i64 z) (.slice ao k' co)
      have HPZ := Lib.hid PZ
      obtain ⟨m0, m1, m2, f0, f1, f2⟩ := blk3 HS.out.z
      clear PZ hp ho hk' k0 k1 k2
      go_wp2_with fail
      have PZ := HPZ.out
      clear HPZ
      generalize (((wi.setCell ⟨w.heap.size + 1, 0, none⟩ (.int .i64 a)).setCell ⟨w.heap.size + 1, 1, none⟩ (.int .i64 z)).setCell ⟨w.heap.size + 1, 2, none⟩ (.slice ao k' co)) = wy at *
      obtain ⟨q0, q1, q2, -, -, -⟩ := blk3 PZ.heap
      refine bodyPost_ret (v := .agg #[.int .i64 a, .int .i64 z, .slice ao k' co]) (by simp [results, Try.results54, go_sem, q0, q1, q2]) rfl ?_
      refine ⟨_, rfl, ?_, Below.chg HS.out.bel PZ.chg (fun q hq => by omega) HS.out.bel.size⟩
      have o2 := HO.out
      rw [HKK.out] at o2 ⊢
      exact (o2.chg PZ.chg fun q hq e => by have := (o2.lt hq).1; omega).mono (by omega)
end Go.Proofs.Ytjhbcnmkamkkaaa
