/- Walks: a list that is repeated; flat sections. -/
import Derived.Test.YtjhbcnmkamkkaaaSmS
import Derived.Laws.CopyOwn
namespace Go.Proofs.Ytjhbcnmkamkkaaa
open Go Go.RowKit

theorem getD_splice (L M : List Nat) (off j : Nat) (h : off + M.length ≤ L.length) : (L.take off ++ (M ++ L.drop (off + M.length))).getD j 0 = if j < off then L.getD j 0 else if j < off + M.length then M.getD (j - off) 0 else L.getD j 0 := by
  simp only [List.getD_eq_getElem?_getD, List.getElem?_append, List.length_take, List.getElem?_take, List.getElem?_drop]
  rw [show min off L.length = off by omega]
  by_cases h1 : j < off
  · simp [h1]
  · by_cases h2 : j < off + M.length
    · rw [if_neg h1, if_pos (by omega), if_neg h1, if_pos h2]
    · rw [if_neg h1, if_neg (by omega), if_neg h1, if_neg h2, show off + M.length + (j - off - M.length) = j by omega]
/-- 'copy' of a list to a part of an owned list. -/
theorem wpList_copyN {ops : Array Oper} {rest : List Oper} {o : Oper} {a : Act} {w : World} {Q : Exit → Act → World → Prop} (hgd : o.guard = none) (d s : Operand)
    (ho : o.op = .call { callee := .builtin .copy, args := #[d, s], argTypes := #[25, 25] }) (B g cap n : Nat) (L M : List Nat) (hL : L.length = n) (hown : OwnF w B (.slice (some ⟨g, 0, none⟩) n cap) L)
    (off dLen dCap : Nat) (hd : a.eval d = .slice (some ⟨g, off, none⟩) dLen dCap) (b1 o1 m c1 : Nat) (hs : a.eval s = .slice (some ⟨b1, o1, none⟩) m c1) (hM : ∀ j, j < M.length → ∃ r, w.cell? ⟨b1, o1 + j, none⟩ = some (.float .f32 r) ∧ FV .f32 r (M.getD j 0)) (hlen : M.length = min dLen m) (hfit : off + dLen ≤ n)
    (h : ∀ w', OwnF w' B (.slice (some ⟨g, 0, none⟩) n cap) (L.take off ++ (M ++ L.drop (off + M.length))) → Chg w w' (fun k => k = g) → w'.heap.size = w.heap.size → wpList Try.prog ops Q rest (a.put o.dst (goInt M.length)) w') : wpList Try.prog ops Q (o :: rest) a w := by
  subst hL
  obtain ⟨bs, hbl, hbs⟩ := pick_list (P := fun j r => w.cell? ⟨b1, o1 + j, none⟩ = some (.float .f32 r) ∧ FV .f32 r (M.getD j 0)) M.length hM
  have hml : M.length ≤ dLen := by omega
  obtain ⟨bits, hl, hf, hrow⟩ := hown
  obtain ⟨hxl, hrest⟩ := hrow
  rcases hrest with ⟨hn, -⟩ | ⟨g', cap', cur, hv', hB, hg, hn, hm, hsz, htk⟩
  · cases hn
  · obtain ⟨rfl, rfl⟩ : g = g' ∧ cap = cap' := by cases hv'; exact ⟨rfl, rfl⟩
    rw [Nat.mul_one] at hxl hsz htk
    have hcl : (bs.map (Value.float .f32)).length = M.length := by simp [hbl]
    have hll : bits.length ≤ cur.size := by rw [hsz]; omega
    have hinfo : (Try.prog.info? 31).map (·.size) = some 1 := by kernel_rfl
    refine wpList_copy_own hgd d s 25 25 ho 31 Try.underlying25 hinfo g off dLen dCap ⟨b1, o1, none⟩ m c1 hd hs cur 31 hg (bs.map (Value.float .f32)) (by rw [hcl, hlen]; exact Nat.min_comm _ _) ?_ (by rw [hcl]; omega) (fun u hu => by simp at hu; obtain ⟨x, -, rfl⟩ := hu; rfl) ?_
    · intro j u hu
      have hj : j < bs.length := by
        have := (List.getElem?_eq_some_iff.1 hu).1
        simpa using this
      rw [getD_map_float bs j hj] at hu
      cases hu
      have e : (⟨b1, o1, none⟩ : Addr).add j = ⟨b1, o1 + j, none⟩ := by simp [Addr.add]
      rw [e]
      exact (hbs j (by omega)).1
    · rw [hcl]
      have hg2 := setRow_heap w g cur (cur.toList.take off ++ (bs.map (Value.float .f32) ++ cur.toList.drop (off + M.length))).toArray 31 (0, 0) hg
      refine h _ ?_ ⟨rfl, rfl, rfl, by simp [World.setRow], fun k hk hne => setRow_other w g k _ (by omega)⟩ (by simp [World.setRow])
      have hnl : (L.take off ++ (M ++ L.drop (off + M.length))).length = L.length := by simp; omega
      refine ⟨bits.take off ++ (bs ++ bits.drop (off + bs.length)), by simp; omega, fun j hj => ?_, by simp; omega, .inr ⟨g, cap, _, by rw [hnl], hB, hg2, by omega, hm, by simp; omega, ?_⟩⟩
      · rw [hnl] at hj
        rw [getD_splice _ _ _ _ (by omega), getD_splice _ _ _ _ (by omega), hbl]
        by_cases h1 : j < off
        · rw [if_pos h1, if_pos h1]; exact hf j hj
        · rw [if_neg h1, if_neg h1]
          by_cases h2 : j < off + M.length
          · rw [if_pos h2, if_pos h2]; exact (hbs (j - off) (by omega)).2
          · rw [if_neg h2, if_neg h2]; exact hf j hj
      · rw [Nat.mul_one, hnl]
        have e1 : cur.toList = bits.map (Value.float .f32) ++ cur.toList.drop L.length := by rw [← htk]; exact (List.take_append_drop _ _).symm
        have hbl2 : (bits.map (Value.float .f32)).length = L.length := by simp [hl]
        rw [List.map_append, List.map_append, List.map_take, List.map_drop]
        generalize bits.map (Value.float .f32) = X at *
        generalize bs.map (Value.float .f32) = Y at *
        generalize cur.toList.drop L.length = Z at *
        have hY : Y.length = M.length := hcl
        rw [e1, List.toList_toArray, hbl]
        rw [show (X ++ Z).take off = X.take off from List.take_append_of_le_length (by omega), show (X ++ Z).drop (off + M.length) = X.drop (off + M.length) ++ Z from List.drop_append_of_le_length (by omega)]
        rw [show X.take off ++ (Y ++ (X.drop (off + M.length) ++ Z)) = (X.take off ++ (Y ++ X.drop (off + M.length))) ++ Z by simp [List.append_assoc]]
        rw [List.take_append_of_le_length (by simp; omega), List.take_of_length_le (by simp; omega)]

theorem cases25 {n : Nat} (h : 1 ≤ n) (h2 : n ≤ 25) : n = 1 ∨ n = 2 ∨ n = 3 ∨ n = 4 ∨ n = 5 ∨ n = 6 ∨ n = 7 ∨ n = 8 ∨ n = 9 ∨ n = 10 ∨ n = 11 ∨ n = 12 ∨ n = 13 ∨ n = 14 ∨ n = 15 ∨ n = 16 ∨ n = 17 ∨ n = 18 ∨ n = 19 ∨ n = 20 ∨ n = 21 ∨ n = 22 ∨ n = 23 ∨ n = 24 ∨ n = 25 := by omega
set_option maxRecDepth 100000 in
set_option maxHeartbeats 6400000 in
theorem mul64_any (w : World) (n : Nat) (h : 1 ≤ n) (h2 : n ≤ 25) :
    Calls Try.prog 136 #[.int .u64 1, .int .u64 n] w fun e w' => e = .returned (.tuple #[.int .u64 0, .int .u64 n]) ∧ w' = w := by
  rcases cases25 h h2 with rfl | rfl | rfl | rfl | rfl | rfl | rfl | rfl | rfl | rfl | rfl | rfl | rfl | rfl | rfl | rfl | rfl | rfl | rfl | rfl | rfl | rfl | rfl | rfl | rfl
  all_goals
    go_enter Try.func136, Try.ntmps136
    go_wp2
    go_ret2
    exact ⟨rfl, rfl⟩
set_option maxRecDepth 100000 in
set_option maxHeartbeats 800000 in
theorem mul_any (w : World) (n : Nat) (h : 1 ≤ n) (h2 : n ≤ 25) :
    Calls Try.prog 123 #[.int .u64 1, .int .u64 n] w fun e w' => e = .returned (.tuple #[.int .u64 0, .int .u64 n]) ∧ w' = w := by
  go_enter Try.func123, Try.ntmps123
  go_wp2_with fail
  refine (mul64_any w n h h2).mono ?_
  rintro e w1 ⟨rfl, hw⟩
  subst hw
  go_wp2
  go_ret2
  exact ⟨rfl, rfl⟩
/-- Where the doubling stands: n are laid. -/
def repTo (X N n : Nat) : List Nat := List.replicate n X ++ List.replicate (N - n) 0
theorem repTo_length (X : Nat) {N n : Nat} (h : n ≤ N) : (repTo X N n).length = N := by simp [repTo]; omega
theorem repTo_step (X : Nat) {N n k : Nat} (h : n + k ≤ N) : (repTo X N n).take n ++ (List.replicate k X ++ (repTo X N n).drop (n + k)) = repTo X N (n + k) := by
  have e1 : (repTo X N n).take n = List.replicate n X := by unfold repTo; rw [List.take_append_of_le_length (by simp), List.take_of_length_le (by simp)]
  have e2 : (repTo X N n).drop (n + k) = List.replicate (N - (n + k)) 0 := by
    unfold repTo
    rw [List.drop_append, List.drop_of_length_le (by simp), List.nil_append, List.drop_replicate, List.length_replicate]
    congr 1
    omega
  rw [e1, e2]
  unfold repTo
  rw [← List.append_assoc, List.replicate_append_replicate]
theorem repTo_at (X : Nat) {N n j : Nat} (h : j < n) : (repTo X N n).getD j 0 = X := by
  unfold repTo
  simp [List.getD_eq_getElem?_getD, List.getElem?_append, h]
theorem rep_first (X : Nat) {N : Nat} (h : 1 ≤ N) : (List.replicate N 0).take 0 ++ ([X] ++ (List.replicate N 0).drop (0 + [X].length)) = repTo X N 1 := by
  have e := repTo_step X (N := N) (n := 0) (k := 1) (by omega)
  have e0 : repTo X N 0 = List.replicate N 0 := by simp [repTo]
  rw [e0, Nat.zero_add] at e
  exact e
theorem one_cell {w : World} {bl o r X : Nat} (h : w.cell? ⟨bl, o, none⟩ = some (.float .f32 r)) (hr : FV .f32 r X) : ∀ j, j < [X].length → ∃ r, w.cell? ⟨bl, o + j, none⟩ = some (.float .f32 r) ∧ FV .f32 r ([X].getD j 0) := fun j hj => by
  obtain rfl : j = 0 := by simpa using hj
  exact ⟨r, h, hr⟩
theorem rep_getD (X : Nat) {k j : Nat} (h : j < k) : (List.replicate k X).getD j 0 = X := by
  simp [List.getD_eq_getElem?_getD, h]
set_option maxRecDepth 100000 in
set_option maxHeartbeats 3200000 in
theorem repeat_any (w : World) (bl o c r X N : Nat) (hc : w.cell? ⟨bl, o, none⟩ = some (.float .f32 r)) (hr : FV .f32 r X) (h1 : 1 ≤ N) (h2 : N ≤ 25) :
    Calls Try.prog 103 #[.slice (some ⟨bl, o, none⟩) 1 c, .int .i64 N] w fun e w' => ∃ v', e = .returned v' ∧ OwnF w' w.heap.size v' (List.replicate N X) ∧ Below w.heap.size w w' := by
  have HC := Lib.hid hc
  have HR := Lib.hid hr
  have HM := Lib.hid (mul_any w N h1 h2)
  clear hc hr
  go_enter Try.func103, Try.ntmps103
  go_wp2_with fail
  refine HM.out.mono ?_
  rintro e w0 ⟨rfl, hw0⟩
  obtain rfl : w = w0 := hw0.symm
  clear HM hw0
  go_wp2_with (first
    | (refine wpList_mk rfl _ _ rfl w.heap.size _ _ _ _ N rfl rfl rfl rfl (by omega) (Nat.le_refl _) ?_; intro w1 o1 b1 z1; have O1 := Lib.hid o1; have B1 := Lib.hid b1; have D1 := Lib.hid (((bcell b1).1 bl o (block_lt HC.out)).trans HC.out); clear o1 b1)
    | (refine wpList_copyN rfl _ _ rfl w.heap.size w.heap.size N N (List.replicate N 0) [X] (by simp) O1.out 0 N N rfl bl o 1 c rfl (one_cell D1.out HR.out) (by simp; omega) (by omega) ?_; intro w2 o2 c2 z2; have O2 := Lib.hid (show OwnF w2 w.heap.size (.slice (some ⟨w.heap.size, 0, none⟩) N N) (repTo X N 1) from (rep_first X h1) ▸ o2); have B2 := Lib.hid (Below.chg B1.out c2 (fun k hk => by omega) B1.out.size); clear o2 c2))
  clear O1 B1 D1 HC HR
  go_loopw [8] (fun i wr => ∃ n : Nat, 1 ≤ n ∧ n ≤ N ∧ i = .int .i64 n ∧ OwnF wr w.heap.size (.slice (some ⟨w.heap.size, 0, none⟩) N N) (repTo X N n) ∧ Below w.heap.size w wr) (fun i _ => N - (intOf i).toNat)
  case atStart => exact ⟨1, Nat.le_refl _, h1, rfl, O2.out, B2.out⟩
  case round =>
    clear O2 B2
    obtain ⟨wi, rfl⟩ : ∃ wi : World, wi = wr := ⟨_, rfl⟩
    obtain ⟨n, hn, hnN, rfl, ho, hb⟩ := hrel
    have HO := Lib.hid ho
    have HB := Lib.hid hb
    clear ho hb
    by_cases hlt : n < N
    · obtain ⟨k, hk, hk1, hk2⟩ : ∃ k, k = min (N - n) n ∧ 1 ≤ k ∧ n + k ≤ N := ⟨min (N - n) n, rfl, by omega, by omega⟩
      have HKK := Lib.hid hk
      clear hk
      go_wp2_with fail
      refine region_rel_pull 1 7 (by kernel_rfl) (by decide +kernel) (Drawn wi) (fun _ _ _ => False) ⟨1, rfl⟩ ?_
      simp only [List.take_succ_cons, List.take_zero, List.drop_succ_cons, List.drop_zero]
      iterate 7 (refine wpRel_draw rfl rfl (fun nq K hK => ?_); go_wp2)
      refine wpRel_nil ?_
      rintro wd ⟨nd, hwd⟩
      have HOD := Lib.hid (show OwnF wd w.heap.size (.slice (some ⟨w.heap.size, 0, none⟩) N N) (repTo X N n) from by rw [hwd]; exact HO.out.drewN nd)
      have HBD := Lib.hid (show Below w.heap.size w wd from by rw [hwd]; exact Below.drewN HB.out nd)
      clear hwd HO HB
      have hlk : (List.replicate k X).length = min (N - n) n := by rw [List.length_replicate]; exact HKK.out
      refine wpList_copyN rfl _ _ rfl w.heap.size w.heap.size N N (repTo X N n) (List.replicate k X) (repTo_length X hnN) HOD.out n (N - n) (N - n) rfl w.heap.size 0 n N rfl (fun j hj => ?_) hlk (by omega) ?_
      · obtain ⟨g', cap', hv, -, -, -, hcl, -⟩ := HOD.out.at_block (n := N) (repTo_length X hnN) h1
        cases hv
        rw [List.length_replicate] at hj
        obtain ⟨r, hr, hf⟩ := hcl j (by rw [repTo_length X hnN]; omega)
        rw [repTo_at X (by have := HKK.out; omega)] at hf
        exact ⟨r, by rw [Nat.zero_add]; exact hr, by rw [rep_getD X hj]; exact hf⟩
      intro w3 o3 c3 z3
      have O3 := Lib.hid (show OwnF w3 w.heap.size (.slice (some ⟨w.heap.size, 0, none⟩) N N) (repTo X N (n + k)) from by
        have e := repTo_step X hk2
        rw [List.length_replicate] at o3
        rw [← e]
        exact o3)
      have B3 := Lib.hid (Below.chg HBD.out c3 (fun q hq => by omega) HBD.out.size)
      rw [List.length_replicate]
      clear o3 c3 HOD HBD hlk
      go_wp2
      (try simp only [noPanic])
      (try go_wp2)
      exact ⟨⟨n + k, by omega, hk2, by go_num, O3.out, B3.out⟩, by simp [intOf]; omega⟩
    · obtain rfl : n = N := by omega
      have HF : Hid (OwnF wi w.heap.size (.slice (some ⟨w.heap.size, 0, none⟩) n n) (List.replicate n X)) := Lib.hid (by have := HO.out; unfold repTo at this; rwa [Nat.sub_self, List.replicate_zero, List.append_nil] at this)
      clear HO
      go_wp2
      go_ret
      exact ⟨_, rfl, HF.out, HB.out⟩
set_option maxRecDepth 100000 in
set_option maxHeartbeats 3200000 in
theorem flat_any (w : World) (a b X : Nat) (hX : FV .f32 X X) (ha : 1 ≤ a) (ha2 : a ≤ 5) (hb : 1 ≤ b) (hb2 : b ≤ 5) :
    Calls Try.prog 52 #[.int .i64 a, .int .i64 b, .float .f32 X] w fun e w' => ∃ v', e = .returned (.agg #[.int .i64 a, .int .i64 b, v']) ∧ OwnF w' w.heap.size v' (List.replicate (a * b) X) ∧ Below w.heap.size w w' := by
  have hab : a * b ≤ 25 := Nat.mul_le_mul ha2 hb2
  have hab1 : 1 ≤ a * b := Nat.mul_le_mul ha hb
  have hmul : (a : Int) * (b : Int) = ((a * b : Nat) : Int) := by rw [Int.natCast_mul]
  have hwr : wrap64 ((a : Int) * (b : Int)) = ((a * b : Nat) : Int) := by rw [hmul]; unfold wrap64; omega
  generalize a * b = N at *
  obtain ⟨w1, hw1⟩ : ∃ w1, w.alloc (.cells #[.int .i64 0, .int .i64 0, .slice none 0 0] 27) = w1 := ⟨_, rfl⟩
  have b1 : Below w.heap.size w w1 := by rw [← hw1]; exact (Below.refl _ _).alloc (Nat.le_refl _) _
  have g1 : w1.heap[w.heap.size]? = some (.cells #[.int .i64 0, .int .i64 0, .slice none 0 0] 27 (0, 0)) := by rw [← hw1]; exact alloc_new _ _
  have z1 : w1.heap.size = w.heap.size + 1 := by rw [← hw1]; exact World.size_alloc _ _
  obtain ⟨w2, hw2⟩ : ∃ w2, w1.alloc (.cells #[.float .f32 X] 31) = w2 := ⟨_, rfl⟩
  have b2 : Below w1.heap.size w1 w2 := by rw [← hw2]; exact (Below.refl _ _).alloc (Nat.le_refl _) _
  have g2 : w2.heap[w1.heap.size]? = some (.cells #[.float .f32 X] 31 (0, 0)) := by rw [← hw2]; exact alloc_new _ _
  have z2 : w2.heap.size = w.heap.size + 2 := by rw [← hw2, World.size_alloc, z1]
  rw [z1] at g2 b2
  have HB := Lib.hid (b1.trans (b2.mono (by omega)))
  have HG1 := Lib.hid ((b2.block _ (by omega)).trans g1)
  have n0 := Lib.hid (cell_of_row w2 _ 0 _ _ _ g2)
  clear b1 b2 g1 g2
  go_enter Try.func52, Try.ntmps52
  go_wp2_with fail
  refine (repeat_any w2 (w.heap.size + 1) 0 1 X X N n0.out hX hab1 hab).mono ?_
  rintro e w3 ⟨v, rfl, o3, b3⟩
  obtain ⟨av, cv, rfl, -⟩ := o3.rd.opened
  rw [List.length_replicate] at o3 ⊢
  have O3 := Lib.hid o3
  have HB3 := Lib.hid (HB.out.trans (b3.mono (by omega)))
  have z3 := b3.size
  have h5 := (b3.block _ (by omega)).trans HG1.out
  have P := put3 h5 (.int .i64 a) (.int .i64 b) (.slice av N cv)
  have HP := Lib.hid P
  obtain ⟨m0, m1, m2, f0, f1, f2⟩ := blk3 h5
  clear P o3 b3 h5 hw1 hw2 HB HG1 n0
  go_wp2_with fail
  have P := HP.out
  clear HP
  generalize (((w3.setCell ⟨w.heap.size, 0, none⟩ (.int .i64 a)).setCell ⟨w.heap.size, 1, none⟩ (.int .i64 b)).setCell ⟨w.heap.size, 2, none⟩ (.slice av N cv)) = wy at *
  obtain ⟨q0, q1, q2, -, -, -⟩ := blk3 P.heap
  refine bodyPost_ret (v := .agg #[.int .i64 a, .int .i64 b, .slice av N cv]) (by simp [results, Try.results52, go_sem, q0, q1, q2]) rfl ?_
  exact ⟨_, rfl, (O3.out.chg P.chg fun q hq e => by have := (O3.out.lt hq).1; omega).mono (B' := w.heap.size) (by omega), Below.chg HB3.out P.chg (fun q hq => by omega) (by omega)⟩
set_option maxRecDepth 100000 in
set_option maxHeartbeats 3200000 in
theorem flatSection_any (w : World) (a b X : Nat) (hX : FV .f32 X X) (ha : 1 ≤ a) (ha2 : a ≤ 5) (hb : 1 ≤ b) (hb2 : b ≤ 5) :
    Calls Try.prog 10 #[.int .i64 a, .int .i64 b, .float .f32 X] w fun e w' => ∃ v', e = .returned (.tuple #[.agg #[.int .i64 a, .int .i64 b, v'], .bool true]) ∧ OwnF w' w.heap.size v' (List.replicate (a * b) X) ∧ Below w.heap.size w w' := by
  obtain ⟨w1, hw1⟩ : ∃ w1, w.alloc (.cells #[.int .i64 0, .int .i64 0, .slice none 0 0] 27) = w1 := ⟨_, rfl⟩
  have b1 : Below w.heap.size w w1 := by rw [← hw1]; exact (Below.refl _ _).alloc (Nat.le_refl _) _
  have g1 : w1.heap[w.heap.size]? = some (.cells #[.int .i64 0, .int .i64 0, .slice none 0 0] 27 (0, 0)) := by rw [← hw1]; exact alloc_new _ _
  have z1 : w1.heap.size = w.heap.size + 1 := by rw [← hw1]; exact World.size_alloc _ _
  have HB := Lib.hid b1
  have HG1 := Lib.hid g1
  clear b1 g1
  have HV := Lib.hid (isSize_any w1 a b)
  rw [show sizeB a b = true by simp [sizeB, in16]; omega] at HV
  go_enter Try.func10, Try.ntmps10
  go_wp2_with fail
  refine HV.out.mono ?_
  rintro e w2 ⟨rfl, hw2⟩
  obtain rfl : w1 = w2 := hw2.symm
  clear HV hw2
  go_wp2_with fail
  refine (flat_any w1 a b X hX ha ha2 hb hb2).mono ?_
  rintro e w3 ⟨v, rfl, o3, b3⟩
  obtain ⟨av, cv, rfl, -⟩ := o3.rd.opened
  rw [List.length_replicate] at o3 ⊢
  obtain ⟨N, hN⟩ : ∃ N, a * b = N := ⟨_, rfl⟩
  rw [hN] at o3 ⊢
  have HN := Lib.hid hN
  have O3 := Lib.hid o3
  have HB3 := Lib.hid (HB.out.trans (b3.mono (by omega)))
  have z3 := b3.size
  have h5 := (b3.block _ (by omega)).trans HG1.out
  have P := put3 h5 (.int .i64 a) (.int .i64 b) (.slice av N cv)
  have HP := Lib.hid P
  obtain ⟨m0, m1, m2, f0, f1, f2⟩ := blk3 h5
  clear P o3 b3 h5 hw1 HB HG1 hN
  go_wp2_with fail
  have P := HP.out
  clear HP
  generalize (((w3.setCell ⟨w.heap.size, 0, none⟩ (.int .i64 a)).setCell ⟨w.heap.size, 1, none⟩ (.int .i64 b)).setCell ⟨w.heap.size, 2, none⟩ (.slice av N cv)) = wy at *
  obtain ⟨q0, q1, q2, -, -, -⟩ := blk3 P.heap
  refine bodyPost_ret (v := .tuple #[.agg #[.int .i64 a, .int .i64 b, .slice av N cv], .bool true]) (by simp [results, Try.results10, go_sem, q0, q1, q2]) rfl ?_
  refine ⟨_, rfl, ?_, Below.chg HB3.out P.chg (fun q hq => by omega) (by omega)⟩
  rw [HN.out]
  exact (O3.out.chg P.chg fun q hq e => by have := (O3.out.lt hq).1; omega).mono (B' := w.heap.size) (by omega)
end Go.Proofs.Ytjhbcnmkamkkaaa
