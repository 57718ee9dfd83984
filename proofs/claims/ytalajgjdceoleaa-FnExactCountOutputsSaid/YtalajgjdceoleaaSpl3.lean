/- Walks: isScript, the program's CountOutputs. -/
import Derived.Test.YtalajgjdceoleaaSpl2
import Derived.Shelf.Abstract
import Derived.Sort.CutIn
namespace Go.Proofs.Ytalajgjdceoleaa
open Go Go.RowKit Go.Shelf
attribute [local go_sem] Oper.semAt_some

def scrB (s : ByteArray) : Bool := decide (s.size ≤ 12000) && (decide (s.size = 0) || Lib.hasSuffix s.data.toList [10])
theorem hasSuffix_one (l : List UInt8) (c : UInt8) : Lib.hasSuffix l [c] = true ↔ l.getLast? = some c := by
  unfold Lib.hasSuffix
  rw [List.isSuffixOf_iff_suffix]
  constructor
  · rintro ⟨t, rfl⟩
    simp
  · intro h
    obtain ⟨t, ht⟩ := List.getLast?_eq_some_iff.1 h
    exact ⟨t, ht.symm⟩
theorem scrB_iff {s : ByteArray} {xs : List ByteArray} {z : ByteArray} (h : cutB 10 s = xs ++ [z]) : scrB s = true ↔ s.size ≤ 12000 ∧ z.size = 0 := by
  unfold cutB at h
  obtain ⟨ys, y, h1⟩ : ∃ ys y, cutL 10 s.data.toList = ys ++ [y] := ⟨(cutL 10 s.data.toList).dropLast, _, (List.dropLast_concat_getLast (cutL_ne 10 _)).symm⟩
  have h2 := cut_last _ _ _ h1
  rw [h1, List.map_append] at h
  have h3 : mkB y = z := by
    have := congrArg List.getLast? h
    simpa using this
  have h4 : z.size = 0 ↔ y = [] := by rw [← h3, mkB_size, List.length_eq_zero_iff]
  rw [h4, h2]
  unfold scrB
  have h5 : s.size = 0 ↔ s.data.toList = [] := by rw [Lib.size_eq, List.length_eq_zero_iff]
  rw [Bool.and_eq_true, Bool.or_eq_true, decide_eq_true_eq, decide_eq_true_eq, hasSuffix_one, h5]
theorem lines_any (w : World) (s : ByteArray) :
    Calls Try.prog 22 #[.string s] w fun e w' => e = .returned (.func (.func 43) #[] #[.pointer (some ⟨w.heap.size, 0, none⟩)]) ∧ w' = w.alloc (.cells #[.string s] 9) := by
  go_enter Try.func22, Try.ntmps22
  go_wp2
  go_ret
  exact ⟨rfl, rfl⟩

set_option maxRecDepth 100000 in
set_option maxHeartbeats 800000 in
theorem isScript_any (HS : ∀ (s p : ByteArray) (w : World), s.size ≤ 9223372036854775807 → Calls Try.prog 42 #[.string s, .string p] w fun e w' => e = .returned (.bool (Lib.hasSuffix s.data.toList p.data.toList)) ∧ w' = w)
    (w : World) (s : ByteArray) (hs : s.size ≤ 1048576) :
    Calls Try.prog 21 #[.string s] w fun e w' => e = .returned (.bool (scrB s)) ∧ w' = w := by
  have H := HS s ⟨#[10]⟩ w (by omega)
  by_cases hbig : s.size ≤ 12000
  · by_cases h0 : s.size = 0
    · have hz' : s = (⟨#[]⟩ : ByteArray) := by
        apply ByteArray.ext
        exact Array.eq_empty_of_size_eq_zero h0
      subst hz'
      clear H
      go_enter Try.func21, Try.ntmps21
      go_wp2
      go_ret
      exact ⟨rfl, rfl⟩
    · have hz' : ¬ s = (⟨#[]⟩ : ByteArray) := fun e => h0 (by rw [e]; rfl)
      have hz2 : s.toList.isEmpty = false := by
        have := (neq_list (b := []) hz').2
        cases h : s.toList with
        | nil => exact absurd h this
        | cons a l => rfl
      have HG : Hid (scrB s = Lib.hasSuffix s.data.toList [10]) := Lib.hid (by unfold scrB; rw [decide_eq_true hbig, decide_eq_false h0]; rfl)
      go_enter Try.func21, Try.ntmps21
      go_wp2_with fail
      refine H.mono ?_
      rintro e w1 ⟨rfl, rfl⟩
      have HX : Hid (scrB s = Lib.hasSuffix s.data.toList [10]) := HG
      generalize Lib.hasSuffix s.data.toList [10] = b at HX ⊢
      go_wp2
      go_ret
      refine ⟨?_, rfl⟩
      rw [HX.out]; rfl
  · have HG : Hid (scrB s = false) := Lib.hid (by unfold scrB; rw [decide_eq_false hbig]; rfl)
    clear H
    go_enter Try.func21, Try.ntmps21
    go_wp2
    go_ret
    refine ⟨?_, rfl⟩
    rw [HG.out]; rfl

/-- The lines of a text that ends with a newline: its parts, a newline behind each. -/
theorem lnsB_script {s : ByteArray} {xs : List ByteArray} {z : ByteArray} (h : cutB 10 s = xs ++ [z]) (hz : z.size = 0) : lnsB s = xs.map fun x => mkB (x.data.toList ++ [10]) := by
  unfold cutB at h
  obtain ⟨ys, y, h1, h2⟩ := lines_cut s.data.toList
  rw [h1, List.map_append] at h
  have h3 : mkB y = z := by
    have := congrArg List.getLast? h
    simpa using this
  have h4 : ys.map mkB = xs := by
    have := congrArg List.dropLast h
    simpa using this
  have h5 : y = [] := by rw [← h3, mkB_size] at hz; exact List.length_eq_zero_iff.1 hz
  unfold lnsB
  rw [h2, if_pos h5, List.append_nil, ← h4, List.map_map, List.map_map]
  apply List.map_congr_left
  intro a _
  simp only [Function.comp, mkB_list]
theorem line_eq (l : ByteArray) (b : List UInt8) : mkB (l.data.toList ++ [10]) = ⟨(b ++ [10]).toArray⟩ ↔ l = ⟨b.toArray⟩ := by
  constructor
  · intro h
    have h1 := mkB_inj (show mkB (l.data.toList ++ [10]) = mkB (b ++ [10]) from h)
    have h2 := List.append_cancel_right h1
    rw [← h2]
  · rintro rfl
    rfl
theorem at_cons {xs pre rest : List ByteArray} {x : ByteArray} {f : ByteArray → ByteArray} (h : xs.map f = pre ++ x :: rest) : pre.length < xs.length ∧ x = f (lnAt xs pre.length) := by
  have h1 := congrArg List.length h
  simp at h1
  have hlt : pre.length < xs.length := by omega
  refine ⟨hlt, ?_⟩
  have h2 := congrArg (fun l : List ByteArray => l[pre.length]?) h
  simp only [List.getElem?_map, List.getElem?_append_right (Nat.le_refl _), Nat.sub_self, List.getElem?_cons_zero, List.getElem?_eq_getElem hlt, Option.map_some, Option.some.injEq] at h2
  rw [← h2]
  congr 1
  unfold lnAt
  rw [List.getD_eq_getElem?_getD, List.getElem?_eq_getElem hlt]
  rfl
set_option maxRecDepth 100000 in
set_option maxHeartbeats 1600000 in
theorem implCount_any (HS : ∀ (s p : ByteArray) (w : World), s.size ≤ 9223372036854775807 → Calls Try.prog 42 #[.string s, .string p] w fun e w' => e = .returned (.bool (Lib.hasSuffix s.data.toList p.data.toList)) ∧ w' = w)
    (IB : ∀ (s : ByteArray) (c : Int) (w : World), Calls Try.prog 44 #[.string s, .int .u8 c] w fun e w' => e = .returned (.int .i64 (Lib.indexByte s.data.toList c.toNat.toUInt8)) ∧ w' = w)
    (w : World) (s : ByteArray) (hs : s.size ≤ 1048576) :
    Calls Try.prog 8 #[.string s] w fun e w' => cntV s e ∧ Below w.heap.size w w' := by
  obtain ⟨xs, z, hx⟩ : ∃ xs z, cutB 10 s = xs ++ [z] := ⟨_, _, (List.dropLast_concat_getLast (by intro e; have := cutB_pos 10 s; rw [e] at this; exact absurd this (by decide))).symm⟩
  have HX := Lib.hid hx
  have hlen : xs.length ≤ 1048576 := by
    have := cutB_len 10 s
    rw [hx, List.length_append] at this
    simp at this
    omega
  have hiff := scrB_iff hx
  have hK := isScript_any HS w s hs
  by_cases hb : scrB s = true
  · obtain ⟨hbig, hz⟩ := hiff.1 hb
    have HL := Lib.hid (lnsB_script hx hz)
    have HG : Hid (cntV s (.returned (.tuple #[.int .i64 (badTo xs xs.length : Nat), .int .i64 ((xs.length : Int) - (badTo xs xs.length : Nat)), .bool true]))) := Lib.hid ⟨xs, _, HX.out, (if_pos ⟨hbig, hz⟩).symm⟩
    rw [hb] at hK
    clear hiff hx hb hbig hz
    refine callsIn_wide.1 (?_ : CallsIn Fence.wide 4 _ _ _ _ _)
    refine callsIn_of_wp_marks Try.func8 rfl trivial ?_ rfl
    simp only [Try.ntmps8, List.size_toArray, List.length_cons, List.length_nil, Nat.reduceAdd, Nat.reduceSub, Array.replicate_succ, Array.replicate_zero, List.push_toArray, List.append_toArray, List.nil_append, List.cons_append]
    gi_wp2_with (first | (refine ⟨trivial, ?_⟩; gi_at_call 21; refine (callsIn_wide.2 hK).mono ?_; rintro e w1 ⟨rfl, rfl⟩) | (refine ⟨trivial, ?_⟩; gi_at_call 22; refine (callsIn_wide.2 (lines_any _ _)).mono ?_; rintro e w2 ⟨rfl, rfl⟩))
    have bO := Boxed.new w1 2 (.int .i64 0)
    have bN := Boxed.new (w1.alloc (.cells #[.int .i64 0] 2)) 2 (.int .i64 0)
    have bS := Boxed.new ((w1.alloc (.cells #[.int .i64 0] 2)).alloc (.cells #[.int .i64 0] 2)) 9 (.string s)
    rw [World.size_alloc] at bN
    rw [World.size_alloc, World.size_alloc] at bS
    have hB0 : Below w1.heap.size w1 (((w1.alloc (.cells #[.int .i64 0] 2)).alloc (.cells #[.int .i64 0] 2)).alloc (.cells #[.string s] 9)) := (((Below.refl _ w1).alloc (Nat.le_refl _) _).alloc (by simp) _).alloc (by simp; omega) _
    refine wpIn_range_l rfl (by decide) (gf := 43) (lb := #[.pointer (some ⟨w1.heap.size + 1 + 1, 0, none⟩)]) rfl trivial (enters_of Try.func43 (by kernel_rfl) rfl)
      (lines_seq IB (w1.heap.size + 1 + 1) s hs _ bS.cell bS.frozen) (by simp) (fun _ => rfl)
      (fun pre W => Boxed W w1.heap.size 2 (.int .i64 (badTo xs pre.length : Nat)) ∧ Boxed W (w1.heap.size + 1) 2 (.int .i64 ((pre.length : Int) - (badTo xs pre.length : Nat))) ∧ Below w1.heap.size w1 W)
      (fun _ _ _ => False) ?hI (fun _ _ _ _ _ h _ _ => h) ⟨(bO.alloc _).alloc _, bN.alloc _, hB0⟩
      (fun x => { tmps := #[.string s, undef, .int .i64 0, .int .i64 0, .bool false, .pointer (some ⟨w1.heap.size, 0, none⟩), .pointer (some ⟨w1.heap.size + 1, 0, none⟩), .string x, .string s, .bool true, .bool false, .string s,
          .func (.func 43) #[] #[.pointer (some ⟨w1.heap.size + 1 + 1, 0, none⟩)], .string x, undef, undef, undef, undef, undef, undef, undef, undef, undef, undef, undef, undef], defers := [] }) ?assign ?body ?done ?stop
    case hI =>
      rintro pre A B r ⟨b1, b2, hb⟩ hg hr
      have hr' : w1.heap.size + 2 ≤ r := by
        rcases hr with rfl | ⟨h, _⟩
        · exact Nat.le_refl _
        · simp at h; omega
      exact ⟨b1.kept hg (by simp; omega), b2.kept hg (by simp; omega), hb.grown hg hb.size (fun k e => by cases e; omega)⟩
    case assign =>
      intro l x W K hK
      gi_wp2
      exact hK
    case body =>
      rintro l pre x rest W hpre ⟨b1, b2, hb⟩
      rw [HL.out] at hpre
      obtain ⟨hlt, hxe⟩ := at_cons hpre
      have c1 := b1.cell
      have f1 := b1.frozen
      have c2 := b2.cell
      have f2 := b2.frozen
      have hbl := badTo_le xs pre.length
      obtain ⟨p1, hp1⟩ : ∃ p1, pre ++ [x] = p1 := ⟨_, rfl⟩
      have hj : p1.length = pre.length + 1 := by rw [← hp1]; simp
      have HT : Hid (badTo xs (pre.length + 1) = badTo xs pre.length + (if isBad (lnAt xs pre.length) then 1 else 0)) := Lib.hid rfl
      rw [hp1]
      clear hpre hp1
      have hpl : pre.length ≤ 1048576 := by omega
      by_cases h1 : lnAt xs pre.length = (⟨#[110, 111]⟩ : ByteArray)
      · have HT' : Hid (badTo xs (pre.length + 1) = badTo xs pre.length + 1) := Lib.hid (by rw [HT.out, h1]; rfl)
        have hx2 : x = (⟨#[110, 111, 10]⟩ : ByteArray) := by rw [hxe, h1]; rfl
        subst hx2
        have HJ := Lib.hid hj
        clear HT hxe h1 hj
        gi_wp2
        refine ⟨(KeepsOthers.setCell _ _ _).from _, heap_setCell_other _ _ _ _ (by simp; omega), ?_, ?_, hb.setCell (p := ⟨w1.heap.size, 0, none⟩) (Nat.le_refl _) _⟩
        · show Boxed _ _ _ _
          rw [HJ.out, HT'.out]
          exact b1.set _
        · show Boxed _ _ _ _
          rw [HJ.out, HT'.out]
          have e : ((pre.length + 1 : Nat) : Int) - ((badTo xs pre.length + 1 : Nat) : Int) = (pre.length : Int) - ((badTo xs pre.length : Nat) : Int) := by omega
          rw [e]
          exact b2.kept (grownBy_setCell _ _ _ _) (by simp)
      · by_cases h2 : lnAt xs pre.length = (⟨#[119, 104, 97, 116]⟩ : ByteArray)
        · have HT' : Hid (badTo xs (pre.length + 1) = badTo xs pre.length + 1) := Lib.hid (by rw [HT.out, h2]; rfl)
          have hx2 : x = (⟨#[119, 104, 97, 116, 10]⟩ : ByteArray) := by rw [hxe, h2]; rfl
          subst hx2
          have HJ := Lib.hid hj
          clear HT hxe h1 h2 hj
          gi_wp2
          refine ⟨(KeepsOthers.setCell _ _ _).from _, heap_setCell_other _ _ _ _ (by simp; omega), ?_, ?_, hb.setCell (p := ⟨w1.heap.size, 0, none⟩) (Nat.le_refl _) _⟩
          · show Boxed _ _ _ _
            rw [HJ.out, HT'.out]
            exact b1.set _
          · show Boxed _ _ _ _
            rw [HJ.out, HT'.out]
            have e : ((pre.length + 1 : Nat) : Int) - ((badTo xs pre.length + 1 : Nat) : Int) = (pre.length : Int) - ((badTo xs pre.length : Nat) : Int) := by omega
            rw [e]
            exact b2.kept (grownBy_setCell _ _ _ _) (by simp)
        · have HT' : Hid (badTo xs (pre.length + 1) = badTo xs pre.length) := Lib.hid (by rw [HT.out]; unfold isBad; rw [decide_eq_false h1, decide_eq_false h2]; rfl)
          have n1 := neq_list (l := x) (b := [110, 111, 10]) (fun e => h1 ((line_eq _ [110, 111]).1 (hxe.symm.trans e)))
          have n2 := neq_list (l := x) (b := [119, 104, 97, 116, 10]) (fun e => h2 ((line_eq _ [119, 104, 97, 116]).1 (hxe.symm.trans e)))
          obtain ⟨n11, n12⟩ := n1
          obtain ⟨n21, n22⟩ := n2
          have HJ := Lib.hid hj
          clear HT hxe h1 h2 hj
          gi_wp2
          refine ⟨(KeepsOthers.setCell _ _ _).from _, heap_setCell_other _ _ _ _ (by simp), ?_, ?_, hb.setCell (p := ⟨w1.heap.size + 1, 0, none⟩) (Nat.le_succ _) _⟩
          · show Boxed _ _ _ _
            rw [HJ.out, HT'.out]
            exact b1.kept (grownBy_setCell _ _ _ _) (by simp)
          · show Boxed _ _ _ _
            rw [HJ.out, HT'.out]
            have e : ((pre.length + 1 : Nat) : Int) - ((badTo xs pre.length : Nat) : Int) = (pre.length : Int) - ((badTo xs pre.length : Nat) : Int) + 1 := by omega
            rw [e]
            exact b2.set _
    case done =>
      rintro D W hD ⟨b1, b2, hb⟩ hK
      have hll : (lnsB s).length = xs.length := by rw [HL.out, List.length_map]
      rw [hll] at b1 b2
      have hbl := badTo_le xs xs.length
      generalize badTo xs xs.length = bj at *
      generalize xs.length = n at *
      have c1 := Lib.hid b1.cell
      have c2 := Lib.hid b2.cell
      have l1 := b1.lt
      have l2 := b2.lt
      gi_upto_region 9 with fail
      refine wpIn_wide.2 ?_
      refine region_rel_all (by kernel_rfl) (by kernel_rfl) (Below W.heap.size W) (fun _ _ _ => False) (Below.drewN (Below.refl _ _) 1) ?_
      repeat (refine wpRel_un rfl rfl (fun wq hq K hK => ?_); (have q1 := ((bcell hq).1 _ _ l1).trans c1.out); (have q2 := ((bcell hq).1 _ _ l2).trans c2.out); go_wp2; clear q1 q2)
      refine wpRel_nil ?_
      intro wd hbd
      have hlD : D < W.heap.size := (Array.getElem?_eq_some_iff.1 hK).1
      have hK' : wd.heap[D]? = some (.deferred (some [])) := (hbd.block D hlD).trans hK
      have hD' : w1.heap.size ≤ D := by simp at hD; omega
      have hbw := hb.trans (hbd.mono hb.size)
      gi_wp2
      refine ⟨by simp, .inl ⟨_, _, rfl, run_takeDeferred hK', ?_⟩⟩
      refine ⟨_, results_tmp3 (t := 2) (u := 3) (v := 4) rfl _ _ _, HG.out, hbw.trans (belowK_b (w := w1) (Nat.le_refl _) wd D _ _ hD' hK' rfl rfl)⟩
    case stop =>
      rintro D j pre x rest W _ _ h _
      exact h.elim
  · have hb' : scrB s = false := by simpa using hb
    have HG : Hid (cntV s (.returned (.tuple #[.int .i64 0, .int .i64 0, .bool false]))) := Lib.hid ⟨xs, z, HX.out, (if_neg (fun h => hb (hiff.2 h))).symm⟩
    rw [hb'] at hK
    clear hiff hx hb hb'
    go_enter Try.func8, Try.ntmps8
    go_wp2_with fail
    refine hK.mono ?_
    rintro e w1 ⟨rfl, rfl⟩
    go_wp2
    go_ret3
    exact ⟨HG.out, Below.refl _ _⟩
end Go.Proofs.Ytalajgjdceoleaa
