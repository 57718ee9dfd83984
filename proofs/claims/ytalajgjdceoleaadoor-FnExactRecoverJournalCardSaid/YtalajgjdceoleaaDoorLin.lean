/- strings.Lines: the iterator over a text's lines keeps the rest of the text in a block of its own. -/
import Derived.Test.YtalajgjdceoleaaDoorSeq
import Derived.Test.YtalajgjdceoleaaDoorCut
import Derived.Test.YtalajgjdceoleaaDoorJ0
import Derived.Lib.Hide
import Derived.Deep.CutRange
import Derived.Deep.DeepCutAuto
import Derived.Deep.RegionWith
namespace Go.Proofs.YtalajgjdceoleaaDoor
open Go Go.RowKit
attribute [local go_sem] Oper.semAt_some

section
variable {P : Program} {ops : Array Oper} {T : FuncId → Array Value → Value → Prop} {Q : Act → Prop} {a : Act} {o : Oper} {rest : List Oper}
theorem wpRel_un {W : World} (hp : plainOp o.op = true) (hg : Region.wanted o (yielded ops a.tmps) = true)
    (h : ∀ w, Below W.heap.size W w → ∀ K : Act → World → Prop, (∀ a', wpRel P ops (Below W.heap.size W) T Q rest a' → K a' w) → o.wp P a w K (fun _ _ _ => False)) : wpRel P ops (Below W.heap.size W) T Q (o :: rest) a :=
  wpRel_op hp hg ⟨W, Below.refl _ _⟩ fun w hw K hK => h w hw K fun a' hr => hK a' w ⟨hw, hr⟩
end
/-- What the iterator's cell holds, read off the world. -/
def restOf (W : World) (c : Nat) : Nat := match W.cell? ⟨c, 0, none⟩ with
  | some (.string s) => s.size
  | _ => 0
theorem restOf_eq {W : World} {c : Nat} {s : ByteArray} (h : W.cell? ⟨c, 0, none⟩ = some (.string s)) : restOf W c = s.size := by
  unfold restOf
  rw [h]
set_option maxRecDepth 100000 in
set_option maxHeartbeats 1600000 in
theorem lines_seq (IB : ∀ (s : ByteArray) (c : Int) (w : World), Calls Tryd.prog 34 #[.string s, .int .u8 c] w fun e w' => e = .returned (.int .i64 (Lib.indexByte s.data.toList c.toNat.toUInt8)) ∧ w' = w)
    (c : Nat) (t : ByteArray) (ht : t.size ≤ 1048576) (W0 : World) (hc : W0.cell? ⟨c, 0, none⟩ = some (.string t)) (hf : W0.frozen? ⟨c, 0, none⟩ = false) :
    SeqL Fence.wide 3 Tryd.prog 33 #[.pointer (some ⟨c, 0, none⟩)] (fun x : ByteArray => #[Value.string x]) c (lnsB t) W0 := by
  intro l J Jx W hW hJ hJx hY h0
  have hcW : W.cell? ⟨c, 0, none⟩ = some (.string t) := (World.cell?_of_block hW).trans hc
  have hfW : W.frozen? ⟨c, 0, none⟩ = false := (World.frozen?_of_block hW).trans hf
  refine callsIn_of_wp Tryd.func33 rfl trivial ?_ rfl
  simp only [Tryd.ntmps33, List.size_toArray, List.length_cons, List.length_nil, Nat.reduceAdd, Nat.reduceSub, Array.replicate_succ, Array.replicate_zero, List.push_toArray, List.append_toArray, List.nil_append, List.cons_append]
  gi_wp2
  gi_loopw [] (fun wr => ∃ (pre : List ByteArray) (r : ByteArray), lnsB t = pre ++ lnsB r ∧ r.size ≤ 1048576 ∧ wr.cell? ⟨c, 0, none⟩ = some (.string r) ∧ wr.frozen? ⟨c, 0, none⟩ = false ∧ J pre wr) (fun wr => restOf wr c)
  case atStart => exact ⟨[], t, rfl, ht, hcW, hfW, h0⟩
  case round =>
    obtain ⟨wi, rfl⟩ : ∃ wi : World, wi = wr := ⟨_, rfl⟩
    obtain ⟨pre, r, hL, hr, hcr, hfr, hJr⟩ := hrel
    have HM := Lib.hid (restOf_eq hcr)
    by_cases h00 : r.size = 0
    · have h01 := lnsB_nil h00
      have h02 : (⟨#[]⟩ : ByteArray) = r := by
        apply ByteArray.ext
        exact (Array.eq_empty_of_size_eq_zero h00).symm
      gi_wp2
      go_end0
      exact ⟨⟨_, rfl⟩, .inl (by rw [hL, h01, List.append_nil]; exact hJr)⟩
    · have hpos : (0 : Int) < (r.size : Int) := by omega
      rcases (by omega : Lib.indexByte r.data.toList 10 < 0 ∨ 0 ≤ Lib.indexByte r.data.toList 10) with hneg | hge
      · have hl := lnsB_miss hneg (by omega)
        have hIB : ∀ w1 : World, Calls Tryd.prog 34 #[.string r, .int .u8 10] w1 fun e w' => e = .returned (.int .i64 (Lib.indexByte r.data.toList 10)) ∧ w' = w1 := fun w1 => IB r 10 w1
        generalize Lib.indexByte r.data.toList 10 = i at hneg hIB
        have HY := Lib.hid hY
        have HL := Lib.hid hL
        have Hl := Lib.hid hl
        clear hY hL hl
        refine wpIn_wide.2 ?_
        go_wp2_with fail
        refine (hIB _).mono ?_
        rintro e w1 ⟨rfl, rfl⟩
        have hneg' : ¬ (0 : Int) ≤ i := by omega
        go_upto_region 6 with fail
        obtain ⟨W2, hW2⟩ : ∃ W2, w1.setCell ⟨c, 0, none⟩ (.string ⟨#[]⟩) = W2 := ⟨_, rfl⟩
        have hJ2 : J pre W2 := by rw [← hW2]; exact hJ _ _ _ hJr (grownBy_setCell w1 c 0 _)
        have HC2' : Hid (W2.cell? ⟨c, 0, none⟩ = some (.string ⟨#[]⟩)) := Lib.hid (by rw [← hW2]; exact World.cell?_setCell_same' _ _ _ (by rw [hcr]; rfl))
        have hf2 : W2.frozen? ⟨c, 0, none⟩ = false := by rw [← hW2, World.frozen?_setCell]; exact hfr
        rw [hW2]
        obtain ⟨z, hz⟩ : ∃ z : ByteArray, z = ⟨#[]⟩ := ⟨_, rfl⟩
        rw [← hz] at HC2'
        have hzs : z.size < r.size := by rw [hz]; show 0 < r.size; omega
        obtain ⟨x, hx⟩ : ∃ x : ByteArray, x = r := ⟨_, rfl⟩
        obtain ⟨rest, hrest⟩ : ∃ rest : List ByteArray, rest = [] := ⟨_, rfl⟩
        have HZ : Hid (rest = lnsB z) := Lib.hid (by first | exact hrest.symm | (rw [hrest, hz]; rfl))
        have HX : Hid (lnsB t = pre ++ x :: rest) := Lib.hid (by rw [HL.out, Hl.out, hx, hrest])
        rw [← hx]
        clear hx hz hrest
        refine (wpIn_wide (n := 3)).1 ?_
        have HC2 : W2.cell? ⟨c, 0, none⟩ = some (.string z) := HC2'.out
        clear HC2'
        obtain ⟨fn, tmps, assign, body, hy, hR⟩ := HY.out pre x rest W2 HX.out hJ2
        gi_wp2
        refine hR.mono ?_
        rintro e W3 (⟨rfl, hJ3, hk3⟩ | ⟨rfl, hJx3⟩)
        · have hc3 : W3.cell? ⟨c, 0, none⟩ = some (.string z) := (World.cell?_of_block hk3).trans HC2
          have hf3 : W3.frozen? ⟨c, 0, none⟩ = false := (World.frozen?_of_block hk3).trans hf2
          gi_wp2
          refine (wpIn_wide (n := 3)).1 ?_
          gi_wp2
          go_roundw
          case rel => exact ⟨pre ++ [x], z, by rw [HX.out, HZ.out, List.append_assoc]; rfl, by omega, hc3, hf3, hJ3⟩
          case measure => rw [restOf_eq hc3, HM.out]; exact hzs
        · gi_wp2
          refine (wpIn_wide (n := 3)).1 ?_
          gi_wp2
          refine bodyPost_ret (results_none rfl _ _ _) rfl ?_
          exact ⟨⟨_, rfl⟩, .inr ⟨pre, x, rest, HX.out, hJx3⟩⟩
      · obtain ⟨i, hi⟩ := Int.eq_ofNat_of_zero_le hge
        obtain ⟨hlt, hl⟩ := lnsB_hit hi
        have hIB : ∀ w1 : World, Calls Tryd.prog 34 #[.string r, .int .u8 10] w1 fun e w' => e = .returned (.int .i64 i) ∧ w' = w1 := fun w1 => by have h := IB r 10 w1; rw [← hi]; exact h
        have HY := Lib.hid hY
        have HL := Lib.hid hL
        have Hl := Lib.hid hl
        clear hY hL hl hi hge
        have hcl : c < wi.heap.size := block_lt hcr
        refine wpIn_wide.2 ?_
        go_wp2_with fail
        refine (hIB _).mono ?_
        rintro e w1 ⟨rfl, rfl⟩
        go_upto_region 4 with fail
        have H1 := Lib.hid hcr
        clear hcr
        refine region_rel_tail 9 (by kernel_rfl) (by kernel_rfl) (Below w1.heap.size w1) (fun _ _ _ => False) (Below.drewN (Below.refl _ _) 1) ?_
        simp only [List.take_succ_cons, List.take_zero, List.drop_succ_cons, List.drop_zero]
        repeat (refine wpRel_un rfl rfl (fun wq hq K hK => ?_); (have q0 := ((bcell hq).1 _ _ hcl).trans H1.out); go_wp2; clear q0)
        refine wpRel_nil ?_
        intro wd hbd
        have hcd : wd.cell? ⟨c, 0, none⟩ = some (.string r) := ((bcell hbd).1 _ _ hcl).trans H1.out
        have hfd : wd.frozen? ⟨c, 0, none⟩ = false := ((bcell hbd).2 _ _ hcl).trans hfr
        have hJd : J pre wd := hJ _ _ _ hJr (grownBy_of_below hbd (some c))
        go_upto_region 6 with fail
        obtain ⟨z, hz⟩ : ∃ z : ByteArray, r.extract (i + 1) r.size = z := ⟨_, rfl⟩
        obtain ⟨x, hx⟩ : ∃ x : ByteArray, r.extract 0 (i + 1) = x := ⟨_, rfl⟩
        obtain ⟨rest, hrest⟩ : ∃ rest : List ByteArray, lnsB z = rest := ⟨_, rfl⟩
        have HZ : Hid (rest = lnsB z) := Lib.hid (by first | exact hrest.symm | (rw [hrest, hz]; rfl))
        have HX : Hid (lnsB t = pre ++ x :: rest) := Lib.hid (by rw [HL.out, Hl.out, hx, hz, hrest])
        have hzs : z.size < r.size := by rw [← hz, ByteArray.size_extract]; omega
        rw [hz, hx]
        obtain ⟨W2, hW2⟩ : ∃ W2, wd.setCell ⟨c, 0, none⟩ (.string z) = W2 := ⟨_, rfl⟩
        have hJ2 : J pre W2 := by rw [← hW2]; exact hJ _ _ _ hJd (grownBy_setCell wd c 0 _)
        have HC2' : Hid (W2.cell? ⟨c, 0, none⟩ = some (.string z)) := Lib.hid (by rw [← hW2]; exact World.cell?_setCell_same' _ _ _ (by rw [hcd]; rfl))
        have hf2 : W2.frozen? ⟨c, 0, none⟩ = false := by rw [← hW2, World.frozen?_setCell]; exact hfd
        rw [hW2]
        refine (wpIn_wide (n := 3)).1 ?_
        have HC2 : W2.cell? ⟨c, 0, none⟩ = some (.string z) := HC2'.out
        clear HC2'
        obtain ⟨fn, tmps, assign, body, hy, hR⟩ := HY.out pre x rest W2 HX.out hJ2
        gi_wp2
        refine hR.mono ?_
        rintro e W3 (⟨rfl, hJ3, hk3⟩ | ⟨rfl, hJx3⟩)
        · have hc3 : W3.cell? ⟨c, 0, none⟩ = some (.string z) := (World.cell?_of_block hk3).trans HC2
          have hf3 : W3.frozen? ⟨c, 0, none⟩ = false := (World.frozen?_of_block hk3).trans hf2
          gi_wp2
          refine (wpIn_wide (n := 3)).1 ?_
          gi_wp2
          go_roundw
          case rel => exact ⟨pre ++ [x], z, by rw [HX.out, HZ.out, List.append_assoc]; rfl, by omega, hc3, hf3, hJ3⟩
          case measure => rw [restOf_eq hc3, HM.out]; exact hzs
        · gi_wp2
          refine (wpIn_wide (n := 3)).1 ?_
          gi_wp2
          refine bodyPost_ret (results_none rfl _ _ _) rfl ?_
          exact ⟨⟨_, rfl⟩, .inr ⟨pre, x, rest, HX.out, hJx3⟩⟩
end Go.Proofs.YtalajgjdceoleaaDoor
