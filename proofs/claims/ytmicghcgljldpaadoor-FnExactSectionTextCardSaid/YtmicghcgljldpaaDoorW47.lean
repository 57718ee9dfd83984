/- Walks: SectionText. -/
import Derived.Test.YtmicghcgljldpaaDoorW46
namespace Go.Proofs.YtmicghcgljldpaaDoor
open Go Go.RowKit

def decOf (args : Array Value) : ByteArray := match args with
  | #[.int _ n] => ⟨(Lib.decDigits n.toNat).toArray⟩
  | _ => ⟨#[]⟩

set_option maxRecDepth 100000 in
set_option maxHeartbeats 1600000 in
theorem implSectionText_any (w : World) (u : Value) (S : SM) (h : RdS w u S) (hm : S.V.length ≤ 1048576) (hT : Tab16 w) :
    Calls Tryd.prog 13 #[u] w fun e w' => e = .returned (txtIf (validS S) (sectionB S)) ∧ Below w.heap.size w w' := by
  have H := Lib.hid h
  obtain ⟨v, rfl, hv⟩ := h
  have hb0 : Below w.heap.size w (w.alloc (.cells #[.int .i64 S.w, .int .i64 S.d, v] 35)) := by (repeat (first | exact Below.refl _ _ | (refine Below.drewN ?_ _) | (refine Below.alloc ?_ (by first | exact Nat.le_refl _ | (simp; done) | (simp; omega)) _)))
  have B := HB.new w (.cells #[.int .i64 S.w, .int .i64 S.d, v] 35)
  go_enter Tryd.func13, Tryd.ntmps13
  go_wp2_with fail
  generalize w.alloc (.cells #[.int .i64 S.w, .int .i64 S.d, v] 35) = w0 at *
  refine (validSection_any w0 _ S (H.out.mono hb0)).mono ?_
  rintro e w1 ⟨rfl, b1⟩
  have hb1 := hb0.trans (b1.mono hb0.size)
  have B1 := Lib.hid (B.mono b1)
  clear B
  cases hp : validS S with
  | false =>
    go_wp2
    go_ret2
    exact ⟨by rw [hp]; rfl, hb1⟩
  | true =>
    obtain ⟨a, b, e1, e2, ha, hb⟩ := validS_sides hp
    obtain ⟨x, y, V⟩ := S
    simp only at e1 e2 hm hv
    subst e1 e2
    obtain ⟨va, vc, rfl, -⟩ := hv.opened
    have hV := numT_size V hm
    have hA := decDigits_small a ha
    have hB := decDigits_small b hb
    have HE := Lib.hid (show (⟨(Lib.decDigits a).toArray⟩ : ByteArray) ++ (⟨#[44]⟩ : ByteArray) ++ (⟨(Lib.decDigits b).toArray⟩ : ByteArray) ++ (⟨#[58]⟩ : ByteArray) ++ numT V = sectionB ⟨a, b, V⟩ by
      unfold sectionB twoB
      rw [numT_eq, bytes_append, bytes_append, bytes_append, bytes_append]
      simp [List.append_assoc])
    have KA : ∀ w1 : World, Calls Tryd.prog 34 #[.int .i64 a] w1 fun e w' => e = .returned (.string ⟨(Lib.decDigits a).toArray⟩) ∧ w' = w1 := fun w1 => decimal_any w1 a ha
    have KB : ∀ w1 : World, Calls Tryd.prog 34 #[.int .i64 b] w1 fun e w' => e = .returned (.string ⟨(Lib.decDigits b).toArray⟩) ∧ w' = w1 := fun w1 => decimal_any w1 b hb
    have KN : ∀ (w1 : World) (v : Value), RdF w1 v V → Tab16 w1 → Calls Tryd.prog 28 #[v] w1 fun e w' => e = .returned (.string (numT V)) ∧ Below w1.heap.size w1 w' := fun w1 v h h' => numbers_any w1 v V h hm h'
    obtain ⟨DA, hDA⟩ : ∃ D : ByteArray, (⟨(Lib.decDigits a).toArray⟩ : ByteArray) = D := ⟨_, rfl⟩
    obtain ⟨DB, hDB⟩ : ∃ D : ByteArray, (⟨(Lib.decDigits b).toArray⟩ : ByteArray) = D := ⟨_, rfl⟩
    obtain ⟨N, hNe⟩ : ∃ N : ByteArray, numT V = N := ⟨_, rfl⟩
    rw [hDA] at hA KA HE
    rw [hDB] at hB KB HE
    rw [hNe] at hV HE KN
    have HA : Hid (Value.string DA = (if 34 = 28 then .string N else .string (decOf #[.int .i64 a]))) := Lib.hid (by rw [if_neg (by decide), ← hDA]; rfl)
    have HB : Hid (Value.string DB = (if 34 = 28 then .string N else .string (decOf #[.int .i64 b]))) := Lib.hid (by rw [if_neg (by decide), ← hDB]; rfl)
    clear hDA hDB hNe
    go_upto_region 3 with fail
    obtain ⟨hgl, hgh⟩ := B1.out
    obtain ⟨c0, c1, c2, -, -, -⟩ := blk3 hgh
    clear hgh B1
    have C0 := Lib.hid c0
    have C1 := Lib.hid c1
    have C2 := Lib.hid c2
    clear c0 c1 c2
    have hHV := Lib.hid hv
    clear hv H
    refine region_rel_all (by kernel_rfl) (by kernel_rfl) (Below w1.heap.size w1) (fun f args v => v = (if f = 28 then .string N else .string (decOf args))) (Below.drewN (Below.refl _ _) 1) ?_
    repeat (refine wpRel_under rfl rfl (fun wq hq K hK => ?_); (have q0 := ((bcell hq).1 _ _ hgl).trans C0.out); (have q1 := ((bcell hq).1 _ _ hgl).trans C1.out); (have q2 := ((bcell hq).1 _ _ hgl).trans C2.out); go_wp2; clear q0 q1 q2)
    refine wpRel_callF #[.int .i64 a] Tryd.func34 (by kernel_rfl) (by kernel_rfl) (by simp [go_sem]) ⟨w1, Below.refl _ _⟩ ⟨_, rfl⟩
      (fun wq hq => (KA wq).mono fun e w'' ⟨he, hw⟩ => ⟨_, he, HA.out, by rw [hw]; exact hq⟩) ?_
    intro v hv
    obtain rfl : v = .string DA := hv.trans HA.out.symm
    clear hv KA
    simp only [Act.put, List.setIfInBounds_toArray, List.set_cons_succ, List.set_cons_zero]
    repeat (refine wpRel_under rfl rfl (fun wq hq K hK => ?_); (have q0 := ((bcell hq).1 _ _ hgl).trans C0.out); (have q1 := ((bcell hq).1 _ _ hgl).trans C1.out); (have q2 := ((bcell hq).1 _ _ hgl).trans C2.out); go_wp2; clear q0 q1 q2)
    refine wpRel_callF #[.int .i64 b] Tryd.func34 (by kernel_rfl) (by kernel_rfl) (by simp [go_sem]) ⟨w1, Below.refl _ _⟩ ⟨_, rfl⟩
      (fun wq hq => (KB wq).mono fun e w'' ⟨he, hw⟩ => ⟨_, he, HB.out, by rw [hw]; exact hq⟩) ?_
    intro v hv
    obtain rfl : v = .string DB := hv.trans HB.out.symm
    clear hv KB
    simp only [Act.put, List.setIfInBounds_toArray, List.set_cons_succ, List.set_cons_zero]
    repeat (refine wpRel_under rfl rfl (fun wq hq K hK => ?_); (have q0 := ((bcell hq).1 _ _ hgl).trans C0.out); (have q1 := ((bcell hq).1 _ _ hgl).trans C1.out); (have q2 := ((bcell hq).1 _ _ hgl).trans C2.out); go_wp2; clear q0 q1 q2)
    refine wpRel_callF #[.slice va V.length vc] Tryd.func28 (by kernel_rfl) (by kernel_rfl) (by simp [go_sem]) ⟨w1, Below.refl _ _⟩ ⟨_, rfl⟩
      (fun wq hq => (KN wq _ (hHV.out.mono (hb1.trans (hq.mono hb1.size))) (hT.mono (hb1.trans (hq.mono hb1.size)))).mono fun e w'' ⟨he, hw⟩ => ⟨_, he, by rw [if_pos rfl], hq.trans (hw.mono hq.size)⟩) ?_
    intro v hv
    obtain rfl : v = .string N := hv.trans (by rw [if_pos rfl])
    clear hv KN
    simp only [Act.put, List.setIfInBounds_toArray, List.set_cons_succ, List.set_cons_zero]
    repeat (refine wpRel_under rfl rfl (fun wq hq K hK => ?_); go_wp2)
    refine wpRel_nil ?_
    intro wd hbd
    have hbd' := hb1.trans (hbd.mono hb1.size)
    go_wp2
    go_ret2
    exact ⟨by rw [hp, HE.out]; rfl, hbd'⟩

set_option maxRecDepth 100000 in
set_option maxHeartbeats 800000 in
theorem specSectionText_any (w : World) (u : Value) (S : SM) (h : RdS w u S) (hm : S.V.length ≤ 1048576) :
    Calls Tryd.prog 11 #[u] w fun e w' => e = .returned (txtIf (validS S) (sectionB S)) ∧ Below w.heap.size w w' := by
  obtain ⟨v, rfl, hv⟩ := h
  have hb0 : Below w.heap.size w (w.alloc (.cells #[.int .i64 S.w, .int .i64 S.d, v] 35)) := by (repeat (first | exact Below.refl _ _ | (refine Below.drewN ?_ _) | (refine Below.alloc ?_ (by first | exact Nat.le_refl _ | (simp; done) | (simp; omega)) _)))
  obtain ⟨c0, c1, c2, -, -, -⟩ := blk3 (alloc_new w (.cells #[.int .i64 S.w, .int .i64 S.d, v] 35))
  go_enter Tryd.func11, Tryd.ntmps11
  go_wp2_with fail
  generalize w.alloc (.cells #[.int .i64 S.w, .int .i64 S.d, v] 35) = w0 at *
  refine (l06Is_any w0 w.heap.size S v c0 c1 c2 (hv.mono hb0)).mono ?_
  rintro e w1 ⟨rfl, m, hw1⟩
  have hb1 : Below w.heap.size w w1 := by rw [hw1]; exact Below.drewN hb0 m
  have d0 : w1.cell? ⟨w.heap.size, 0, none⟩ = some (.int .i64 S.w) := by rw [hw1]; exact c0
  have d1 : w1.cell? ⟨w.heap.size, 1, none⟩ = some (.int .i64 S.d) := by rw [hw1]; exact c1
  have d2 : w1.cell? ⟨w.heap.size, 2, none⟩ = some v := by rw [hw1]; exact c2
  clear hw1 c0 c1 c2
  cases hp : validS S with
  | false =>
    go_wp2
    go_ret2
    exact ⟨by rw [hp]; rfl, hb1⟩
  | true =>
    obtain ⟨a, b, e1, e2, ha, hb⟩ := validS_sides hp
    obtain ⟨x, y, V⟩ := S
    simp only at e1 e2 hm hv
    subst e1 e2
    go_wp2_with fail
    refine (l08Section_any w1 w.heap.size a b v V d0 d1 d2 (hv.mono hb1) ha hb hm).mono ?_
    rintro e w2 ⟨rfl, b2⟩
    go_wp2
    go_ret2
    exact ⟨by rw [hp]; rfl, hb1.trans (b2.mono hb1.size)⟩
end Go.Proofs.YtmicghcgljldpaaDoor
