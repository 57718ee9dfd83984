/- Walks: l08Lines. -/
import Derived.Test.YtalajgjdceoleaaDoorSpl
import Derived.Test.YtalajgjdceoleaaDoorLin
import Derived.OwnWalk
namespace Go.Proofs.YtalajgjdceoleaaDoor
open Go Go.RowKit

set_option maxRecDepth 100000 in
set_option maxHeartbeats 1600000 in
theorem l08Lines_any (w : World) (s : ByteArray) (hs : s.size ≤ 1048576) (xs : List ByteArray) (z : ByteArray) (hx : cutB 10 s = xs ++ [z]) :
    Calls Tryd.prog 25 #[.string s] w fun e w' => ∃ v, e = .returned (.tuple #[v, .string z]) ∧ RdStr w' v xs ∧ Below w.heap.size w w' := by
  have HX := Lib.hid hx
  have hlen : xs.length ≤ 1048576 := by
    have := cutB_len 10 s
    rw [hx, List.length_append] at this
    simp at this
    omega
  clear hx
  have HK := Lib.hid (l01Cut_any w s 10 hs)
  go_enter Tryd.func25, Tryd.ntmps25
  go_wp2_with fail
  refine HK.out.mono ?_
  clear HK
  rintro e w1 ⟨v, rfl, ho, hb⟩
  rw [HX.out] at ho
  have hr := ho.rd
  have hl : (xs ++ [z]).length = xs.length + 1 := by simp
  obtain ⟨a, c, rfl, hc, -, hcell⟩ := hr.opened
  obtain ⟨g, o, rfl, hlb, -⟩ := hcell 0 (by omega)
  have hcell' : ∀ j, j < xs.length → w1.cell? ⟨g, o + j, none⟩ = some (.string (lnAt xs j)) := fun j hj => by
    obtain ⟨b', o', e, _, h1⟩ := hcell j (by omega)
    simp only [Option.some.injEq, Addr.mk.injEq, and_true] at e
    obtain ⟨rfl, rfl⟩ := e
    rw [h1]
    congr 2
    unfold lnAt
    rw [List.getD_eq_getElem?_getD, List.getElem?_append_left hj, List.getD_eq_getElem?_getD]
  have hlast : w1.cell? ⟨g, o + xs.length, none⟩ = some (.string z) := by
    obtain ⟨b', o', e, _, h1⟩ := hcell xs.length (by omega)
    simp only [Option.some.injEq, Addr.mk.injEq, and_true] at e
    obtain ⟨rfl, rfl⟩ := e
    rw [h1]
    congr 2
    unfold lnAt
    rw [List.getD_eq_getElem?_getD, List.getElem?_append_right (Nat.le_refl _)]
    simp
  have HC := Lib.hid hcell'
  have HL := Lib.hid hlast
  clear hcell hcell' hlast hr ho
  rw [hl] at hc ⊢
  clear hl
  obtain ⟨n, hn⟩ : ∃ n, xs.length = n := ⟨_, rfl⟩
  rw [hn] at HC HL hc hlen ⊢
  have HN := Lib.hid hn
  clear hn
  go_upto_region 2 with fail
  refine region_rel_all (by kernel_rfl) (by kernel_rfl) (Below w1.heap.size w1) (fun _ _ _ => False) (Below.drewN (Below.refl _ _) 1) ?_
  repeat (refine wpRel_un rfl rfl (fun wq hq K hK => ?_); (have q0 := ((bcell hq).1 _ _ hlb).trans HL.out); go_wp2; clear q0)
  refine wpRel_nil ?_
  intro wd hbd
  go_wp2
  go_ret2
  refine ⟨_, rfl, ?_, hb.trans (hbd.mono hb.size)⟩
  unfold RdStr
  rw [HN.out]
  refine ⟨_, c, rfl, by omega, fun h => (by cases h), fun j hj => ⟨g, o, _, rfl, ?_, rfl⟩⟩
  rw [(bcell hbd).1 _ _ hlb]
  exact HC.out j hj

theorem neq_list {l : ByteArray} {b : List UInt8} (h : ¬ l = ⟨b.toArray⟩) : (l.toList == b) = false ∧ ¬ l.toList = b := by
  have h1 : ¬ l.toList = b := fun e => h (by rw [Lib.toList_data] at e; rw [← e])
  exact ⟨by rw [beq_eq_false_iff_ne]; exact h1, h1⟩
end Go.Proofs.YtalajgjdceoleaaDoor
