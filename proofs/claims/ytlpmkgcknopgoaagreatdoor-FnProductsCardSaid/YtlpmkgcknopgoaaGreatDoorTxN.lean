/- Walks: texts of lists of numbers: the program's. -/
import Derived.Test.YtlpmkgcknopgoaaGreatDoorTxQ
import Derived.Test.YtlpmkgcknopgoaaGreatDoorCutW
namespace Go.Proofs.YtlpmkgcknopgoaaGreatDoor
open Go Go.RowKit

theorem Tryz.infoStrT : (Tryz.prog.info? 9).map (fun i => (i.zero, i.size, i.bytes)) = some (some (.string ⟨#[]⟩), 1, 16) := by kernel_rfl
def Tab16 (w : World) : Prop := w.cell? ⟨8, 15, none⟩ = some (.int .u8 4)
theorem Tab16.mono {w w' : World} (h : Tab16 w) (hb : Below w.heap.size w w') : Tab16 w' := ((bcell hb).1 _ _ (block_lt h)).trans h
theorem OwnStr.kept {w w' : World} {B : Nat} {v : Value} {Ls : List ByteArray} (h : OwnStr w B v Ls) (hb : Below w.heap.size w w') : OwnStr w' B v Ls :=
  World.ownsRow.kept h (grownBy_of_below hb none) (by cases v.ownBlock with | none => exact .inl rfl | some k => exact .inr (by simp))
theorem OwnStr.form {w : World} {B : Nat} {v : Value} {Ls : List ByteArray} (h : OwnStr w B v Ls) (hl : 0 < Ls.length) :
    ∃ g cap, v = .slice (some ⟨g, 0, none⟩) Ls.length cap ∧ B ≤ g ∧ g < w.heap.size ∧ Ls.length ≤ cap ∧ ∀ j x, Ls[j]? = some x → w.cell? ⟨g, 0 + j, none⟩ = some (.string x) := by
  have h0 := h
  rcases h with ⟨-, ⟨-, hn⟩ | ⟨g, cap, cur, rfl, hB, hh, hcap, -⟩⟩
  · omega
  · refine ⟨g, cap, rfl, hB, (Array.getElem?_eq_some_iff.1 hh).1, hcap, fun j x hj => ?_⟩
    have hlt : j < Ls.length := (List.getElem?_eq_some_iff.1 hj).1
    rw [Nat.zero_add, World.ownsRow.cellAt h0 j (by omega)]
    simp [List.getElem?_map, hj]

set_option maxRecDepth 100000 in
set_option maxHeartbeats 1600000 in
theorem joinTexts_any (w : World) (v : Value) (L : List Nat) (h : RdF w v L) (hm : L.length ≤ 1048576) (hT : Tab16 w) :
    Calls Tryz.prog 67 #[v, .func (.func 68) #[] #[]] w fun e w' => e = .returned (.string (numT L)) ∧ Below w.heap.size w w' := by
  obtain ⟨a, c, rfl, hc, -, hcell⟩ := h.opened
  have H := Lib.hid h
  have HT := Lib.hid hT
  clear h hT
  by_cases hl : 0 < L.length
  · rw [numT_cons hl]
    have hz : ((L.length : Int) == 0) = false := beq_eq_false_iff_ne.2 (by omega)
    have hown0 : OwnStr w w.heap.size (.slice none 0 0) [] := World.ownsRow_nil _ _ _ _
    go_enter Tryz.func67, Tryz.ntmps67
    go_wp2_with fail
    go_loopw [5, 7, 13] (fun u _ i wr => ∃ j : Nat, j ≤ L.length ∧ i = .int .i64 j ∧ OwnStr wr w.heap.size u ((L.take j).map hexT) ∧ Below w.heap.size w wr) (fun _ _ i _ => L.length - (intOf i).toNat)
    case atStart => exact ⟨0, Nat.zero_le _, rfl, hown0, Below.refl _ _⟩
    case round =>
      obtain ⟨wi, rfl⟩ : ∃ wi : World, wi = wr := ⟨_, rfl⟩
      obtain ⟨j, hj, rfl, ho, hb⟩ := hrel
      by_cases hlt : j < L.length
      · obtain ⟨b, o, r, rfl, d0, f0⟩ := hcell j hlt
        have d : wi.cell? ⟨b, o + j, none⟩ = some (.float .f32 r) := by rw [(bcell hb).1 _ _ (block_lt d0)]; exact d0
        have HT2 := Lib.hid (HT.out.mono hb)
        have Ho := Lib.hid ho
        clear hcell d0 ho hown0 hz
        go_wp2_with fail
        refine (bitsText_any wi r _ f0 HT2.out).mono ?_
        rintro e w2 ⟨rfl, b2⟩
        have hb2 := hb.trans (b2.mono hb.size)
        have Ho2 := Lib.hid (OwnStr.kept Ho.out b2)
        clear d
        go_wp2_with (at_builtin; refine wpList_push1 rfl _ _ 97 9 rfl (.string ⟨#[]⟩) 16 Tryz.underlying97 Tryz.infoStrT rfl (by decide) w.heap.size _ _ _ rfl (World.ownsRow.alloc Ho2.out _) _ _ _ rfl (cell_new _ _ _) rfl (by rw [List.length_map, List.length_take]; omega) (by have := hb2.size; simp; omega) ?_; intro v2 w3 h2 g2 b3)
        refine ⟨⟨j + 1, by omega, by go_num, ?_, (hb2.alloc hb2.size _).trans b3⟩, by simp [intOf]; omega⟩
        have e : (L.take (j + 1)).map hexT = (L.take j).map hexT ++ [hexT L[j]] := by
          rw [List.take_add_one, List.getElem?_eq_getElem hlt, List.map_append]
          rfl
        unfold OwnStr
        rw [e, List.map_append, List.length_append]
        exact h2
      · obtain rfl : j = L.length := by omega
        rw [List.take_length] at ho
        obtain ⟨g, cap, rfl, hg, hg2, hcap, hcells⟩ := ho.form (by simpa using hl)
        have htxt : Lib.join ((L.map hexT).map (·.data.toList)) (⟨#[44]⟩ : ByteArray).data.toList = txt L L.length := by
          unfold txt
          rw [List.take_length, List.map_map]
          rfl
        have hj : Calls Tryz.prog 81 #[.slice (some ⟨g, 0, none⟩) (L.map hexT).length cap, .string ⟨#[44]⟩] wi fun e w' => e = .returned (.string ⟨(txt L L.length).toArray⟩) ∧ Below wi.heap.size wi w' := by
          rw [← htxt]
          exact Tryz.strings_Join g 0 cap (L.map hexT) ⟨#[44]⟩ wi hcells hg2 (by simp; omega) hcap (by rw [htxt]; have := txt_length L L.length hl (Nat.le_refl _); omega)
        rw [List.length_map] at hj ⊢
        have Hj := Lib.hid hj
        clear hj htxt hcells ho hown0 hz hcell
        go_wp2_with fail
        refine Hj.out.mono ?_
        rintro e w2 ⟨rfl, b2⟩
        go_wp2
        go_ret
        exact ⟨rfl, hb.trans (b2.mono hb.size)⟩
  · obtain rfl : L = [] := List.eq_nil_of_length_eq_zero (by omega)
    go_enter Tryz.func67, Tryz.ntmps67
    go_wp2
    go_ret
    exact ⟨rfl, Below.refl _ _⟩
end Go.Proofs.YtlpmkgcknopgoaaGreatDoor
