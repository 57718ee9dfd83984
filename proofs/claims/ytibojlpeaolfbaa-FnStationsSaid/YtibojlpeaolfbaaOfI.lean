/- Walks: the frames of a station: the program's. -/
import Derived.Test.YtibojlpeaolfbaaDel
namespace Go.Proofs.Ytibojlpeaolfbaa
open Go Go.RowKit

set_option maxRecDepth 100000 in
set_option maxHeartbeats 1600000 in
theorem ofStation_any (w : World) (v : Value) (s : Int) (Fs : List FM) (h : RdFr w v Fs) (hl : Fs.length ≤ 12) (hm : ∀ j, j < Fs.length → (frAt Fs j).L.length ≤ 1048576) :
    Calls Try.prog 81 #[v, .int .i64 s] w fun e w' => ∃ v' Es, e = .returned v' ∧ OwnR w' w.heap.size v' Es ∧ RdEs w' Es ∧ Es.map FE.f = ofF Fs s ∧ Below w.heap.size w w' ∧ BaseE w.heap.size Es := by
  obtain ⟨W, hW⟩ : ∃ W, w.alloc (.cells #[.int .i64 s] 2) = W := ⟨_, rfl⟩
  have hG : Ext w W := by rw [← hW]; exact (Below.refl _ _).alloc (Nat.le_refl _) _
  have hWs : W.heap.size = w.heap.size + 1 := by rw [← hW]; exact World.size_alloc _ _
  have hb0 : W.cell? ⟨w.heap.size, 0, none⟩ = some (.int .i64 s) := by rw [← hW]; exact cell_new _ _ _
  have HK := Lib.hid (sorted_any W v Fs (h.mono hG) hl hm)
  obtain ⟨a, c, rfl, -⟩ := h.opened
  clear h
  have HG := Lib.hid hG
  have HB := Lib.hid hb0
  clear hG hb0
  go_enter Try.func81, Try.ntmps81
  go_wp2_with fail
  refine HK.out.mono ?_
  clear HK
  rintro e w2 ⟨v1, Es, rfl, o1, r1, s1, hes, b1, hbe⟩
  have HBE := Lib.hid hbe
  clear hbe
  have hlE : Es.length = Fs.length := by rw [← sortF_length Fs, ← hes, List.length_map]
  have hb2 : w2.cell? ⟨w.heap.size, 0, none⟩ = some (.int .i64 s) := ((bcell b1).1 _ _ (by omega)).trans HB.out
  have HD := Lib.hid (deleteSt_any w2 W.heap.size v1 Es w.heap.size s o1 (by omega) hb2 (fun hk => by have := (World.ownsRow.lt o1 _ hk).1; omega))
  have R1 := Lib.hid r1
  have S1 := Lib.hid s1
  have HE := Lib.hid hes
  have O1 := Lib.hid o1
  obtain ⟨a1, c1, rfl⟩ := o1.slice
  clear r1 s1 hes o1 hlE hb2 hW
  go_wp2_with fail
  refine HD.out.mono ?_
  clear HD
  rintro e w3 ⟨v3, rfl, o3, g3⟩
  have O3 := Lib.hid o3
  obtain ⟨a3, c3, rfl⟩ := o3.slice
  clear o3
  go_wp2
  go_ret
  have z1 := b1.size
  refine ⟨_, _, rfl, ownsRow_lower O3.out (by omega), ?_, ?_, Below.chg (HG.out.trans (b1.mono (by omega))) g3 (fun k hk => by have := (World.ownsRow.lt O1.out _ hk).1; omega) (by omega), (HBE.out.low (by omega)).of fun e he => (List.mem_filter.1 he).1⟩
  · exact fun e he => (R1.out.sep S1.out g3) e (List.mem_filter.1 he).1
  · unfold keepE
    rw [filt_map, HE.out]; rfl
end Go.Proofs.Ytibojlpeaolfbaa
