/- Walks: the frames of a station: the reference's. -/
import Derived.Test.YtibojlpeaolfbaaSrS
namespace Go.Proofs.Ytibojlpeaolfbaa
open Go Go.RowKit

theorem RdF.but {w w' : World} {v : Value} {L : List Nat} {g : Nat} {t : TypeId} {r : Nat × Nat} (h : RdF w v L) (hc : Chg w w' fun k => k = g) (hg : w.heap[g]? = some (.cells #[] t r)) : RdF w' v L := by
  obtain ⟨a, c, hv, hcap, hz, hr⟩ := h
  refine ⟨a, c, hv, hcap, hz, fun j hj => ?_⟩
  obtain ⟨b, o, u, ha, hu, hp⟩ := hr j hj
  refine ⟨b, o, u, ha, ?_, hp⟩
  have hne : b ≠ g := fun e => by
    subst e
    have := cell_of_row w b (o + j) #[] t r hg
    rw [hu] at this
    simp at this
  unfold World.cell? at hu ⊢
  rw [hc.block b (block_lt hu) hne]
  exact hu
theorem RdEs.but {w w' : World} {Es : List FE} {g : Nat} {t : TypeId} {r : Nat × Nat} (h : RdEs w Es) (hc : Chg w w' fun k => k = g) (hg : w.heap[g]? = some (.cells #[] t r)) : RdEs w' Es := fun e he => (h e he).but hc hg
theorem filt_take (Es : List FE) (j : Nat) (s : Int) (h : j < Es.length) : (Es.take (j + 1)).filter (fun e => decide (e.f.st = s)) = (Es.take j).filter (fun e => decide (e.f.st = s)) ++ (if (feAt Es j).f.st = s then [feAt Es j] else []) := by
  rw [List.take_add_one, List.getElem?_eq_getElem h, List.filter_append, feAt_eq h]
  congr 1
  simp only [Option.toList, List.filter_cons, List.filter_nil]
  by_cases h2 : Es[j].f.st = s
  · simp [h2]
  · simp [h2]
theorem filt_map (Es : List FE) (s : Int) : (Es.filter (fun e => decide (e.f.st = s))).map FE.f = (Es.map FE.f).filter (fun f => decide (f.st = s)) := by
  rw [List.filter_map]; rfl
theorem sortF_length (Fs : List FM) : (sortF Fs).length = Fs.length := by
  unfold sortF; rw [insAll_length]; simp

end Go.Proofs.Ytibojlpeaolfbaa
