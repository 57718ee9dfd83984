/- Walks: copies that the laws make of layers, grounds, gathers and desks. -/
import Derived.Test.YtjbaebgdebcipaaGreatDoorL4
namespace Go.Proofs.YtjbaebgdebcipaaGreatDoor
open Go Go.RowKit

/-- n elements, all of them zeros. -/
def zrow (zd : List D1) (n : Nat) : List D1 := (List.range (n * zd.length)).map fun j => zd.getD (j % zd.length) default
theorem zrow_length (zd : List D1) (n : Nat) : (zrow zd n).length = n * zd.length := by simp [zrow]
theorem wpList_mkC {P : Program} {ops : Array Oper} {rest : List Oper} {o : Oper} {a : Act} {w : World} {Q : Exit → Act → World → Prop} (hg : o.guard = none) (l c : Operand) (st et : TypeId)
    (hop : o.op = Op.makeSlice st l c) (z : Value) (size bytes : Nat) (ht : P.underlying st = some (.slice et)) (hinfo : (P.info? et).map (fun i => (i.zero, i.size, i.bytes)) = some (some z, size, bytes))
    (hcs : z.cells.size = size) (zd : List D1) (hzd : zd.length = size) (hz : ∀ (w : World) (S : Nat → Prop) (j : Nat), j < size → Own1 w S (zd.getD j default) (z.cells[j]!) ∧ (z.cells[j]!).ownBlock = none)
    (kl kc : IntKind) (L C : Int) (n : Nat) (hl : a.eval l = .int kl L) (hc : a.eval c = .int kc C) (hL : L = (n : Int)) (hC : C = (n : Int)) (hn : n ≤ 1048576) (hby : bytes ≤ 1000)
    (h : ∀ w', OwnC w' (Iv w.heap.size (w.heap.size + 1)) et size (.slice (some ⟨w.heap.size, 0, none⟩) n n) n (zrow zd n) → Below w.heap.size w w' → w.heap.size < w'.heap.size →
      wpList P ops Q rest (a.put o.dst (.slice (some ⟨w.heap.size, 0, none⟩) n n)) w') : wpList P ops Q (o :: rest) a w := by
  obtain ⟨i0, hi, hz0, hz1, hz2⟩ := info_parts hinfo
  refine wpList_make_full w hg l c st hop 0 et i0 z size ht hi hz0 hz1 kl kc L C n hl hc hL hC (by rw [hz2]; exact Nat.le_trans (Nat.mul_le_mul hby hn) (by decide)) (by unfold maxLen; omega) (Nat.zero_le _) ?_
  intro w' h1 h2
  have hlt := (h1.lt w.heap.size rfl).2
  have hul : (madeCells z.cells (n * size)).toList.length = n * size := by simp [madeCells]
  have hus : ∀ j, j < n * size → 0 < size ∧ j % size < size ∧ (madeCells z.cells (n * size)).toList.getD j undef = z.cells[j % size]! := fun j hj => by
    have hs : 0 < size := by
      rcases Nat.eq_zero_or_pos size with e | e
      · rw [e, Nat.mul_zero] at hj; omega
      · exact e
    refine ⟨hs, Nat.mod_lt _ hs, ?_⟩
    simp [madeCells, List.getD_eq_getElem?_getD, hj, hcs]
  refine h w' ⟨_, by rw [hul, zrow_length, hzd], h1, fun k hk => ?_, fun j hj => ?_, fun i j k hi hj hki hkj => ?_, fun j k hj hk => ?_⟩ ((Below.refl _ _).grown h2 (Nat.le_refl _) fun k hk => (by cases hk)) hlt
  · cases hk; exact ⟨Nat.le_refl _, Nat.lt_succ_self _⟩
  · rw [zrow_length, hzd] at hj
    obtain ⟨hs, hm, e⟩ := hus j hj
    rw [e]
    have e2 : (zrow zd n).getD j default = zd.getD (j % size) default := by
      simp [zrow, List.getD_eq_getElem?_getD, hzd, hj]
    rw [e2]
    exact (hz w' _ (j % size) hm).1
  · rw [hul] at hi
    obtain ⟨hs, hm, e⟩ := hus i hi
    rw [e, (hz w' (fun _ => True) _ hm).2] at hki
    cases hki
  · rw [hul] at hj
    obtain ⟨hs, hm, e⟩ := hus j hj
    rw [e, (hz w' (fun _ => True) _ hm).2] at hk
    cases hk
theorem OwnC.congr {w : World} {S : Nat → Prop} {t : TypeId} {size : Nat} {v : Value} {n : Nat} {ds ds' : List D1} (h : OwnC w S t size v n ds) (e : ds = ds') : OwnC w S t size v n ds' := e ▸ h

theorem zeros_lay (n : Nat) : zrow [.f 0, .f 0, .f 0, .f 0] n = (List.replicate (4 * n) 0).map D1.f := by
  apply List.ext_getElem?
  intro j
  by_cases hj : j < n * 4
  · have h4 : j % 4 < 4 := Nat.mod_lt _ (by decide)
    have : ([D1.f 0, .f 0, .f 0, .f 0] : List D1).getD (j % 4) default = .f 0 := by
      match h : j % 4, h4 with
      | 0, _ => rfl
      | 1, _ => rfl
      | 2, _ => rfl
      | 3, _ => rfl
    simp only [zrow, List.getElem?_map, List.length_cons, List.length_nil]
    rw [List.getElem?_range (by simpa using hj), List.getElem?_replicate, if_pos (by omega)]
    simpa using this
  · rw [List.getElem?_eq_none (by rw [zrow_length]; simpa using hj), List.getElem?_eq_none (by simp; omega)]
theorem zeros_fs (n : Nat) : zrow [.fs []] n = List.replicate n (.fs []) := by
  apply List.ext_getElem?
  intro j
  by_cases hj : j < n
  · simp [zrow, hj, Nat.mod_one]
  · simp [zrow, hj]

theorem Tryz.infoLay : (Tryz.prog.info? 77).map (fun i => (i.zero, i.size, i.bytes)) = some (some (.agg #[.float .f32 0, .float .f32 0, .float .f32 0, .float .f32 0]), 4, 16) := by kernel_rfl
theorem mix4 (L Z : List Nat) (j : Nat) : (((mixTo L Z (4 * j)).set (4 * j) (L.getD (4 * j) 0)).set (4 * j + 1) (L.getD (4 * j + 1) 0) |>.set (4 * j + 2) (L.getD (4 * j + 2) 0)).set (4 * j + 3) (L.getD (4 * j + 3) 0) = mixTo L Z (4 * (j + 1)) := by
  rw [mixTo_set, mixTo_set, mixTo_set, mixTo_set]
  congr 1
theorem OwnC.stored4 {w : World} {S : Nat → Prop} {t : TypeId} {size : Nat} {g cap n : Nat} {M : List Nat} (h : OwnC w S t size (.slice (some ⟨g, 0, none⟩) n cap) n (M.map D1.f)) {j r0 r1 r2 r3 x0 x1 x2 x3 : Nat} (h0 : FV .f32 r0 x0) (h1 : FV .f32 r1 x1) (h2 : FV .f32 r2 x2) (h3 : FV .f32 r3 x3) :
    OwnC ((((w.setCell ⟨g, j, none⟩ (.float .f32 r0)).setCell ⟨g, j + 1, none⟩ (.float .f32 r1)).setCell ⟨g, j + 2, none⟩ (.float .f32 r2)).setCell ⟨g, j + 3, none⟩ (.float .f32 r3)) S t size (.slice (some ⟨g, 0, none⟩) n cap) n (((((M.set j x0).set (j + 1) x1).set (j + 2) x2).set (j + 3) x3).map D1.f) := by
  have a := (((h.stored0 (j := j) (Own1.f h0) rfl).stored0 (j := j + 1) (Own1.f h1) rfl).stored0 (j := j + 2) (Own1.f h2) rfl).stored0 (j := j + 3) (Own1.f h3) rfl
  simpa only [List.map_set] using a

end Go.Proofs.YtjbaebgdebcipaaGreatDoor
