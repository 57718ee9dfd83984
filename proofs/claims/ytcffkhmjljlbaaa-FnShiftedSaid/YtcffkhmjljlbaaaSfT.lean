/- What stands while FnShifted sets the traces of its gather. -/
import Derived.Test.YtcffkhmjljlbaaaSfQ
namespace Go.Proofs.Ytcffkhmjljlbaaa
open Go Go.RowKit

structure StG (w wr : World) (g8 gp cp M Bz : Nat) (vp vt : Value) (s : Eight) (Ls : List (List Nat)) : Prop where
  blk : wr.heap[g8]? = some (.cells #[.int .i64 16, vp, vt] 38 (0, 0))
  pil : OwnF wr w.heap.size (.slice (some ⟨gp, 0, none⟩) 16 cp) s.P
  pla : OwnF wr w.heap.size vp pl3
  plk : ∀ k, vp.ownBlock = some k → k < M
  row : OwnSS wr (Iv M Bz) vt Ls
  bel : Below w.heap.size w wr
  lt : gp < M ∧ M ≤ Bz ∧ Bz ≤ g8 ∧ g8 < wr.heap.size ∧ w.heap.size ≤ M
theorem StG.chg {w wr wr' : World} {g8 gp cp M Bz : Nat} {vp vt : Value} {s : Eight} {Ls : List (List Nat)} (h : StG w wr g8 gp cp M Bz vp vt s Ls) {S : Nat → Prop} (hc : Chg wr wr' S) (hS : ∀ k, S k → Bz ≤ k ∧ k ≠ g8) : StG w wr' g8 gp cp M Bz vp vt s Ls := by
  obtain ⟨l1, l2, l3, l4, l5⟩ := h.lt
  exact ⟨(hc.block g8 l4 fun e => (hS _ e).2 rfl).trans h.blk, h.pil.chg hc fun k hk e => by have h1 := (hS _ e).1; have h2 : gp = k := Option.some.inj hk; omega, h.pla.chg hc fun k hk e => by have := (hS _ e).1; have := h.plk k hk; omega, h.plk,
    OwnC.chg h.row hc fun k hk e => by have := (hS _ e).1; have := hk.2; omega, Below.chg h.bel hc (fun k hk => by have := (hS _ hk).1; omega) h.bel.size, l1, l2, l3, by have := hc.size; omega, l5⟩
theorem StG.kept {w wr wr' : World} {g8 gp cp M Bz : Nat} {vp vt : Value} {s : Eight} {Ls : List (List Nat)} (h : StG w wr g8 gp cp M Bz vp vt s Ls) (hb : Below wr.heap.size wr wr') : StG w wr' g8 gp cp M Bz vp vt s Ls :=
  h.chg (S := fun _ => False) (Chg.of_below hb _) fun k hk => hk.elim
/-- The row j is there. -/
theorem StG.at {w wr : World} {g8 gp cp M Bz : Nat} {vp vt : Value} {s : Eight} {Ls : List (List Nat)} (h : StG w wr g8 gp cp M Bz vp vt s Ls) (h3 : Ls.length = 3) {j : Nat} (hj : j < 3) (hl : (rowAt Ls j).length = 16) :
    ∃ q cap r cr, vt = .slice (some ⟨q, 0, none⟩) 3 cap ∧ wr.cell? ⟨q, j, none⟩ = some (.slice (some ⟨r, 0, none⟩) 16 cr) ∧ 16 ≤ cr ∧ r < Bz ∧
      (∀ p, p < 16 → (∃ y, wr.cell? ⟨r, p, none⟩ = some (.float .f32 y)) ∧ wr.frozen? ⟨r, p, none⟩ = false) ∧
      ∀ p y x, FV .f32 y x → StG w (wr.setCell ⟨r, p, none⟩ (.float .f32 y)) g8 gp cp M Bz vp vt s (Ls.set j ((rowAt Ls j).set p x)) := by
  obtain ⟨l1, l2, l3, l4, l5⟩ := h.lt
  have hrow := h.row
  unfold OwnSS at hrow
  rw [h3] at hrow
  have hdl : (Ls.map D1.fs).length = 3 := by simp [h3]
  obtain ⟨q, cap, rfl, hq, hql, hcap, hcells, -⟩ := (OwnC.form hrow).resolve_left fun e => by have := e.2.1; omega
  obtain ⟨u, hu, ho, -⟩ := hcells j (by omega)
  have e1 : (Ls.map D1.fs).getD j default = .fs (rowAt Ls j) := by
    unfold rowAt
    simp only [List.getD_eq_getElem?_getD, List.getElem?_map]
    rw [List.getElem?_eq_getElem (by omega)]
    rfl
  rw [e1] at ho
  have ho1 : OwnF wr 0 u (rowAt Ls j) := ho.1
  obtain ⟨r, cr, hur, -, hrl, hcr, hcl, hfr⟩ := ho1.at_block hl (by decide)
  subst hur
  have hS : Iv M Bz r := ho.2 r rfl
  refine ⟨q, cap, r, cr, rfl, hu, hcr, hS.2, fun p hp => ⟨by obtain ⟨y, hy, -⟩ := hcl p (by omega); exact ⟨y, hy⟩, hfr p⟩, fun p y x hx => ?_⟩
  have hc : Chg wr (wr.setCell ⟨r, p, none⟩ (.float .f32 y)) fun k => (Value.slice (some ⟨r, 0, none⟩) 16 cr).ownBlock = some k := Chg.setCell (S := fun k => (Value.slice (some ⟨r, 0, none⟩) 16 cr).ownBlock = some k) (Chg.refl _ _) rfl p _
  have hr2 : ∀ k, (Value.slice (some ⟨r, 0, none⟩) 16 cr).ownBlock = some k → k = r := fun k hk => by cases hk; rfl
  have hd : Own1 (wr.setCell ⟨r, p, none⟩ (.float .f32 y)) (Iv M Bz) (.fs ((rowAt Ls j).set p x)) (.slice (some ⟨r, 0, none⟩) 16 cr) :=
    ⟨ho1.storedN hl hx, ho.2⟩
  have ht := OwnC.turned hrow (by omega) hu hc hd
  refine ⟨(hc.block g8 l4 fun e => by have := hr2 _ e; have := hS.2; omega).trans h.blk, h.pil.chg hc fun k hk e => by have h1 := hr2 _ e; have h2 : gp = k := Option.some.inj hk; have := hS.1; omega, h.pla.chg hc fun k hk e => by have := hr2 _ e; have := h.plk k hk; have := hS.1; omega, h.plk, ?_, Below.chg h.bel hc (fun k hk => by have := hr2 _ hk; have := hS.1; omega) h.bel.size, l1, l2, l3, by have := hc.size; omega, l5⟩
  unfold OwnSS
  rw [List.length_set, h3, List.map_set]
  exact ht
/-- The rows: those that are set, and the others. -/
def Eight.rows (s : Eight) (ts : List Nat) : List (List Nat) := ts.map s.T ++ List.replicate (3 - ts.length) (List.replicate 16 0)
theorem Eight.rows_length (s : Eight) (ts : List Nat) (h : ts.length ≤ 3) : (s.rows ts).length = 3 := by simp [Eight.rows]; omega
theorem Eight.rows_next (s : Eight) (ts : List Nat) (t : Nat) (h : ts.length < 3) (ht : t < 7) : (s.rows ts).set ts.length (s.prt t 8) = s.rows (ts ++ [t]) := by
  unfold Eight.rows
  rw [s.prt_all t ht, List.set_append_right _ _ (by simp), List.map_append, List.length_map, Nat.sub_self, List.length_append, List.length_singleton]
  obtain ⟨m, hm⟩ : ∃ m, 3 - ts.length = m + 1 := ⟨2 - ts.length, by omega⟩
  rw [hm, show 3 - (ts.length + 1) = m by omega, List.replicate_succ]
  simp
theorem Eight.rows_at (s : Eight) (ts : List Nat) (h : ts.length < 3) : rowAt (s.rows ts) ts.length = s.prt 0 0 := by
  rw [s.prt_zero]
  unfold rowAt Eight.rows
  obtain ⟨m, hm⟩ : ∃ m, 3 - ts.length = m + 1 := ⟨2 - ts.length, by omega⟩
  rw [hm, List.getD_eq_getElem?_getD, List.getElem?_append_right (by simp), List.length_map, Nat.sub_self, List.replicate_succ]
  rfl
theorem Eight.rows_zero (s : Eight) (ts : List Nat) (t : Nat) (h : ts.length < 3) : (s.rows ts).set ts.length (s.prt t 0) = s.rows ts := by
  rw [s.prt_zero]
  unfold Eight.rows
  obtain ⟨m, hm⟩ : ∃ m, 3 - ts.length = m + 1 := ⟨2 - ts.length, by omega⟩
  rw [hm, List.set_append_right _ _ (by simp), List.length_map, Nat.sub_self, List.replicate_succ]
  rfl
theorem rowAt_set (Ls : List (List Nat)) (j : Nat) (L : List Nat) (h : j < Ls.length) : rowAt (Ls.set j L) j = L := by
  unfold rowAt
  rw [List.getD_eq_getElem?_getD, List.getElem?_set, if_pos rfl, if_pos h]; rfl
def dL (ts : List Nat) : List Int := ts.map fun t : Nat => (t : Int) - 3
theorem Eight.rows_full (s : Eight) (ts : List Nat) (h : ts.length = 3) {j : Nat} (hj : j < 3) : rowAt (s.rows ts) j = s.T (ts.getD j 0) := by
  unfold rowAt Eight.rows
  rw [List.getD_eq_getElem?_getD, List.getElem?_append_left (by simp; omega), List.getElem?_map, List.getElem?_eq_getElem (by omega), List.getD_eq_getElem?_getD, List.getElem?_eq_getElem (by omega)]
  rfl
theorem Eight.T_length (s : Eight) (t : Nat) : (s.T t).length = 16 := tab_length _ _
theorem dL_at (ts : List Nat) {j : Nat} (hj : j < ts.length) : inL (dL ts) j = (ts.getD j 0 : Int) - 3 := by
  unfold inL dL
  rw [List.getD_eq_getElem?_getD, List.getElem?_map, List.getElem?_eq_getElem hj, List.getD_eq_getElem?_getD, List.getElem?_eq_getElem hj]
  rfl
theorem Eight.valid (s : Eight) (ts : List Nat) (h : ts.length = 3) : validT ⟨16, pl3, s.rows ts⟩ = true := by
  have hl := s.rows_length ts (by omega)
  unfold validT
  simp only [hl]
  have h1 : placesB pl3 = true := by decide +kernel
  have h2 : rowsTo (s.rows ts) 16 3 = true := by
    unfold rowsTo
    rw [List.all_eq_true]
    intro i hi
    rw [s.rows_full ts h (by simpa using hi), s.T_length]
    rfl
  rw [h1, h2]
  rfl
theorem getD_mem {ts : List Nat} {j : Nat} (hj : j < ts.length) : ts.getD j 0 ∈ ts := by
  rw [List.getD_eq_getElem?_getD, List.getElem?_eq_getElem hj]
  exact List.getElem_mem hj
theorem Eight.best (s : Eight) (hs : s.ok) (ts : List Nat) (h : ts.length = 3) (ht : ∀ t ∈ ts, t < 7) :
    ∃ oF : Nat → Nat, ∀ j, j < 3 → bestF (corL s.P (rowAt (s.rows ts) j) 4) 9 = some (oF j) ∧ (0 < s.en → oF j = ts.getD j 0 + 1) ∧ (s.en = 0 → oF j = 0) := by
  refine ⟨fun j => (bestF (corL s.P (rowAt (s.rows ts) j) 4) 9).getD 0, fun j hj => ?_⟩
  obtain ⟨o, h1, h2, h3, h4⟩ := best8_is s hs (ts.getD j 0) (ht _ (getD_mem (by omega)))
  have e : bestF (corL s.P (rowAt (s.rows ts) j) 4) 9 = some o := by rw [s.rows_full ts h hj]; exact h1
  have e2 : (bestF (corL s.P (rowAt (s.rows ts) j) 4) 9).getD 0 = o := by rw [e]; rfl
  show _ = some ((bestF (corL s.P (rowAt (s.rows ts) j) 4) 9).getD 0) ∧ (_ → (bestF (corL s.P (rowAt (s.rows ts) j) 4) 9).getD 0 = _) ∧ (_ → (bestF (corL s.P (rowAt (s.rows ts) j) 4) 9).getD 0 = _)
  rw [e2]
  exact ⟨e, h3, h4⟩
theorem Eight.shl (s : Eight) (ts : List Nat) (h : ts.length = 3) (ht : ∀ t ∈ ts, t < 7) : shL (s.rows ts) (dL ts) 3 = List.replicate 3 s.P := by
  have hj : ∀ j, j < 3 → latF (rowAt (s.rows ts) j) (inL (dL ts) j) = s.P := fun j hj => by
    rw [s.rows_full ts h hj, dL_at ts (by omega), s.back _ (ht _ (getD_mem (by omega)))]
  unfold shL
  rw [show List.range 3 = [0, 1, 2] from rfl]
  simp only [List.map_cons, List.map_nil]
  rw [hj 0 (by decide), hj 1 (by decide), hj 2 (by decide)]
  rfl
theorem shI_at (oF : Nat → Nat) (n : Nat) {j : Nat} (hj : j < n) : inL (shI oF n) j = (oF j : Int) - 4 := by
  unfold inL shI
  rw [List.getD_eq_getElem?_getD, List.getElem?_map, List.getElem?_range hj]
  rfl
theorem Eight.en_nn (s : Eight) : 0 ≤ s.en := en8_nn _ _ _ _ _ _ _ _
end Go.Proofs.Ytcffkhmjljlbaaa
