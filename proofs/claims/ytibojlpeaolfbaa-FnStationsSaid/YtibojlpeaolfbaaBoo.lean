/- Rows of Booleans; 'make' as one operation of a region that leaves its order open. -/
import Derived.Test.YtibojlpeaolfbaaMkI
import Derived.Test.YtibojlpeaolfbaaAt
namespace Go.Proofs.Ytibojlpeaolfbaa
open Go Go.RowKit

theorem Try.infoB : (Try.prog.info? 4).map (fun i => (i.zero, i.size, i.bytes)) = some (some (.bool false), 1, 1) := by kernel_rfl
def bAt (L : List Bool) (j : Nat) : Bool := L.getD j false
def OwnB (w : World) (B : Nat) (v : Value) (L : List Bool) : Prop := w.ownsRow B 4 1 v L.length (L.map Value.bool)
def RdB (w : World) (v : Value) (L : List Bool) : Prop := RdP w v L.length fun j u => u = .bool (bAt L j)
theorem RdB.mono {w w' : World} {v : Value} {L : List Bool} (h : RdB w v L) (hb : Below w.heap.size w w') : RdB w' v L := RdP.mono h hb
theorem RdB.opened {w : World} {v : Value} {L : List Bool} (h : RdB w v L) :
    ∃ a c, v = .slice a L.length c ∧ L.length ≤ c ∧ (a = none → c = 0) ∧ ∀ j, j < L.length → ∃ b o, a = some ⟨b, o, none⟩ ∧ b < w.heap.size ∧ w.cell? ⟨b, o + j, none⟩ = some (.bool (bAt L j)) := by
  obtain ⟨a, c, hv, hc, hz, hr⟩ := h
  refine ⟨a, c, hv, hc, hz, fun j hj => ?_⟩
  obtain ⟨b, o, u, ha, hu, rfl⟩ := hr j hj
  exact ⟨b, o, ha, block_lt hu, hu⟩
theorem OwnB.form {w : World} {B : Nat} {v : Value} {L : List Bool} (h : OwnB w B v L) :
    (v = .slice none 0 0 ∧ L = []) ∨ ∃ g cap, v = .slice (some ⟨g, 0, none⟩) L.length cap ∧ B ≤ g ∧ g < w.heap.size ∧ L.length ≤ cap ∧
      (∀ j, j < L.length → w.cell? ⟨g, j, none⟩ = some (.bool (bAt L j))) ∧ ∀ j, w.frozen? ⟨g, j, none⟩ = false := by
  have hown0 : w.ownsRow B 4 1 v L.length (L.map Value.bool) := h
  rcases hown0.2 with ⟨rfl, hn⟩ | ⟨g, cap, cur, rfl, hb, hg, hn, _⟩
  · exact .inl ⟨rfl, List.eq_nil_of_length_eq_zero hn⟩
  · refine .inr ⟨g, cap, rfl, hb, (hown0.lt g rfl).2, hn, fun j hj => ?_, fun j => hown0.frozenAt j⟩
    rw [hown0.cellAt j (by omega)]
    simp [bAt, List.getD_eq_getElem?_getD, List.getElem?_map, List.getElem?_eq_getElem hj]
theorem OwnB.rd {w : World} {B : Nat} {v : Value} {L : List Bool} (h : OwnB w B v L) : RdB w v L := by
  rcases h.form with ⟨rfl, rfl⟩ | ⟨g, cap, rfl, -, -, hn, hc, -⟩
  · exact ⟨none, 0, rfl, Nat.le_refl _, fun _ => rfl, fun j hj => by cases hj⟩
  · exact ⟨some ⟨g, 0, none⟩, cap, rfl, hn, (fun h => by cases h), fun j hj => ⟨g, 0, _, rfl, by rw [Nat.zero_add]; exact hc j hj, rfl⟩⟩
theorem OwnB.lt {w : World} {B : Nat} {v : Value} {L : List Bool} (h : OwnB w B v L) {k : Nat} (hk : v.ownBlock = some k) : B ≤ k ∧ k < w.heap.size := World.ownsRow.lt h k hk
theorem OwnB.kept {w w' : World} {B : Nat} {v : Value} {L : List Bool} (h : OwnB w B v L) (hb : Below w.heap.size w w') : OwnB w' B v L :=
  ownsRow_same h fun k hk => hb.block k (World.ownsRow.lt h k hk).2
theorem OwnB.chg {w w' : World} {S : Nat → Prop} {B : Nat} {v : Value} {L : List Bool} (h : OwnB w B v L) (hc : Chg w w' S) (hd : ∀ k, v.ownBlock = some k → ¬ S k) : OwnB w' B v L :=
  ownsRow_same h fun k hk => hc.block k (World.ownsRow.lt h k hk).2 (hd k hk)
theorem OwnI.chg {w w' : World} {S : Nat → Prop} {B : Nat} {v : Value} {L : List Int} (h : OwnI w B v L) (hc : Chg w w' S) (hd : ∀ k, v.ownBlock = some k → ¬ S k) : OwnI w' B v L :=
  ownsRow_same h fun k hk => hc.block k (World.ownsRow.lt h k hk).2 (hd k hk)
theorem OwnI.lt {w : World} {B : Nat} {v : Value} {L : List Int} (h : OwnI w B v L) {k : Nat} (hk : v.ownBlock = some k) : B ≤ k ∧ k < w.heap.size := World.ownsRow.lt h k hk
theorem OwnB.base {w : World} {B C : Nat} {v : Value} {L : List Bool} (h : OwnB w B v L) (hc : C ≤ B) : OwnB w C v L := ownsRow_lower h hc
theorem OwnB.stored {w : World} {B g cap n : Nat} {L : List Bool} (h : OwnB w B (.slice (some ⟨g, 0, none⟩) n cap) L) (hn : L.length = n) (j : Nat) (x : Bool) :
    OwnB (w.setCell ⟨g, j, none⟩ (.bool x)) B (.slice (some ⟨g, 0, none⟩) n cap) (L.set j x) := by
  subst hn
  have := (World.ownsRow.stored h j (.bool x)).1
  unfold OwnB
  rw [List.length_set, List.map_set]
  exact this
theorem OwnR.chg {w w' : World} {S : Nat → Prop} {B : Nat} {v : Value} {Es : List FE} (h : OwnR w B v Es) (hc : Chg w w' S) (hd : ∀ k, S k → k < B) : OwnR w' B v Es :=
  ownsRow_same h fun k hk => hc.block k (World.ownsRow.lt h k hk).2 fun e => by have := hd k e; have := (World.ownsRow.lt h k hk).1; omega
/-- Rows of two kinds lie apart. -/
theorem apart_FB {w : World} {B C : Nat} {v u : Value} {L : List Nat} {M : List Bool} (h : OwnF w B v L) (k : OwnB w C u M) : ∀ b, v.ownBlock = some b → u.ownBlock ≠ some b := by
  intro b hb hk
  obtain ⟨bits, -, -, ho⟩ := h
  rcases ho.2 with ⟨rfl, -⟩ | ⟨g, cap, cur, rfl, -, hg, -⟩
  · cases hb
  · rcases k.2 with ⟨rfl, -⟩ | ⟨g2, cap2, cur2, rfl, -, hg2, -⟩
    · cases hk
    · cases hb; cases hk
      rw [hg] at hg2
      simp at hg2
theorem apart_FI {w : World} {B C : Nat} {v u : Value} {L : List Nat} {M : List Int} (h : OwnF w B v L) (k : OwnI w C u M) : ∀ b, v.ownBlock = some b → u.ownBlock ≠ some b := by
  intro b hb hk
  obtain ⟨bits, -, -, ho⟩ := h
  rcases ho.2 with ⟨rfl, -⟩ | ⟨g, cap, cur, rfl, -, hg, -⟩
  · cases hb
  · rcases k.2 with ⟨rfl, -⟩ | ⟨g2, cap2, cur2, rfl, -, hg2, -⟩
    · cases hk
    · cases hb; cases hk
      rw [hg] at hg2
      simp at hg2
/-- 'make([]T, n)' as one operation. -/
theorem op_make {P : Program} {o : Oper} {a : Act} {w : World} {K : Act → World → Prop} {Q : Exit → Act → World → Prop} (l c : Operand) (t : TypeId) (hop : o.op = Op.makeSlice t l c)
    (e : TypeId) (z : Value) (bytes : Nat) (h1 : P.underlying t = some (.slice e)) (hinfo : (P.info? e).map (fun i => (i.zero, i.size, i.bytes)) = some (some z, 1, bytes)) (hz : z.cells = #[z])
    (kl kc : IntKind) (L C : Int) (n : Nat) (hl : a.eval l = .int kl L) (hc : a.eval c = .int kc C) (hL : L = (n : Int)) (hC : C = (n : Int)) (hn : n ≤ 1048576) (hby : bytes ≤ 1000)
    (h : ∀ w', w'.ownsRow w.heap.size e 1 (.slice (some ⟨w.heap.size, 0, none⟩) n n) n (List.replicate n z) → Ext w w' → K (a.put o.dst (.slice (some ⟨w.heap.size, 0, none⟩) n n)) w') : o.wp P a w K Q := by
  obtain ⟨i, hi, hz0, hz1, hz2⟩ := info_parts hinfo
  obtain ⟨w', hrun, r1, r2⟩ := run_make_full (P := P) w w.heap.size t e i z 1 h1 hi hz0 hz1 kl kc n (by rw [hz2]; exact Nat.le_trans (Nat.mul_le_mul hby hn) (by decide)) (by unfold maxLen; omega) (Nat.le_refl _)
  subst hL
  subst hC
  unfold Oper.wp
  simp [execOp, hop, hl, hc, hrun, Result.andThen]
  refine h _ ?_ ((Below.refl _ _).grown r2 (Nat.le_refl _) fun k hk => by cases hk)
  have e : (madeCells z.cells (n * 1)).toList = List.replicate n z := by
    rw [Nat.mul_one, hz, toList_madeCells_one]
  rw [e] at r1
  exact r1
theorem OwnF.made {w : World} {B : Nat} {v : Value} {n : Nat} (h : w.ownsRow B 53 1 v n (List.replicate n (.float .f32 0))) : OwnF w B v (List.replicate n 0) := by
  refine ⟨List.replicate n 0, rfl, fun j hj => ?_, by simpa using h⟩
  simp only [List.length_replicate] at hj
  rw [List.getD_eq_getElem?_getD, List.getElem?_replicate, if_pos hj]
  exact fv0 _
theorem OwnB.made {w : World} {B : Nat} {v : Value} {n : Nat} (h : w.ownsRow B 4 1 v n (List.replicate n (.bool false))) : OwnB w B v (List.replicate n false) := by
  unfold OwnB; simpa using h
theorem OwnI.made {w : World} {B : Nat} {v : Value} {n : Nat} (h : w.ownsRow B 2 1 v n (List.replicate n (.int .i64 0))) : OwnI w B v (List.replicate n 0) := by
  unfold OwnI; simpa using h
/-- The first k of a new list, and the others of an old one. -/
def mixB (new old : List Bool) (k : Nat) : List Bool := (List.range old.length).map fun i => if i < k then bAt new i else bAt old i
theorem mixB_length (new old : List Bool) (k : Nat) : (mixB new old k).length = old.length := by simp [mixB]
theorem mixB_zero (new old : List Bool) : mixB new old 0 = old := by
  apply List.ext_getElem?
  intro i
  by_cases hi : i < old.length
  · simp [mixB, bAt, List.getElem?_map, List.getElem?_range hi, hi]
  · simp [mixB, List.getElem?_eq_none (Nat.le_of_not_lt hi), hi]
theorem mixB_all (new old : List Bool) (k : Nat) (h : old.length ≤ k) (he : new.length = old.length) : mixB new old k = new := by
  apply List.ext_getElem?
  intro i
  by_cases hi : i < old.length
  · simp [mixB, bAt, List.getElem?_map, List.getElem?_range hi, show i < k by omega, show i < new.length by omega]
  · simp [mixB, hi, List.getElem?_eq_none (show new.length ≤ i by omega)]
theorem mixB_set (new old : List Bool) (k : Nat) : (mixB new old k).set k (bAt new k) = mixB new old (k + 1) := by
  apply List.ext_getElem?
  intro i
  by_cases hi : i < old.length
  · by_cases h1 : k = i
    · subst h1; simp [mixB, List.getElem?_set, List.getElem?_map, List.getElem?_range hi, hi]
    · simp only [mixB, List.getElem?_set, List.getElem?_map, List.getElem?_range hi, if_neg h1, Option.map_some]
      by_cases h2 : i < k
      · simp [h2, show i < k + 1 by omega]
      · simp [h2, show ¬ i < k + 1 by omega]
  · rw [List.getElem?_eq_none (by simp [mixB_length]; omega), List.getElem?_eq_none (by simp [mixB_length]; omega)]
theorem mixB_skip (new old : List Bool) (k : Nat) (h : bAt new k = bAt old k) : mixB new old k = mixB new old (k + 1) := by
  unfold mixB
  apply List.map_congr_left
  intro i _
  by_cases h1 : i = k
  · subst h1; simp [h]
  · by_cases h2 : i < k
    · simp [h2, show i < k + 1 by omega]
    · simp [h2, show ¬ i < k + 1 by omega]
theorem mixTo_skip (new old : List Nat) (k : Nat) (h : new.getD k 0 = old.getD k 0) : mixTo new old k = mixTo new old (k + 1) := by
  unfold mixTo
  apply List.map_congr_left
  intro i _
  by_cases h1 : i = k
  · subst h1; simp only [Nat.lt_irrefl, if_false, Nat.lt_succ_self, if_true]; exact h.symm
  · by_cases h2 : i < k
    · simp only [h2, show i < k + 1 by omega, if_true]
    · simp only [h2, show ¬ i < k + 1 by omega, if_false]
theorem OwnF.chgRow {w w' : World} {S : Nat → Prop} {B : Nat} {v : Value} {L : List Nat} (h : OwnF w B v L) (hc : Chg w w' S) (hd : ∀ k, v.ownBlock = some k → ¬ S k) : OwnF w' B v L := h.chg hc hd
end Go.Proofs.Ytibojlpeaolfbaa
