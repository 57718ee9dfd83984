/- Rows of cells, and the lists that they lead to: read, and owned; what has turned lies between two places. -/
import Derived.Test.YthacadbdncfocaaOwn
import Derived.Test.YthacadbdncfocaaRelOp
import Derived.Test.YthacadbdncfocaaCv
import Derived.Test.YthacadbdncfocaaPl
namespace Go.Proofs.Ythacadbdncfocaa
open Go Go.RowKit

/-- A cell's datum: a float32 by its class, an integer, a string, a Boolean, a list of floats, a list of integers. -/
inductive D1 where
  | f (x : Nat)
  | i (k : IntKind) (n : Int)
  | s (t : ByteArray)
  | b (p : Bool)
  | fs (L : List Nat)
  | is (L : List Int)
instance : Inhabited D1 := ⟨.b false⟩
def RdI (w : World) (v : Value) (L : List Int) : Prop := RdP w v L.length fun j u => u = .int .i64 (L.getD j 0)
def OwnI (w : World) (B : Nat) (v : Value) (L : List Int) : Prop := w.ownsRow B 2 1 v L.length (L.map (Value.int .i64))
def Rd1 (w : World) : D1 → Value → Prop
  | .f x, u => ∃ r, u = .float .f32 r ∧ FV .f32 r x
  | .i k n, u => u = .int k n
  | .s t, u => u = .string t
  | .b p, u => u = .bool p
  | .fs L, u => RdF w u L
  | .is L, u => RdI w u L
theorem Rd1.mono {w w' : World} {d : D1} {u : Value} (h : Rd1 w d u) (hb : Below w.heap.size w w') : Rd1 w' d u := by
  cases d with
  | fs L => exact RdF.mono h hb
  | is L => exact RdP.mono h hb
  | _ => exact h
/-- The slice v has n elements, whose cells are those of ds. -/
def RdC (w : World) (v : Value) (n : Nat) (ds : List D1) : Prop :=
  ∃ a c, v = .slice a n c ∧ n ≤ c ∧ (a = none → c = 0) ∧ ∀ j, j < ds.length → ∃ b o u, a = some ⟨b, o, none⟩ ∧ w.cell? ⟨b, o + j, none⟩ = some u ∧ Rd1 w (ds.getD j default) u
theorem RdC.mono {w w' : World} {v : Value} {n : Nat} {ds : List D1} (h : RdC w v n ds) (hb : Below w.heap.size w w') : RdC w' v n ds := by
  obtain ⟨a, c, hv, hc, hz, hr⟩ := h
  refine ⟨a, c, hv, hc, hz, fun j hj => ?_⟩
  obtain ⟨b, o, u, ha, hu, hR⟩ := hr j hj
  exact ⟨b, o, u, ha, by rw [(bcell hb).1 _ _ (block_lt hu)]; exact hu, hR.mono hb⟩

/-- What has turned, of what was there, lies in the blocks of S. -/
structure Chg (w w' : World) (S : Nat → Prop) : Prop where
  os : w'.os = w.os
  tape : w'.tape = w.tape
  output : w'.output = w.output
  size : w.heap.size ≤ w'.heap.size
  block : ∀ k, k < w.heap.size → ¬ S k → w'.heap[k]? = w.heap[k]?
/-- The blocks from lo on, ahead of hi. -/
def Iv (lo hi : Nat) (k : Nat) : Prop := lo ≤ k ∧ k < hi
theorem Chg.refl (w : World) (S : Nat → Prop) : Chg w w S := ⟨rfl, rfl, rfl, Nat.le_refl _, fun _ _ _ => rfl⟩
theorem Chg.trans {a b c : World} {S : Nat → Prop} (h : Chg a b S) (k : Chg b c S) : Chg a c S :=
  ⟨k.os.trans h.os, k.tape.trans h.tape, k.output.trans h.output, Nat.le_trans h.size k.size, fun i hi' hne => (k.block i (Nat.lt_of_lt_of_le hi' h.size) hne).trans (h.block i hi' hne)⟩
theorem Chg.of_grown {w w' : World} {row : Option Nat} {S : Nat → Prop} (h : w.grownBy w' row) (hr : ∀ k, row = some k → S k) : Chg w w' S :=
  ⟨h.os, h.tape, h.output, h.size, fun k hk hne => h.block k hk fun e => hne (hr k e.symm)⟩
theorem Chg.of_below {w w' : World} (h : Below w.heap.size w w') (S : Nat → Prop) : Chg w w' S := ⟨h.os, h.tape, h.output, h.size, fun k hk _ => h.block k hk⟩
theorem Chg.drewN {a w : World} {S : Nat → Prop} (h : Chg a w S) (n : Nat) : Chg a (w.drewN n) S := ⟨h.os, h.tape, h.output, h.size, h.block⟩
theorem Chg.alloc {a w : World} {S : Nat → Prop} (h : Chg a w S) (o : Obj) : Chg a (w.alloc o) S := h.trans (Chg.of_below ((Below.refl _ _).alloc (Nat.le_refl _) _) _)
theorem Chg.setCell {a w : World} {S : Nat → Prop} (h : Chg a w S) {g : Nat} (hg : S g) (j : Nat) (u : Value) : Chg a (w.setCell ⟨g, j, none⟩ u) S :=
  h.trans (Chg.of_grown (grownBy_setCell w g j u) fun k hk => by cases hk; exact hg)
theorem Chg.wide {w w' : World} {S S' : Nat → Prop} (h : Chg w w' S) (h1 : ∀ k, S k → S' k) : Chg w w' S' :=
  ⟨h.os, h.tape, h.output, h.size, fun k hk hne => h.block k hk fun e => hne (h1 k e)⟩
theorem Below.chg {B : Nat} {a w w' : World} {S : Nat → Prop} (h : Below B a w) (hc : Chg w w' S) (hB : ∀ k, S k → B ≤ k) (hs : B ≤ w.heap.size) : Below B a w' :=
  ⟨hc.os.trans h.os, hc.tape.trans h.tape, hc.output.trans h.output, Nat.le_trans h.size hc.size, fun k hk => (hc.block k (by omega) (fun e => by have := hB k e; omega)).trans (h.block k hk)⟩
theorem ownsRow_same {w w' : World} {B : Nat} {e : TypeId} {size : Nat} {v : Value} {n : Nat} {xs : List Value} (h : w.ownsRow B e size v n xs) (hs : ∀ k, v.ownBlock = some k → w'.heap[k]? = w.heap[k]?) : w'.ownsRow B e size v n xs := by
  refine ⟨h.1, ?_⟩
  rcases h.2 with hn | ⟨g, cap, cur, rfl, hb, hgg, rest⟩
  · exact .inl hn
  · exact .inr ⟨g, cap, cur, rfl, hb, (hs g rfl).trans hgg, rest⟩
theorem ownsRow_lower {w : World} {B B' : Nat} {e : TypeId} {size : Nat} {v : Value} {n : Nat} {xs : List Value} (h : w.ownsRow B e size v n xs) (hb : B' ≤ B) : w.ownsRow B' e size v n xs := by
  refine ⟨h.1, ?_⟩
  rcases h.2 with hn | ⟨g, cap, cur, hv, hg, rest⟩
  · exact .inl hn
  · exact .inr ⟨g, cap, cur, hv, Nat.le_trans hb hg, rest⟩
theorem OwnF.same {w w' : World} {B : Nat} {v : Value} {L : List Nat} (h : OwnF w B v L) (hs : ∀ k, v.ownBlock = some k → w'.heap[k]? = w.heap[k]?) : OwnF w' B v L := by
  obtain ⟨bits, hl, hf, hown⟩ := h
  exact ⟨bits, hl, hf, ownsRow_same hown hs⟩
theorem OwnI.rd {w : World} {B : Nat} {v : Value} {L : List Int} (h : OwnI w B v L) : RdI w v L := by
  have h0 := h
  rcases h.2 with ⟨rfl, hn⟩ | ⟨g, cap, cur, rfl, hb, hg, hn, _⟩
  · exact ⟨none, 0, by rw [hn], by omega, fun _ => rfl, fun j hj => by omega⟩
  · refine ⟨_, cap, rfl, hn, fun h => (by cases h), fun j hj => ⟨g, 0, _, rfl, ?_, rfl⟩⟩
    rw [Nat.zero_add, World.ownsRow.cellAt h0 j (by omega)]
    simp [List.getElem?_map, List.getD_eq_getElem?_getD, List.getElem?_eq_getElem hj]

/-- A cell's datum, all that it leads to in S. -/
def Own1 (w : World) (S : Nat → Prop) (d : D1) (u : Value) : Prop :=
  (match d with
    | .fs L => OwnF w 0 u L
    | .is L => OwnI w 0 u L
    | d => Rd1 w d u ∧ u.ownBlock = none) ∧ ∀ k, u.ownBlock = some k → S k
theorem Own1.rd {w : World} {S : Nat → Prop} {d : D1} {u : Value} (h : Own1 w S d u) : Rd1 w d u := by
  cases d with
  | fs L => exact OwnF.rd h.1
  | is L => exact OwnI.rd h.1
  | _ => exact h.1.1
theorem Own1.lt {w : World} {S : Nat → Prop} {d : D1} {u : Value} (h : Own1 w S d u) : ∀ k, u.ownBlock = some k → S k ∧ k < w.heap.size := by
  intro k hk
  have h2 := h.2 k hk
  cases d with
  | fs L => exact ⟨h2, (OwnF.lt h.1 hk).2⟩
  | is L => exact ⟨h2, (World.ownsRow.lt h.1 k hk).2⟩
  | _ => rw [h.1.2] at hk; cases hk
theorem Own1.same {w w' : World} {S : Nat → Prop} {d : D1} {u : Value} (h : Own1 w S d u) (hs : ∀ k, u.ownBlock = some k → w'.heap[k]? = w.heap[k]?) : Own1 w' S d u := by
  refine ⟨?_, h.2⟩
  have h1 := h.1
  cases d with
  | fs L => exact OwnF.same h1 hs
  | is L => exact ownsRow_same h1 hs
  | _ => exact h1
theorem Own1.chg {w w' : World} {S S' : Nat → Prop} {d : D1} {u : Value} (h : Own1 w S d u) (hc : Chg w w' S') (hd : ∀ k, S k → ¬ S' k) : Own1 w' S d u :=
  h.same fun k hk => by have := h.lt k hk; exact hc.block k this.2 (hd k this.1)
theorem Own1.wide {w : World} {S S' : Nat → Prop} {d : D1} {u : Value} (h : Own1 w S d u) (h1 : ∀ k, S k → S' k) : Own1 w S' d u := ⟨h.1, fun k hk => h1 k (h.2 k hk)⟩
/-- The slice v has n elements, whose cells are those of ds; all that it leads to lies in S, and is met once. -/
def OwnC (w : World) (S : Nat → Prop) (t : TypeId) (size : Nat) (v : Value) (n : Nat) (ds : List D1) : Prop :=
  ∃ us : List Value, us.length = ds.length ∧ w.ownsRow 0 t size v n us ∧ (∀ k, v.ownBlock = some k → S k) ∧ (∀ j, j < ds.length → Own1 w S (ds.getD j default) (us.getD j undef)) ∧
    (∀ i j k, i < us.length → j < us.length → (us.getD i undef).ownBlock = some k → (us.getD j undef).ownBlock = some k → i = j) ∧
    ∀ j k, j < us.length → (us.getD j undef).ownBlock = some k → v.ownBlock ≠ some k
theorem OwnC.length {w : World} {S : Nat → Prop} {t : TypeId} {size : Nat} {v : Value} {n : Nat} {ds : List D1} (h : OwnC w S t size v n ds) : ds.length = n * size := by
  obtain ⟨us, hl, hown, _⟩ := h
  rw [← hl, hown.1]
theorem OwnC.rd {w : World} {S : Nat → Prop} {t : TypeId} {size : Nat} {v : Value} {n : Nat} {ds : List D1} (h : OwnC w S t size v n ds) : RdC w v n ds := by
  have hlen := h.length
  obtain ⟨us, hl, hown, _, hu, _, _⟩ := h
  have hown0 := hown
  rcases hown.2 with ⟨rfl, hn⟩ | ⟨g, cap, cur, rfl, hb, hg, hn, _⟩
  · refine ⟨none, 0, by rw [hn], by omega, fun _ => rfl, fun j hj => ?_⟩
    rw [hlen, hn, Nat.zero_mul] at hj
    omega
  · refine ⟨_, cap, rfl, hn, fun h => (by cases h), fun j hj => ⟨g, 0, us.getD j undef, rfl, ?_, (hu j hj).rd⟩⟩
    rw [Nat.zero_add, hown0.cellAt j (by omega)]
    rw [List.getD_eq_getElem?_getD, List.getElem?_eq_getElem (by omega)]
    rfl
theorem OwnC.lt {w : World} {S : Nat → Prop} {t : TypeId} {size : Nat} {v : Value} {n : Nat} {ds : List D1} (h : OwnC w S t size v n ds) : ∀ k, v.ownBlock = some k → S k ∧ k < w.heap.size := by
  obtain ⟨us, hl, hown, hv, _⟩ := h
  intro k hk
  exact ⟨hv k hk, (hown.lt k hk).2⟩
theorem OwnC.chg {w w' : World} {S S' : Nat → Prop} {t : TypeId} {size : Nat} {v : Value} {n : Nat} {ds : List D1} (h : OwnC w S t size v n ds) (hc : Chg w w' S') (hd : ∀ k, S k → ¬ S' k) : OwnC w' S t size v n ds := by
  have hlt := h.lt
  obtain ⟨us, hl, hown, hv, hu, h1, h2⟩ := h
  exact ⟨us, hl, ownsRow_same hown fun k hk => by have := hlt k hk; exact hc.block k this.2 (hd k this.1), hv, fun j hj => (hu j hj).chg hc hd, h1, h2⟩
theorem OwnC.kept {w w' : World} {S : Nat → Prop} {t : TypeId} {size : Nat} {v : Value} {n : Nat} {ds : List D1} (h : OwnC w S t size v n ds) (hb : Below w.heap.size w w') : OwnC w' S t size v n ds :=
  h.chg (Chg.of_below hb fun _ => False) fun _ _ => id
theorem OwnC.drewN {w : World} {S : Nat → Prop} {t : TypeId} {size : Nat} {v : Value} {n : Nat} {ds : List D1} (h : OwnC w S t size v n ds) (m : Nat) : OwnC (w.drewN m) S t size v n ds :=
  h.chg ((Chg.refl w fun _ => False).drewN m) fun _ _ => id
theorem OwnC.wide {w : World} {S S' : Nat → Prop} {t : TypeId} {size : Nat} {v : Value} {n : Nat} {ds : List D1} (h : OwnC w S t size v n ds) (h1 : ∀ k, S k → S' k) : OwnC w S' t size v n ds := by
  obtain ⟨us, hl, hown, hv, hu, h3, h4⟩ := h
  exact ⟨us, hl, hown, fun k hk => h1 k (hv k hk), fun j hj => (hu j hj).wide h1, h3, h4⟩
/-- The row's block, and its cells. -/
theorem OwnC.form {w : World} {S : Nat → Prop} {t : TypeId} {size : Nat} {v : Value} {n : Nat} {ds : List D1} (h : OwnC w S t size v n ds) :
    (v = .slice none 0 0 ∧ n = 0 ∧ ds = []) ∨ ∃ g cap, v = .slice (some ⟨g, 0, none⟩) n cap ∧ S g ∧ g < w.heap.size ∧ n ≤ cap ∧
      (∀ j, j < ds.length → ∃ u, w.cell? ⟨g, j, none⟩ = some u ∧ Own1 w S (ds.getD j default) u ∧ (∀ k, u.ownBlock = some k → k ≠ g ∧ ∀ i ui, i < ds.length → w.cell? ⟨g, i, none⟩ = some ui → i ≠ j → ui.ownBlock ≠ some k)) ∧ ∀ j, w.frozen? ⟨g, j, none⟩ = false := by
  have hlen := h.length
  have hlt := h.lt
  obtain ⟨us, hl, hown, hv, hu, h3, h4⟩ := h
  have hown0 := hown
  rcases hown.2 with ⟨rfl, hn⟩ | ⟨g, cap, cur, rfl, hb, hg, hn, _⟩
  · refine .inl ⟨rfl, hn, List.eq_nil_of_length_eq_zero ?_⟩
    rw [hlen, hn, Nat.zero_mul]
  · have := hlt g rfl
    have hcell : ∀ j, j < ds.length → w.cell? ⟨g, j, none⟩ = some (us.getD j undef) := fun j hj => by
      rw [hown0.cellAt j (by omega), List.getD_eq_getElem?_getD, List.getElem?_eq_getElem (by omega)]
      rfl
    refine .inr ⟨g, cap, rfl, this.1, this.2, hn, fun j hj => ⟨us.getD j undef, hcell j hj, hu j hj, fun k hk => ⟨fun e => h4 j k (by omega) hk (by rw [e]; rfl), fun i ui hi hui hne e => ?_⟩⟩, fun j => hown0.frozenAt j⟩
    rw [hcell i hi] at hui
    simp only [Option.some.injEq] at hui
    subst hui
    exact hne (h3 i j k (by omega) (by omega) e hk)
/-- A cell of the row is stored: what it leads to is met nowhere else. -/
theorem OwnC.stored {w : World} {S : Nat → Prop} {t : TypeId} {size : Nat} {g cap n : Nat} {ds : List D1} (h : OwnC w S t size (.slice (some ⟨g, 0, none⟩) n cap) n ds) {j : Nat} {d : D1} {u : Value}
    (hd : Own1 w S d u) (hne : ∀ k, u.ownBlock = some k → k ≠ g ∧ ∀ i ui, i < ds.length → w.cell? ⟨g, i, none⟩ = some ui → i ≠ j → ui.ownBlock ≠ some k) :
    OwnC (w.setCell ⟨g, j, none⟩ u) S t size (.slice (some ⟨g, 0, none⟩) n cap) n (ds.set j d) := by
  have hlen := h.length
  obtain ⟨us, hl, hown, hv, hu, h3, h4⟩ := h
  have hst := hown.stored j u
  have hcell : ∀ i, i < us.length → w.cell? ⟨g, i, none⟩ = some (us.getD i undef) := fun i hi => by
    rw [hown.cellAt i (by rw [hown.1] at hi; exact hi), List.getD_eq_getElem?_getD, List.getElem?_eq_getElem hi]; rfl
  have same : ∀ x : Value, (∀ k, x.ownBlock = some k → k < w.heap.size ∧ k ≠ g) → ∀ k, x.ownBlock = some k → (w.setCell ⟨g, j, none⟩ u).heap[k]? = w.heap[k]? := fun x hx k hk => by
    have := hx k hk
    exact hst.2.block k this.1 (fun e => this.2 (by cases e; rfl))
  have gset : ∀ i, i < us.length → (us.set j u).getD i undef = if i = j then u else us.getD i undef := fun i hi => by
    simp only [List.getD_eq_getElem?_getD, List.getElem?_set]
    by_cases e : j = i
    · subst e; simp [hi]
    · rw [if_neg e, if_neg (fun h => e h.symm)]
  have dset : ∀ i, i < ds.length → (ds.set j d).getD i default = if i = j then d else ds.getD i default := fun i hi => by
    simp only [List.getD_eq_getElem?_getD, List.getElem?_set]
    by_cases e : j = i
    · subst e; simp [hi]
    · rw [if_neg e, if_neg (fun h => e h.symm)]
  refine ⟨us.set j u, by simp [hl], hst.1, hv, fun i hi => ?_, fun a b k ha hb hka hkb => ?_, fun i k hi hk => ?_⟩
  · rw [List.length_set] at hi
    rw [gset i (by omega), dset i hi]
    by_cases e : i = j
    · simp only [if_pos e]
      exact hd.same (same u fun k hk => ⟨(hd.lt k hk).2, (hne k hk).1⟩)
    · simp only [if_neg e]
      exact (hu i hi).same (same _ fun k hk => ⟨((hu i hi).lt k hk).2, fun e2 => h4 i k (by omega) hk (by rw [e2]; rfl)⟩)
  · rw [List.length_set] at ha hb
    rw [gset a ha] at hka
    rw [gset b hb] at hkb
    by_cases ea : a = j
    · by_cases eb : b = j
      · omega
      · rw [if_pos ea] at hka
        rw [if_neg eb] at hkb
        exact absurd hkb ((hne k hka).2 b _ (by omega) (hcell b hb) eb)
    · by_cases eb : b = j
      · rw [if_neg ea] at hka
        rw [if_pos eb] at hkb
        exact absurd hka ((hne k hkb).2 a _ (by omega) (hcell a ha) ea)
      · rw [if_neg ea] at hka
        rw [if_neg eb] at hkb
        exact h3 a b k ha hb hka hkb
  · rw [List.length_set] at hi
    rw [gset i hi] at hk
    by_cases e : i = j
    · rw [if_pos e] at hk
      intro h5
      cases h5
      exact (hne g hk).1 rfl
    · rw [if_neg e] at hk
      exact h4 i k hi hk
/-- A cell without an address is stored. -/
theorem OwnC.stored0 {w : World} {S : Nat → Prop} {t : TypeId} {size : Nat} {g cap n : Nat} {ds : List D1} (h : OwnC w S t size (.slice (some ⟨g, 0, none⟩) n cap) n ds) {j : Nat} {d : D1} {u : Value}
    (hd : Own1 w S d u) (hu : u.ownBlock = none) : OwnC (w.setCell ⟨g, j, none⟩ u) S t size (.slice (some ⟨g, 0, none⟩) n cap) n (ds.set j d) :=
  h.stored hd fun k hk => by rw [hu] at hk; cases hk
/-- What a cell leads to has turned into another datum at the same place. -/
theorem OwnC.turned {w w' : World} {S : Nat → Prop} {t : TypeId} {size : Nat} {g cap n : Nat} {ds : List D1} (h : OwnC w S t size (.slice (some ⟨g, 0, none⟩) n cap) n ds) {j : Nat} {d : D1} {u : Value} (hj : j < ds.length)
    (hcu : w.cell? ⟨g, j, none⟩ = some u) (hg : Chg w w' fun k => u.ownBlock = some k) (hd : Own1 w' S d u) : OwnC w' S t size (.slice (some ⟨g, 0, none⟩) n cap) n (ds.set j d) := by
  have hlen := h.length
  have hlt := h.lt
  obtain ⟨us, hl, hown, hv, hu, h3, h4⟩ := h
  have hcell : ∀ i, i < us.length → w.cell? ⟨g, i, none⟩ = some (us.getD i undef) := fun i hi => by
    rw [hown.cellAt i (by rw [hown.1] at hi; exact hi), List.getD_eq_getElem?_getD, List.getElem?_eq_getElem hi]; rfl
  have eu : us.getD j undef = u := by
    have := hcell j (by omega)
    rw [hcu] at this
    cases this; rfl
  have dset : ∀ i, i < ds.length → (ds.set j d).getD i default = if i = j then d else ds.getD i default := fun i hi => by
    simp only [List.getD_eq_getElem?_getD, List.getElem?_set]
    by_cases e : j = i
    · subst e; simp [hi]
    · rw [if_neg e, if_neg (fun h => e h.symm)]
  refine ⟨us, by simp [hl], ownsRow_same hown fun k hk => ?_, hv, fun i hi => ?_, h3, h4⟩
  · cases hk
    exact hg.block g (hlt g rfl).2 fun e => h4 j g (by omega) (by rw [eu]; exact e) rfl
  · rw [List.length_set] at hi
    rw [dset i hi]
    by_cases e : i = j
    · subst e
      simp only [if_pos rfl]
      rw [eu]; exact hd
    · simp only [if_neg e]
      exact (hu i hi).same fun k hk => hg.block k ((hu i hi).lt k hk).2 fun e2 => e (h3 i j k (by omega) (by omega) hk (by rw [eu]; exact e2))
theorem Own1.f {w : World} {S : Nat → Prop} {r x : Nat} (h : FV .f32 r x) : Own1 w S (.f x) (.float .f32 r) := ⟨⟨⟨r, rfl, h⟩, rfl⟩, fun k hk => by cases hk⟩
theorem Own1.int {w : World} {S : Nat → Prop} {k : IntKind} {n : Int} : Own1 w S (.i k n) (.int k n) := ⟨⟨rfl, rfl⟩, fun k hk => by cases hk⟩
theorem Own1.fs_ {w : World} {S : Nat → Prop} {B : Nat} {v : Value} {L : List Nat} (h : OwnF w B v L) (hh : ∀ k, v.ownBlock = some k → S k) : Own1 w S (.fs L) v := ⟨h.mono (Nat.zero_le _), hh⟩
/-- The datum's blocks. -/
def Of (v : Value) (k : Nat) : Prop := v.ownBlock = some k
theorem OwnF.chg {w w' : World} {S : Nat → Prop} {B : Nat} {v : Value} {L : List Nat} (h : OwnF w B v L) (hc : Chg w w' S) (hd : ∀ k, v.ownBlock = some k → ¬ S k) : OwnF w' B v L :=
  h.same fun k hk => hc.block k (h.lt hk).2 (hd k hk)
end Go.Proofs.Ythacadbdncfocaa
