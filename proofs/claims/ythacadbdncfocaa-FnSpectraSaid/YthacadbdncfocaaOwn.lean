/- Slices of floats that a call has made itself, by the classes of their numbers. -/
import Derived.Test.YthacadbdncfocaaRows
import Derived.Test.YthacadbdncfocaaMem
import Derived.WalkSpells
import Derived.Laws.AppendOwnNone
namespace Go.Proofs.Ythacadbdncfocaa
open Go Go.RowKit

theorem Try.infoF : (Try.prog.info? 27).map (fun i => (i.zero, i.size, i.bytes)) = some (some (.float .f32 0), 1, 4) := by kernel_rfl
/-- The slice v has the classes L, and its block is one of those from B on. -/
def OwnF (w : World) (B : Nat) (v : Value) (L : List Nat) : Prop :=
  ∃ bits : List Nat, bits.length = L.length ∧ (∀ j, j < L.length → FV .f32 (bits.getD j 0) (L.getD j 0)) ∧ w.ownsRow B 27 1 v L.length (bits.map (Value.float .f32))
theorem getD_map_float (bits : List Nat) (j : Nat) (h : j < bits.length) : (bits.map (Value.float .f32))[j]? = some (.float .f32 (bits.getD j 0)) := by
  simp [List.getElem?_map, List.getElem?_eq_getElem h]
theorem OwnF.nil (w : World) (B : Nat) : OwnF w B (.slice none 0 0) [] := ⟨[], rfl, fun j hj => (by cases hj), World.ownsRow_nil w B _ 1⟩
theorem OwnF.form {w : World} {B : Nat} {v : Value} {L : List Nat} (h : OwnF w B v L) :
    (v = .slice none 0 0 ∧ L = []) ∨ ∃ g cap, v = .slice (some ⟨g, 0, none⟩) L.length cap ∧ B ≤ g ∧ g < w.heap.size ∧ L.length ≤ cap ∧
      (∀ j, j < L.length → ∃ r, w.cell? ⟨g, j, none⟩ = some (.float .f32 r) ∧ FV .f32 r (L.getD j 0)) ∧ ∀ j, w.frozen? ⟨g, j, none⟩ = false := by
  obtain ⟨bits, hl, hf, hown⟩ := h
  have hown0 := hown
  rcases hown.2 with ⟨rfl, hn⟩ | ⟨g, cap, cur, rfl, hb, hg, hn, _⟩
  · exact .inl ⟨rfl, List.eq_nil_of_length_eq_zero hn⟩
  · refine .inr ⟨g, cap, rfl, hb, (hown0.lt g rfl).2, hn, fun j hj => ⟨bits.getD j 0, ?_, hf j hj⟩, fun j => hown0.frozenAt j⟩
    rw [hown0.cellAt j (by omega)]
    exact getD_map_float bits j (by omega)
theorem OwnF.rd {w : World} {B : Nat} {v : Value} {L : List Nat} (h : OwnF w B v L) : RdF w v L := by
  rcases h.form with ⟨rfl, rfl⟩ | ⟨g, cap, rfl, _, _, hn, hc, _⟩
  · exact ⟨none, 0, rfl, Nat.le_refl _, fun _ => rfl, fun j hj => by cases hj⟩
  · refine ⟨_, cap, rfl, hn, fun h => (by cases h), fun j hj => ?_⟩
    obtain ⟨r, h1, h2⟩ := hc j hj
    exact ⟨g, 0, _, rfl, by rw [Nat.zero_add]; exact h1, r, rfl, h2⟩
theorem OwnF.at_block {w : World} {B : Nat} {v : Value} {L : List Nat} (h : OwnF w B v L) {n : Nat} (hn : L.length = n) (hl : 0 < n) :
    ∃ g cap, v = .slice (some ⟨g, 0, none⟩) n cap ∧ B ≤ g ∧ g < w.heap.size ∧ n ≤ cap ∧
      (∀ j, j < L.length → ∃ r, w.cell? ⟨g, j, none⟩ = some (.float .f32 r) ∧ FV .f32 r (L.getD j 0)) ∧ ∀ j, w.frozen? ⟨g, j, none⟩ = false := by
  subst hn
  rcases h.form with ⟨_, rfl⟩ | h
  · cases hl
  · exact h
theorem OwnF.lt {w : World} {B : Nat} {v : Value} {L : List Nat} (h : OwnF w B v L) {k : Nat} (hk : v.ownBlock = some k) : B ≤ k ∧ k < w.heap.size := by
  obtain ⟨_, _, _, hown⟩ := h
  exact hown.lt k hk
theorem OwnF.kept {w w' : World} {B : Nat} {v : Value} {L : List Nat} (h : OwnF w B v L) (hb : Below w.heap.size w w') : OwnF w' B v L := by
  obtain ⟨bits, hl, hf, hown⟩ := h
  refine ⟨bits, hl, hf, hown.1, ?_⟩
  rcases hown.2 with hn | ⟨g, cap, cur, rfl, hB, hg, r⟩
  · exact .inl hn
  · exact .inr ⟨g, cap, cur, rfl, hB, by rw [hb.block g (Array.getElem?_eq_some_iff.1 hg).1]; exact hg, r⟩
theorem OwnF.mono {w : World} {B B' : Nat} {v : Value} {L : List Nat} (h : OwnF w B v L) (hB : B' ≤ B) : OwnF w B' v L := by
  obtain ⟨bits, hl, hf, hown⟩ := h
  refine ⟨bits, hl, hf, hown.1, ?_⟩
  rcases hown.2 with hn | ⟨g, cap, cur, rfl, hB', r⟩
  · exact .inl hn
  · exact .inr ⟨g, cap, cur, rfl, Nat.le_trans hB hB', r⟩
theorem OwnF.alloc {w : World} {B : Nat} {v : Value} {L : List Nat} (h : OwnF w B v L) (o : Obj) : OwnF (w.alloc o) B v L := h.kept ((Below.refl _ _).alloc (Nat.le_refl _) o)
theorem OwnF.drewN {w : World} {B : Nat} {v : Value} {L : List Nat} (h : OwnF w B v L) (n : Nat) : OwnF (w.drewN n) B v L := h
theorem Below.drewN {B : Nat} {a w : World} (h : Below B a w) (n : Nat) : Below B a (w.drewN n) := ⟨h.os, h.tape, h.output, h.size, h.block⟩
/-- A slice written out: one number. -/
theorem OwnF.one {w : World} {B : Nat} (hB : B ≤ w.heap.size) {r x : Nat} (hr : FV .f32 r x) : OwnF (w.alloc (.cells #[.float .f32 r] 27)) B (.slice (some ⟨w.heap.size, 0, none⟩) 1 1) [x] :=
  ⟨[r], rfl, fun j hj => by
    obtain rfl : j = 0 := by simpa using hj
    exact hr, World.ownsRow_lit w #[.float .f32 r] 1 hB (by decide) rfl⟩
theorem OwnF.stored {w : World} {B g cap : Nat} {L : List Nat} (h : OwnF w B (.slice (some ⟨g, 0, none⟩) L.length cap) L) {j r x : Nat} (hr : FV .f32 r x) :
    OwnF (w.setCell ⟨g, j, none⟩ (.float .f32 r)) B (.slice (some ⟨g, 0, none⟩) L.length cap) (L.set j x) := by
  obtain ⟨bits, hl, hf, hown⟩ := h
  refine ⟨bits.set j r, by simpa using hl, fun i hi => ?_, ?_⟩
  · simp only [List.length_set] at hi
    by_cases hij : j = i
    · subst hij
      simp only [List.getD_eq_getElem?_getD, List.getElem?_set, if_true, hl, hi, Option.getD_some]
      exact hr
    · simp only [List.getD_eq_getElem?_getD, List.getElem?_set, if_neg hij]
      exact hf i hi
  · have := (hown.stored j (.float .f32 r)).1
    simpa [List.map_set] using this
theorem OwnF.storedN {w : World} {B g cap n : Nat} {L : List Nat} (h : OwnF w B (.slice (some ⟨g, 0, none⟩) n cap) L) (hn : L.length = n) {j r x : Nat} (hr : FV .f32 r x) :
    OwnF (w.setCell ⟨g, j, none⟩ (.float .f32 r)) B (.slice (some ⟨g, 0, none⟩) n cap) (L.set j x) := by
  subst hn; exact h.stored hr
theorem OwnF.push {w' : World} {B n : Nat} {v' : Value} {bits L : List Nat} {r x : Nat} (hl : bits.length = L.length) (hf : ∀ j, j < L.length → FV .f32 (bits.getD j 0) (L.getD j 0)) (hr : FV .f32 r x) (hn : n = L.length)
    (h : w'.ownsRow B 27 1 v' (n + 1) (bits.map (Value.float .f32) ++ [.float .f32 r])) : OwnF w' B v' (L ++ [x]) := by
  subst hn
  refine ⟨bits ++ [r], by simp [hl], fun j hj => ?_, by simpa using h⟩
  simp only [List.length_append, List.length_cons, List.length_nil] at hj
  by_cases h1 : j < L.length
  · simp only [List.getD_eq_getElem?_getD, List.getElem?_append_left h1, List.getElem?_append_left (by omega : j < bits.length)]
    exact hf j h1
  · obtain rfl : j = L.length := by omega
    rw [List.getD_eq_getElem?_getD, List.getD_eq_getElem?_getD, List.getElem?_append_right (by omega), List.getElem?_append_right (by omega)]
    simp [hl, hr]
/-- Where the result of an 'append' lies: where the slice lay, or in a new block. -/
theorem append_block {P : Program} {w : World} {base : Nat} {t ty e : TypeId} {i : TypeInfo} {z : Value} {size bytes : Nat} (ht : P.underlying t = some (.slice e)) (hi : P.info? e = some i) (hz : i.zero = some z)
    (hsize : i.size = size) (hby : i.bytes = bytes) {v : Value} {n : Nat} {xs : List Value} (hown : w.ownsRow base e size v n xs)
    {a : Addr} {m c : Nat} {news : List Value} (hl : news.length = m * size) (hnews : ∀ j u, news[j]? = some u → w.cell? (a.add j) = some u) (h1 : ∀ u ∈ news, u.oneCell' = true)
    (h63 : n + m ≤ maxLen) (hbytes : (n + m) * bytes ≤ 140737488355328) {v' : Value} {w' : World} (hrun : (Builtin.append_ #[t, t] ty #[v, .slice (some a) m c]).run P w = .ok v' w')
    (hnil : v' = .slice none 0 0 ↔ v = .slice none 0 0 ∧ m = 0) : v'.ownBlock = v.ownBlock ∨ v'.ownBlock = some w.heap.size := by
  subst hsize
  subst hby
  have hsmall : n + m ≤ 9223372036854775807 := by simp only [maxLen] at h63; omega
  have hown0 := hown
  rcases hown.2 with ⟨rfl, rfl⟩ | ⟨g, cap, cur, rfl, hbg, hg, hnc, hcm, hcs, htake⟩
  · by_cases hm : m = 0
    · left; rw [hnil.2 ⟨rfl, hm⟩]
    · have hr := run_append_nil (P := P) w t ty e i z ht hi hz a m c news hl hnews (by omega) (by omega) (by have hb := hbytes; simp only [Nat.zero_add] at hb; omega)
      rw [hr] at hrun
      cases hrun
      right; rfl
  · by_cases hroom : n + m ≤ cap
    · have hfit : n * i.size + news.length ≤ cur.size := by rw [hl, hcs, ← Nat.add_mul]; exact Nat.mul_le_mul_right _ hroom
      have hr := run_append_room (P := P) w t ty e i ht hi g n cap cur hg a m c news hl hnews h1 hroom hfit
      rw [hr] at hrun
      cases hrun
      left; rfl
    · have hr := run_append_grow (P := P) w t ty e i z ht hi hz ⟨g, 0, none⟩ n cap xs hown.1 (hown0.cells (g := g) rfl) a m c news hl hnews (by omega) (by omega) (growslice_fits (by omega) hbytes)
      rw [hr] at hrun
      cases hrun
      right; rfl
/-- 'append' to a slice of the call's own; beside 'wpList_append_own', where the result lies. -/
theorem wpList_append_own2 {P : Program} {w : World} {ops : Array Oper} {rest : List Oper} {o : Oper} {a : Act} {Q : Exit → Act → World → Prop} (hgd : o.guard = none) (s x : Operand) (t : TypeId)
    (ho : o.op = .call { callee := .builtin .append, args := #[s, x], argTypes := #[t, t] })
    (base : Nat) (e : TypeId) (i : TypeInfo) (z : Value) (size bytes : Nat) (ht : P.underlying t = some (.slice e)) (hi : P.info? e = some i) (hz : i.zero = some z)
    (hsize : i.size = size) (hby : i.bytes = bytes) (hzs : z.cells.size = size) (hsz : 0 < size)
    (v : Value) (n : Nat) (xs : List Value) (hs : a.eval s = v) (hown : w.ownsRow base e size v n xs)
    (ad : Addr) (m c : Nat) (news : List Value) (hx : a.eval x = .slice (some ad) m c) (hl : news.length = m * size) (hnews : ∀ j u, news[j]? = some u → w.cell? (ad.add j) = some u) (h1 : ∀ u ∈ news, u.oneCell' = true)
    (h63 : n + m ≤ maxLen) (hbytes : (n + m) * bytes ≤ 140737488355328) (hbase : base ≤ w.heap.size)
    (h : ∀ v' w', w'.ownsRow base e size v' (n + m) (xs ++ news) → w.grownBy w' v.ownBlock → (v'.ownBlock = v.ownBlock ∨ v'.ownBlock = some w.heap.size) → wpList P ops Q rest (a.put o.dst v') w') : wpList P ops Q (o :: rest) a w := by
  refine wpList_plain hgd fun K hK => ?_
  obtain ⟨v', w', hr, h2, h3, h4⟩ := run_append_own (P := P) w base t o.type e i z size bytes ht hi hz hsize hby hzs hsz v n xs hown ad m c news hl hnews h1 h63 hbytes hbase
  have h5 := append_block ht hi hz hsize hby hown hl hnews h1 h63 hbytes hr h4
  unfold Oper.wp execOp
  simp only [ho, resolve, invoke, builtin, Sem.run_bind, Sem.run_pure, Result.andThen_ok, List.map_toArray, List.map_cons, List.map_nil, hs, hx, hr]
  exact hK _ _ (h v' w' h2 h3 h5)
/-- 'append' of one number to a slice of the call's own. -/
theorem wpList_push {ops : Array Oper} {rest : List Oper} {o : Oper} {a : Act} {w : World} {Q : Exit → Act → World → Prop} (hgd : o.guard = none) (s x : Operand)
    (ho : o.op = .call { callee := .builtin .append, args := #[s, x], argTypes := #[25, 25] }) (B : Nat) (v : Value) (L : List Nat) (hs : a.eval s = v) (hown : OwnF w B v L)
    (ad : Addr) (c r X : Nat) (hx : a.eval x = .slice (some ad) 1 c) (hcell : w.cell? ad = some (.float .f32 r)) (hr : FV .f32 r X) (hlen : L.length ≤ 1048576) (hB : B ≤ w.heap.size)
    (h : ∀ v' w', OwnF w' B v' (L ++ [X]) → w.grownBy w' v.ownBlock → Below B w w' → (v'.ownBlock = v.ownBlock ∨ v'.ownBlock = some w.heap.size) → wpList Try.prog ops Q rest (a.put o.dst v') w') : wpList Try.prog ops Q (o :: rest) a w := by
  obtain ⟨i0, hi, hz0, hz1, hz2⟩ := info_parts Try.infoF
  have hown0 := hown
  obtain ⟨bits, hl, hf, hown⟩ := hown
  refine wpList_append_own2 hgd s x 25 ho B 27 i0 (.float .f32 0) 1 4 Try.underlying25 hi hz0 hz1 hz2 rfl (by decide) v L.length _ hs hown ad 1 c [.float .f32 r] hx rfl ?_ ?_ ?_ ?_ hB ?_
  · intro j u hu
    match j, hu with
    | 0, hu =>
      simp at hu; subst hu
      have : ad.add 0 = ad := by unfold Addr.add; split <;> simp_all
      rw [this]; exact hcell
  · intro u hu; simp at hu; subst hu; rfl
  · unfold maxLen; omega
  · omega
  · intro v' w' h1 h2 h3
    exact h v' w' (OwnF.push hl hf hr rfl h1) h2 ((Below.refl _ _).grown h2 hB fun k hk => (hown.lt k hk).1) h3
theorem OwnF.keptBy {w w' : World} {B : Nat} {v : Value} {L : List Nat} {row : Option Nat} (h : OwnF w B v L) (hg : w.grownBy w' row) (hne : v.ownBlock ≠ row) : OwnF w' B v L := by
  obtain ⟨bits, hl, hf, hown⟩ := h
  exact ⟨bits, hl, hf, hown.kept hg (.inr hne)⟩
theorem grownBy_of_below {w w' : World} (h : Below w.heap.size w w') (row : Option Nat) : w.grownBy w' row := ⟨h.os, h.tape, h.output, h.size, fun k hk _ => h.block k hk⟩
theorem grownBy_trans {a b c : World} {row : Option Nat} (h : a.grownBy b row) (k : b.grownBy c row) : a.grownBy c row :=
  ⟨k.os.trans h.os, k.tape.trans h.tape, k.output.trans h.output, Nat.le_trans h.size k.size, fun i hi hne => (k.block i (Nat.lt_of_lt_of_le hi h.size) hne).trans (h.block i hi hne)⟩
theorem grownBy_setCell (w : World) (px j : Nat) (u : Value) : w.grownBy (w.setCell ⟨px, j, none⟩ u) (some px) :=
  ⟨rfl, rfl, rfl, by simp, fun k _ hk => heap_setCell_other w ⟨px, j, none⟩ k u (fun e => hk (by simp [e]))⟩
theorem grownBy_drewN (w : World) (n : Nat) (row : Option Nat) : w.grownBy (w.drewN n) row := ⟨rfl, rfl, rfl, Nat.le_refl _, fun _ _ _ => rfl⟩
theorem OwnF.keptRow {w w' : World} {B : Nat} {v : Value} {L : List Nat} {row : Option Nat} (h : OwnF w B v L) (hg : w.grownBy w' row) (hne : ∀ k, v.ownBlock = some k → some k ≠ row) : OwnF w' B v L := by
  obtain ⟨bits, hl, hf, hown⟩ := h
  refine ⟨bits, hl, hf, hown.kept hg ?_⟩
  cases hv : v.ownBlock with
  | none => exact .inl rfl
  | some k => exact .inr (hne k hv)
/-- What was made later lies elsewhere. -/
theorem OwnF.before {w w2 : World} {B1 B2 : Nat} {v1 v2 : Value} {L1 L2 : List Nat} (h1 : OwnF w B1 v1 L1) (h2 : OwnF w2 B2 v2 L2) (hs : w.heap.size ≤ B2) : ∀ k, v1.ownBlock = some k → some k ≠ v2.ownBlock := fun k hk he => by
  have a := (h1.lt hk).2
  have b := (h2.lt he.symm).1
  omega
theorem OwnF.after {w w2 : World} {B1 B2 : Nat} {v1 v2 : Value} {L1 L2 : List Nat} (h1 : OwnF w B1 v1 L1) (h2 : OwnF w2 B2 v2 L2) (hs : w.heap.size ≤ B2) : ∀ k, v2.ownBlock = some k → some k ≠ v1.ownBlock := fun k hk he => by
  have a := (h2.lt hk).1
  have b := (h1.lt he.symm).2
  omega
theorem Below.grownRow {B : Nat} {a w w' : World} {B' : Nat} {v : Value} {L : List Nat} {w0 : World} (h : Below B a w) (hg : w.grownBy w' v.ownBlock) (hB : B ≤ w.heap.size) (ho : OwnF w0 B' v L) (hB' : B ≤ B') : Below B a w' :=
  h.grown hg hB fun k hk => Nat.le_trans hB' (ho.lt hk).1
/-- 'make([]float32, n)'. -/
theorem wpList_mk {ops : Array Oper} {rest : List Oper} {o : Oper} {a : Act} {w : World} {Q : Exit → Act → World → Prop} (hg : o.guard = none) (l c : Operand)
    (hop : o.op = Op.makeSlice 25 l c) (B : Nat) (kl kc : IntKind) (L C : Int) (n : Nat) (hl : a.eval l = .int kl L) (hc : a.eval c = .int kc C) (hL : L = (n : Int)) (hC : C = (n : Int)) (hn : n ≤ 1048576) (hB : B ≤ w.heap.size)
    (h : ∀ w', OwnF w' B (.slice (some ⟨w.heap.size, 0, none⟩) n n) (List.replicate n 0) → Below w.heap.size w w' → w.heap.size < w'.heap.size → wpList Try.prog ops Q rest (a.put o.dst (.slice (some ⟨w.heap.size, 0, none⟩) n n)) w') : wpList Try.prog ops Q (o :: rest) a w := by
  obtain ⟨i0, hi, hz0, hz1, hz2⟩ := info_parts Try.infoF
  refine wpList_make_full w hg l c 25 hop B 27 i0 (.float .f32 0) 1 Try.underlying25 hi hz0 hz1 kl kc L C n hl hc hL hC (by rw [hz2]; omega) (by unfold maxLen; omega) hB ?_
  intro w' h1 h2
  have e : (madeCells (Value.float FloatKind.f32 0).cells (n * 1)).toList = (List.replicate n 0).map (Value.float .f32) := by
    rw [Nat.mul_one]
    show (madeCells #[Value.float .f32 0] n).toList = _
    rw [toList_madeCells_one]; simp
  rw [e] at h1
  have hlt := (h1.lt w.heap.size rfl).2
  refine h w' ⟨List.replicate n 0, rfl, fun j hj => ?_, by simpa using h1⟩ ((Below.refl _ _).grown h2 (Nat.le_refl _) fun k hk => (by cases hk)) hlt
  simp only [List.length_replicate] at hj
  rw [List.getD_eq_getElem?_getD, List.getElem?_replicate, if_pos hj]
  exact fv0 _
/-- 'append' of a list to a slice of the call's own. -/
theorem wpList_pushAll {ops : Array Oper} {rest : List Oper} {o : Oper} {a : Act} {w : World} {Q : Exit → Act → World → Prop} (hgd : o.guard = none) (s x : Operand)
    (ho : o.op = .call { callee := .builtin .append, args := #[s, x], argTypes := #[25, 25] }) (B : Nat) (v : Value) (L : List Nat) (hs : a.eval s = v) (hown : OwnF w B v L)
    (vx : Value) (M : List Nat) (hx : a.eval x = vx) (hM : RdF w vx M) (hlen : L.length ≤ 1048576) (hlenM : M.length ≤ 1048576) (hB : B ≤ w.heap.size)
    (h : ∀ v' w', OwnF w' B v' (L ++ M) → w.grownBy w' v.ownBlock → Below B w w' → (v'.ownBlock = v.ownBlock ∨ v'.ownBlock = some w.heap.size) → wpList Try.prog ops Q rest (a.put o.dst v') w') : wpList Try.prog ops Q (o :: rest) a w := by
  obtain ⟨i0, hi, hz0, hz1, hz2⟩ := info_parts Try.infoF
  have hown0 := hown
  obtain ⟨bits, hl, hf, hown⟩ := hown
  obtain ⟨am, c, rfl, hc, hz, hcell⟩ := hM.opened
  cases am with
  | none =>
    have h0 : M.length = 0 := by have := hz rfl; omega
    obtain rfl : M = [] := List.eq_nil_of_length_eq_zero h0
    obtain rfl : c = 0 := hz rfl
    refine wpList_append_own_none hgd s x 25 ho B 27 i0 1 Try.underlying25 hi v L.length _ hs hown hx ?_
    exact h v w (by simpa using hown0) (World.grownBy.refl _ _) (Below.refl _ _) (.inl rfl)
  | some ad =>
    obtain ⟨new, hn, hnew⟩ := pick_list (P := fun j r => w.cell? (ad.add j) = some (.float .f32 r) ∧ FV .f32 r (M.getD j 0)) M.length (fun j hj => by
      obtain ⟨b, o, r, e, h1, h2⟩ := hcell j hj
      simp only [Option.some.injEq] at e
      subst e
      exact ⟨r, by rw [Addr.add_lit]; exact h1, h2⟩)
    refine wpList_append_own2 hgd s x 25 ho B 27 i0 (.float .f32 0) 1 4 Try.underlying25 hi hz0 hz1 hz2 rfl (by decide) v L.length _ hs hown ad M.length c (new.map (Value.float .f32)) hx (by simp [hn]) ?_ ?_ ?_ ?_ hB ?_
    · intro j u hu
      have hj : j < new.length := by simpa using (List.getElem?_eq_some_iff.1 hu).1
      rw [getD_map_float new j hj] at hu
      cases hu
      exact (hnew j (by omega)).1
    · intro u hu
      obtain ⟨r, _, rfl⟩ := List.mem_map.1 hu
      rfl
    · unfold maxLen; omega
    · omega
    · intro v' w' h1 h2 h3
      refine h v' w' ⟨bits ++ new, by simp [hl, hn], fun j hj => ?_, by simpa [hl] using h1⟩ h2 ((Below.refl _ _).grown h2 hB fun k hk => (hown.lt k hk).1) h3
      simp only [List.length_append] at hj
      by_cases h1 : j < L.length
      · simp only [List.getD_eq_getElem?_getD, List.getElem?_append_left h1, List.getElem?_append_left (by omega : j < bits.length)]
        exact hf j h1
      · rw [List.getD_eq_getElem?_getD, List.getD_eq_getElem?_getD, List.getElem?_append_right (by omega), List.getElem?_append_right (by omega), hl]
        exact (hnew (j - L.length) (by omega)).2
end Go.Proofs.Ythacadbdncfocaa
