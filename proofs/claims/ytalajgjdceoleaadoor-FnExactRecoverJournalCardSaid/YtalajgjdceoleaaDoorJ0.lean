/- Strings: slices of strings that are read, that the call owns (for seats without floats). -/
import Derived.Test.YtalajgjdceoleaaDoorRows
import Derived.Test.YtalajgjdceoleaaDoorMem
import Derived.Test.YtalajgjdceoleaaDoorRelOp
import Derived.WalkSpells
import Derived.Laws.AppendOwnNone
import Derived.Laws.IdiomStrings
import Derived.Laws.BitsLemmas
import Derived.Deep.CutRange
import Derived.Deep.DeepCutAuto
import Derived.Deep.RegionWith
namespace Go.Proofs.YtalajgjdceoleaaDoor
open Go Go.RowKit

theorem Below.drewN {B : Nat} {a w : World} (h : Below B a w) (n : Nat) : Below B a (w.drewN n) := ⟨h.os, h.tape, h.output, h.size, h.block⟩
/-- Where the result of an 'append' lies: where the slice lay, or in a new block. -/
theorem append_block {P : Program} {w : World} {base : Nat} {t ty e : TypeId} {i : TypeInfo} {z : Value} {size bytes : Nat} (ht : P.underlying t = some (.slice e)) (hi : P.info? e = some i) (hz : i.zero = some z)
    (hsize : i.size = size) (hby : i.bytes = bytes) {v : Value} {n : Nat} {xs : List Value} (hown : w.ownsRow base e size v n xs)
    {a : Addr} {m c : Nat} {news : List Value} (hl : news.length = m * size) (hnews : ∀ j u, news[j]? = some u → w.cell? (a.add j) = some u) (h1 : ∀ u ∈ news, u.oneCell' = true)
    (h63 : n + m ≤ maxLen) (hbytes : (n + m) * bytes ≤ 140737488355328) {v' : Value} {w' : World} (hrun : (Builtin.append_ #[t, t] ty #[v, .slice (some a) m c]).run P w = .ok v' w')
    (hnil : v' = .slice none 0 0 ↔ v = .slice none 0 0 ∧ m = 0) : v'.ownBlock = v.ownBlock ∨ v'.ownBlock = some w.heap.size := by
  subst hsize
  subst hby
  have hsmall : n + m ≤ 9223372036854775807 := by simp only [maxLen] at h63; omega
  have hown0 := hown
  rcases hown.2 with ⟨rfl, rfl⟩ | ⟨g, cap, cur, rfl, hbg, hg, hnc, hcm, hcs, htake⟩
  · by_cases hm : m = 0
    · left; rw [hnil.2 ⟨rfl, hm⟩]
    · have hr := run_append_nil (P := P) w t ty e i z ht hi hz a m c news hl hnews (by omega) (by omega) (by have hb := hbytes; simp only [Nat.zero_add] at hb; omega)
      rw [hr] at hrun
      cases hrun
      right; rfl
  · by_cases hroom : n + m ≤ cap
    · have hfit : n * i.size + news.length ≤ cur.size := by rw [hl, hcs, ← Nat.add_mul]; exact Nat.mul_le_mul_right _ hroom
      have hr := run_append_room (P := P) w t ty e i ht hi g n cap cur hg a m c news hl hnews h1 hroom hfit
      rw [hr] at hrun
      cases hrun
      left; rfl
    · have hr := run_append_grow (P := P) w t ty e i z ht hi hz ⟨g, 0, none⟩ n cap xs hown.1 (hown0.cells (g := g) rfl) a m c news hl hnews (by omega) (by omega) (growslice_fits (by omega) hbytes)
      rw [hr] at hrun
      cases hrun
      right; rfl
/-- 'append' to a slice of the call's own; beside 'wpList_append_own', where the result lies. -/
theorem wpList_append_own2 {P : Program} {w : World} {ops : Array Oper} {rest : List Oper} {o : Oper} {a : Act} {Q : Exit → Act → World → Prop} (hgd : o.guard = none) (s x : Operand) (t : TypeId)
    (ho : o.op = .call { callee := .builtin .append, args := #[s, x], argTypes := #[t, t] })
    (base : Nat) (e : TypeId) (i : TypeInfo) (z : Value) (size bytes : Nat) (ht : P.underlying t = some (.slice e)) (hi : P.info? e = some i) (hz : i.zero = some z)
    (hsize : i.size = size) (hby : i.bytes = bytes) (hzs : z.cells.size = size) (hsz : 0 < size)
    (v : Value) (n : Nat) (xs : List Value) (hs : a.eval s = v) (hown : w.ownsRow base e size v n xs)
    (ad : Addr) (m c : Nat) (news : List Value) (hx : a.eval x = .slice (some ad) m c) (hl : news.length = m * size) (hnews : ∀ j u, news[j]? = some u → w.cell? (ad.add j) = some u) (h1 : ∀ u ∈ news, u.oneCell' = true)
    (h63 : n + m ≤ maxLen) (hbytes : (n + m) * bytes ≤ 140737488355328) (hbase : base ≤ w.heap.size)
    (h : ∀ v' w', w'.ownsRow base e size v' (n + m) (xs ++ news) → w.grownBy w' v.ownBlock → (v'.ownBlock = v.ownBlock ∨ v'.ownBlock = some w.heap.size) → wpList P ops Q rest (a.put o.dst v') w') : wpList P ops Q (o :: rest) a w := by
  refine wpList_plain hgd fun K hK => ?_
  obtain ⟨v', w', hr, h2, h3, h4⟩ := run_append_own (P := P) w base t o.type e i z size bytes ht hi hz hsize hby hzs hsz v n xs hown ad m c news hl hnews h1 h63 hbytes hbase
  have h5 := append_block ht hi hz hsize hby hown hl hnews h1 h63 hbytes hr h4
  unfold Oper.wp execOp
  simp only [ho, resolve, invoke, builtin, Sem.run_bind, Sem.run_pure, Result.andThen_ok, List.map_toArray, List.map_cons, List.map_nil, hs, hx, hr]
  exact hK _ _ (h v' w' h2 h3 h5)
theorem grownBy_of_below {w w' : World} (h : Below w.heap.size w w') (row : Option Nat) : w.grownBy w' row := ⟨h.os, h.tape, h.output, h.size, fun k hk _ => h.block k hk⟩
theorem grownBy_trans {a b c : World} {row : Option Nat} (h : a.grownBy b row) (k : b.grownBy c row) : a.grownBy c row :=
  ⟨k.os.trans h.os, k.tape.trans h.tape, k.output.trans h.output, Nat.le_trans h.size k.size, fun i hi hne => (k.block i (Nat.lt_of_lt_of_le hi h.size) hne).trans (h.block i hi hne)⟩
theorem grownBy_setCell (w : World) (px j : Nat) (u : Value) : w.grownBy (w.setCell ⟨px, j, none⟩ u) (some px) :=
  ⟨rfl, rfl, rfl, by simp, fun k _ hk => heap_setCell_other w ⟨px, j, none⟩ k u (fun e => hk (by simp [e]))⟩
theorem grownBy_drewN (w : World) (n : Nat) (row : Option Nat) : w.grownBy (w.drewN n) row := ⟨rfl, rfl, rfl, Nat.le_refl _, fun _ _ _ => rfl⟩
/-- 'append' of one element of one cell to a slice of the call's own. -/
theorem wpList_push1 {P : Program} {ops : Array Oper} {rest : List Oper} {o : Oper} {a : Act} {w : World} {Q : Exit → Act → World → Prop} (hgd : o.guard = none) (s x : Operand) (t e : TypeId)
    (ho : o.op = .call { callee := .builtin .append, args := #[s, x], argTypes := #[t, t] }) (z : Value) (bytes : Nat) (ht : P.underlying t = some (.slice e)) (hinfo : (P.info? e).map (fun i => (i.zero, i.size, i.bytes)) = some (some z, 1, bytes))
    (hzs : z.cells.size = 1) (hby : bytes ≤ 100) (B : Nat) (v : Value) (n : Nat) (xs : List Value) (hs : a.eval s = v) (hown : w.ownsRow B e 1 v n xs)
    (ad : Addr) (c : Nat) (u : Value) (hx : a.eval x = .slice (some ad) 1 c) (hcell : w.cell? ad = some u) (hu : u.oneCell' = true) (hlen : n ≤ 1048576) (hB : B ≤ w.heap.size)
    (h : ∀ v' w', w'.ownsRow B e 1 v' (n + 1) (xs ++ [u]) → w.grownBy w' v.ownBlock → Below B w w' → wpList P ops Q rest (a.put o.dst v') w') : wpList P ops Q (o :: rest) a w := by
  obtain ⟨i0, hi, hz0, hz1, hz2⟩ := info_parts hinfo
  refine wpList_append_own2 hgd s x t ho B e i0 z 1 bytes ht hi hz0 hz1 hz2 hzs (by decide) v n xs hs hown ad 1 c [u] hx rfl ?_ ?_ ?_ ?_ hB ?_
  · intro j y hy
    match j, hy with
    | 0, hy =>
      simp at hy; subst hy
      have : ad.add 0 = ad := by unfold Addr.add; split <;> simp_all
      rw [this]; exact hcell
  · intro y hy; simp at hy; subst hy; exact hu
  · unfold maxLen; omega
  · exact Nat.le_trans (Nat.mul_le_mul (by omega : n + 1 ≤ 1048577) hby) (by decide)
  · intro v' w' h1 h2 _
    exact h v' w' h1 h2 ((Below.refl _ _).grown h2 hB fun k hk => (hown.lt k hk).1)


theorem alloc_new (w : World) (o : Obj) : (w.alloc o).heap[w.heap.size]? = some o := by
  show (w.heap.push o)[w.heap.size]? = some o
  simp
theorem Below.curr {B : Nat} {w w' w'' : World} (h : Below B w w') (e1 : w''.os = w'.os) (e2 : w''.tape = w'.tape) (e3 : w''.output = w'.output) (e4 : w''.heap = w'.heap) : Below B w w'' :=
  ⟨e1.trans h.os, e2.trans h.tape, e3.trans h.output, e4 ▸ h.size, fun k hk => by rw [e4]; exact h.block k hk⟩
def TrueB (w : World) (e : Ending) (w' : World) : Prop := e = .returned (.bool true) ∧ Below w.heap.size w w'
theorem TrueB.mk {w w' : World} (h : Below w.heap.size w w') : TrueB w (.returned (.bool true)) w' := ⟨rfl, h⟩
def bytesL (s : ByteArray) : List UInt8 := s.data.toList
/-- The line j of a list of lines. -/
def lnAt (L : List ByteArray) (j : Nat) : ByteArray := L.getD j ⟨#[]⟩
def IsS (L : List ByteArray) (j : Nat) (u : Value) : Prop := u = .string (lnAt L j)
def RdStr (w : World) (v : Value) (L : List ByteArray) : Prop := RdP w v L.length (IsS L)
theorem RdStr.mono {w w' : World} {v : Value} {L : List ByteArray} (h : RdStr w v L) (hb : Below w.heap.size w w') : RdStr w' v L := RdP.mono h hb
theorem RdStr.opened {w : World} {v : Value} {L : List ByteArray} (h : RdStr w v L) :
    ∃ a c, v = .slice a L.length c ∧ L.length ≤ c ∧ (a = none → c = 0) ∧ ∀ j, j < L.length → ∃ b o, a = some ⟨b, o, none⟩ ∧ b < w.heap.size ∧ w.cell? ⟨b, o + j, none⟩ = some (.string (lnAt L j)) := by
  obtain ⟨a, c, hv, hc, hz, hr⟩ := h
  refine ⟨a, c, hv, hc, hz, fun j hj => ?_⟩
  obtain ⟨b, o, u, ha, hu, rfl⟩ := hr j hj
  exact ⟨b, o, ha, block_lt hu, hu⟩
def OwnStr (w : World) (B : Nat) (v : Value) (L : List ByteArray) : Prop := w.ownsRow B 9 1 v L.length (L.map Value.string)
theorem OwnStr.kept {w w' : World} {B : Nat} {v : Value} {L : List ByteArray} (h : OwnStr w B v L) (hb : Below w.heap.size w w') : OwnStr w' B v L := by
  refine ⟨h.1, ?_⟩
  rcases h.2 with hn | ⟨g, cap, cur, rfl, hB, hg, r⟩
  · exact .inl hn
  · exact .inr ⟨g, cap, cur, rfl, hB, by rw [hb.block g (Array.getElem?_eq_some_iff.1 hg).1]; exact hg, r⟩
theorem OwnStr.rd {w : World} {B : Nat} {v : Value} {L : List ByteArray} (h : OwnStr w B v L) : RdStr w v L := by
  have h0 := h
  rcases h with ⟨-, ⟨rfl, hn⟩ | ⟨g, cap, cur, rfl, hB, hg, hn, -⟩⟩
  · obtain rfl : L = [] := List.eq_nil_of_length_eq_zero hn
    exact ⟨none, 0, rfl, Nat.le_refl _, fun _ => rfl, fun j hj => by cases hj⟩
  · refine ⟨_, cap, rfl, hn, fun h => (by cases h), fun j hj => ⟨g, 0, _, rfl, ?_, rfl⟩⟩
    rw [Nat.zero_add, World.ownsRow.cellAt h0 j (by omega)]
    simp [List.getElem?_map, List.getElem?_eq_getElem hj, lnAt]
theorem bytes_append (a b : List UInt8) : (⟨a.toArray⟩ : ByteArray) ++ (⟨b.toArray⟩ : ByteArray) = ⟨(a ++ b).toArray⟩ := by
  apply ByteArray.ext
  simp [ByteArray.data_append]
theorem bytesL_append (a b : ByteArray) : bytesL (a ++ b) = bytesL a ++ bytesL b := by
  simp [bytesL, ByteArray.data_append]
end Go.Proofs.YtalajgjdceoleaaDoor
