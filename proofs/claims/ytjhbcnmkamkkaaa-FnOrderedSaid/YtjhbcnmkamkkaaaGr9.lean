/- Walks on a seat of gathers: MergeGathers. -/
import Derived.Test.YtjhbcnmkamkkaaaGr8
import Derived.Test.YtjhbcnmkamkkaaaGrw
namespace Go.Proofs.Ytjhbcnmkamkkaaa
open Go Go.RowKit

theorem Try.infoFF2 : (Try.prog.info? 25).map (fun i => (i.zero, i.size, i.bytes)) = some (some (.slice none 0 0), 1, 24) := by kernel_rfl
/-- The cells of a row of rows. -/
def CellsS (w : World) (v : Value) (us : List Value) : Prop :=
  ∃ b o c, v = .slice (some ⟨b, o, none⟩) us.length c ∧ us.length ≤ c ∧ ∀ j, j < us.length → w.cell? ⟨b, o + j, none⟩ = some (us.getD j undef) ∧ (us.getD j undef).oneCell' = true
theorem CellsS.mono {w w' : World} {v : Value} {us : List Value} (h : CellsS w v us) (hb : Below w.heap.size w w') : CellsS w' v us := by
  obtain ⟨b, o, c, hv, hc, hr⟩ := h
  exact ⟨b, o, c, hv, hc, fun j hj => ⟨((bcell hb).1 _ _ (block_lt (hr j hj).1)).trans (hr j hj).1, (hr j hj).2⟩⟩
/-- The rows to which cells lead. -/
def RowsR (w : World) (us : List Value) (Ls : List (List Nat)) : Prop := us.length = Ls.length ∧ ∀ j, j < us.length → RdF w (us.getD j undef) (rowAt Ls j)
theorem RowsR.mono {w w' : World} {us : List Value} {Ls : List (List Nat)} (h : RowsR w us Ls) (hb : Below w.heap.size w w') : RowsR w' us Ls := ⟨h.1, fun j hj => (h.2 j hj).mono hb⟩
theorem pick_val {α : Type} (d : α) {P : Nat → α → Prop} : ∀ n, (∀ j, j < n → ∃ r, P j r) → ∃ us : List α, us.length = n ∧ ∀ j, j < n → P j (us.getD j d)
  | 0, _ => ⟨[], rfl, fun j hj => (by cases hj)⟩
  | n + 1, h => by
    obtain ⟨us, hl, hb⟩ := pick_val d n fun j hj => h j (by omega)
    obtain ⟨r, hr⟩ := h n (by omega)
    refine ⟨us ++ [r], by simp [hl], fun j hj => ?_⟩
    rw [getD_snoc]
    by_cases hlt : j < n
    · rw [if_pos (by omega)]; exact hb j hlt
    · obtain rfl : j = n := by omega
      rw [if_neg (by omega), if_pos hl.symm]; exact hr
theorem RdSS.cells {w : World} {v : Value} {Ls : List (List Nat)} (h : RdSS w v Ls) (h0 : 0 < Ls.length) : ∃ us, CellsS w v us ∧ RowsR w us Ls := by
  obtain ⟨a, c, rfl, hc, -, hr⟩ := h.opened
  obtain ⟨b, o, -, -, rfl, -⟩ := hr 0 h0
  obtain ⟨us, hl, hu⟩ := pick_val undef (P := fun j u => w.cell? ⟨b, o + j, none⟩ = some u ∧ u.oneCell' = true ∧ RdF w u (rowAt Ls j)) Ls.length (fun j hj => by
    obtain ⟨b', o', a', c', he, -, h1, h2⟩ := hr j hj
    cases he
    exact ⟨_, h1, rfl, h2⟩)
  exact ⟨us, ⟨b, o, c, by rw [hl], by rw [hl]; exact hc, fun j hj => ⟨(hu j (by omega)).1, (hu j (by omega)).2.1⟩⟩, hl, fun j hj => (hu j (by omega)).2.2⟩
/-- A row of rows of the call's own whose rows lie elsewhere is read. -/
theorem rdSS_of {w : World} {B : Nat} {v : Value} {us : List Value} {Ls : List (List Nat)} (h : w.ownsRow B 25 1 v us.length us) (hr : RowsR w us Ls) : RdSS w v Ls := by
  obtain ⟨hl, hr⟩ := hr
  unfold RdSS
  rw [← hl]
  rcases h.2 with ⟨rfl, hn⟩ | ⟨g, cap, cur, rfl, hb, hg, hn, _⟩
  · refine ⟨none, 0, by rw [hn], by omega, fun _ => rfl, fun j hj => ?_⟩
    rw [List.length_map, ← hl, hn] at hj; omega
  · refine ⟨_, cap, rfl, hn, fun h => (by cases h), fun j hj => ?_⟩
    rw [List.length_map, ← hl] at hj
    refine ⟨g, 0, us.getD j undef, rfl, ?_, ?_⟩
    · rw [Nat.zero_add, World.ownsRow.cellAt h j (by omega), List.getD_eq_getElem?_getD, List.getElem?_eq_getElem hj]; rfl
    · have e : (Ls.map D1.fs).getD j default = .fs (rowAt Ls j) := by simp [rowAt, List.getD_eq_getElem?_getD, List.getElem?_map, List.getElem?_eq_getElem (show j < Ls.length by omega)]
      rw [e]
      exact hr j hj
theorem RowsR.append {w : World} {us us' : List Value} {A B : List (List Nat)} (h : RowsR w us A) (h' : RowsR w us' B) : RowsR w (us ++ us') (A ++ B) := by
  refine ⟨by rw [List.length_append, List.length_append, h.1, h'.1], fun j hj => ?_⟩
  rw [List.length_append] at hj
  by_cases hlt : j < us.length
  · have e1 : (us ++ us').getD j undef = us.getD j undef := by simp [List.getD_eq_getElem?_getD, List.getElem?_append_left hlt]
    have e2 : rowAt (A ++ B) j = rowAt A j := by simp [rowAt, List.getD_eq_getElem?_getD, List.getElem?_append_left (show j < A.length by have := h.1; omega)]
    rw [e1, e2]; exact h.2 j hlt
  · have e1 : (us ++ us').getD j undef = us'.getD (j - us.length) undef := by simp [List.getD_eq_getElem?_getD, List.getElem?_append_right (show us.length ≤ j by omega)]
    have e2 : rowAt (A ++ B) j = rowAt B (j - us.length) := by simp [rowAt, List.getD_eq_getElem?_getD, List.getElem?_append_right (show A.length ≤ j by have := h.1; omega), h.1]
    rw [e1, e2]; exact h'.2 _ (by omega)
/-- 'append' of all of a row of rows. -/
theorem wpList_pushCells {P : Program} {ops : Array Oper} {rest : List Oper} {o : Oper} {a : Act} {w : World} {Q : Exit → Act → World → Prop} (hgd : o.guard = none) (s x : Operand) (t e : TypeId)
    (ho : o.op = .call { callee := .builtin .append, args := #[s, x], argTypes := #[t, t] }) (z : Value) (bytes : Nat) (ht : P.underlying t = some (.slice e)) (hinfo : (P.info? e).map (fun i => (i.zero, i.size, i.bytes)) = some (some z, 1, bytes))
    (hzs : z.cells.size = 1) (hby : bytes ≤ 100) (B : Nat) (v : Value) (xs us : List Value) (hs : a.eval s = v) (hown : w.ownsRow B e 1 v xs.length xs) (vx : Value) (hx : a.eval x = vx) (hc : CellsS w vx us) (hl1 : xs.length ≤ 1000000) (hl2 : us.length ≤ 1000) (hB : B ≤ w.heap.size)
    (h : ∀ v' w', w'.ownsRow B e 1 v' (xs ++ us).length (xs ++ us) → Below B w w' → wpList P ops Q rest (a.put o.dst v') w') : wpList P ops Q (o :: rest) a w := by
  obtain ⟨i0, hi, hz0, hz1, hz2⟩ := info_parts hinfo
  obtain ⟨b, o1, c, rfl, hcc, hcell⟩ := hc
  refine wpList_append_own2 hgd s x t ho B e i0 z 1 bytes ht hi hz0 hz1 hz2 hzs (by decide) v xs.length xs hs hown ⟨b, o1, none⟩ us.length c us hx (by omega) ?_ ?_ ?_ ?_ hB ?_
  · intro j y hy
    have hj := (List.getElem?_eq_some_iff.1 hy).1
    rw [Addr.add_lit, (hcell j hj).1, List.getD_eq_getElem?_getD, hy]; rfl
  · intro y hy
    obtain ⟨j, hj, rfl⟩ := List.getElem_of_mem hy
    have := (hcell j hj).2
    rwa [List.getD_eq_getElem?_getD, List.getElem?_eq_getElem hj] at this
  · unfold maxLen; omega
  · exact Nat.le_trans (Nat.mul_le_mul (by omega : xs.length + us.length ≤ 1001000) hby) (by decide)
  · intro v' w' h1 h2 _
    rw [← List.length_append] at h1
    exact h v' w' h1 ((Below.refl _ _).grown h2 hB fun k hk => (hown.lt k hk).1)
set_option maxRecDepth 100000 in
set_option maxHeartbeats 800000 in
theorem growSS_any (w : World) (n : Nat) (h0 : 0 < n) (hn : n ≤ 1048576) :
    Calls Try.prog 121 #[.slice none 0 0, .int .i64 n] w fun e w' => ∃ cap, e = .returned (.slice (some ⟨w.heap.size, 0, none⟩) 0 cap) ∧ w'.ownsRow w.heap.size 25 1 (.slice (some ⟨w.heap.size, 0, none⟩) 0 cap) 0 [] ∧ Ext w w' := by
  have hp : ¬ ((n : Int) < 0) := by omega
  have hp2 : (n : Int) > 0 := by omega
  go_enter Try.func121, Try.ntmps121
  go_wp2_with (at_builtin; go_must (refine wpList_growNil rfl _ _ 57 3 rfl 25 (.slice none 0 0) 1 24 .i64 Try.underlying57 Try.underlying3 Try.infoFF2 rfl (by decide) .i64 n n rfl rfl rfl h0 hn (by decide) ?_); intro cap w1 hcap o1 x1; have O1 := Lib.hid o1; clear o1)
  go_ret
  exact ⟨_, rfl, O1.out, x1⟩
set_option maxRecDepth 100000 in
set_option maxHeartbeats 3200000 in
theorem concatSS_any (w : World) (q : Nat) (v1 v2 : Value) (A B : List Value) (c1 : w.cell? ⟨q, 0, none⟩ = some v1) (c2 : w.cell? ⟨q, 1, none⟩ = some v2) (h1 : CellsS w v1 A) (h2 : CellsS w v2 B) (hA : A.length ≤ 1000) (hB : B.length ≤ 1000) (hp : 0 < A.length) :
    Calls Try.prog 97 #[.slice (some ⟨q, 0, none⟩) 2 2] w fun e w' => ∃ v', e = .returned v' ∧ w'.ownsRow w.heap.size 25 1 v' (A ++ B).length (A ++ B) ∧ Ext w w' := by
  have H1 := Lib.hid h1
  have H2 := Lib.hid h2
  have C1 := Lib.hid c1
  have C2 := Lib.hid c2
  have hq := block_lt c1
  obtain ⟨b1, o1, d1, rfl, -, -⟩ := h1
  obtain ⟨b2, o2, d2, rfl, -, -⟩ := h2
  have HG := Lib.hid (growSS_any w (A.length + B.length) (by omega) (by omega))
  have n1 : ¬ ((A.length : Int) < 0) := by omega
  have n2 : ¬ ((A.length : Int) + (B.length : Int) < 0) := by omega
  have hne : ¬ (A.length : Int) + (B.length : Int) < 0 := n2
  go_enter Try.func97, Try.ntmps97
  go_wp2_with fail
  go_loopw [3, 11] (fun sz i wr => wr = w ∧ ((i = .int .i64 0 ∧ sz = .int .i64 0) ∨ (i = .int .i64 1 ∧ sz = .int .i64 A.length) ∨ (i = .int .i64 2 ∧ sz = .int .i64 (A.length + B.length : Nat)))) (fun _ i _ => 2 - (intOf i).toNat)
  case atStart => exact ⟨rfl, .inl ⟨rfl, rfl⟩⟩
  case round =>
    obtain ⟨hw, hrel⟩ := hrel
    obtain rfl : w = wr := hw.symm
    clear hw
    rcases hrel with ⟨rfl, rfl⟩ | ⟨rfl, rfl⟩ | ⟨rfl, rfl⟩
    · go_wp2_with fail
      exact ⟨⟨trivial, .inr (.inl ⟨rfl, by simp⟩)⟩, by simp [intOf]⟩
    · go_wp2_with fail
      exact ⟨⟨trivial, .inr (.inr ⟨rfl, by congr 1⟩)⟩, by simp [intOf]⟩
    · clear n1 n2 hne c1 c2
      go_wp2_with fail
      refine HG.out.mono ?_
      rintro e w1 ⟨cap, rfl, o1, x1⟩
      have O1 := Lib.hid o1
      have X1 := Lib.hid x1
      clear HG o1 x1
      go_wp2_with fail
      go_loopw [6, 27] (fun o i wr => Ext w wr ∧ ((i = .int .i64 0 ∧ wr.ownsRow w.heap.size 25 1 o 0 []) ∨ (i = .int .i64 1 ∧ wr.ownsRow w.heap.size 25 1 o A.length A) ∨ (i = .int .i64 2 ∧ wr.ownsRow w.heap.size 25 1 o (A ++ B).length (A ++ B)))) (fun _ i _ => 2 - (intOf i).toNat)
      case atStart => exact ⟨X1.out, .inl ⟨rfl, O1.out⟩⟩
      case round =>
        obtain ⟨wi, rfl⟩ : ∃ wi : World, wi = wr := ⟨_, rfl⟩
        obtain ⟨x, hrel⟩ := hrel
        have c1 := ((bcell x).1 _ _ hq).trans C1.out
        have c2 := ((bcell x).1 _ _ hq).trans C2.out
        have X := Lib.hid x
        have z := x.size
        have R1 := Lib.hid (H1.out.mono x)
        have R2 := Lib.hid (H2.out.mono x)
        clear X1 O1 x
        rcases hrel with ⟨rfl, o⟩ | ⟨rfl, o⟩ | ⟨rfl, o⟩
        · have O := Lib.hid o
          clear o c2
          go_wp2_with (at_builtin; go_must (refine wpList_pushCells rfl _ _ 57 25 rfl (.slice none 0 0) 24 Try.underlying57 Try.infoFF2 rfl (by decide) w.heap.size _ [] A rfl O.out _ rfl R1.out (by simp) (by omega) z ?_); intro v3 w3 o3 b3; clear c1)
          exact ⟨⟨Below.trans X.out (b3.mono (Nat.le_refl _)), .inr (.inl ⟨rfl, by simpa using o3⟩)⟩, by simp [intOf]⟩
        · have O := Lib.hid o
          clear o c1
          go_wp2_with (at_builtin; go_must (refine wpList_pushCells rfl _ _ 57 25 rfl (.slice none 0 0) 24 Try.underlying57 Try.infoFF2 rfl (by decide) w.heap.size _ A B rfl O.out _ rfl R2.out (by omega) (by omega) z ?_); intro v3 w3 o3 b3; clear c2)
          exact ⟨⟨Below.trans X.out (b3.mono (Nat.le_refl _)), .inr (.inr ⟨rfl, o3⟩)⟩, by simp [intOf]⟩
        · have O := Lib.hid o
          clear o c1 c2
          go_wp2_with fail
          go_ret
          exact ⟨_, rfl, O.out, X.out⟩
set_option maxRecDepth 100000 in
theorem mergeFn_any (w : World) (v : Value) (r : Nat) (L : List Nat) (hL : RdF w v L) (hn : L.length ≤ 64) :
    Calls Try.prog 98 #[v, .float .f32 r] w fun e w' => ∃ v', e = .returned v' ∧ OwnF w' w.heap.size v' L ∧ Ext w w' := by
  have HC := Lib.hid (clone_any w v L hL (by omega))
  clear hL
  go_enter Try.func98, Try.ntmps98
  go_wp2_with fail
  refine HC.out.mono ?_
  rintro e w1 ⟨v1, rfl, o1, b1⟩
  have O1 := Lib.hid o1
  clear o1 HC
  go_wp2
  go_ret
  exact ⟨_, rfl, O1.out, b1⟩
end Go.Proofs.Ytjhbcnmkamkkaaa
