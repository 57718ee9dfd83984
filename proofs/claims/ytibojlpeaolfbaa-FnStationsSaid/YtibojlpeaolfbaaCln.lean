/- Walks: a copy of a list; 'append' to an empty list of the call's own, in whatever order. -/
import Derived.Test.YtibojlpeaolfbaaRelK
import Derived.Test.YtibojlpeaolfbaaSrt
import Derived.ArgAppend
namespace Go.Proofs.Ytibojlpeaolfbaa
open Go Go.RowKit

set_option maxRecDepth 100000 in
set_option maxHeartbeats 400000 in
theorem clone_any (w : World) (v : Value) (L : List Nat) (hL : RdF w v L) (hmax : L.length ≤ 1048576) :
    Calls Try.prog 84 #[v] w fun e w' => ∃ v', e = .returned v' ∧ OwnF w' w.heap.size v' L ∧ Below w.heap.size w w' := by
  obtain ⟨a, c, rfl, hc, hz, hcell⟩ := hL.opened
  cases a with
  | none =>
    have h0 : L.length = 0 := by
      rcases Nat.eq_zero_or_pos L.length with h | h
      · exact h
      · obtain ⟨b, o, r, h1, _⟩ := hcell 0 h; cases h1
    obtain rfl : L = [] := List.eq_nil_of_length_eq_zero h0
    have hn := fun (w : World) (n c : Nat) => Lib.run_eql_slice_nil (P := Try.prog) w 27 53 none n c 0 0 Try.underlying27
    go_enter Try.func84, Try.ntmps84
    go_wp2
    go_ret
    exact ⟨_, rfl, OwnF.nil _ _, Below.refl _ _⟩
  | some ad =>
    have hn := fun (w : World) (n c : Nat) => Lib.run_eql_slice_nil (P := Try.prog) w 27 53 (some ad) n c 0 0 Try.underlying27
    go_enter Try.func84, Try.ntmps84
    have hown : OwnF (w.alloc (.cells #[] 53)) w.heap.size (.slice (some ⟨w.heap.size, 0, none⟩) 0 0) [] := ⟨[], rfl, fun j hj => (by cases hj), World.ownsRow_lit w #[] 0 (Nat.le_refl _) (by decide) rfl⟩
    have hM : RdF (w.alloc (.cells #[] 53)) (.slice (some ad) L.length c) L := hL.mono ((Below.refl _ _).alloc (Nat.le_refl _) _)
    go_wp2_with (at_builtin; refine wpList_pushAll rfl _ _ rfl w.heap.size _ [] rfl hown _ L rfl hM (by simp) hmax (by simp) ?_; intro v' w' h1 h2 h3 _)
    go_ret
    exact ⟨_, rfl, by simpa using h1, ((Below.refl _ _).alloc (Nat.le_refl _) _).trans h3⟩

theorem op_append_fresh {P : Program} {o : Oper} {a : Act} {w : World} {K : Act → World → Prop} {Q : Exit → Act → World → Prop} (s x : Operand) (t : TypeId)
    (ho : o.op = .call { callee := .builtin .append, args := #[s, x], argTypes := #[t, t] })
    (B : Nat) (e : TypeId) (z : Value) (size bytes : Nat) (ht : P.underlying t = some (.slice e)) (hinfo : (P.info? e).map (fun i => (i.zero, i.size, i.bytes)) = some (some z, size, bytes)) (hzs : z.cells.size = size) (hsz : 0 < size)
    (g : Nat) (hg : w.heap[g]? = some (.cells #[] e (0, 0))) (hB : B ≤ g) (hs : a.eval s = .slice (some ⟨g, 0, none⟩) 0 0)
    (ad : Addr) (m c : Nat) (news : List Value) (hx : a.eval x = .slice (some ad) m c) (hl : news.length = m * size) (hnews : ∀ j u, news[j]? = some u → w.cell? (ad.add j) = some u) (h1 : ∀ u ∈ news, u.oneCell' = true)
    (h63 : m ≤ maxLen) (hbytes : m * bytes ≤ 140737488355328)
    (h : ∀ v' w', w'.ownsRow B e size v' m news → Ext w w' → K (a.put o.dst v') w') : o.wp P a w K Q := by
  obtain ⟨i, hi, hz0, hz1, hz2⟩ := info_parts hinfo
  have hgs : g < w.heap.size := (Array.getElem?_eq_some_iff.1 hg).1
  rcases Nat.eq_zero_or_pos m with rfl | hm
  · obtain rfl : news = [] := List.eq_nil_of_length_eq_zero (by rw [hl, Nat.zero_mul])
    have hr := run_append_room_cells (P := P) (w := w) t o.type e i ht hi g 0 0 0 ad 0 c [] (by simp) hnews h1 (Nat.le_refl _) (fun j hj => by cases hj) (fun j hj => by cases hj)
    unfold Oper.wp execOp
    simp only [ho, resolve, invoke, builtin, Sem.run_bind, Sem.run_pure, Result.andThen_ok, List.map_toArray, List.map_cons, List.map_nil, hs, hx, hr]
    exact h _ _ ⟨by simp, .inr ⟨g, 0, #[], rfl, hB, hg, Nat.le_refl _, by decide, by simp, by simp⟩⟩ (Ext.refl _)
  · obtain ⟨v', w', hr, r1, r2⟩ := run_append_arg_grows (P := P) (w := w) t o.type e i z size bytes ht hi hz0 hz1 hz2 hzs hsz ⟨g, 0, none⟩ 0 0 [] (by simp) (fun j u hu => by simp at hu) ad m c news hl hnews (by omega) (by omega) (by rw [Nat.zero_add]; exact hbytes)
    unfold Oper.wp execOp
    simp only [ho, resolve, invoke, builtin, Sem.run_bind, Sem.run_pure, Result.andThen_ok, List.map_toArray, List.map_cons, List.map_nil, hs, hx, hr]
    rw [Nat.zero_add, List.nil_append] at r1
    exact h _ _ (ownsRow_lower r1 (by omega)) ((Below.refl _ _).grown r2 (Nat.le_refl _) fun k hk => by cases hk)
/-- Cells of a part of a row of entries. -/
theorem encEs_cells {w : World} {g : Nat} {Es : List FE} (hc : ∀ j, j < Es.length → w.cell? ⟨g, j * 3, none⟩ = some (.int .i64 (feAt Es j).f.st) ∧ w.cell? ⟨g, j * 3 + 1, none⟩ = some (.int .i64 (feAt Es j).f.sa) ∧ w.cell? ⟨g, j * 3 + 2, none⟩ = some (feAt Es j).tr)
    (lo : Nat) (Ns : List FE) (hN : ∀ j, j < Ns.length → lo + j < Es.length ∧ feAt Ns j = feAt Es (lo + j)) : ∀ j u, (encEs Ns)[j]? = some u → w.cell? ((⟨g, lo * 3, none⟩ : Addr).add j) = some u := by
  intro j u hu
  have hj : j < Ns.length * 3 := by rw [← encEs_length]; exact (List.getElem?_eq_some_iff.1 hu).1
  obtain ⟨h1, h2⟩ := hN (j / 3) (by omega)
  have e := encEs_at Ns (j / 3) (j % 3) (by omega) (Nat.mod_lt _ (by decide))
  rw [show j / 3 * 3 + j % 3 = j by omega, hu, h2] at e
  obtain ⟨c0, c1, c2⟩ := hc (lo + j / 3) h1
  have hlt : j % 3 < 3 := Nat.mod_lt _ (by decide)
  have ea : (⟨g, lo * 3, none⟩ : Addr).add j = ⟨g, (lo + j / 3) * 3 + j % 3, none⟩ := by rw [Addr.add_lit]; congr 1; omega
  rw [ea]
  generalize j % 3 = i at *
  match i, hlt with
  | 0, _ => rw [Nat.add_zero, c0]; exact e.symm
  | 1, _ => rw [c1]; exact e.symm
  | 2, _ => rw [c2]; exact e.symm
theorem entry_block {w : World} {g : Nat} (e : FE) (h : w.heap[g]? = some (.cells #[.int .i64 e.f.st, .int .i64 e.f.sa, e.tr] 31 (0, 0))) :
    ∀ j u, (encEs [e])[j]? = some u → w.cell? ((⟨g, 0, none⟩ : Addr).add j) = some u := by
  obtain ⟨k0, k1, k2, -, -, -⟩ := blk3 h
  have := encEs_cells (w := w) (g := g) (Es := [e]) (fun j hj => by
    obtain rfl : j = 0 := by simpa using hj
    exact ⟨k0, k1, k2⟩) 0 [e] (fun j hj => ⟨by simpa using hj, by rw [Nat.zero_add]⟩)
  rw [Nat.zero_mul] at this
  exact this
theorem Chg.only {a w w' : World} {S S' : Nat → Prop} (h : Chg a w S) (hc : Chg w w' S') (hS : ∀ k, S' k → k < a.heap.size → S k) : Chg a w' S :=
  ⟨hc.os.trans h.os, hc.tape.trans h.tape, hc.output.trans h.output, Nat.le_trans h.size hc.size, fun k hk hn => (hc.block k (Nat.lt_of_lt_of_le hk h.size) fun e => hn (hS k e hk)).trans (h.block k hk hn)⟩
/-- 'append' of entries to a row of the call's own. -/
theorem wpList_pushR {ops : Array Oper} {rest : List Oper} {o : Oper} {a : Act} {w : World} {Q : Exit → Act → World → Prop} (hgd : o.guard = none) (s x : Operand)
    (ho : o.op = .call { callee := .builtin .append, args := #[s, x], argTypes := #[24, 24] }) (B : Nat) (v : Value) (Es : List FE) (hs : a.eval s = v) (hown : OwnR w B v Es)
    (ad : Addr) (m c : Nat) (Ns : List FE) (hx : a.eval x = .slice (some ad) m c) (hm : Ns.length = m) (hnews : ∀ j u, (encEs Ns)[j]? = some u → w.cell? (ad.add j) = some u)
    (hlen : Es.length + m ≤ 100000) (hB : B ≤ w.heap.size)
    (h : ∀ v' w', OwnR w' B v' (Es ++ Ns) → w.grownBy w' v.ownBlock → Below B w w' → (v'.ownBlock = v.ownBlock ∨ v'.ownBlock = some w.heap.size) → wpList Try.prog ops Q rest (a.put o.dst v') w') : wpList Try.prog ops Q (o :: rest) a w := by
  obtain ⟨i0, hi, hz0, hz1, hz2⟩ := info_parts Try.infoFr
  refine wpList_append_own2 hgd s x 24 ho B 31 i0 _ 3 40 Try.underlying24 hi hz0 hz1 hz2 rfl (by decide) v Es.length _ hs hown ad m c (encEs Ns) hx (by rw [encEs_length, hm]) hnews (encEs_onecell Ns) ?_ ?_ hB ?_
  · unfold maxLen; omega
  · omega
  · intro v' w' h1 h2 h3
    refine h v' w' ?_ h2 ((Below.refl _ _).grown h2 hB fun k hk => (World.ownsRow.lt hown k hk).1) h3
    unfold OwnR
    rw [encEs_append, List.length_append, hm]
    exact h1
end Go.Proofs.Ytibojlpeaolfbaa
