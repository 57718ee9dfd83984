/- 'copy' to an owned list; the plain law of FnShifted: the pilot, its power, the traces that are set, the list that is shifted back. -/
import Derived.Test.YtcffkhmjljlbaaaSfH
import Derived.Laws.CopyOwn
namespace Go.Proofs.Ytcffkhmjljlbaaa
open Go Go.RowKit

theorem getD_splice (L M : List Nat) (off j : Nat) (h : off + M.length ≤ L.length) : (L.take off ++ (M ++ L.drop (off + M.length))).getD j 0 = if j < off then L.getD j 0 else if j < off + M.length then M.getD (j - off) 0 else L.getD j 0 := by
  simp only [List.getD_eq_getElem?_getD, List.getElem?_append, List.length_take, List.getElem?_take, List.getElem?_drop]
  rw [show min off L.length = off by omega]
  by_cases h1 : j < off
  · simp [h1]
  · by_cases h2 : j < off + M.length
    · rw [if_neg h1, if_pos (by omega), if_neg h1, if_pos h2]
    · rw [if_neg h1, if_neg (by omega), if_neg h1, if_neg h2, show off + M.length + (j - off - M.length) = j by omega]
/-- 'copy' of a list to a part of an owned list. -/
theorem wpList_copyF {ops : Array Oper} {rest : List Oper} {o : Oper} {a : Act} {w : World} {Q : Exit → Act → World → Prop} (hgd : o.guard = none) (d s : Operand)
    (ho : o.op = .call { callee := .builtin .copy, args := #[d, s], argTypes := #[24, 24] }) (B g cap n : Nat) (L M : List Nat) (hL : L.length = n) (hown : OwnF w B (.slice (some ⟨g, 0, none⟩) n cap) L)
    (off dLen dCap : Nat) (hd : a.eval d = .slice (some ⟨g, off, none⟩) dLen dCap) (v : Value) (hs : a.eval s = v) (hM : RdF w v M) (hlen : M.length = dLen) (hp : 0 < M.length) (hfit : off + dLen ≤ n)
    (h : ∀ w', OwnF w' B (.slice (some ⟨g, 0, none⟩) n cap) (L.take off ++ (M ++ L.drop (off + M.length))) → Chg w w' (fun k => k = g) → w'.heap.size = w.heap.size → wpList Try.prog ops Q rest (a.put o.dst (goInt M.length)) w') : wpList Try.prog ops Q (o :: rest) a w := by
  subst hL
  subst hs
  obtain ⟨a1, c1, hv, -, -, hcell⟩ := hM.opened
  obtain ⟨b1, o1, r1, rfl, -, -⟩ := hcell 0 hp
  obtain ⟨bs, hbl, hbs⟩ := pick_list (P := fun j r => w.cell? ⟨b1, o1 + j, none⟩ = some (.float .f32 r) ∧ FV .f32 r (M.getD j 0)) M.length (fun j hj => by
    obtain ⟨b, o, r, e, h1, h2⟩ := hcell j hj
    cases e
    exact ⟨r, h1, h2⟩)
  obtain ⟨bits, hl, hf, hrow⟩ := hown
  obtain ⟨hxl, hrest⟩ := hrow
  rcases hrest with ⟨hn, -⟩ | ⟨g', cap', cur, hv', hB, hg, hn, hm, hsz, htk⟩
  · cases hn
  · obtain ⟨rfl, rfl⟩ : g = g' ∧ cap = cap' := by cases hv'; exact ⟨rfl, rfl⟩
    rw [Nat.mul_one] at hxl hsz htk
    have hcl : (bs.map (Value.float .f32)).length = M.length := by simp [hbl]
    have hll : bits.length ≤ cur.size := by rw [hsz]; omega
    have hinfo : (Try.prog.info? 27).map (·.size) = some 1 := by kernel_rfl
    refine wpList_copy_own hgd d s 24 24 ho 27 Try.underlying24 hinfo g off dLen dCap ⟨b1, o1, none⟩ M.length c1 hd hv cur 27 hg (bs.map (Value.float .f32)) (by rw [hcl, hlen]; exact (Nat.min_self _).symm) ?_ (by rw [hcl]; omega) (fun u hu => by simp at hu; obtain ⟨x, -, rfl⟩ := hu; rfl) ?_
    · intro j u hu
      have hj : j < bs.length := by
        have := (List.getElem?_eq_some_iff.1 hu).1
        simpa using this
      rw [getD_map_float bs j hj] at hu
      cases hu
      have e : (⟨b1, o1, none⟩ : Addr).add j = ⟨b1, o1 + j, none⟩ := by simp [Addr.add]
      rw [e]
      exact (hbs j (by omega)).1
    · rw [hcl]
      have hg2 := setRow_heap w g cur (cur.toList.take off ++ (bs.map (Value.float .f32) ++ cur.toList.drop (off + M.length))).toArray 27 (0, 0) hg
      refine h _ ?_ ⟨rfl, rfl, rfl, by simp [World.setRow], fun k hk hne => setRow_other w g k _ (by omega)⟩ (by simp [World.setRow])
      have hnl : (L.take off ++ (M ++ L.drop (off + M.length))).length = L.length := by simp; omega
      refine ⟨bits.take off ++ (bs ++ bits.drop (off + bs.length)), by simp; omega, fun j hj => ?_, by simp; omega, .inr ⟨g, cap, _, by rw [hnl], hB, hg2, by omega, hm, by simp; omega, ?_⟩⟩
      · rw [hnl] at hj
        rw [getD_splice _ _ _ _ (by omega), getD_splice _ _ _ _ (by omega), hbl]
        by_cases h1 : j < off
        · rw [if_pos h1, if_pos h1]; exact hf j hj
        · rw [if_neg h1, if_neg h1]
          by_cases h2 : j < off + M.length
          · rw [if_pos h2, if_pos h2]; exact (hbs (j - off) (by omega)).2
          · rw [if_neg h2, if_neg h2]; exact hf j hj
      · rw [Nat.mul_one, hnl]
        have e1 : cur.toList = bits.map (Value.float .f32) ++ cur.toList.drop L.length := by rw [← htk]; exact (List.take_append_drop _ _).symm
        have hbl2 : (bits.map (Value.float .f32)).length = L.length := by simp [hl]
        rw [List.map_append, List.map_append, List.map_take, List.map_drop]
        generalize bits.map (Value.float .f32) = X at *
        generalize bs.map (Value.float .f32) = Y at *
        generalize cur.toList.drop L.length = Z at *
        have hY : Y.length = M.length := hcl
        rw [e1, List.toList_toArray, hbl]
        rw [show (X ++ Z).take off = X.take off from List.take_append_of_le_length (by omega), show (X ++ Z).drop (off + M.length) = X.drop (off + M.length) ++ Z from List.drop_append_of_le_length (by omega)]
        rw [show X.take off ++ (Y ++ (X.drop (off + M.length) ++ Z)) = (X.take off ++ (Y ++ X.drop (off + M.length))) ++ Z by simp [List.append_assoc]]
        rw [List.take_append_of_le_length (by simp; omega), List.take_of_length_le (by simp; omega)]

/-- The power of the pilot. -/
theorem Eight.enF (s : Eight) (h : s.ok) : Fx 4 (enS s.P 16) s.en := by
  obtain ⟨a, b, c, d, e, f, g, i⟩ := s
  have key : ∀ z, z ∈ (Eight.mk a b c d e f g i).l → Fx 4 (fop .mul .f32 (qv z) (qv z)) (z * z) ∧ 0 ≤ z * z ∧ z * z ≤ 64 := fun z hz => by
    have hz2 := h z hz
    have hb : z * z ≤ 64 := by
      have : (z * z).natAbs ≤ 64 := by
        rw [Int.natAbs_mul]
        exact Nat.le_trans (Nat.mul_le_mul (show z.natAbs ≤ 8 by omega) (show z.natAbs ≤ 8 by omega)) (by decide)
      omega
    have hn := sq_nn z
    exact ⟨Fx.fopMul (qv_fx z hz2.1 hz2.2).1 (qv_fx z hz2.1 hz2.2).1 (by decide) (by omega), hn, hb⟩
  have kz : Fx 4 (fop .mul .f32 0 0) 0 := Fx.fopMul (Fx.zero 2) (Fx.zero 2) (by decide) (by decide)
  obtain ⟨ka, a0, a1⟩ := key a (by simp [Eight.l])
  obtain ⟨kb, b0, b1⟩ := key b (by simp [Eight.l])
  obtain ⟨kc, c0, c1⟩ := key c (by simp [Eight.l])
  obtain ⟨kd, d0, d1⟩ := key d (by simp [Eight.l])
  obtain ⟨ke, e0, e1⟩ := key e (by simp [Eight.l])
  obtain ⟨kf, f0, f1⟩ := key f (by simp [Eight.l])
  obtain ⟨kg, g0, g1⟩ := key g (by simp [Eight.l])
  obtain ⟨ki, i0, i1⟩ := key i (by simp [Eight.l])
  have s1 := Fx.fopAdd (Fx.fopAdd (Fx.fopAdd (Fx.fopAdd (Fx.zero 4) kz (by decide) (by decide)) kz (by decide) (by decide)) kz (by decide) (by decide)) kz (by decide) (by decide)
  have s5 := Fx.fopAdd s1 ka (by decide) (by omega)
  have s6 := Fx.fopAdd s5 kb (by decide) (by omega)
  have s7 := Fx.fopAdd s6 kc (by decide) (by omega)
  have s8 := Fx.fopAdd s7 kd (by decide) (by omega)
  have s9 := Fx.fopAdd s8 ke (by decide) (by omega)
  have s10 := Fx.fopAdd s9 kf (by decide) (by omega)
  have s11 := Fx.fopAdd s10 kg (by decide) (by omega)
  have s12 := Fx.fopAdd s11 ki (by decide) (by omega)
  have s16 := Fx.fopAdd (Fx.fopAdd (Fx.fopAdd (Fx.fopAdd s12 kz (by decide) (by omega)) kz (by decide) (by omega)) kz (by decide) (by omega)) kz (by decide) (by omega)
  have e : Eight.en ⟨a, b, c, d, e, f, g, i⟩ = 0 + 0 + 0 + 0 + 0 + a * a + b * b + c * c + d * d + e * e + f * f + g * g + i * i + 0 + 0 + 0 + 0 := by
    show en8 a b c d e f g i = _
    unfold en8; omega
  rw [e]
  exact s16
theorem Eight.P_length (s : Eight) : s.P.length = 16 := by simp [Eight.P, Eight.l]
theorem Eight.notNaN (s : Eight) (h : s.ok) (j : Nat) : isN .f32 (s.P.getD j 0) = false := (s.pil h j).1.notNan
theorem Eight.P_out (s : Eight) (j : Nat) (h : j < 4 ∨ 12 ≤ j) : s.P.getD j 0 = 0 := by
  obtain ⟨a, b, c, d, e, f, g, i⟩ := s
  rcases h with h | h
  · match j, h with
    | 0, _ => rfl
    | 1, _ => rfl
    | 2, _ => rfl
    | 3, _ => rfl
  · by_cases h2 : j < 16
    · have : j = 12 ∨ j = 13 ∨ j = 14 ∨ j = 15 := by omega
      rcases this with rfl | rfl | rfl | rfl <;> rfl
    · rw [List.getD_eq_getElem?_getD, List.getElem?_eq_none (by rw [Eight.P_length]; omega)]; rfl
/-- A trace of which m numbers have been set. -/
def Eight.prt (s : Eight) (t m : Nat) : List Nat := tab (fun j => if t + 1 ≤ j ∧ j < t + 1 + m then s.P.getD (j + 3 - t) 0 else 0) 16
theorem Eight.prt_length (s : Eight) (t m : Nat) : (s.prt t m).length = 16 := tab_length _ _
theorem ext_getD {L M : List Nat} (hl : L.length = M.length) (h : ∀ j, j < L.length → L.getD j 0 = M.getD j 0) : L = M := by
  apply List.ext_getElem hl
  intro j h1 h2
  have := h j h1
  simp only [List.getD_eq_getElem?_getD, List.getElem?_eq_getElem h1, List.getElem?_eq_getElem h2, Option.getD_some] at this
  exact this
theorem Eight.prt_zero (s : Eight) (t : Nat) : s.prt t 0 = List.replicate 16 0 := by
  refine ext_getD (by rw [Eight.prt_length]; rfl) fun j hj => ?_
  rw [Eight.prt_length] at hj
  unfold Eight.prt
  rw [tab_getD _ _ _ hj, if_neg (by omega)]
  rw [List.getD_eq_getElem?_getD, List.getElem?_replicate, if_pos hj]; rfl
theorem Eight.prt_succ (s : Eight) (t m : Nat) (ht : t < 7) (hm : m < 8) : (s.prt t m).set (t + 1 + m) (s.P.getD (m + 4) 0) = s.prt t (m + 1) := by
  refine ext_getD (by simp [Eight.prt_length]) fun j hj => ?_
  rw [List.length_set, Eight.prt_length] at hj
  have e1 : ((s.prt t m).set (t + 1 + m) (s.P.getD (m + 4) 0)).getD j 0 = if t + 1 + m = j then s.P.getD (m + 4) 0 else (s.prt t m).getD j 0 := by
    simp only [List.getD_eq_getElem?_getD, List.getElem?_set, Eight.prt_length]
    by_cases h : t + 1 + m = j
    · rw [if_pos h, if_pos (by omega), if_pos h]; rfl
    · rw [if_neg h, if_neg h]
  rw [e1]
  unfold Eight.prt
  rw [tab_getD _ _ _ hj, tab_getD _ _ _ hj]
  by_cases h : t + 1 + m = j
  · rw [if_pos h, if_pos (by omega), show j + 3 - t = m + 4 by omega]
  · rw [if_neg h]
    by_cases h2 : t + 1 ≤ j ∧ j < t + 1 + m
    · rw [if_pos h2, if_pos (by omega)]
    · rw [if_neg h2, if_neg (by omega)]
theorem Eight.prt_all (s : Eight) (t : Nat) (ht : t < 7) : s.prt t 8 = s.T t := by
  refine tab_congr fun j hj => ?_
  by_cases h : t + 1 ≤ j ∧ j < t + 1 + 8
  · rw [if_pos h, if_pos (by omega)]
  · rw [if_neg h]
    by_cases h2 : t ≤ j + 3
    · rw [if_pos h2, s.P_out (j + 3 - t) (by omega)]
    · rw [if_neg h2]
/-- What was shifted back is the pilot. -/
theorem Eight.back (s : Eight) (t : Nat) (ht : t < 7) : latF (s.T t) ((t : Int) - 3) = s.P := by
  have hl : (s.T t).length = 16 := tab_length _ _
  refine ext_getD (by unfold latF; rw [tab_length, hl, s.P_length]) fun j hj => ?_
  have hj16 : j < 16 := by unfold latF at hj; rw [tab_length, hl] at hj; exact hj
  have e : (latF (s.T t) ((t : Int) - 3)).getD j 0 = _ := tab_getD _ _ _ (by rw [hl]; exact hj16)
  rw [e, hl]
  by_cases h : inB ((j : Int) + ((t : Int) - 3)) 0 (((16 : Nat) : Int) - 1) = true
  · rw [if_pos h]
    have := inB_out h
    have e2 : (s.T t).getD ((j : Int) + ((t : Int) - 3)).toNat 0 = _ := tab_getD _ _ _ (by omega)
    rw [e2, if_pos (by omega), show ((j : Int) + ((t : Int) - 3)).toNat + 3 - t = j by omega]
  · rw [if_neg h]
    have hn : ¬ (0 ≤ (j : Int) + ((t : Int) - 3) ∧ (j : Int) + ((t : Int) - 3) ≤ 15) := fun ⟨h1, h2⟩ => h (by unfold inB; rw [decide_eq_true h1]; simp; omega)
    rw [s.P_out j (by omega)]
end Go.Proofs.Ytcffkhmjljlbaaa
