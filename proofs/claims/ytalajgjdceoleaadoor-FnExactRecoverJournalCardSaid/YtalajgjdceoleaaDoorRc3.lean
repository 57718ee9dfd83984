/- A journal that is recovered: plain: what one round of the program's loop finds; the reference's RecoverJournal. -/
import Derived.Test.YtalajgjdceoleaaDoorRc2
namespace Go.Proofs.YtalajgjdceoleaaDoor
open Go Go.RowKit

theorem lnsB_cut {s : ByteArray} {xs : List ByteArray} {z : ByteArray} (h : cutB 10 s = xs ++ [z]) : lnsB s = xs.map (fun x => mkB (x.data.toList ++ [10])) ++ (if z.size = 0 then [] else [z]) := by
  unfold cutB at h
  obtain ⟨ys, y, h1, h2⟩ := lines_cut s.data.toList
  rw [h1, List.map_append] at h
  have h3 : mkB y = z := by
    have := congrArg List.getLast? h
    simpa using this
  have h4 : ys.map mkB = xs := by
    have := congrArg List.dropLast h
    simpa using this
  unfold lnsB
  rw [h2, ← h4, List.map_append, List.map_map, List.map_map]
  have e1 : ys.map ((fun x => mkB (x.data.toList ++ [10])) ∘ mkB) = ys.map (mkB ∘ fun x => x ++ [10]) := by
    apply List.map_congr_left
    intro a _
    simp only [Function.comp, mkB_list]
  rw [e1]
  congr 1
  · rw [← h3]
    by_cases hy : y = []
    · rw [if_pos hy, if_pos (by rw [hy]; rfl)]; rfl
    · rw [if_neg hy, if_neg (by rw [mkB_size, List.length_eq_zero_iff]; exact hy)]; rfl
theorem trim_line (l : List UInt8) : Lib.trimSuffix (l ++ [10]) [10] = l := by
  have h : Lib.hasSuffix (l ++ [10]) [10] = true := by unfold Lib.hasSuffix; rw [List.isSuffixOf_iff_suffix]; exact ⟨l, rfl⟩
  unfold Lib.trimSuffix
  rw [if_pos h]
  simp
theorem trim_none {l : List UInt8} (h : (10 : UInt8) ∉ l) : Lib.trimSuffix l [10] = l := by
  have h2 : ¬ Lib.hasSuffix l [10] = true := by
    unfold Lib.hasSuffix
    rw [List.isSuffixOf_iff_suffix]
    rintro ⟨t, rfl⟩
    exact h (by simp)
  unfold Lib.trimSuffix
  rw [if_neg h2]
theorem lineT_mem (n : Nat) (s : ByteArray) : (10 : UInt8) ∈ (lineT n s).data.toList := by
  unfold lineT
  rw [ByteArray.data_append, Array.toList_append]
  exact List.mem_append_right _ (by simp)
theorem cutV_b {s a b : ByteArray} {f : Bool} (h : cutV s = .tuple #[.string a, .string b, .bool f]) : b.size ≤ s.size ∧ (f = true ↔ 0 ≤ spc s) ∧ (f = true → b = lnOf s) := by
  unfold cutV at h
  split at h
  · rename_i h0
    simp at h
    obtain ⟨-, hb, hf⟩ := h
    refine ⟨?_, ?_, fun _ => hb.symm⟩
    · rw [← hb]; unfold lnOf; rw [ByteArray.size_extract]; omega
    · simp [hf, h0]
  · rename_i h0
    simp at h
    obtain ⟨-, hb, hf⟩ := h
    refine ⟨?_, ?_, fun e => ?_⟩
    · rw [← hb]; exact Nat.zero_le _
    · simp [hf, h0]
    · rw [hf] at e; cases e
/-- What one round finds. -/
theorem round_fact {t z T : ByteArray} {xs pre rest : List ByteArray} (ht : t.size ≤ 12000) (hx : cutB 10 t = xs ++ [z]) (hl : lnsB t = pre ++ T :: rest) (hle : pre.length ≤ xs.length) (hok : ∀ i, i < pre.length → okR xs i) {T' : ByteArray}
    (hT' : T' = ⟨(Lib.trimSuffix T.data.toList [10]).toArray⟩) {a b : ByteArray} {f : Bool} (hc : cutV T' = .tuple #[.string a, .string b, .bool f]) :
    T.size ≤ 12001 ∧ T'.size ≤ 12000 ∧ b.size ≤ 12000 ∧ (f = true → lineT (chk (ckR xs pre.length) b) b = T → pre.length < xs.length ∧ okR xs pre.length ∧ ckR xs (pre.length + 1) = chk (ckR xs pre.length) b ∧ lnOf (lnAt xs pre.length) = b ∧ T.size = (lnAt xs pre.length).size + 1)
      ∧ (¬ (f = true ∧ lineT (chk (ckR xs pre.length) b) b = T) → Stop xs pre.length) := by
  rw [lnsB_cut hx] at hl
  obtain ⟨c1, c2, c3⟩ := cutV_b hc
  by_cases hj : pre.length < xs.length
  · have hT : T = mkB ((lnAt xs pre.length).data.toList ++ [10]) := by
      have h2 := congrArg (fun l : List ByteArray => l[pre.length]?) hl
      replace h2 : (xs.map (fun x => mkB (x.data.toList ++ [10])) ++ (if z.size = 0 then [] else [z]))[pre.length]? = (pre ++ T :: rest)[pre.length]? := h2
      rw [List.getElem?_append_left (by rw [List.length_map]; exact hj), List.getElem?_append_right (Nat.le_refl _), Nat.sub_self, List.getElem?_cons_zero, List.getElem?_map, List.getElem?_eq_getElem hj, Option.map_some, Option.some.injEq] at h2
      rw [← h2]
      unfold lnAt
      rw [List.getD_eq_getElem?_getD, List.getElem?_eq_getElem hj]
      rfl
    have hsz := (cut_at hx hj).1
    rw [hT, mkB_list, trim_line] at hT'
    have hTx : T' = lnAt xs pre.length := by rw [hT']
    clear hT'
    subst hTx
    have hTs : T.size = (lnAt xs pre.length).size + 1 := by rw [hT, mkB_size, List.length_append, ← Lib.size_eq, List.length_singleton]
    have hT2 : T = lnAt xs pre.length ++ (⟨#[10]⟩ : ByteArray) := by
      rw [hT]
      apply ByteArray.ext
      apply Array.ext'
      rw [ByteArray.data_append, Array.toList_append, mkB_list]
    have hiff : okR xs pre.length ↔ (f = true ∧ lineT (chk (ckR xs pre.length) b) b = T) := by
      unfold okR
      show _ ∧ _ = decT (chk (ckR xs pre.length) (lnOf (lnAt xs pre.length))) ↔ _
      rw [c2]
      constructor
      · rintro ⟨h1, h2⟩
        have hb := c3 (c2.2 h1)
        exact ⟨h1, by rw [hT2, hb]; exact (want_iff h1 _).2 h2⟩
      · rintro ⟨h1, h2⟩
        have hb := c3 (c2.2 h1)
        rw [hT2, hb] at h2
        exact ⟨h1, (want_iff h1 _).1 h2⟩
    refine ⟨by omega, by omega, by omega, fun h1 h2 => ?_, fun h => ⟨hle, hok, fun _ h0 => h (hiff.1 h0)⟩⟩
    have hb := c3 h1
    exact ⟨hj, hiff.2 ⟨h1, h2⟩, by rw [hb]; rfl, hb.symm, hTs⟩
  · have hje : pre.length = xs.length := by omega
    have h2 := congrArg (fun l : List ByteArray => l[pre.length]?) hl
    replace h2 : (xs.map (fun x => mkB (x.data.toList ++ [10])) ++ (if z.size = 0 then [] else [z]))[pre.length]? = (pre ++ T :: rest)[pre.length]? := h2
    rw [List.getElem?_append_right (by rw [List.length_map]; omega), List.getElem?_append_right (Nat.le_refl _), Nat.sub_self, List.getElem?_cons_zero, List.length_map, hje, Nat.sub_self] at h2
    have hzm := cutB_mem (m := 10) (s := t) (p := z) (by rw [hx]; simp)
    by_cases hz : z.size = 0
    · rw [if_pos hz] at h2; simp at h2
    · rw [if_neg hz] at h2
      simp at h2
      subst h2
      rw [trim_none hzm.2] at hT'
      have hTz : T' = z := by rw [hT']
      clear hT'
      subst hTz
      refine ⟨by omega, by omega, by omega, fun _ h2 => ?_, fun _ => ⟨hle, hok, fun h => absurd h hj⟩⟩
      exact absurd (h2 ▸ lineT_mem _ _) hzm.2

/-- What RecoverJournal answers. -/
def recV (t : ByteArray) (B : Nat) (e : Ending) (w' : World) : Prop :=
  if t.size ≤ 12000 then ∃ xs z k v, cutB 10 t = xs ++ [z] ∧ Stop xs k ∧ e = .returned (.tuple #[v, .int .i64 (szR xs k : Nat), .bool true]) ∧ OwnStr w' B v (recL xs k)
  else e = .returned (.tuple #[.slice none 0 0, .int .i64 0, .bool false])
theorem cut_ex (s : ByteArray) : ∃ xs z, cutB 10 s = xs ++ [z] := ⟨_, _, (List.dropLast_concat_getLast (by intro e; have := cutB_pos 10 s; rw [e] at this; exact absurd this (by decide))).symm⟩
set_option maxRecDepth 100000 in
set_option maxHeartbeats 800000 in
theorem specRecover_any (w : World) (t : ByteArray) :
    Calls Tryd.prog 10 #[.string t] w fun e w' => recV t w.heap.size e w' ∧ Below w.heap.size w w' := by
  by_cases h : t.size ≤ 12000
  · obtain ⟨xs, z, hx⟩ := cut_ex t
    have HK := Lib.hid (l08Recover_any w t h xs z hx)
    have HX := Lib.hid hx
    clear hx
    go_enter Tryd.func10, Tryd.ntmps10
    go_wp2_with fail
    refine HK.out.mono ?_
    clear HK
    rintro e w1 ⟨k, v, hk, rfl, ho, hb⟩
    obtain ⟨n, hn⟩ : ∃ n, szR xs k = n := ⟨_, rfl⟩
    have HG : Hid (recV t w.heap.size (.returned (.tuple #[v, .int .i64 (n : Nat), .bool true])) w1) := Lib.hid (by unfold recV; rw [if_pos h]; exact ⟨xs, z, k, v, HX.out, hk, by rw [hn], ho⟩)
    rw [hn]
    clear hk ho hn
    go_wp2
    go_ret3
    exact ⟨HG.out, hb⟩
  · have HG : Hid (recV t w.heap.size (.returned (.tuple #[.slice none 0 0, .int .i64 0, .bool false])) w) := Lib.hid (by unfold recV; rw [if_neg h])
    have hbig : (12000 : Int) < (t.size : Int) := by omega
    go_enter Tryd.func10, Tryd.ntmps10
    go_wp2
    go_ret3
    exact ⟨HG.out, Below.refl _ _⟩
end Go.Proofs.YtalajgjdceoleaaDoor
