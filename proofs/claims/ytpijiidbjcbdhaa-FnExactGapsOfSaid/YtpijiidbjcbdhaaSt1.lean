/- Walks: the set of all stations: the reference's; lists of integers: eq, marks. -/
import Derived.Test.YtpijiidbjcbdhaaVal
namespace Go.Proofs.Ytpijiidbjcbdhaa
open Go Go.RowKit

theorem Try.infoI : (Try.prog.info? 2).map (fun i => (i.zero, i.size, i.bytes)) = some (some (.int .i64 0), 1, 8) := by kernel_rfl
def inL (L : List Int) (j : Nat) : Int := L.getD j 0
theorem RdI.opened {w : World} {v : Value} {L : List Int} (h : RdI w v L) :
    ∃ a c, v = .slice a L.length c ∧ L.length ≤ c ∧ (a = none → c = 0) ∧ ∀ j, j < L.length → ∃ b o, a = some ⟨b, o, none⟩ ∧ b < w.heap.size ∧ w.cell? ⟨b, o + j, none⟩ = some (.int .i64 (inL L j)) := by
  obtain ⟨a, c, hv, hc, hz, hr⟩ := h
  refine ⟨a, c, hv, hc, hz, fun j hj => ?_⟩
  obtain ⟨b, o, u, ha, hu, rfl⟩ := hr j hj
  exact ⟨b, o, ha, block_lt hu, hu⟩
theorem RdI.mono {w w' : World} {v : Value} {L : List Int} (h : RdI w v L) (hb : Below w.heap.size w w') : RdI w' v L := RdP.mono h hb
theorem OwnI.kept {w w' : World} {B : Nat} {v : Value} {L : List Int} (h : OwnI w B v L) (hb : Below w.heap.size w w') : OwnI w' B v L :=
  ownsRow_same h fun k hk => hb.block k (World.ownsRow.lt h k hk).2
theorem OwnI.base {w : World} {B C : Nat} {v : Value} {L : List Int} (h : OwnI w B v L) (hc : C ≤ B) : OwnI w C v L := ownsRow_lower h hc
/-- A number put into a set. -/
def putL : List Int → Int → List Int
  | [], n => [n]
  | x :: r, n => if n ≤ x then (if n < x then n :: x :: r else x :: r) else x :: putL r n
theorem putL_len (L : List Int) (n : Int) : (putL L n).length ≤ L.length + 1 := by
  induction L with
  | nil => simp [putL]
  | cons x r ih =>
    unfold putL
    split
    · split <;> simp
    · simp; exact ih
theorem drop_cons_inL {L : List Int} {i : Nat} (h : i < L.length) : L.drop i = inL L i :: L.drop (i + 1) := by
  rw [List.drop_eq_getElem_cons h]
  congr 1
  unfold inL
  rw [List.getD_eq_getElem?_getD, List.getElem?_eq_getElem h]
  rfl
def PutAt (L : List Int) (n : Int) (i : Nat) (dn : Bool) (pre : List Int) : Prop := pre ++ (if dn then L.drop i else putL (L.drop i) n) = putL L n ∧ pre.length ≤ i + (if dn then 1 else 0)
set_option maxRecDepth 100000 in
set_option maxHeartbeats 3200000 in
theorem l00Put_any (w : World) (v : Value) (L : List Int) (n : Int) (h : RdI w v L) (hl : L.length ≤ 100000) :
    Calls Try.prog 59 #[v, .int .i64 n] w fun e w' => ∃ v', e = .returned v' ∧ OwnI w' w.heap.size v' (putL L n) ∧ Below w.heap.size w w' := by
  obtain ⟨a, c, rfl, hc, -, hcell⟩ := h.opened
  clear h
  go_enter Try.func59, Try.ntmps59
  go_wp2_with fail
  go_loopw [5, 6, 7] (fun o d i wr => ∃ (j : Nat) (dn : Bool) (pre : List Int), j ≤ L.length ∧ i = .int .i64 j ∧ d = .bool dn ∧ PutAt L n j dn pre ∧ OwnI wr w.heap.size o pre ∧ Below w.heap.size w wr) (fun _ _ i _ => L.length - (intOf i).toNat)
  case atStart => exact ⟨0, false, [], Nat.zero_le _, rfl, rfl, ⟨rfl, by simp⟩, ⟨rfl, .inr ⟨w.heap.size, 0, #[], rfl, Nat.le_refl _, alloc_new _ _, Nat.le_refl _, by decide, rfl, rfl⟩⟩, (Below.refl _ _).alloc (Nat.le_refl _) _⟩
  case round =>
    obtain ⟨wi, rfl⟩ : ∃ wi : World, wi = wr := ⟨_, rfl⟩
    obtain ⟨j, dn, pre, hj, rfl, rfl, ⟨hp, hpl⟩, ho, hb⟩ := hrel
    have hpl2 : pre.length ≤ j + 1 := by split at hpl <;> omega
    have Ho := Lib.hid ho
    have hsz := hb.size
    clear ho
    by_cases hlt : j < L.length
    · obtain ⟨b, o, rfl, hlb, d0⟩ := hcell j hlt
      have d1 := ((bcell hb).1 _ _ hlb).trans d0
      have hdr := drop_cons_inL hlt
      rw [hdr] at hp
      generalize inL L j = x at d0 d1 hp hdr
      clear hcell d0 hdr
      cases dn with
      | true =>
        have HP : Hid (PutAt L n (j + 1) true (pre ++ [x])) := Lib.hid ⟨by rw [← hp, List.append_assoc]; rfl, by simp at hpl ⊢; omega⟩
        clear hp
        go_wp2_with (at_builtin; refine wpList_push1 rfl _ _ 43 2 rfl (.int .i64 0) 8 Try.underlying43 Try.infoI rfl (by decide) w.heap.size _ _ _ rfl (World.ownsRow.alloc Ho.out _) _ _ _ rfl (cell_new _ _ _) rfl (by omega) (by simp; omega) ?_; intro v2 w2 h2 g2 b2)
        refine ⟨⟨j + 1, true, pre ++ [x], by omega, by go_num, rfl, HP.out, ?_, hb.trans (((Below.refl _ _).alloc (by omega) _).trans b2)⟩, by simp [intOf]; omega⟩
        have := h2
        unfold OwnI
        rw [List.map_append, List.length_append]
        exact this
      | false =>
        simp only [Bool.false_eq_true, if_false] at hp
        by_cases h1 : n ≤ x
        · by_cases h2 : n < x
          · have HP : Hid (PutAt L n (j + 1) true (pre ++ [n] ++ [x])) := Lib.hid ⟨by rw [← hp, putL, if_pos h1, if_pos h2]; simp, by simp at hpl ⊢; omega⟩
            clear hp
            go_wp2_with (first
              | (at_builtin; refine wpList_push1 rfl _ _ 43 2 rfl (.int .i64 0) 8 Try.underlying43 Try.infoI rfl (by decide) w.heap.size _ _ _ rfl (World.ownsRow.alloc Ho.out _) _ _ _ rfl (cell_new _ _ _) rfl (by omega) (by simp; omega) ?_; intro v2 w2 h2 g2 b2; have hz2 := b2.size; have q1 := (((Below.refl _ wi).alloc (by omega) _).trans b2); have d2 := (q1.cell (p := ⟨b, o + j, none⟩) hlb).trans d1; have hz3 := q1.size)
              | (at_builtin; refine wpList_push1 rfl _ _ 43 2 rfl (.int .i64 0) 8 Try.underlying43 Try.infoI rfl (by decide) w.heap.size _ _ _ rfl (World.ownsRow.alloc h2 _) _ _ _ rfl (cell_new _ _ _) rfl (by omega) (by simp; omega) ?_; intro v3 w3 h3 g3 b3))
            refine ⟨⟨j + 1, true, pre ++ [n] ++ [x], by omega, by go_num, rfl, HP.out, ?_, (hb.trans q1).trans (((Below.refl _ _).alloc (by omega) _).trans b3)⟩, by simp [intOf]; omega⟩
            have := h3
            unfold OwnI
            rw [List.map_append, List.map_append, List.length_append, List.length_append]
            exact this
          · have hxn : x = n := by omega
            have HP : Hid (PutAt L n (j + 1) true (pre ++ [x])) := Lib.hid ⟨by rw [← hp, putL, if_pos h1, if_neg h2]; simp, by simp at hpl ⊢; omega⟩
            clear hp hxn
            go_wp2_with (at_builtin; refine wpList_push1 rfl _ _ 43 2 rfl (.int .i64 0) 8 Try.underlying43 Try.infoI rfl (by decide) w.heap.size _ _ _ rfl (World.ownsRow.alloc Ho.out _) _ _ _ rfl (cell_new _ _ _) rfl (by omega) (by simp; omega) ?_; intro v2 w2 h2 g2 b2)
            refine ⟨⟨j + 1, true, pre ++ [x], by omega, by go_num, rfl, HP.out, ?_, hb.trans (((Below.refl _ _).alloc (by omega) _).trans b2)⟩, by simp [intOf]; omega⟩
            have := h2
            unfold OwnI
            rw [List.map_append, List.length_append]
            exact this
        · have HP : Hid (PutAt L n (j + 1) false (pre ++ [x])) := Lib.hid ⟨by rw [← hp, putL, if_neg h1]; simp, by simp at hpl ⊢; omega⟩
          clear hp
          go_wp2_with (at_builtin; refine wpList_push1 rfl _ _ 43 2 rfl (.int .i64 0) 8 Try.underlying43 Try.infoI rfl (by decide) w.heap.size _ _ _ rfl (World.ownsRow.alloc Ho.out _) _ _ _ rfl (cell_new _ _ _) rfl (by omega) (by simp; omega) ?_; intro v2 w2 h2 g2 b2)
          refine ⟨⟨j + 1, false, pre ++ [x], by omega, by go_num, rfl, HP.out, ?_, hb.trans (((Below.refl _ _).alloc (by omega) _).trans b2)⟩, by simp [intOf]; omega⟩
          have := h2
          unfold OwnI
          rw [List.map_append, List.length_append]
          exact this
    · obtain rfl : j = L.length := by omega
      rw [List.drop_length] at hp
      clear hcell
      cases dn with
      | true =>
        have HP : Hid (pre = putL L n) := Lib.hid (by rw [← hp]; simp)
        clear hp
        go_wp2
        go_ret
        exact ⟨_, rfl, by rw [← HP.out]; exact Ho.out, hb⟩
      | false =>
        have HP : Hid (pre ++ [n] = putL L n) := Lib.hid (by rw [← hp]; rfl)
        clear hp
        go_wp2_with (at_builtin; refine wpList_push1 rfl _ _ 43 2 rfl (.int .i64 0) 8 Try.underlying43 Try.infoI rfl (by decide) w.heap.size _ _ _ rfl (World.ownsRow.alloc Ho.out _) _ _ _ rfl (cell_new _ _ _) rfl (by omega) (by simp; omega) ?_; intro v2 w2 h2 g2 b2)
        go_ret
        refine ⟨_, rfl, ?_, hb.trans (((Below.refl _ _).alloc (by omega) _).trans b2)⟩
        have := h2
        rw [← HP.out]
        unfold OwnI
        rw [List.map_append, List.length_append]
        exact this
/-- The stations of the first frames, as a set. -/
def stTo (Fs : List FM) : Nat → List Int
  | 0 => []
  | j + 1 => putL (stTo Fs j) (frAt Fs j).st
theorem stTo_len (Fs : List FM) (j : Nat) : (stTo Fs j).length ≤ j := by
  induction j with
  | zero => exact Nat.le_refl _
  | succ j ih => exact Nat.le_trans (putL_len _ _) (by omega)
set_option maxRecDepth 100000 in
set_option maxHeartbeats 1600000 in
theorem l07Stations_any (w : World) (v : Value) (Fs : List FM) (h : RdFr w v Fs) (hl : Fs.length ≤ 100000) :
    Calls Try.prog 46 #[v] w fun e w' => ∃ v', e = .returned v' ∧ OwnI w' w.heap.size v' (stTo Fs Fs.length) ∧ Below w.heap.size w w' := by
  obtain ⟨a, c, rfl, hc, -, hcell⟩ := h.opened
  clear h
  go_enter Try.func46, Try.ntmps46
  go_wp2_with fail
  go_loopw [3, 8] (fun o i wr => ∃ j : Nat, j ≤ Fs.length ∧ i = .int .i64 j ∧ OwnI wr w.heap.size o (stTo Fs j) ∧ Below w.heap.size w wr) (fun _ i _ => Fs.length - (intOf i).toNat)
  case atStart => exact ⟨0, Nat.zero_le _, rfl, ⟨rfl, .inr ⟨w.heap.size, 0, #[], rfl, Nat.le_refl _, alloc_new _ _, Nat.le_refl _, by decide, rfl, rfl⟩⟩, (Below.refl _ _).alloc (Nat.le_refl _) _⟩
  case round =>
    obtain ⟨wi, rfl⟩ : ∃ wi : World, wi = wr := ⟨_, rfl⟩
    obtain ⟨j, hj, rfl, ho, hb⟩ := hrel
    by_cases hlt : j < Fs.length
    · obtain ⟨b, o, a', c', rfl, hlb, d0, -, -, -⟩ := hcell j hlt
      have d1 := ((bcell hb).1 _ _ hlb).trans d0
      have hlen := stTo_len Fs j
      have HK := Lib.hid (l00Put_any wi _ (stTo Fs j) (frAt Fs j).st (OwnI.rd ho) (by omega))
      have HS : Hid (stTo Fs (j + 1) = putL (stTo Fs j) (frAt Fs j).st) := Lib.hid rfl
      generalize putL (stTo Fs j) (frAt Fs j).st = P at HK HS
      have hbs := hb.size
      clear hcell d0 ho
      go_wp2_with fail
      refine HK.out.mono ?_
      rintro e w1 ⟨v', rfl, o1, b1⟩
      have HO := Lib.hid o1
      clear o1 HK
      go_wp2
      exact ⟨⟨j + 1, by omega, by go_num, by rw [HS.out]; exact HO.out.base hbs, hb.trans (b1.mono hb.size)⟩, by simp [intOf]; omega⟩
    · obtain rfl : j = Fs.length := by omega
      clear hcell
      go_wp2
      go_ret
      exact ⟨_, rfl, ho, hb⟩
/-- What StationsOf answers. -/
def staV (Fs : List FM) (B : Nat) (e : Ending) (w' : World) : Prop :=
  ∃ v, e = .returned (.tuple #[v, .bool (areF Fs)]) ∧ OwnI w' B v (if areF Fs then stTo Fs Fs.length else [])
set_option maxRecDepth 100000 in
set_option maxHeartbeats 800000 in
theorem specStations_any (w : World) (v : Value) (Fs : List FM) (h : RdFr w v Fs) (hs : Fsmall Fs) :
    Calls Try.prog 24 #[v] w fun e w' => staV Fs w.heap.size e w' ∧ Below w.heap.size w w' := by
  have HK := Lib.hid (l07Are_any w v Fs h hs)
  have HR := Lib.hid h
  obtain ⟨a, c, rfl, -⟩ := h.opened
  clear h
  cases hq : areF Fs with
  | true =>
    have hl : Fs.length ≤ 12 := by unfold areF at hq; simp at hq; exact hq.1
    have HK2 := Lib.hid (l07Stations_any w _ Fs HR.out (by omega))
    have HG : Hid (∀ v w', OwnI w' w.heap.size v (stTo Fs Fs.length) → staV Fs w.heap.size (.returned (.tuple #[v, .bool true])) w') := Lib.hid (fun v w' ho => ⟨v, by rw [hq], by rw [if_pos hq]; exact ho⟩)
    rw [hq] at HK
    clear hq HR hs hl
    go_enter Try.func24, Try.ntmps24
    go_wp2_with fail
    refine HK.out.mono ?_
    rintro e w1 ⟨rfl, rfl⟩
    go_wp2_with fail
    refine HK2.out.mono ?_
    rintro e w2 ⟨v', rfl, o2, b2⟩
    have HO := Lib.hid o2
    clear o2
    go_wp2
    go_ret2
    exact ⟨HG.out _ _ HO.out, b2⟩
  | false =>
    have HG : Hid (staV Fs w.heap.size (.returned (.tuple #[.slice none 0 0, .bool false])) w) := Lib.hid ⟨_, by rw [hq], by rw [hq]; exact ⟨rfl, .inl ⟨rfl, rfl⟩⟩⟩
    rw [hq] at HK
    clear hq HR hs
    go_enter Try.func24, Try.ntmps24
    go_wp2_with fail
    refine HK.out.mono ?_
    rintro e w1 ⟨rfl, rfl⟩
    go_wp2
    go_ret2
    exact ⟨HG.out, Below.refl _ _⟩
end Go.Proofs.Ytpijiidbjcbdhaa
