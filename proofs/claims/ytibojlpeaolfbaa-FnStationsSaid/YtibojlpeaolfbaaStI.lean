/- Walks: impl.stations, impl.StationsOf. -/
import Derived.Test.YtibojlpeaolfbaaStP
import Derived.Test.YtibojlpeaolfbaaVal2
namespace Go.Proofs.Ytibojlpeaolfbaa
open Go Go.RowKit
open Go.Sort (ltInt insertionSort)

set_option maxRecDepth 100000 in
set_option maxHeartbeats 800000 in
theorem pdq_nil (w : World) (lim : Int) :
    Calls Try.prog 137 #[.slice none 0 0, .int .i64 0, .int .i64 0, .int .i64 lim] w fun e w' => e = .returned (.tuple #[]) ∧ w' = w := by
  have hins : Calls Try.prog 149 #[.slice none 0 0, .int .i64 0, .int .i64 0] w fun e w' => e = .returned (.tuple #[]) ∧ w' = w := by
    go_enter Try.func149, Try.ntmps149
    go_wp2_with fail
    refine wp_loop_rounds 1 ?_
    rw [rounds_succ]
    go_wp2
    go_end0
    exact ⟨rfl, rfl⟩
  have HI := Lib.hid hins
  clear hins
  go_enter Try.func137, Try.ntmps137
  go_wp2_with fail
  refine wp_loop_rounds 1 ?_
  rw [rounds_succ]
  go_wp2_with fail
  refine HI.out.mono ?_
  rintro e w1 ⟨rfl, rfl⟩
  go_wp2
  refine bodyPost_ret (results_none rfl _ _ _) rfl ?_
  exact ⟨rfl, rfl⟩
set_option maxRecDepth 100000 in
set_option maxHeartbeats 800000 in
theorem sort_nil (w : World) :
    Calls Try.prog 112 #[.slice none 0 0] w fun e w' => e = .returned (.tuple #[]) ∧ w' = w := by
  have HK := Lib.hid (fun lim => pdq_nil w lim)
  have HL := Lib.hid (fun wq => Try.bits_Len 0 wq (by omega) (by omega))
  go_enter Try.func112, Try.ntmps112
  go_wp2_with fail
  refine (HL.out _).mono ?_
  rintro e w1 ⟨rfl, rfl⟩
  go_wp2_with fail
  refine (HK.out _).mono ?_
  rintro e w2 ⟨rfl, rfl⟩
  go_wp2
  go_end0
  exact ⟨rfl, rfl⟩
set_option maxRecDepth 100000 in
set_option maxHeartbeats 800000 in
theorem compact_nil (w : World) :
    Calls Try.prog 113 #[.slice none 0 0] w fun e w' => e = .returned (.slice none 0 0) ∧ w' = w := by
  go_enter Try.func113, Try.ntmps113
  go_wp2
  go_ret
  exact ⟨rfl, rfl⟩
def stL (Fs : List FM) (j : Nat) : List Int := (List.range j).map fun k => (frAt Fs k).st
theorem stL_len (Fs : List FM) (j : Nat) : (stL Fs j).length = j := by simp [stL]
theorem stL_succ (Fs : List FM) (j : Nat) : stL Fs (j + 1) = stL Fs j ++ [(frAt Fs j).st] := by simp [stL, List.range_succ]
theorem stL_at (Fs : List FM) (n j : Nat) (h : j < n) : (stL Fs n).getD j 0 = (frAt Fs j).st := by simp [stL, List.getD_eq_getElem?_getD, h]
theorem sta_stL (Fs : List FM) : staI (stL Fs Fs.length) = stTo Fs Fs.length := sta_eq Fs _ (stL_len _ _) fun j hj => stL_at Fs _ j hj
/-- The end of impl.stations: Sort, then Compact. -/
def SortUp (w : World) (B : Nat) (v : Value) (L : List Int) : Prop :=
  (∀ wq, wq = w → Calls Try.prog 112 #[v] wq fun e w' => e = .returned (.tuple #[]) ∧ Below B w w' ∧
    Calls Try.prog 113 #[v] w' fun e w2 => ∃ v', e = .returned v' ∧ OwnI w2 B v' (staI L) ∧ Below B w w2)
theorem staI_nil : staI [] = [] := by
  obtain ⟨h1, -, -⟩ := sorted_ok (([] : List Int).toArray)
  unfold staI
  rw [h1]
  rfl
theorem sortUp_any (w : World) (B : Nat) (v : Value) (L : List Int) (h : OwnI w B v L) (hl : L.length ≤ 12) : SortUp w B v L := by
  rintro wq rfl
  have hle : (L.map (Value.int .i64)).length = L.length := by simp
  rcases h.2 with ⟨hv, hn⟩ | ⟨g, cap, cur, hv, hB, hg, hc1, hc2, hc3, hc4⟩
  · have hL : L = [] := by
      cases L with
      | nil => rfl
      | cons a r => simp at hn
    subst hL hv
    refine (sort_nil wq).mono ?_
    rintro e w1 ⟨rfl, rfl⟩
    refine ⟨rfl, Below.refl _ _, (compact_nil w1).mono ?_⟩
    rintro e w2 ⟨rfl, rfl⟩
    refine ⟨_, rfl, ?_, Below.refl _ _⟩
    rw [staI_nil]
    exact ⟨rfl, .inl ⟨rfl, rfl⟩⟩
  · subst hv
    have hA : ArrI wq B g cap L.toArray := by
      unfold ArrI
      simpa using h
    have hsz : L.toArray.size = L.length := by simp
    have hbl : ∀ w', wq.grownBy w' (some g) → Below B wq w' := fun w' hg' => (Below.refl _ _).grown hg' (Nat.le_of_lt (Nat.lt_of_le_of_lt (World.ownsRow.lt h g rfl).1 (World.ownsRow.lt h g rfl).2)) fun k hk => (by cases hk; exact (World.ownsRow.lt h g rfl).1)
    obtain ⟨R, hR⟩ : ∃ R, insertionSort ltInt L.toArray 0 L.toArray.size = R := ⟨_, rfl⟩
    have hI : staI L = Lib.compactUpTo R R.size := by unfold staI; rw [hR]
    obtain ⟨r1, -, -⟩ := sorted_ok L.toArray
    rw [hR] at r1
    have hS := sort_any wq B g cap L.toArray hA (by omega)
    rw [hR, hsz] at hS
    refine hS.mono ?_
    rintro e w1 ⟨rfl, h1, h2⟩
    refine ⟨rfl, hbl _ h2, ?_⟩
    have hC := compact_any w1 B g cap R h1 (by omega) (by omega)
    rw [r1, hsz] at hC
    refine hC.mono ?_
    rintro e w2 ⟨v', rfl, o2, g2⟩
    refine ⟨v', rfl, ?_, hbl _ (grownBy_trans h2 g2)⟩
    rw [hI, r1, hsz]
    exact o2
theorem cell_new2 (w : World) (o : Obj) (u : Value) (t : TypeId) : ((w.alloc o).alloc (.cells #[u] t)).cell? ⟨w.heap.size + 1, 0, none⟩ = some u := by
  have e : (w.alloc o).heap.size = w.heap.size + 1 := by simp
  rw [← e]
  exact cell_new _ _ _
set_option maxRecDepth 100000 in
set_option maxHeartbeats 1600000 in
theorem stations_any (w : World) (v : Value) (Fs : List FM) (h : RdFr w v Fs) (hl : Fs.length ≤ 12) :
    Calls Try.prog 76 #[v] w fun e w' => ∃ v', e = .returned v' ∧ OwnI w' w.heap.size v' (stTo Fs Fs.length) ∧ Below w.heap.size w w' := by
  obtain ⟨a, c, rfl, hc, -, hcell⟩ := h.opened
  have HT := Lib.hid (sta_stL Fs)
  clear h
  go_enter Try.func76, Try.ntmps76
  go_wp2_with fail
  go_loopw [3, 8] (fun o i wr => ∃ j : Nat, j ≤ Fs.length ∧ i = .int .i64 j ∧ OwnI wr w.heap.size o (stL Fs j) ∧ Below w.heap.size w wr) (fun _ i _ => Fs.length - (intOf i).toNat)
  case atStart => exact ⟨0, Nat.zero_le _, rfl, ⟨rfl, .inl ⟨rfl, rfl⟩⟩, Below.refl _ _⟩
  case round =>
    obtain ⟨wi, rfl⟩ : ∃ wi : World, wi = wr := ⟨_, rfl⟩
    obtain ⟨j, hj, rfl, ho, hb⟩ := hrel
    by_cases hlt : j < Fs.length
    · obtain ⟨b, o, a', c', rfl, hlb, d0, d1, d2, -⟩ := hcell j hlt
      have q0 := ((bcell hb).1 _ _ hlb).trans d0
      have q1 := ((bcell hb).1 _ _ hlb).trans d1
      have q2 := ((bcell hb).1 _ _ hlb).trans d2
      have HP := Lib.hid (stL_succ Fs j)
      have hlen := stL_len Fs j
      have Ho := Lib.hid ho
      have hbs := hb.size
      clear hcell d0 d1 d2 ho
      go_wp2_with (at_builtin; refine wpList_push1 rfl _ _ 62 2 rfl (.int .i64 0) 8 Try.underlying62 Try.infoI rfl (by decide) w.heap.size _ _ _ rfl (OwnI.kept Ho.out (by (repeat (first | exact Below.refl _ _ | (refine Below.drewN ?_ _) | (refine Below.alloc ?_ (by first | exact Nat.le_refl _ | (simp; done) | (simp; omega)) _))))) _ _ _ rfl (cell_new2 _ _ _ _) rfl (by omega) (by simp; omega) ?_; intro v2 w2 h2 g2 b2)
      refine ⟨⟨j + 1, by omega, by go_num, ?_, hb.trans ((((Below.refl _ _).alloc hbs _).alloc (by simp; omega) _).trans b2)⟩, by simp [intOf]; omega⟩
      have := h2
      rw [HP.out]
      unfold OwnI
      rw [List.map_append, List.length_append]
      exact this
    · obtain rfl : j = Fs.length := by omega
      have HS := Lib.hid (sortUp_any _ _ _ _ ho (by rw [stL_len]; omega))
      clear hcell ho
      go_wp2_with fail
      refine (HS.out _ rfl).mono ?_
      rintro e w1 ⟨rfl, b1, hC⟩
      have HC := Lib.hid hC
      clear hC HS
      go_wp2_with fail
      refine HC.out.mono ?_
      rintro e w2 ⟨v', rfl, o2, b2⟩
      have HO := Lib.hid o2
      clear o2 HC
      go_wp2
      go_ret
      exact ⟨_, rfl, by rw [← HT.out]; exact HO.out, hb.trans b2⟩
set_option maxRecDepth 100000 in
set_option maxHeartbeats 800000 in
theorem implStations_any (w : World) (v : Value) (Fs : List FM) (h : RdFr w v Fs) (hs : Fsmall Fs) :
    Calls Try.prog 38 #[v] w fun e w' => staV Fs w.heap.size e w' ∧ Below w.heap.size w w' := by
  have HK := Lib.hid (areFrames_any w v Fs h hs)
  have HR := Lib.hid h
  obtain ⟨a, c, rfl, -⟩ := h.opened
  clear h
  cases hq : areF Fs with
  | true =>
    have hl : Fs.length ≤ 12 := by unfold areF at hq; simp at hq; exact hq.1
    have HK2 := Lib.hid (fun w1 hb => stations_any w1 _ Fs (HR.out.mono hb) hl)
    have HG : Hid (∀ (v : Value) (w1 w' : World), w.heap.size ≤ w1.heap.size → OwnI w' w1.heap.size v (stTo Fs Fs.length) → staV Fs w.heap.size (.returned (.tuple #[v, .bool true])) w') := Lib.hid (fun v w1 w' hle ho => ⟨v, by rw [hq], by rw [if_pos hq]; exact ho.base hle⟩)
    rw [hq] at HK
    clear hq HR hs hl
    go_enter Try.func38, Try.ntmps38
    go_wp2_with fail
    refine HK.out.mono ?_
    rintro e w1 ⟨rfl, b1⟩
    go_wp2_with fail
    refine (HK2.out _ b1).mono ?_
    rintro e w2 ⟨v', rfl, o2, b2⟩
    have HO := Lib.hid o2
    clear o2
    go_wp2
    go_ret2
    exact ⟨HG.out _ _ _ b1.size HO.out, b1.trans (b2.mono b1.size)⟩
  | false =>
    have HG : Hid (∀ w', staV Fs w.heap.size (.returned (.tuple #[.slice none 0 0, .bool false])) w') := Lib.hid fun w' => ⟨_, by rw [hq], by rw [hq]; exact ⟨rfl, .inl ⟨rfl, rfl⟩⟩⟩
    rw [hq] at HK
    clear hq HR hs
    go_enter Try.func38, Try.ntmps38
    go_wp2_with fail
    refine HK.out.mono ?_
    rintro e w1 ⟨rfl, b1⟩
    go_wp2
    go_ret2
    exact ⟨HG.out _, b1⟩
end Go.Proofs.Ytibojlpeaolfbaa
