/- Walks: copies that the laws make of lists of frames, and marks in them. -/
import Derived.Test.YtibojlpeaolfbaaFrT
namespace Go.Proofs.Ytibojlpeaolfbaa
open Go Go.RowKit

theorem OwnC.stored2 {w : World} {S S' : Nat → Prop} {t : TypeId} {size : Nat} {g cap n : Nat} {ds : List D1} (h : OwnC w S t size (.slice (some ⟨g, 0, none⟩) n cap) n ds) {j : Nat} {d : D1} {u : Value}
    (hd : Own1 w S' d u) (hS : ∀ k, S k → S' k) (hne : ∀ k, u.ownBlock = some k → ¬ S k) :
    OwnC (w.setCell ⟨g, j, none⟩ u) S' t size (.slice (some ⟨g, 0, none⟩) n cap) n (ds.set j d) := by
  refine (h.wide hS).stored hd fun k hk => ⟨fun e => hne k hk (by subst e; exact (h.lt k rfl).1), fun i ui hi hci hij e => ?_⟩
  rcases h.form with ⟨hv, -⟩ | ⟨g', cap', hv, -, -, -, hcl, -⟩
  · cases hv
  · obtain ⟨u', hu', hown, -⟩ := hcl i hi
    obtain rfl : g = g' := by cases hv; rfl
    rw [hu'] at hci
    cases hci
    exact hne k hk (hown.lt k e).1
theorem zfr (w : World) (S : Nat → Prop) (j : Nat) (hj : j < 3) : Own1 w S (([.i .i64 0, .i .i64 0, .fs []] : List D1).getD j default) ((Value.agg #[.int .i64 0, .int .i64 0, .slice none 0 0]).cells[j]!) ∧ (((Value.agg #[.int .i64 0, .int .i64 0, .slice none 0 0]).cells[j]!).ownBlock = none) := by
  match j, hj with
  | 0, _ => exact ⟨Own1.int, rfl⟩
  | 1, _ => exact ⟨Own1.int, rfl⟩
  | 2, _ => exact ⟨Own1.fs_ (OwnF.nil w 0) (fun k hk => by cases hk), rfl⟩

/-- The numbers that frames have, up to frame j; the marks of frames. -/
def cntF (Fs : List FM) : Nat → Nat
  | 0 => 0
  | j + 1 => cntF Fs j + 2 + (frAt Fs j).L.length
def markFM (k : Nat) (f : FM) : FM := ⟨(k : Nat), ((k + 1 : Nat) : Int), marks (k + 2) f.L.length⟩
def marksF (k : Nat) (Fs : List FM) : List FM := (List.range Fs.length).map fun j => markFM (k + cntF Fs j) (frAt Fs j)
theorem marksF_length (k : Nat) (Fs : List FM) : (marksF k Fs).length = Fs.length := by simp [marksF]
theorem marksF_at (k : Nat) (Fs : List FM) (j : Nat) (h : j < Fs.length) : frAt (marksF k Fs) j = markFM (k + cntF Fs j) (frAt Fs j) := by
  have : (marksF k Fs).getD j default = markFM (k + cntF Fs j) (frAt Fs j) := by
    simp [marksF, List.getD_eq_getElem?_getD, List.getElem?_map, List.getElem?_range h]
  exact this
theorem cntF_le (Fs : List FM) (m j : Nat) (hm : ∀ i, i < Fs.length → (frAt Fs i).L.length ≤ m) (hj : j ≤ Fs.length) : cntF Fs j ≤ j * (m + 2) := by
  induction j with
  | zero => simp [cntF]
  | succ j ih =>
    have h1 := ih (by omega)
    have h2 := hm j (by omega)
    rw [cntF, Nat.succ_mul]
    omega

set_option maxRecDepth 100000 in
set_option maxHeartbeats 1600000 in
theorem markFrameS_any (w : World) (S : Nat → Prop) (v : Value) (k : Nat) (Fs : List FM) (h : OwnFr w S v Fs) (hs : Fsmall Fs) (hk : k ≤ 4398046511104) :
    Calls Try.prog 34 #[v, .int .i64 k] w fun e w' => e = .returned (.int .i64 ((k + cntF Fs Fs.length : Nat) : Int)) ∧ OwnFr w' S v (marksF k Fs) ∧ Chg w w' S := by
  obtain ⟨hmax, hm⟩ := hs
  rcases h.form with ⟨rfl, hn, hds⟩ | ⟨g, cap, rfl, hg1, hg2, hcap, -, -⟩
  · obtain rfl : Fs = [] := by simpa using hn
    go_enter Try.func34, Try.ntmps34
    go_wp2
    refine wp_loop_rounds 1 ?_
    rw [rounds_succ]
    go_wp2
    go_ret
    exact ⟨by simp [cntF], h, Chg.refl _ _⟩
  · go_enter Try.func34, Try.ntmps34
    go_wp2
    go_loopw [1, 5] (fun q i wr => ∃ j : Nat, j ≤ Fs.length ∧ i = .int .i64 j ∧ q = .int .i64 ((k + cntF Fs j : Nat) : Int) ∧ OwnC wr S 31 3 (.slice (some ⟨g, 0, none⟩) Fs.length cap) Fs.length (mixD (dsF (marksF k Fs)) (dsF Fs) (j * 3)) ∧ Chg w wr S) (fun _ i _ => Fs.length - (intOf i).toNat)
    case atStart => exact ⟨0, Nat.zero_le _, rfl, rfl, by rw [Nat.zero_mul, mixD_zero]; exact h, Chg.refl _ _⟩
    case round =>
      obtain ⟨wi, rfl⟩ : ∃ wi : World, wi = wr := ⟨_, rfl⟩
      obtain ⟨j, hj, rfl, rfl, ho, hgw⟩ := hrel
      clear h
      by_cases hlt : j < Fs.length
      · have hl : (mixD (dsF (marksF k Fs)) (dsF Fs) (j * 3)).length = Fs.length * 3 := by rw [mixD_length, dsF_length]
        rcases ho.form with ⟨hv, -⟩ | ⟨g', cap', hv, -, -, -, hcl, hfr⟩
        · cases hv
        · obtain ⟨rfl, rfl⟩ : g = g' ∧ cap = cap' := by cases hv; exact ⟨rfl, rfl⟩
          obtain ⟨u0, m0, -, -⟩ := hcl (j * 3) (by omega)
          obtain ⟨u1, m1, -, -⟩ := hcl (j * 3 + 1) (by omega)
          obtain ⟨u2, m2, hown, hne⟩ := hcl (j * 3 + 2) (by omega)
          have z0 := hfr (j * 3)
          have z1 := hfr (j * 3 + 1)
          have z2 := hfr (j * 3 + 2)
          have hg : (mixD (dsF (marksF k Fs)) (dsF Fs) (j * 3)).getD (j * 3 + 2) default = .fs (frAt Fs j).L := by
            rw [mixD_getD _ _ _ _ (by rw [dsF_length]; omega), if_neg (by omega), dsF_at _ _ _ hlt (by decide)]
            rfl
          rw [hg] at hown
          obtain ⟨a', c', rfl, -, -, -⟩ := (show RdF wi u2 (frAt Fs j).L from hown.rd).opened
          have hsum := cntF_le Fs 1048576 j hm (by omega)
          have hmul : j * 1048578 ≤ Fs.length * 1048578 := Nat.mul_le_mul_right _ (by omega)
          have hmj := hm j hlt
          have C1 : Chg wi ((wi.setCell ⟨g, j * 3, none⟩ (.int .i64 ((k : Int) + (cntF Fs j : Int)))).setCell ⟨g, j * 3 + 1, none⟩ (.int .i64 ((k : Int) + (cntF Fs j : Int) + 1))) (fun b => b = g) := ((Chg.refl _ _).setCell (S := fun b => b = g) rfl _ _).setCell (S := fun b => b = g) rfl _ _
          have Ho := Lib.hid ((ho.stored0 (j := j * 3) (d := .i .i64 ((k : Int) + (cntF Fs j : Int))) Own1.int rfl).stored0 (j := j * 3 + 1) (d := .i .i64 ((k : Int) + (cntF Fs j : Int) + 1)) Own1.int rfl)
          have Hown := Lib.hid (show OwnF _ 0 _ _ from OwnF.chg hown.1 C1 fun b hb => (hne b hb).1)
          have hS := hown.2
          have Hcu := Lib.hid (show ((wi.setCell ⟨g, j * 3, none⟩ (.int .i64 ((k : Int) + (cntF Fs j : Int)))).setCell ⟨g, j * 3 + 1, none⟩ (.int .i64 ((k : Int) + (cntF Fs j : Int) + 1))).cell? ⟨g, j * 3 + 2, none⟩ = some (.slice a' (frAt Fs j).L.length c') by
            have x1 : (⟨g, j * 3 + 1, none⟩ : Addr) ≠ ⟨g, j * 3 + 2, none⟩ := fun e => by have := congrArg Addr.off e; simp at this
            have x2 : (⟨g, j * 3, none⟩ : Addr) ≠ ⟨g, j * 3 + 2, none⟩ := fun e => by have := congrArg Addr.off e; simp at this
            exact (World.cell?_setCell_other _ _ _ _ x1).trans ((World.cell?_setCell_other _ _ _ _ x2).trans m2))
          have Hl := Lib.hid hl
          have ch1 := Lib.hid (hgw.trans (C1.wide fun b hb => by subst hb; exact hg1))
          clear ho hcl hfr hv hl hown hg C1 hne
          go_wp2_with fail
          clear m0 m1 m2 z0 z1 z2
          have ek : (k : Int) + (cntF Fs j : Int) + 1 + 1 = ((k + cntF Fs j + 2 : Nat) : Int) := by omega
          refine (show Calls Try.prog 73 #[.slice a' (frAt Fs j).L.length c', .int .i64 ((k : Int) + (cntF Fs j : Int) + 1 + 1)] _ _ from ek ▸ markFloat32S_any _ 0 _ (frAt Fs j).L (k + cntF Fs j + 2) Hown.out hmj (by omega)).mono ?_
          rintro e2 w2 ⟨rfl, o2, g2⟩
          have g2' := Chg.of_grown (S := fun b => (Value.slice a' (frAt Fs j).L.length c').ownBlock = some b) g2 fun b hb => hb
          have st := Lib.hid (Ho.out.turned (j := j * 3 + 2) (by rw [List.length_set, List.length_set, Hl.out]; omega) Hcu.out g2' (Own1.fs_ (S := S) o2 hS))
          have ch := Lib.hid (ch1.out.trans (g2'.wide fun b hb => hS b hb))
          clear hgw g2 g2' o2
          go_wp2
          refine ⟨⟨j + 1, by omega, by go_num, by congr 1; simp only [cntF]; omega, ?_, ch.out⟩, by simp [intOf]; omega⟩
          have e0 : (dsF (marksF k Fs)).getD (j * 3) default = .i .i64 ((k : Int) + (cntF Fs j : Int)) := by rw [show j * 3 = j * 3 + 0 from rfl, dsF_at _ _ _ (by rw [marksF_length]; exact hlt) (by decide), marksF_at _ _ _ hlt]; show D1.i .i64 ((k + cntF Fs j : Nat) : Int) = _; congr 1
          have e1 : (dsF (marksF k Fs)).getD (j * 3 + 1) default = .i .i64 ((k : Int) + (cntF Fs j : Int) + 1) := by rw [dsF_at _ _ _ (by rw [marksF_length]; exact hlt) (by decide), marksF_at _ _ _ hlt]; show D1.i .i64 ((k + cntF Fs j + 1 : Nat) : Int) = _; congr 1
          have e2 : (dsF (marksF k Fs)).getD (j * 3 + 1 + 1) default = .fs (marks (k + cntF Fs j + 2) (frAt Fs j).L.length) := by rw [show j * 3 + 1 + 1 = j * 3 + 2 from rfl, dsF_at _ _ _ (by rw [marksF_length]; exact hlt) (by decide), marksF_at _ _ _ hlt]; rfl
          rw [show (j + 1) * 3 = j * 3 + 1 + 1 + 1 from by omega, ← mixD_set, ← mixD_set, ← mixD_set, e0, e1, e2]
          exact st.out
      · obtain rfl : j = Fs.length := by omega
        go_wp2
        go_ret
        rw [mixD_all _ _ _ (by rw [dsF_length]; exact Nat.le_refl _) (by rw [dsF_length, dsF_length, marksF_length])] at ho
        refine ⟨rfl, ?_, hgw⟩
        show OwnC _ _ _ _ _ (marksF k Fs).length _
        rw [marksF_length]
        exact ho
end Go.Proofs.Ytibojlpeaolfbaa
